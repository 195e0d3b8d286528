/- BtreeRanges: for every input the law returns true, and each argument reads behind the call as it read before; the card that ties the listed tables to the program's text. No condition beyond the row's own. -/
import Derived.Test.YtpfjhehjmhkbpaaGreatDoorM23
import Derived.Test.YtpfjhehjmhkbpaaGreatDoorM25
import Derived.Test.YtpfjhehjmhkbpaaGreatDoorSeats
import Derived.SliceStrings
namespace Go.Proofs.YtpfjhehjmhkbpaaGreatDoor

/-- All keys, some keys: those of a list, those from a key on. -/
theorem ranges_law {C : KV} (hr : Rises (C.map (·.1))) (k : ByteArray) {all some_ : List ByteArray} (ha : all = C.map (·.1)) (hs : some_ = (fromKV C k).map (·.1)) :
    some_.length ≤ all.length ∧ ∀ (i : Nat) (x : ByteArray), all[i]? = some x →
      (∀ y, 0 < i → all[i - 1]? = some y → blt y x = true) ∧ (decide (i < all.length - some_.length) = blt x k) ∧ (all.length - some_.length ≤ i → some_[i - (all.length - some_.length)]? = some x) := by
  subst ha
  rw [fromKV_leaf hr, List.map_drop] at hs
  subst hs
  have hle := below_le (C.map (·.1)) k
  generalize hK : C.map (·.1) = K at *
  have e1 : K.length - (K.drop (below K k)).length = below K k := by rw [List.length_drop]; omega
  refine ⟨by rw [List.length_drop]; omega, fun i x hx => ⟨fun y hi hy => ?_, ?_, fun hc => ?_⟩⟩
  · obtain ⟨h1, rfl⟩ := List.getElem?_eq_some_iff.1 hx
    obtain ⟨h2, rfl⟩ := List.getElem?_eq_some_iff.1 hy
    exact hr.get_lt (by omega) h1
  · rw [e1]
    obtain ⟨h1, rfl⟩ := List.getElem?_eq_some_iff.1 hx
    obtain ⟨b1, b2⟩ := below_spec hr k
    by_cases h : i < below K k
    · rw [b1 i h1 h]; simpa using h
    · rw [b2 i h1 (by omega)]; simpa using h
  · rw [e1] at hc ⊢
    rw [List.getElem?_drop, ← hx]
    congr 1
    omega
end Go.Proofs.YtpfjhehjmhkbpaaGreatDoor

namespace Go.Proofs.YtpfjhehjmhkbpaaGreatDoor
open Go.RowKit
attribute [local go_sem] Oper.semAt_some

theorem TreeAt.rises {B : Nat} {w : World} {T p : Nat} {r : PS} {ls ps : List Pg} {R h : Nat} {S : List Nat} {C : KV} (t : TreeAt B w T p r ls ps R h S C) : Rises (C.map (·.1)) := by
  rcases t.tree with ⟨_, _, rfl, _⟩ | ⟨n, g, _, _, hs⟩
  · simp [Rises]
  · exact (hs.span g).rises

set_option maxRecDepth 8000 in
set_option maxHeartbeats 4000000 in
theorem ranges_any (A : Option Addr) (ks : List ByteArray) (c : Nat) (fr : ByteArray) (w : World) (hn : ks.length ≤ 1000000000000000) (hf : fr.size ≤ 1000000000000000) (hsz : ∀ k ∈ ks, k.size ≤ 1000000000000000)
    (hA : 0 < ks.length → ∃ b off, A = some ⟨b, off, none⟩ ∧ ∀ (i : Nat) k, ks[i]? = some k → w.cell? ⟨b, off + i, none⟩ = some (.string k)) :
    Calls Tryz.prog 3 #[.slice A ks.length c, .string fr] w fun e w' => e = .returned (.bool true) ∧ Below w.heap.size w w' := by
  have mixed : Tryz.prog.follows .mixedOrders = true := by kernel_rfl
  obtain ⟨n, hnn⟩ : ∃ n, n = ks.length := ⟨_, rfl⟩
  rw [← hnn] at hn hA ⊢
  have hAH := Lib.hid hA
  have hszH := Lib.hid hsz
  have hnnH := Lib.hid hnn
  clear hA hsz hnn
  refine calls_marks Tryz.func3 rfl ?_
  simp only [Tryz.ntmps3, List.size_toArray, List.length_cons, List.length_nil, Nat.reduceAdd, Nat.reduceSub, Array.replicate_succ, Array.replicate_zero, List.push_toArray, List.append_toArray, List.nil_append, List.cons_append]
  go_wp2
  go_loop [5, 6] (fun u5 u6 => ∃ i m : Nat, u5 = .int .i64 (m : Int) ∧ u6 = .int .i64 (i : Int) ∧ i ≤ n ∧ i ≤ m ∧ m ≤ 2000000000000000) (fun _ u6 => n - (intOf u6).toNat)
  case atStart => exact ⟨0, fr.size, rfl, rfl, by omega, by omega, by omega⟩
  case round =>
    obtain ⟨i, m, rfl, rfl, hi, him, hm⟩ := hrel
    by_cases hgo : i < n ∧ m ≤ 4000
    · obtain ⟨hlt, hm4⟩ := hgo
      obtain ⟨b, off, hAe, hc⟩ := hAH.out (by omega)
      obtain ⟨k, hk⟩ : ∃ k, ks[i]? = some k := ⟨_, List.getElem?_eq_getElem (by have := hnnH.out; omega)⟩
      have hck := hc i k hk
      have hks := hszH.out k (List.mem_of_getElem? hk)
      subst hAe
      clear hc hk
      go_wp2
      go_round
      case rel => exact ⟨i + 1, m + 1 + k.size, by go_num, by go_num, by omega, by omega, by omega⟩
      case measure => simp [intOf]; omega
    · by_cases hbig : 4000 < m
      · have hd : decide ((m : Int) ≤ 4000) = false := by rw [decide_eq_false_iff_not]; omega
        by_cases hin : i < n
        · go_wp2_with (go_at_call 10; refine (known_any _).mono ?_; rintro e w8 ⟨rfl, b8⟩)
          exact ⟨_, results_tmp rfl _ _ _, rfl, b8⟩
        · go_wp2_with (go_at_call 10; refine (known_any _).mono ?_; rintro e w8 ⟨rfl, b8⟩)
          exact ⟨_, results_tmp rfl _ _ _, rfl, b8⟩
      · have hin : ¬ i < n := by omega
        have hn4 : n ≤ 4000 := by omega
        obtain rfl : n = i := by omega
        clear hgo hn hi hin
        go_wp2_with (first
          | (go_at_call 11; refine (new_any 4194304 w (by omega) (by omega)).mono ?_; rintro e w1 ⟨F, rfl, hF, b1⟩; have hFH := Lib.hid hF; clear hF)
          | (go_at_call 12; refine (topen _ F 4194304 _ _ (by decide) (by decide) hFH.out).mono ?_; rintro e w2 ⟨T, p, r, rfl, t2, b2⟩; have t2H := Lib.hid t2; clear t2; have hsz1 := b1.size))
        have bw2 : Below w.heap.size w w2 := bel_then b1 hsz1 b2
        have hb2 := b2.size
        go_loopw [11] (fun u11 wr => ∃ (j : Nat) (ps : List Pg) (R h : Nat) (S : List Nat) (C : KV), u11 = .int .i64 (j : Int) ∧ j ≤ n ∧ Hid (TreeAt w1.heap.size wr T p r [] ps R h S C ∧ C.length ≤ j ∧ Below w.heap.size w wr ∧ w1.heap.size ≤ wr.heap.size)) (fun u11 _ => n - (intOf u11).toNat)
        case atStart => exact ⟨0, [], 0, 0, [], [], rfl, Nat.zero_le _, t2H.out, Nat.le_refl _, bw2, hb2⟩
        case round =>
          obtain ⟨j, ps, R, h, S, C, rfl, hj, hI⟩ := hrel
          by_cases hlt : j < n
          · obtain ⟨b, off, hAe, hc⟩ := hAH.out (by omega)
            obtain ⟨k, hk⟩ : ∃ k, ks[j]? = some k := ⟨_, List.getElem?_eq_getElem (by have := hnnH.out; omega)⟩
            obtain ⟨i1, i2, i3, i4⟩ := hI.out
            have hck := bel_cell i3 (hc j k hk)
            have hins := fun l => insKV_le C k l i1.rises
            have hput := Lib.hid (fun (v : Int) (h0 : 0 ≤ v) (h1 : v < 256) => tput w1.heap.size (wr.alloc (.cells #[.int .u8 v] 5)) T p r [] ps R h S C k _ _ (i1.mut ((Mut.refl 0 [] wr).alloc _) (by simp) (by simp) (by simp) (by simp)) (byt_new wr v h0 h1) (by simp) (by simp; omega) (by omega) (by have := hins [v.toNat.toUInt8]; omega))
            have hinsH := Lib.hid hins
            subst hAe
            clear hc hk i1 i3 hins
            go_wp2_with (go_at_call 13; refine (hput.out _ (by omega) (by omega)).mono ?_; rintro e w3 ⟨m3, code, C', rfl, ⟨ps', R', h', S', t3, hr3⟩, hcase, -⟩)
            refine ⟨⟨j + 1, ps', R', h', S', C', by simp, hlt, t3, ?_, bel_mut ((hI.out.2.2.1).alloc (hI.out.2.2.1).size _) hsz1 (by simp; omega) m3, by have := m3.size; simp at this; omega⟩, by simp [intOf]; omega⟩
            rcases hcase with ⟨_, rfl⟩ | ⟨_, _, rfl⟩
            · omega
            · have := hinsH.out [((j : Int) % 256).toNat.toUInt8]; omega
          · obtain rfl : n = j := by omega
            obtain ⟨wl, hwl⟩ : ∃ wl, wl = wr := ⟨_, rfl⟩
            go_wp2_with (go_at_call 14; refine (range_make _ _ _ ⟨T, rfl⟩).mono ?_; rintro e w6 ⟨q1, q2, rfl, hq1, hq2, b6⟩)
            obtain ⟨i1, i2, i3, i4⟩ := hI.out
            have ma : Below wr.heap.size wr ((wr.alloc (.cells #[.slice none 0 0] 22)).alloc (.cells #[.slice none 0 0] 22)) := bel_alloc (bel_alloc (Below.refl _ _) _) _
            have t6 := (i1.bel ma).bel b6
            have hs6 : w6.heap[wr.heap.size]? = some (.cells #[.slice none 0 0] 22 (0, 0)) ∧ w6.heap[wr.heap.size + 1]? = some (.cells #[.slice none 0 0] 22 (0, 0)) := by
              have e1 := heap_old (heap_new wr (.cells #[.slice none 0 0] 22)) (.cells #[.slice none 0 0] 22)
              have e2 := heap_new (wr.alloc (.cells #[.slice none 0 0] 22)) (.cells #[.slice none 0 0] 22)
              simp only [World.size_alloc] at e2
              exact ⟨heap_below e1 b6 (by simp; omega), heap_below e2 b6 (by simp)⟩
            have bw6 : Below w.heap.size w w6 := bel_then (bel_then i3 i3.size ma) (by have := i3.size; simp; omega) b6
            have hgv := tgives w1.heap.size w6 T p q1 q2 r [] ps _ _ S C ⟨#[]⟩ t6 (by omega) hq1 hq2
            rw [from_nil] at hgv
            have hsw : w.heap.size ≤ wr.heap.size := i3.size
            have hs7 := blk_lt hs6.2
            have hH := Lib.hid (And.intro bw6 (And.intro t6 (And.intro hs6 hgv)))
            clear bw6 t6 hgv hs6 i1 i3 ma hq1 hq2 b6
            generalize wr.heap.size = aB at *
            have hO := oth_of (B1 := w6.heap.size) (xB := aB) (B := w1.heap.size) (T := T) (p := p) (w := w) (r := r) (ls := []) (ps := ps) (R := R) (h := h) (S := S) (C := C) hH.out.1.size hsw (fun W => W.heap[aB + 1]? = some (.cells #[.slice none 0 0] 22 (0, 0)))
              (fun A B h hb => heap_below h hb (blk_lt h)) (fun W W' L h m => m.keepB h hs7) (fun W u v h _ => heap_far h (by show aB + 1 ≠ aB; omega) u)
            apply over_law (gf := 46) (lb := #[.pointer (some ⟨q1, 0, none⟩), .pointer (some ⟨q2, 0, none⟩)]) (encs := encHd) (X := stpHd C) (S := fun xs => kvh xs = C) rfl (enters_of Tryz.func46 (by kernel_rfl) rfl) hH.out.2.2.2 (fun x => rfl)
              (RI w6.heap.size aB _) (RI_below hO) (RI_put hO) (fun pre x W l o o' ho hc hx => ⟨hx.1.mut (mut_put (Nat.zero_le _) ho hc o') (by decide), hx.2⟩) ⟨⟨_, hH.out.2.2.1.1, World.ownsRow_nil _ _ _ _⟩, ⟨hH.out.2.1, hH.out.1, hH.out.2.2.1.2⟩, Nat.le_refl _⟩
            case hassign =>
              intro l x W K hK
              simp [encHd]
              gi_wp2
              exact hK
            case hbody =>
              rintro l pre ⟨k, v, bl⟩ W ⟨⟨va, j1, j2⟩, j3, j4⟩ x1
              have hlen := stp_len x1
              have c1 : W.cell? ⟨aB, 0, none⟩ = some va := by rw [cell_of j1]; rfl
              have f1 := unfrozen_of j1 0
              have hl4 := Lib.hid (show pre.length + 1 ≤ maxLen by unfold maxLen; omega)
              have hl5 := Lib.hid (show (pre.length + 1) * 16 ≤ 140737488355328 by omega)
              have hone := Lib.hid (show ∀ u ∈ [Value.string k], u.oneCell' = true from fun u hu => by simp at hu; subst hu; rfl)
              have hJ := Lib.hid (And.intro j1 (And.intro j2 (And.intro j3 j4)))
              clear j1 j2 j3 j4 x1
              dsimp only
              gi_wp2_with (gi_at_builtin; refine wpListIn_app rfl (.tmp 75) (.tmp 77) 22 rfl w6.heap.size 9 _ 1 16 Tryz.underlying22 infoES rfl (by decide) _ _ _ rfl (own_alloc hJ.out.2.1 _) _ 1 1 [.string k] rfl rfl (by exact at_new _ _ _) (fun h => by cases h) hone.out hl4.out hl5.out (by have := hJ.out.2.2.2; simp; omega) ?_; intro v5 w5 o5 m5; obtain ⟨A5, c5, rfl, -, -, -⟩ := own_slice o5; have hx5 := m5.keepB (heap_old hJ.out.1 _) (Nat.lt_of_succ_lt hs7); have cx5 : w5.cell? ⟨aB, 0, none⟩ = some va := (by rw [cell_of hx5]; rfl); have fx5 := unfrozen_of hx5 0)
              exact ⟨((Stays.mut (B := 0) (L := []) ((Mut.refl 0 [] W).alloc _) (by simp)).trans (Stays.mut m5 (by decide))).trans (Stays.far (Nat.lt_of_succ_lt hs7) _), RI_step hO (Nat.lt_of_succ_lt hs7) hJ.out.1 hJ.out.2.2.1 hJ.out.2.2.2 (bel_alloc (Below.refl _ _) _) m5 o5⟩
            case hdone =>
              rintro D xs W hD hS ⟨⟨va, j1, j2⟩, ⟨j3, j4, j5⟩, j6⟩ hK
              obtain ⟨A1, a1, rfl, hna, hma, hrd⟩ := keys_row hS j2
              have hJ := Lib.hid (And.intro j1 (And.intro j3 (And.intro j4 (And.intro j5 (And.intro hK hrd)))))
              clear j1 j2 j3 j4 j5 j6 hK hrd hS hO hI
              go_wp2_with (go_at_call 14; refine (range_make _ _ _ ⟨T, rfl⟩).mono ?_; rintro e w9 ⟨y1, y2, rfl, hy1, hy2, b9⟩)
              obtain ⟨j1, j3, j4, j5, hK, hrd⟩ := hJ.out
              have ar9 := (allR_of j1 hK hrd (b9.size)).bel b9
              have t9 := j3.bel b9
              have hs9 := heap_below j5 b9 (blk_lt j5)
              have bw9 : Below w.heap.size w w9 := bel_then j4 j4.size b9
              have hgv := tgives w1.heap.size w9 T p y1 y2 r [] ps _ _ S C fr t9 (by omega) hy1 hy2
              have hs8 := blk_lt hs9
              have hH9 := Lib.hid (And.intro bw9 (And.intro t9 (And.intro hs9 (And.intro hgv ar9))))
              clear bw9 t9 hgv hs9 j1 j3 j4 j5 hK hrd b9 ar9 hy1 hy2
              have hO := oth_of (B1 := w9.heap.size) (xB := aB + 1) (B := w1.heap.size) (T := T) (p := p) (w := w) (r := r) (ls := []) (ps := ps) (R := R) (h := h) (S := S) (C := C) hH9.out.1.size (by omega) (AllR w9.heap.size aB D (.slice A1 C.length a1) A1 (C.map (·.1)))
                (fun A B h hb => h.bel hb) (fun W W' L h m => h.mut m) (fun W u v h hx => h.far (by omega) hx u)
              apply over_law (gf := 46) (lb := #[.pointer (some ⟨y1, 0, none⟩), .pointer (some ⟨y2, 0, none⟩)]) (encs := encHd) (X := stpHd (fromKV C fr)) (S := fun xs => kvh xs = fromKV C fr) rfl (enters_of Tryz.func46 (by kernel_rfl) rfl) hH9.out.2.2.2.1 (fun x => rfl)
                (RI w9.heap.size (aB + 1) _) (RI_below hO) (RI_put hO) (fun pre x W l o o' ho hc hx => ⟨hx.1.mut (mut_put (Nat.zero_le _) ho hc o') (by decide), hx.2⟩) ⟨⟨_, hH9.out.2.2.1, World.ownsRow_nil _ _ _ _⟩, ⟨hH9.out.2.1, hH9.out.1, hH9.out.2.2.2.2⟩, Nat.le_refl _⟩
              case hassign =>
                intro l x W K hK
                simp [encHd]
                gi_wp2
                exact hK
              case hbody =>
                rintro l pre ⟨k, v, bl⟩ W ⟨⟨va, j1, j2⟩, j3, j4⟩ x1
                have hlen := Nat.le_trans (stp_len x1) (fromKV_len C fr)
                have c1 : W.cell? ⟨aB + 1, 0, none⟩ = some va := by rw [cell_of j1]; rfl
                have f1 := unfrozen_of j1 0
                have hl4 := Lib.hid (show pre.length + 1 ≤ maxLen by unfold maxLen; omega)
                have hl5 := Lib.hid (show (pre.length + 1) * 16 ≤ 140737488355328 by omega)
                have hone := Lib.hid (show ∀ u ∈ [Value.string k], u.oneCell' = true from fun u hu => by simp at hu; subst hu; rfl)
                have hJ := Lib.hid (And.intro j1 (And.intro j2 (And.intro j3 j4)))
                clear j1 j2 j3 j4 x1
                dsimp only
                gi_wp2_with (gi_at_builtin; refine wpListIn_app rfl (.tmp 84) (.tmp 86) 22 rfl w9.heap.size 9 _ 1 16 Tryz.underlying22 infoES rfl (by decide) _ _ _ rfl (own_alloc hJ.out.2.1 _) _ 1 1 [.string k] rfl rfl (by exact at_new _ _ _) (fun h => by cases h) hone.out hl4.out hl5.out (by have := hJ.out.2.2.2; simp; omega) ?_; intro v5 w5 o5 m5; obtain ⟨A5, c5, rfl, -, -, -⟩ := own_slice o5; have hx5 := m5.keepB (heap_old hJ.out.1 _) hs8; have cx5 : w5.cell? ⟨aB + 1, 0, none⟩ = some va := (by rw [cell_of hx5]; rfl); have fx5 := unfrozen_of hx5 0)
                exact ⟨((Stays.mut (B := 0) (L := []) ((Mut.refl 0 [] W).alloc _) (by simp)).trans (Stays.mut m5 (by decide))).trans (Stays.far hs8 _), RI_step hO hs8 hJ.out.1 hJ.out.2.2.1 hJ.out.2.2.2 (bel_alloc (Below.refl _ _) _) m5 o5⟩
              case hdone =>
                rintro D2 xs2 W3 hD2 hS2 ⟨⟨vs, j1, j2⟩, ⟨j3, j4, j5⟩, j6⟩ hK2
                obtain ⟨A2, a2, rfl, hnb, hmb, hrd2⟩ := keys_row hS2 j2
                have hC2 := fromKV_len C fr
                have hAll := j5
                obtain ⟨N, hN⟩ : ∃ N, N = C.length := ⟨_, rfl⟩
                obtain ⟨M, hM⟩ : ∃ M, M = (fromKV C fr).length := ⟨_, rfl⟩
                rw [← hN] at j5 hC2 i2 hna
                rw [← hM] at j1 hC2 hnb
                have c1 : W3.cell? ⟨aB, 0, none⟩ = some (.slice A1 N a1) := by rw [cell_of j5.1]; rfl
                have c2 : W3.cell? ⟨aB + 1, 0, none⟩ = some (.slice A2 M a2) := by rw [cell_of j1]; rfl
                have hlenc := fun d => (tlen (W3.drewN d) T p _ _ false (j3.at_.mut (Mut.drewN (Mut.refl 0 [] W3) d) (by simp))).mono (R' := fun e w' => e = .returned (.int .i64 (N : Int)) ∧ w' = W3.drewN d) (fun e w' h => ⟨by rw [hN]; exact h.1, h.2.symm⟩)
                have hlencH := Lib.hid hlenc
                have hris := j3.rises
                have hF := Lib.hid (And.intro j4 (And.intro hK2 (And.intro hAll (And.intro hrd2 (And.intro hN (And.intro hM (And.intro hS2 hris)))))))
                obtain ⟨cut, hcut⟩ : ∃ cut, cut = N - M := ⟨_, rfl⟩
                have hcutI : (N : Int) - (M : Int) = (cut : Int) := by omega
                have hcutH := Lib.hid hcut
                have hcutN : cut ≤ N := by omega
                clear j1 j2 j3 j4 j5 hK2 hAll hrd2 hN hM hS2 hlenc hris hO hcut
                go_wp2_with fail
                go_quiet ((go_at_call 15; exact Calls.quiet_of_same (hlencH.out _)))
                go_wp2_with fail
                clear hcutI
                go_loopw [17] (fun u17 wr => ∃ (i d : Nat), u17 = .int .i64 (i : Int) ∧ i ≤ N ∧ wr = W3.drewN d) (fun u17 _ => N - (intOf u17).toNat)
                case atStart => exact ⟨0, _, rfl, Nat.zero_le _, rfl⟩
                case round =>
                  obtain ⟨i, d, rfl, hi, hWd⟩ := hrel
                  by_cases hlt : i < N
                  · obtain ⟨j4, hK2, hAll, hrd2, hN, hM, hS2, hris⟩ := hF.out
                    obtain ⟨hle, hlaw⟩ := ranges_law hris fr rfl rfl
                    obtain ⟨x, hx⟩ : ∃ x, (C.map (·.1))[i]? = some x := ⟨_, List.getElem?_eq_getElem (by simp; omega)⟩
                    obtain ⟨l1, l2, l3⟩ := hlaw i x hx
                    obtain ⟨g, off, hA1, hcell, -⟩ := hAll.rd.addr? (by simp; omega)
                    have hcx : wr.cell? ⟨g, off + i, none⟩ = some (.string x) := by rw [hWd]; exact hcell i x hx
                    simp only [List.length_map, ← hN, ← hM, ← hcutH.out] at l2 l3
                    have hd1 : (0 : Int) ≤ (i : Int) := by omega
                    have hd2 : (i : Int) < (N : Int) := by omega
                    have c1 : wr.cell? ⟨aB, 0, none⟩ = some (.slice (some ⟨g, off, none⟩) N a1) := by rw [← hA1, hWd]; exact c1
                    have c2 : wr.cell? ⟨aB + 1, 0, none⟩ = some (.slice A2 M a2) := by rw [hWd]; exact c2
                    have hprev : i = 0 ∨ ∃ (j : Nat) (y : ByteArray), Hid (i = j + 1) ∧ j < N ∧ wr.cell? ⟨g, off + j, none⟩ = some (.string y) ∧ Op.bytesLess x.toList y.toList = false ∧ (x.toList == y.toList) = false := by
                      by_cases h0 : i = 0
                      · exact .inl h0
                      · obtain ⟨j, rfl⟩ : ∃ j, i = j + 1 := ⟨i - 1, by omega⟩
                        obtain ⟨y, hy⟩ : ∃ y, (C.map (·.1))[j]? = some y := ⟨_, List.getElem?_eq_getElem (by simp; omega)⟩
                        have hb := l1 y (by omega) (by simpa using hy)
                        refine .inr ⟨j, y, rfl, by omega, by rw [hWd]; exact hcell j y hy, blt_asymm hb, ?_⟩
                        rw [beq_eq_false_iff_ne]
                        intro e
                        rw [toList_inj e, blt_irrefl] at hb
                        cases hb
                    have hcmp : (i < cut ∧ Op.bytesLess x.toList fr.toList = true) ∨ (cut ≤ i ∧ Op.bytesLess x.toList fr.toList = false ∧ ∃ (jj g2 off2 : Nat), Hid (i = cut + jj) ∧ jj < M ∧ A2 = some ⟨g2, off2, none⟩ ∧ wr.cell? ⟨g2, off2 + jj, none⟩ = some (.string x)) := by
                      by_cases hc : i < cut
                      · refine .inl ⟨hc, ?_⟩
                        have := l2.symm
                        simpa [hc, blt] using this
                      · refine .inr ⟨by omega, ?_, ?_⟩
                        · have := l2.symm
                          simpa [hc, blt] using this
                        · have h3 := l3 (by omega)
                          have hjl := (List.getElem?_eq_some_iff.1 h3).1
                          simp only [List.length_map, ← hM] at hjl
                          obtain ⟨g2, off2, hA2, hcell2, -⟩ := hrd2.addr? (by simp; omega)
                          exact ⟨i - cut, g2, off2, by show i = _; omega, hjl, hA2, by rw [hWd]; exact hcell2 _ _ h3⟩
                    clear j4 hK2 hAll hrd2 hN hM hS2 hris hlaw hle hx l1 l2 l3 hcell hA1
                    have fin : ∀ n₁ n₂, (∃ (i' d' : Nat), Value.int .i64 ((i : Int) + 1) = .int .i64 (i' : Int) ∧ i' ≤ N ∧ (wr.drewN n₁).drewN n₂ = W3.drewN d') := fun n₁ n₂ => ⟨i + 1, d + n₁ + n₂, by simp, hlt, by rw [hWd, World.drewN_drewN, World.drewN_drewN]; rw [Nat.add_assoc]⟩
                    have finH := Lib.hid fin
                    clear fin hWd
                    rcases hprev with h0 | ⟨j, y, hij, hj, hcy, hb1, hb2⟩
                    · have hz : decide (0 < i) = false := by rw [decide_eq_false_iff_not]; omega
                      have hz2 : decide ((0 : Int) < (i : Int)) = false := by rw [decide_eq_false_iff_not]; omega
                      clear h0
                      rcases hcmp with ⟨hc, hb3⟩ | ⟨hc, hb3, jj, g2, off2, hjj, hjM, hA2, hcz⟩
                      · have hcI : decide (i < cut) = true := by rw [decide_eq_true_eq]; omega
                        have hcI3 : decide (cut ≤ i) = false := by rw [decide_eq_false_iff_not]; omega
                        have hcI2 : decide ((cut : Int) ≤ (i : Int)) = false := by rw [decide_eq_false_iff_not]; omega
                        go_wp2_with fail
                        go_quiet (fail)
                        have q1 : (wr.drewN nq).cell? ⟨aB, 0, none⟩ = some (.slice (some ⟨g, off, none⟩) N a1) := c1
                        have q2 : (wr.drewN nq).cell? ⟨aB + 1, 0, none⟩ = some (.slice A2 M a2) := c2
                        have q3 : (wr.drewN nq).cell? ⟨g, off + i, none⟩ = some (.string x) := hcx
                        have fin2 := Lib.hid (finH.out nq)
                        clear c1 c2 hcx finH
                        generalize wr.drewN nq = wq at *
                        go_wp2_with fail
                        go_quiet (fail)
                        go_wp2_with fail
                        go_roundw
                        case rel => exact fin2.out _
                        case measure => simp [intOf]; omega
                      · have hcI : decide (i < cut) = false := by rw [decide_eq_false_iff_not]; omega
                        have hcI3 : decide (cut ≤ i) = true := by rw [decide_eq_true_eq]; omega
                        have hcI2 : decide ((cut : Int) ≤ (i : Int)) = true := by rw [decide_eq_true_eq]; omega
                        have hic : (i : Int) - (cut : Int) = (jj : Int) := by have := hjj.out; omega
                        subst hA2
                        go_wp2_with fail
                        go_quiet (fail)
                        have q1 : (wr.drewN nq).cell? ⟨aB, 0, none⟩ = some (.slice (some ⟨g, off, none⟩) N a1) := c1
                        have q2 : (wr.drewN nq).cell? ⟨aB + 1, 0, none⟩ = some (.slice (some ⟨g2, off2, none⟩) M a2) := c2
                        have q3 : (wr.drewN nq).cell? ⟨g, off + i, none⟩ = some (.string x) := hcx
                        have q5 : (wr.drewN nq).cell? ⟨g2, off2 + jj, none⟩ = some (.string x) := hcz
                        have fin2 := Lib.hid (finH.out nq)
                        clear c1 c2 hcx finH hcz
                        generalize wr.drewN nq = wq at *
                        go_wp2_with fail
                        go_quiet (fail)
                        go_wp2_with fail
                        go_roundw
                        case rel => exact fin2.out _
                        case measure => simp [intOf]; omega
                    · have hz : decide (0 < i) = true := by rw [decide_eq_true_eq]; have := hij.out; omega
                      have hz2 : decide ((0 : Int) < (i : Int)) = true := by rw [decide_eq_true_eq]; have := hij.out; omega
                      have hsub : (i : Int) - 1 = (j : Int) := by have := hij.out; omega
                      rcases hcmp with ⟨hc, hb3⟩ | ⟨hc, hb3, jj, g2, off2, hjj, hjM, hA2, hcz⟩
                      · have hcI : decide (i < cut) = true := by rw [decide_eq_true_eq]; omega
                        have hcI3 : decide (cut ≤ i) = false := by rw [decide_eq_false_iff_not]; omega
                        have hcI2 : decide ((cut : Int) ≤ (i : Int)) = false := by rw [decide_eq_false_iff_not]; omega
                        go_wp2_with fail
                        go_quiet (fail)
                        have q1 : (wr.drewN nq).cell? ⟨aB, 0, none⟩ = some (.slice (some ⟨g, off, none⟩) N a1) := c1
                        have q2 : (wr.drewN nq).cell? ⟨aB + 1, 0, none⟩ = some (.slice A2 M a2) := c2
                        have q3 : (wr.drewN nq).cell? ⟨g, off + i, none⟩ = some (.string x) := hcx
                        have fin2 := Lib.hid (finH.out nq)
                        clear c1 c2 hcx finH hcy
                        generalize wr.drewN nq = wq at *
                        go_wp2_with fail
                        go_quiet (fail)
                        go_wp2_with fail
                        go_roundw
                        case rel => exact fin2.out _
                        case measure => simp [intOf]; omega
                      · have hcI : decide (i < cut) = false := by rw [decide_eq_false_iff_not]; omega
                        have hcI3 : decide (cut ≤ i) = true := by rw [decide_eq_true_eq]; omega
                        have hcI2 : decide ((cut : Int) ≤ (i : Int)) = true := by rw [decide_eq_true_eq]; omega
                        have hic : (i : Int) - (cut : Int) = (jj : Int) := by have := hjj.out; omega
                        subst hA2
                        go_wp2_with fail
                        go_quiet (fail)
                        have q1 : (wr.drewN nq).cell? ⟨aB, 0, none⟩ = some (.slice (some ⟨g, off, none⟩) N a1) := c1
                        have q2 : (wr.drewN nq).cell? ⟨aB + 1, 0, none⟩ = some (.slice (some ⟨g2, off2, none⟩) M a2) := c2
                        have q3 : (wr.drewN nq).cell? ⟨g, off + i, none⟩ = some (.string x) := hcx
                        have q5 : (wr.drewN nq).cell? ⟨g2, off2 + jj, none⟩ = some (.string x) := hcz
                        have fin2 := Lib.hid (finH.out nq)
                        clear c1 c2 hcx finH hcy hcz
                        generalize wr.drewN nq = wq at *
                        go_wp2_with fail
                        go_quiet (fail)
                        go_wp2_with fail
                        go_roundw
                        case rel => exact fin2.out _
                        case measure => simp [intOf]; omega
                  · obtain rfl : N = i := by omega
                    obtain ⟨j4, hK2, hAll, -⟩ := hF.out
                    have k2 : wr.heap[D2]? = some (.deferred (some [])) := by rw [hWd]; exact hK2
                    have k1 : wr.heap[D]? = some (.deferred (some [])) := by rw [hWd]; exact hAll.2.1
                    have k0 : Below w.heap.size w wr := by rw [hWd]; exact below_drewN j4 d
                    have kd := hAll.2.2.1
                    have c1 : wr.cell? ⟨aB, 0, none⟩ = some (.slice A1 N a1) := by rw [hWd]; exact c1
                    have c2 : wr.cell? ⟨aB + 1, 0, none⟩ = some (.slice A2 M a2) := by rw [hWd]; exact c2
                    clear j4 hK2 hAll hWd
                    go_wp2_with (go_at_call 10; refine (known_any _).mono ?_; rintro e w8 ⟨rfl, b8⟩)
                    have kA := heap_below k2 b8 (blk_lt k2)
                    have kB := heap_below k1 b8 (blk_lt k1)
                    have k3 := bel_then k0 k0.size b8
                    have kC := (mut_put hD2 kA rfl (.deferred none)).keepB kB kd
                    refine ⟨by simp, .inl ⟨_, _, rfl, run_takeDeferred kA, ?_⟩⟩
                    refine ⟨by simp, .inl ⟨_, _, rfl, run_takeDeferred kC, ?_⟩⟩
                    exact ⟨_, results_tmp rfl _ _ _, rfl, bel_put (bel_put k3 (by omega) kA rfl _ (Nat.le_refl _)) (by omega) kC rfl _ (Nat.le_refl _)⟩
end Go.Proofs.YtpfjhehjmhkbpaaGreatDoor

namespace Go.Proofs.YtpfjhehjmhkbpaaGreatDoor.btreeRanges
open Go.ChangeShapes Go.WideShapes Go.ChangeAt Go.RowKit
open Go.ChangeMaps (open_string shut_string)

theorem laid_met (os : Os) : laidMet Tryz.prog Rows.btreeRangesRow.laid ((tabWorld os).forCall (fun _ _ => 0) ⟨#[], #[.slice none 0 0, .string .empty], []⟩).memory :=
  laidMet_of_run' 8 (by kernel_rfl) (by kernel_rfl)
theorem reads (os : Os) {H : Type} (enc : TypeId × Value → H) : ∃ places, DataW.whole enc Tryz.prog ((tabWorld os).forCall (fun _ _ => 0) ⟨#[], #[.slice none 0 0, .string .empty], []⟩).memory Tryz.f3.params.toList Rows.btreeRangesSpec.vars false #[Value.slice none 0 0, .string .empty].toList 8 = some ([.nil, .lit (.string [])], [], places) :=
  ⟨[], by kernel_rfl⟩

theorem mem_weightsAll {H : Type} {P : Program} {e : TypeId} : ∀ {elems : List (DataW H)} {d : DataW H}, d ∈ elems → ∀ n ∈ d.weights P e, n ∈ DataW.weightsAll P e elems
  | x :: xs, d, hd, n, hn => by
    simp only [DataW.weightsAll, List.mem_append]
    rcases List.mem_cons.1 hd with rfl | hd
    · exact .inl hn
    · exact .inr (mem_weightsAll hd n hn)

theorem strings_sized {H : Type} {P : Program} {ts : List TypeId} {ds : List (DataW H)} (h : (DataW.weightsEach P ts ds).all (· ≤ reachBytes) = true) {j : Nat} {t e : TypeId} {l : List ByteArray} {spare : List (DataW H)} (ht : ts[j]? = some t) (hd : ds[j]? = some (.slice (strs l) spare)) (hu : P.underlying t = some (.slice e)) :
    ∀ s ∈ l, s.size ≤ reachBytes := by
  intro s hs
  have hm : s.data.toList.length ∈ DataW.weightsAll P e (strs l : List (DataW H)) := mem_weightsAll (d := .lit (.string s.data.toList)) (by unfold strs; exact List.mem_map.2 ⟨s, hs, rfl⟩) _ (by simp [DataW.weights])
  have := List.all_eq_true.1 h _ (DataW.weights_mem_each ht hd s.data.toList.length (by simp only [DataW.weights, hu]; exact List.mem_cons_of_mem _ (List.mem_append_left _ hm)))
  have e : s.data.toList.length = s.size := by rw [Array.length_toList]; rfl
  rw [e] at this
  simpa using this

set_option maxRecDepth 100000 in
theorem contract (H : Type) (enc : TypeId × Value → H) (W : World) (base : Nat) (args : Array Value) (ds gs : List (DataW H)) (before : List MemPlace)
    (hval : ∀ (j : Nat) t v, Tryz.f3.params[j]? = some t → args[j]? = some v → Value.okWide Tryz.prog W .any base t v)
    (hW : DataW.Whole enc Tryz.prog Tryz.f3.params.toList Rows.btreeRangesSpec.vars false W args.toList ds gs before)
    (hsz : (DataW.weightsEach Tryz.prog (Tryz.f3.params.toList ++ (OpenSpec.ofChange Rows.btreeRangesSpec).bare.plain.varTypes Tryz.prog) (ds ++ gs)).all (· ≤ reachBytes) = true) :
    Calls Tryz.prog 3 args W fun e W' => ∃ v, e = .returned v ∧ Rows.btreeRangesSpec.post enc Tryz.prog Tryz.f3 false true false false W args v W' := by
  have hW' := hW
  obtain ⟨p, q, hA0, hV, rfl, hfz, hnd⟩ := hW
  have hA : DataW.TrodAll enc Tryz.prog W 0 (fun _ => true) true Tryz.f3.params.toList args.toList ds p := hA0
  rw [Tryz.params3] at hA hval
  obtain ⟨v0, vs0, d0, ds0, p0, q0, hargs, rfl, rfl, h0, r0⟩ := trodAll_cons hA
  obtain ⟨v1, vs1, d1, ds1, p1, q1, rfl, rfl, rfl, h1, r1⟩ := trodAll_cons r0
  obtain ⟨rfl, rfl, rfl⟩ := trodAll_nil r1
  obtain rfl : args = #[v0, v1] := by cases args; simp_all
  obtain ⟨rfl, rfl⟩ := trodVars_none hV
  obtain ⟨s, rfl, rfl, rfl, hmax⟩ := open_string Tryz.underlying9 (hval 1 9 v1 rfl rfl) h1
  obtain ⟨a0, len0, cap0, rfl⟩ := okWide_slice Tryz.underlying22 (hval 0 22 v0 rfl rfl)
  have k0 := h0
  have lt0 : ∀ x ∈ p0, x.block < W.heap.size := by obtain ⟨m, hm⟩ := k0; exact DataW.trod_lt m _ _ _ hm
  have hr : reachBytes < 1000000000000000 := by have := reachBytes_lt; omega
  have hs1 : s.size ≤ 1000000000000000 := by
    have h := sized_string hsz (j := 1) (t := 9) rfl rfl
    have e : s.data.toList.length = s.size := by rw [Array.length_toList]; rfl
    omega
  obtain ⟨ks, hks, hb1, hb2, hb3⟩ : ∃ ks : List ByteArray, len0 = ks.length ∧ ks.length ≤ 1000000000000000 ∧ (∀ k ∈ ks, k.size ≤ 1000000000000000) ∧ (0 < ks.length → ∃ b off, a0 = some ⟨b, off, none⟩ ∧ ∀ (i : Nat) k, ks[i]? = some k → W.cell? ⟨b, off + i, none⟩ = some (.string k)) := by
    obtain ⟨fuel, hf⟩ := h0
    rcases open_strings Tryz.underlying22 Tryz.underlying9 (by kernel_rfl) hf with ⟨hcs, _⟩ | ⟨x, l, c, ss, hcs, _, hl, hm, hz, hx, hcell, hws⟩
    · simp [Value.cells] at hcs
      obtain ⟨rfl, rfl, rfl⟩ := hcs
      exact ⟨[], rfl, by simp, by simp, by simp⟩
    · simp [Value.cells] at hcs
      obtain ⟨rfl, rfl, rfl⟩ := hcs
      simp only [Prod.mk.injEq] at hx
      obtain ⟨hd0, _⟩ := hx
      have h := sized_slice hsz (j := 0) (t := 22) (e := 9) rfl (by rw [hd0]; rfl) Tryz.underlying22
      have h2 := strings_sized hsz (j := 0) (t := 22) (e := 9) rfl (by rw [hd0]; rfl) Tryz.underlying22
      have hb : Tryz.prog.bytesOf 9 = 16 := by kernel_rfl
      rw [hb] at h
      simp [strs] at h hz
      have hlt : (ss.take len0).length = len0 := by rw [List.length_take]; omega
      refine ⟨ss.take len0, hlt.symm, by rw [hlt]; omega, fun k hk => Nat.le_trans (h2 k hk) (by omega), fun hpos => ?_⟩
      obtain ⟨b, off, spot⟩ := x
      have hc := hcell 0 (by omega)
      have hspot : spot = none := by simpa [Addr.add] using World.cell?_spot hc
      subst hspot
      refine ⟨b, off, rfl, fun i k hk => ?_⟩
      rw [List.getElem?_take] at hk
      split at hk
      · rename_i hil
        have hci := hcell i (by omega)
        have e1 : ss.getD i ByteArray.empty = k := by rw [List.getD_eq_getElem?_getD, hk]; rfl
        rw [e1] at hci
        by_cases h0 : i = 0
        · subst h0; simpa [Addr.add] using hci
        · simpa [Addr.add, h0] using hci
      · cases hk
  subst hks
  clear hA0
  refine (ranges_any a0 ks cap0 s W hb1 hs1 hb2 hb3).mono fun e W' ⟨he, bel⟩ => ?_
  subst he
  exact ⟨_, rfl, _, _, _, [], _, [], hW', trodAll_mk1 (shut_bool Tryz.underlying4 _), (trodAll_cons_mk (Below.trod seatLaidOut (by kernel_rfl) (of_decide_eq_true (by kernel_rfl)) k0 bel lt0) (trodAll_cons_mk (shut_string Tryz.underlying9 hmax) trodAll_mk0)), rfl, bel.frame _, fun h => by cases h⟩

set_option maxRecDepth 100000 in
theorem lifted (os : Os) (started : os.Started) (H : Type) (enc : TypeId × Value → H) (F : Stop.Interp) :
    ReturnsInHanded {} Tryz.checked os 3 .any ((OpenSpec.ofChange Rows.btreeRangesSpec).preRow enc Tryz.prog Tryz.f3 Rows.btreeRangesRow.domain false Rows.btreeRangesRow.laid) (((OpenSpec.ofChange Rows.btreeRangesSpec).at F).post enc Tryz.prog Tryz.f3 false true false false) := by
  obtain ⟨places, hx⟩ := reads os enc
  refine returnsInHanded_of_row (C := Tryz.checked) (s := OpenSpec.ofChange Rows.btreeRangesSpec) seatOwn started (by kernel_rfl) Tryz.func3
    (witness_row_at (enc := enc) (C := Tryz.checked) false (tabWorld os) #[.slice none 0 0, .string .empty] rfl (by kernel_rfl) (by kernel_rfl) (by kernel_rfl)
      (OpenSpec.preRow_of_cond 8 hx (by kernel_rfl) (fun k hk => by cases hk) (by kernel_rfl) (laid_met os))) ?_
  intro W base args ds gs before hval hW _ _ hsz _ _ _
  exact contract H enc W base args ds gs before hval hW hsz

theorem said : Rows.BtreeRangesSaid :=
  OpenClaim.holds_of_cond 3 Tryz.f3 rfl rfl rfl rfl rfl rfl rfl ⟨rfl, rfl, rfl, rfl, rfl⟩ rfl rfl rfl rfl rfl (by kernel_rfl) Tryz.func3 (by kernel_rfl)
    (of_decide_eq_true (by kernel_rfl)) (by unfold Func.isWrapper; first | (rw [if_pos (by decide +kernel)]; kernel_rfl) | (rw [if_neg (by decide +kernel)]; exact ⟨rfl, rfl⟩))
    (fun os started H enc _ F => by rw [OpenClaim.pre_eq_preRow]; exact lifted os started H enc F)

theorem plain (f : FuncId) (fn : Func) (hf : Tryz.pinned.checked.prog.funcNamed "pantry/pantrylaw10.BtreeRanges" = some f) (hfn : Tryz.pinned.checked.prog.funcs[f]? = some fn) :
    false = Tryz.pinned.checked.prog.looks [] ∧ ∀ (j : Nat) t, fn.params[j]? = some t → Tryz.pinned.checked.prog.wantsStandIn t = false := by
  obtain rfl : f = 3 := Option.some.inj ((show Tryz.prog.funcNamed "pantry/pantrylaw10.BtreeRanges" = some 3 by kernel_rfl).symm.trans hf) |>.symm
  obtain rfl : fn = Tryz.f3 := (Option.some.inj (Tryz.func3.symm.trans hfn)).symm
  refine ⟨by kernel_rfl, fun j t ht => ?_⟩
  rw [Tryz.params3] at ht
  have hm : t ∈ [22, 9] := by simpa using Array.mem_of_getElem? ht
  have hall : ([22, 9].all fun u => !Tryz.prog.wantsStandIn u) = true := by kernel_rfl
  exact (show Tryz.prog.wantsStandIn t = false by simpa using List.all_eq_true.1 hall t hm)

/-- The card. -/
theorem card : Rows.BtreeRangesCardSaid :=
  Claim7.holds_tied_plain_at .later [] _ _ _ _ said (fun _ h => by cases h) (by kernel_rfl) (fun _ h => by cases h) btreeRanges_row_tie rfl ⟨rfl, rfl⟩ (by kernel_rfl) rfl plain (by kernel_rfl)
end Go.Proofs.YtpfjhehjmhkbpaaGreatDoor.btreeRanges
