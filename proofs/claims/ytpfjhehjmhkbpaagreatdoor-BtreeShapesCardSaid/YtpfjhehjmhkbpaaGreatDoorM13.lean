/- load: a page's node. -/
import Derived.Test.YtpfjhehjmhkbpaaGreatDoorM12
import Derived.Laws.IdiomStrings
import Derived.Lib.BufferRead
import Derived.Deep.RegionLaw
import Derived.Deep.DeepMust
import Derived.Deep.RegionHeld3
namespace Go.Proofs.YtpfjhehjmhkbpaaGreatDoor
open Go.RowKit

theorem run_conv_byt {w : World} {v : Value} {l : List UInt8} (h : Byt w v l) : (convert 32 9 v).run Tryz.prog w = .ok (.string ⟨l.toArray⟩) w := by
  obtain ⟨A, c, rfl, h1, h2, h3, h4⟩ := h
  cases A with
  | none =>
    obtain rfl := h3 rfl
    obtain rfl : l = [] := List.eq_nil_of_length_eq_zero (by omega)
    exact Lib.run_convert_nil_bytes w 32 9 5 0 Tryz.underlying32 Tryz.underlying5 Tryz.underlying9
  | some a =>
    refine run_convert_bytes_back w 32 9 5 a c l Tryz.underlying32 Tryz.underlying5 Tryz.underlying9 (fun j hj => ?_)
    obtain ⟨b, off, h5, h6, _⟩ := h4.addr (by omega)
    cases h5
    have := h6 j hj
    have h0 : (⟨b, off, none⟩ : Addr).add j = ⟨b, off + j, none⟩ := by unfold Addr.add; split <;> simp_all
    rw [h0]
    exact this

theorem ba_eta (k : ByteArray) : (⟨k.data.toList.toArray⟩ : ByteArray) = k := by cases k; simp

/-- What is left behind the head and so many entries. -/
def Nd.rest (x : Nd) (i : Nat) : List UInt8 := (x.entries.drop i).flatten ++ (x.kids.map enc).flatten

theorem Nd.bytes_rest (x : Nd) : x.bytes = (if x.leaf then 1 else 2) :: (enc x.keys.length ++ x.rest 0) := by
  simp [Nd.bytes, Nd.rest, Nd.head]

theorem Nd.rest_cons {x : Nd} {i : Nat} {l : List UInt8} (h : x.entries[i]? = some l) : x.rest i = l ++ x.rest (i + 1) := by
  obtain ⟨hi, rfl⟩ := List.getElem?_eq_some_iff.1 h
  unfold Nd.rest
  rw [List.drop_eq_getElem_cons hi, List.flatten_cons, List.append_assoc]

theorem Nd.rest_le (x : Nd) (i : Nat) : (x.rest i).length ≤ x.bytes.length := by
  have h := List.take_append_drop i x.entries
  have h2 := congrArg (fun l => (List.flatten l).length) h
  simp only [List.flatten_append, List.length_append] at h2
  unfold Nd.rest Nd.bytes
  simp only [List.length_append]
  omega

/-- How things lie ahead of an entry of that number. -/
structure Ld (x : Nd) (lf : Bool) (w0 : World) (q pb nb k : Nat) (w : World) : Prop where
  bel : Below w0.heap.size w0 w
  rows : ∃ A1 c1 A2 c2 vc, w.heap[q]? = some (.cells #[.bool lf, .slice A1 k c1, .slice A2 (x.vals.take k).length c2, .slice none 0 0] 92 (0, 0)) ∧
    w.ownsRow w0.heap.size 9 1 (.slice A1 k c1) k ((x.keys.take k).map .string) ∧ w.ownsRow w0.heap.size 86 4 (.slice A2 (x.vals.take k).length c2) (x.vals.take k).length vc ∧ ValsAt w vc (x.vals.take k)
  cur : Cur w pb (x.rest k)
  clo : w.heap[nb]? = some (.cells #[.func (.func 100) #[] #[.pointer (some ⟨pb, 0, none⟩)]] 36 (0, 0))

theorem ld_cur {w1 : World} {base g L c : Nat} {b : UInt8} {l all : List UInt8} (he : all = b :: l) (hL : L = all.length) (o : w1.ownsRow base 5 1 (.slice (some ⟨g, 0, none⟩) L c) L (all.map u8)) (hc1 : ¬ c = 1) (hAc : L ≤ c) (hcm : c ≤ maxLen) (o2 o3 : Obj) :
    Cur (((w1.alloc (.cells #[.slice (some ⟨g, 1, none⟩) (L - 1) (c - 1)] 32)).alloc o2).alloc o3) w1.heap.size l := by
  subst he
  obtain ⟨A, c', hv, h1, h2, h3, h4, h5⟩ := Rd.of_own o
  simp only [Value.slice.injEq] at hv
  obtain ⟨rfl, _, rfl⟩ := hv
  have hd := h5.drop (k := 1) (c := c) (by simp) (by rw [h4]; exact hAc)
  rw [if_neg hc1] at hd
  have h0 : (⟨g, 0, none⟩ : Addr).add 1 = ⟨g, 1, none⟩ := by simp [Addr.add]
  simp only [Option.map_some, h0, List.drop_succ_cons, List.drop_zero] at hd
  have hl : L - 1 = l.length := by rw [hL]; simp
  refine ⟨_, heap_old (heap_old (heap_new w1 _) _) _, some ⟨g, 1, none⟩, c - 1, by rw [hl], by omega, by omega, (fun h => by cases h), ?_⟩
  exact ((hd.alloc _).alloc _).alloc _

theorem ld_start {x : Nd} {lf : Bool} {w0 w1 W2 : World} {v : Value} (hb : Below w0.heap.size w0 w1)
    (hm : Mut w0.heap.size [32] (((w1.alloc (.cells #[v] 32)).alloc (.cells #[.bool lf, .slice none 0 0, .slice none 0 0, .slice none 0 0] 92)).alloc (.cells #[.func (.func 100) #[] #[.pointer (some ⟨w1.heap.size, 0, none⟩)]] 36)) W2)
    (hc : Cur W2 w1.heap.size (x.rest 0)) : Ld x lf w0 (w1.heap.size + 1) w1.heap.size (w1.heap.size + 1 + 1) 0 W2 := by
  have h1 : Below w0.heap.size w0 (((w1.alloc (.cells #[v] 32)).alloc (.cells #[.bool lf, .slice none 0 0, .slice none 0 0, .slice none 0 0] 92)).alloc (.cells #[.func (.func 100) #[] #[.pointer (some ⟨w1.heap.size, 0, none⟩)]] 36)) := bel_alloc (bel_alloc (bel_alloc hb _) _) _
  have h2 := heap_old (heap_new (w1.alloc (.cells #[v] 32)) (.cells #[.bool lf, .slice none 0 0, .slice none 0 0, .slice none 0 0] 92)) (.cells #[.func (.func 100) #[] #[.pointer (some ⟨w1.heap.size, 0, none⟩)]] 36)
  have h3 := heap_new ((w1.alloc (.cells #[v] 32)).alloc (.cells #[.bool lf, .slice none 0 0, .slice none 0 0, .slice none 0 0] 92)) (.cells #[.func (.func 100) #[] #[.pointer (some ⟨w1.heap.size, 0, none⟩)]] 36)
  simp only [World.size_alloc] at h2 h3
  refine ⟨h1.trans (hm.below h1.size), ⟨none, 0, none, 0, [], ?_, ⟨by simp, .inl ⟨rfl, rfl⟩⟩, ⟨by simp, .inl ⟨by simp, by simp⟩⟩, by simpa using ValsAt.nil⟩, hc, hm.keepc h3 (by decide)⟩
  have := hm.keepc h2 (by decide)
  simpa using this

/-- How things lie ahead of a kid of that number. -/
structure Lk (x : Nd) (w0 : World) (q pb nb j : Nat) (w : World) : Prop where
  bel : Below w0.heap.size w0 w
  rows : ∃ A1 c1 A2 c2 A3 c3 vc, w.heap[q]? = some (.cells #[.bool x.leaf, .slice A1 x.keys.length c1, .slice A2 x.vals.length c2, .slice A3 j c3] 92 (0, 0)) ∧
    w.ownsRow w0.heap.size 9 1 (.slice A1 x.keys.length c1) x.keys.length (x.keys.map .string) ∧ w.ownsRow w0.heap.size 86 4 (.slice A2 x.vals.length c2) x.vals.length vc ∧ ValsAt w vc x.vals ∧
    w.ownsRow w0.heap.size 3 1 (.slice A3 j c3) j ((x.kids.take j).map fun k : Nat => .int .i64 (k : Int))
  cur : Cur w pb (((x.kids.drop j).map enc).flatten)
  clo : w.heap[nb]? = some (.cells #[.func (.func 100) #[] #[.pointer (some ⟨pb, 0, none⟩)]] 36 (0, 0))

theorem one_inl (A : Option Addr) (n c : Nat) : ∀ u ∈ [Value.slice A n c, .bool false, .int .i64 0, .int .i64 0], u.oneCell' = true := by
  intro u hu
  simp at hu
  rcases hu with rfl | rfl | rfl | rfl <;> rfl

theorem byt_own {w : World} {base : Nat} {v : Value} {l : List UInt8} (h : w.ownsRow base 5 1 v l.length (l.map u8)) : Byt w v l := by
  obtain ⟨A, c, rfl, h1, h2, h3, h4, h5⟩ := Rd.of_own h
  exact ⟨A, c, rfl, h1, h2, h3, h5⟩

theorem one_far (s f : Nat) : ∀ u ∈ [Value.slice none 0 0, .bool true, .int .i64 (s : Int), .int .i64 (f : Int)], u.oneCell' = true := by
  intro u hu
  simp at hu
  rcases hu with rfl | rfl | rfl | rfl <;> rfl

theorem cutG {G T : Prop} (g : Hid G) (h : Hid G → T) : T := h g

theorem Cur.mut {w w' : World} {B pb : Nat} {L : List Nat} {l : List UInt8} (h : Cur w pb l) (hm : Mut B L w w') (h1 : 32 ∉ L) (h2 : 5 ∉ L) : Cur w' pb l := by
  obtain ⟨v, h3, h4⟩ := h
  exact ⟨v, hm.keepc h3 h1, h4.mut hm h2⟩

set_option maxRecDepth 4000 in
set_option maxHeartbeats 1000000 in
theorem load_in (B : Nat) (w : World) (T p n : Nat) (r : PS) (ls ps : List Pg) (pg : Pg) (x : Nd) (hT : w.cell? ⟨T, 0, none⟩ = some (.pointer (some ⟨p, 0, none⟩))) (hp : Pgr B w p r ls ps)
    (hn : ps[n]? = some pg) (ht : pg.taken = true) (hd : pg.data = x.bytes) (hok : x.Ok) (hlen : x.bytes.length ≤ 512) (hlf0 : x.leaf = false) :
    Calls Tryz.prog 53 #[.pointer (some ⟨T, 0, none⟩), .int .i64 (n : Int)] w fun e w' => ∃ q, e = .returned (.pointer (some ⟨q, 0, none⟩)) ∧ NodeAt w.heap.size w' q x ∧ Below w.heap.size w w' := by
  have hget := gget hp hn ht (by rw [hd]; omega)
  rw [hd] at hget
  have hlen2 := hlen
  rw [x.bytes_rest] at hlen2
  have hl1 : 1 < x.bytes.length := by rw [x.bytes_rest]; have := List.length_pos_iff.2 (enc_ne x.keys.length); simp; omega
  obtain ⟨lf, hlf⟩ : ∃ lf, lf = x.leaf := ⟨_, rfl⟩
  have hb0 : (x.bytes.map u8)[0]? = some (.int .u8 (if lf then 1 else 2)) := by rw [x.bytes_rest, hlf]; cases x.leaf <;> rfl
  have hH := Lib.hid (And.intro hlf (And.intro hok hlen))
  obtain ⟨L, hL⟩ : ∃ L, L = x.bytes.length := ⟨_, rfl⟩
  rw [← hL] at hget hl1 hlen
  have hLH := Lib.hid hL; clear hL hok hlen2 hd ht hn hlf
  go_enter Tryz.func53, Tryz.ntmps53
  have hsf : ∀ (w : World) (a : Addr) f x y m, (store a (Value.func f x y) m).run Tryz.prog w = stored Tryz.prog w a (.func f x y) m := fun w a f x y m => run_store _ _ _ _ m rfl
  have hnk : Hid (x.keys.length < 9223372036854775808) := by have := hH.out.2.1.few; show _ < _; omega
  have hnl : Hid ((enc x.keys.length ++ x.rest 0).length ≤ 1000000000) := by have := hH.out.2.2; rw [x.bytes_rest] at this; rw [List.length_cons] at this; show _ ≤ _; omega
  obtain rfl : lf = false := hH.out.1.trans hlf0
  have hlf0H := Lib.hid hlf0; clear hlf0
  all_goals go_wp2_with (first
    | (go_at_call 76; refine hget.mono ?_; rintro e w1 ⟨v1, rfl, o1, b1⟩; obtain ⟨A, c, rfl, hAc, hcm, hA0⟩ := own_slice o1; obtain ⟨g, cur, rfl, hg, hgb, hgs, hgx⟩ := own_row o1 (by omega); have hc0 := hgx 0 _ hb0; have hglt := blk_lt hg; have hc1 : ¬ c = 1 := (by omega); have hcmH := Lib.hid hcm; clear hcm hgx; have hgH := Lib.hid hg; clear hg; have oH := Lib.hid o1; clear o1)
    | (go_at_call 100; go_must (refine (number_any w.heap.size _ x.keys.length (x.rest 0) _ (ld_cur (x.bytes_rest) hLH.out oH.out hc1 hAc hcmH.out _ _) b1.size hnk.out hnl.out).mono ?_); rintro e W2 ⟨rfl, hcur, hmm⟩; have hld := ld_start (x := x) b1 hmm hcur; have hncl := hld.clo))
  all_goals
    have hpb : w.heap.size ≤ w1.heap.size := b1.size
    have hqb : w.heap.size ≤ w1.heap.size + 1 := Nat.le_succ_of_le b1.size
    clear hncl hmm hcur hc1 hA0 hgs hc0 hglt hgb hAc
    generalize w1.heap.size + 1 + 1 = nb at *
    generalize w1.heap.size + 1 = q at *
    generalize w1.heap.size = pb at *
    obtain ⟨K, hK⟩ : ∃ K, K = x.keys.length := ⟨_, rfl⟩
    have hK2 : K ≤ 2000 := by rw [hK]; exact hH.out.2.1.few
    rw [← hK]
    have hKH := Lib.hid hK; clear hK
    go_loopw [42] (fun i wr => ∃ k : Nat, k ≤ K ∧ i = .int .i64 (k : Int) ∧ Ld x x.leaf w q pb nb k wr) (fun i _ => K - (intOf i).toNat)
    case atStart => exact ⟨0, Nat.zero_le _, rfl, by rw [← hH.out.1]; exact hld⟩
  case round =>
    obtain ⟨k, hkn, rfl, hl⟩ := hrel
    rw [← hH.out.1] at hl
    clear hld hget b1 oH hgH hb0 hnl hnk
    obtain ⟨hbel, ⟨A1, c1, A2, c2, vc, hq, ho1, ho2, hva⟩, hcur, hclo⟩ := hl
    have q0 : wr.cell? ⟨q, 0, none⟩ = some (.bool false) := by rw [cell_of hq]; rfl
    have q1 : wr.cell? ⟨q, 1, none⟩ = some (.slice A1 k c1) := by rw [cell_of hq]; rfl
    by_cases hlt : k < K
    · have hkk : k < x.keys.length := by rw [← hKH.out]; exact hlt
      obtain ⟨key, hkey⟩ : ∃ key, x.keys[k]? = some key := ⟨_, List.getElem?_eq_getElem hkk⟩
      have hks : key.size ≤ 200 := hH.out.2.1.keys key (List.mem_of_getElem? hkey)
      have hent : x.entries[k]? = some (keyBytes key) := by
        unfold Nd.entries
        rw [if_neg (by rw [← hH.out.1]; decide), List.getElem?_map, hkey]; rfl
      have hcur2 : Cur wr pb (enc key.data.toList.length ++ (key.data.toList ++ x.rest (k + 1))) := by
        have := hcur
        rw [Nd.rest_cons hent] at this
        unfold keyBytes at this
        rw [List.append_assoc] at this
        exact this
      have hcl : wr.cell? ⟨nb, 0, none⟩ = some (.func (.func 100) #[] #[.pointer (some ⟨pb, 0, none⟩)]) := by rw [cell_of hclo]; rfl
      have hlb : Hid ((enc key.data.toList.length ++ (key.data.toList ++ x.rest (k + 1))).length ≤ 1000000000) := by
        have h1 := x.rest_le k
        have h2 := hH.out.2.2
        rw [Nd.rest_cons hent] at h1
        unfold keyBytes at h1
        rw [List.append_assoc] at h1
        show _ ≤ _
        have h3 : (enc key.size).length = (enc key.data.toList.length).length := rfl
        simp only [List.length_append] at h1 ⊢
        omega
      have hent2 := Lib.hid hent; clear hent hcur
      have hkey2 := Lib.hid hkey; clear hkey
      have htx := text_any w.heap.size pb nb key.data.toList (x.rest (k + 1)) wr hcur2 hcl hpb hlb.out
      have hone : ∀ u ∈ [Value.string key], u.oneCell' = true := by intro u hu; simp at hu; subst hu; rfl
      have hbd1 : Hid (k + 1 ≤ maxLen) := by show _ ≤ _; unfold maxLen; omega
      have hbd2 : Hid ((k + 1) * 16 ≤ 140737488355328) := by show _ ≤ _; omega
      have mixed : Tryz.prog.follows .mixedOrders = true := by kernel_rfl
      go_wp2_with fail
      refine wp_region_noPanic ?_
      refine wp_region_B (A := (fun W => W.cell? ⟨q, 1, none⟩ = some (.slice A1 k c1) ∧ Mut w.heap.size [32] wr W)) (b := 9) (by kernel_rfl) (⟨q1, Mut.drew (Mut.refl _ _ _)⟩) (fun hHeld => ?_)
      refine wpAnyB_takeY (i := 0) (v := ?_) rfl (by kernel_rfl) (by kernel_rfl) (by kernel_rfl) (by kernel_rfl) (fun _ _ _ h => h) (Or.inl ⟨by rfl, ?_⟩) hHeld ?_
      rotate_left 1
      · ((intro w hSw; clear hSw; go_simp) <;> (with_reducible rfl))
      (try simp only [Act.put, List.setIfInBounds_toArray, List.set_cons_zero, List.set_cons_succ])
      refine wpAnyB_take (i := 1) (v := ?_) rfl (by kernel_rfl) (by kernel_rfl) (by kernel_rfl) [9, 4, 3, 2] (by kernel_rfl) (by kernel_rfl) (fun _ _ _ h => h) (Or.inl ⟨by rfl, ?_⟩) hHeld ?_
      rotate_left 1
      · ((intro w hSw; (try dsimp only at hSw); go_simp) <;> (with_reducible rfl))
      (try simp only [Act.put, List.setIfInBounds_toArray, List.set_cons_zero, List.set_cons_succ])
      refine wpAnyB_take (i := 2) (v := ?_) rfl (by kernel_rfl) (by kernel_rfl) (by kernel_rfl) [9, 4, 3] (by kernel_rfl) (by kernel_rfl) (fun _ _ _ h => h) (Or.inl ⟨by rfl, ?_⟩) hHeld ?_
      rotate_left 1
      · ((intro w hSw; (try dsimp only at hSw); go_simp) <;> (with_reducible rfl))
      (try simp only [Act.put, List.setIfInBounds_toArray, List.set_cons_zero, List.set_cons_succ])
      refine wpAnyB_take (i := 3) (v := ?_) rfl (by kernel_rfl) (by kernel_rfl) (by kernel_rfl) [9, 4] (by kernel_rfl) (by kernel_rfl) (fun _ _ _ h => h) (Or.inl ⟨by rfl, ?_⟩) hHeld ?_
      rotate_left 1
      · ((intro w hSw; (try dsimp only at hSw); go_simp) <;> (with_reducible rfl))
      (try simp only [Act.put, List.setIfInBounds_toArray, List.set_cons_zero, List.set_cons_succ])
      refine wpAnyB_take (i := 4) (v := ?_) rfl (by kernel_rfl) (by kernel_rfl) (by kernel_rfl) [9] (by kernel_rfl) (by kernel_rfl) (fun _ _ _ h => h) (Or.inl ⟨by rfl, ?_⟩) hHeld ?_
      rotate_left 1
      · ((intro w hSw; (try dsimp only at hSw); go_simp) <;> (with_reducible rfl))
      (try simp only [Act.put, List.setIfInBounds_toArray, List.set_cons_zero, List.set_cons_succ])
      refine wpAnyB_take (i := 5) (v := ?_) rfl (by kernel_rfl) (by kernel_rfl) (by kernel_rfl) [9, 6] (by kernel_rfl) (by kernel_rfl) (fun _ _ _ h => h) (Or.inl ⟨by rfl, ?_⟩) hHeld ?_
      rotate_left 1
      · ((intro w hSw; (try dsimp only at hSw); go_simp) <;> (with_reducible rfl))
      (try simp only [Act.put, List.setIfInBounds_toArray, List.set_cons_zero, List.set_cons_succ])
      refine wpAnyB_ready (rs := [6]) (by kernel_rfl) (by simp) ?_
      refine AllReadyB.pre rfl (fun Kq hKq => ?_) ?_
      · go_simp
        (go_at_call 101; refine (text_any w.heap.size pb nb key.data.toList (x.rest (k + 1)) _ (by exact hcur2) (by exact hcl) hpb hlb.out).mono ?_; rintro e w3 ⟨v3, rfl, bv3, cur3, m3⟩; have m4 : Mut w.heap.size [32] wr w3 := (by first | exact m3 | exact mut_undrew m3 | exact mut_undrew (mut_undrew m3)); have q13 : w3.cell? ⟨q, 1, none⟩ = some (.slice A1 k c1) := (by rw [cell_of (m4.keepc hq (by decide))]; rfl); have hcv := run_conv_byt bv3; rw [ba_eta] at hcv; have o13 := own_mut ho1 m4 (by decide); have hqlt : q < w3.heap.size := Nat.lt_of_lt_of_le (blk_lt hq) m4.size; have hz3 : ∀ o, w.heap.size ≤ (w3.alloc o).heap.size := fun o => (by rw [World.size_alloc]; have := hbel.size; have := m4.size; omega))
        (try go_wp2_with fail)
        refine hKq.out _ _ (⟨q13, m4⟩) (fun hHeld => ?_)
        clear hKq Kq
        (try simp only [Act.put, List.setIfInBounds_toArray, List.set_cons_zero, List.set_cons_succ])
        refine wpAnyB_ready (rs := [7]) (by kernel_rfl) (by simp) ?_
        refine AllReadyB.pre rfl (fun Kq hKq => ?_) ?_
        · go_simp
          refine hKq.out _ _ (⟨q13, m4⟩) (fun hHeld => ?_)
          clear hKq Kq
          (try simp only [Act.put, List.setIfInBounds_toArray, List.set_cons_zero, List.set_cons_succ])
          refine wpAnyB_ready (rs := [8]) (by kernel_rfl) (by simp) ?_
          refine AllReadyB.pre rfl (fun Kq hKq => ?_) ?_
          · go_simp
            refine hKq.out _ _ (⟨cell_alloc q13 _, m4.alloc _⟩) (fun hHeld => ?_)
            clear hKq Kq
            (try simp only [Act.put, List.setIfInBounds_toArray, List.set_cons_zero, List.set_cons_succ])
            refine wpAnyB_ready (rs := [9]) (by kernel_rfl) (by simp) ?_
            refine AllReadyB.post rfl (by kernel_rfl) (fun Kq hKq => ?_) ?_
            · (refine step_app rfl (.tmp 48) (.tmp 52) 22 rfl w.heap.size 9 _ 1 16 Tryz.underlying22 infoES rfl (by decide) _ _ _ rfl (by exact own_alloc o13 _) _ 1 1 [.string key] rfl rfl (by exact at_new _ _ _) (fun h => by cases h) hone hbd1.out hbd2.out (by exact hz3 _) ?_; intro v5 w5 o6 m9; obtain ⟨A5, c5, rfl, hc5, -, -⟩ := own_slice o6; have m10 : Mut w.heap.size [9] w3 w5 := ((Mut.refl _ _ _).alloc _).trans (by first | exact m9 | exact mut_undrew m9 | exact mut_undrew (mut_undrew m9)); have hq5 := m10.keepc (m4.keepc hq (by decide)) (by decide); have q15 : w5.cell? ⟨q, 1, none⟩ = some (.slice A1 k c1) := (by rw [cell_of hq5]; rfl); have f15 := unfrozen_of hq5 1)
              refine hKq.out _ _ ?_
              clear hKq Kq
              (try simp only [Act.put, List.setIfInBounds_toArray, List.set_cons_zero, List.set_cons_succ])
              refine wpAnyB_ready (rs := [10]) (by kernel_rfl) (by simp) ?_
              refine AllReadyB.post rfl (by kernel_rfl) (fun Kq hKq => ?_) ?_
              · go_simp
                refine hKq.out _ _ ?_
                clear hKq Kq
                (try simp only [Act.put, List.setIfInBounds_toArray, List.set_cons_zero, List.set_cons_succ])
                refine wpAnyB_ready (rs := [11]) (by kernel_rfl) (by simp) ?_
                refine AllReadyB.post rfl (by kernel_rfl) (fun Kq hKq => ?_) ?_
                · go_simp
                  refine hKq.out _ _ ?_
                  clear hKq Kq
                  (try simp only [Act.put, List.setIfInBounds_toArray, List.set_cons_zero, List.set_cons_succ])
                  refine wpAnyB_ready (rs := [12]) (by kernel_rfl) (by simp) ?_
                  refine AllReadyB.post rfl (by kernel_rfl) (fun Kq hKq => ?_) ?_
                  · go_simp
                    refine hKq.out _ _ ?_
                    clear hKq Kq
                    (try simp only [Act.put, List.setIfInBounds_toArray, List.set_cons_zero, List.set_cons_succ])
                    refine wpAnyB_done (by kernel_rfl) ?_ _
                    refine NoPanic.normal ?_
                    have m11 : Mut w.heap.size [92] w5 (w5.setCell ⟨q, 1, none⟩ (.slice A5 (k + 1) c5)) := (Mut.refl _ _ _).setCell (p := ⟨q, 1, none⟩) hq5 (by simp) hqb _
                    have hq6 := heap_set hq5 1 (.slice A5 (k + 1) c5)
                    generalize w5.setCell ⟨q, 1, none⟩ (.slice A5 (k + 1) c5) = w6 at *
                    have r0 : w6.cell? ⟨q, 0, none⟩ = some (.bool false) := by rw [cell_of hq6]; rfl
                    go_wp2
                    go_round
                    case rel =>
                      refine ⟨k + 1, by omega, by simp, ?_⟩
                      have hv0 : x.vals = [] := (hH.out.2.1.nd hH.out.1.symm).2
                      have hmm : Mut w.heap.size [32, 9, 92] wr w6 := ((m4.mono (Nat.le_refl _) (by simp)).trans (m10.mono (Nat.le_refl _) (by simp))).trans (m11.mono (Nat.le_refl _) (by simp))
                      rw [← hH.out.1]
                      refine ⟨hbel.trans (hmm.below hbel.size), ⟨A5, c5, A2, c2, vc, ?_, ?_, ?_, ?_⟩, (cur3.mut m10 (by decide) (by decide)).mut m11 (by decide) (by decide), hmm.keepc hclo (by decide)⟩
                      · simp only [hv0, List.take_nil] at hq6 ⊢; exact hq6
                      · rw [List.take_add_one, hkey2.out, Option.toList_some, List.map_append]
                        exact own_mut o6 m11 (by decide)
                      · simp only [hv0, List.take_nil] at ho2 ⊢; exact own_mut ho2 hmm (by decide)
                      · simp only [hv0, List.take_nil] at hva ⊢; exact hva.mut hmm (by decide)
                    case measure => simp [intOf]; omega
                  exact AllReadyB.nil
                exact AllReadyB.nil
              exact AllReadyB.nil
            exact AllReadyB.nil
          exact AllReadyB.nil
        exact AllReadyB.nil
      exact AllReadyB.nil
    · obtain rfl : k = K := by omega
      have hv0 : x.vals = [] := (hH.out.2.1.nd hH.out.1.symm).2
      have hkl : x.kids.length = k + 1 := by rw [(hH.out.2.1.nd hH.out.1.symm).1, hKH.out]
      have hlk : Lk x w q pb nb 0 wr := by
        refine ⟨hbel, ⟨A1, c1, A2, c2, none, 0, vc, ?_, ?_, ?_, ?_, ?_⟩, ?_, hclo⟩
        · rw [← hH.out.1, ← hKH.out, hq]; simp [hv0]
        · have := ho1; rw [List.take_of_length_le (by rw [hKH.out]; exact Nat.le_refl _)] at this; rw [← hKH.out]; exact this
        · simpa [hv0] using ho2
        · simpa [hv0] using hva
        · exact ⟨by simp, .inl ⟨rfl, rfl⟩⟩
        · have e : x.rest k = ((x.kids.drop 0).map enc).flatten := by
            unfold Nd.rest
            rw [List.drop_eq_nil_of_le (by rw [Nd.entries_len hH.out.2.1, hKH.out]; exact Nat.le_refl _)]
            simp
          rw [← e]; exact hcur
      go_wp2
      go_loopw [112] (fun i wq => ∃ j : Nat, j ≤ k + 1 ∧ i = .int .i64 (j : Int) ∧ Lk x w q pb nb j wq) (fun i _ => k + 1 - (intOf i).toNat)
      case atStart => exact ⟨0, Nat.zero_le _, rfl, hlk⟩
      case round =>
        clear hlk hbel hq ho1 ho2 hva hcur hclo q0 q1
        obtain ⟨j, hjn, rfl, hbel, ⟨A1, c1, A2, c2, A3, c3, vc, hq, ho1, ho2, hva, ho3⟩, hcur, hclo⟩ := hrel
        have q3 : wr.cell? ⟨q, 3, none⟩ = some (.slice A3 j c3) := by rw [cell_of hq]; rfl
        have hcl : wr.cell? ⟨nb, 0, none⟩ = some (.func (.func 100) #[] #[.pointer (some ⟨pb, 0, none⟩)]) := by rw [cell_of hclo]; rfl
        by_cases hlj : j < k + 1
        · obtain ⟨kid, hkid⟩ : ∃ kid, x.kids[j]? = some kid := ⟨_, List.getElem?_eq_getElem (by omega)⟩
          have hkb : kid ≤ 65536 := hH.out.2.1.kids kid (List.mem_of_getElem? hkid)
          have hcur2 : Cur wr pb (enc kid ++ ((x.kids.drop (j + 1)).map enc).flatten) := by
            obtain ⟨hi, he⟩ := List.getElem?_eq_some_iff.1 hkid
            rw [List.drop_eq_getElem_cons hi, he] at hcur
            simpa using hcur
          have hlb : Hid ((enc kid ++ ((x.kids.drop (j + 1)).map enc).flatten).length ≤ 1000000000) := by
            have h2 := hH.out.2.2
            unfold Nd.bytes at h2
            have h3 := List.take_append_drop j (x.kids.map enc)
            have h4 := congrArg (fun l => (List.flatten l).length) h3
            simp only [List.flatten_append, List.length_append] at h4
            have h5 : ((x.kids.map enc).drop j).flatten = enc kid ++ ((x.kids.drop (j + 1)).map enc).flatten := by
              obtain ⟨hi, he⟩ := List.getElem?_eq_some_iff.1 hkid
              rw [← List.map_drop, List.drop_eq_getElem_cons hi, he]
              simp
            rw [h5] at h4
            simp only [List.length_append] at h2
            show _ ≤ _
            omega
          have hnm := number_any w.heap.size pb kid (((x.kids.drop (j + 1)).map enc).flatten)
          have hkl2 : Hid (kid < 9223372036854775808) := by show _ < _; omega
          have hone : ∀ u ∈ [Value.int .i64 (kid : Int)], u.oneCell' = true := by intro u hu; simp at hu; subst hu; rfl
          have hbd1 : Hid (j + 1 ≤ maxLen) := by show _ ≤ _; unfold maxLen; omega
          have hbd2 : Hid ((j + 1) * 8 ≤ 140737488355328) := by show _ ≤ _; omega
          have hkid2 := Lib.hid hkid; clear hkid hcur
          have mixed : Tryz.prog.follows .mixedOrders = true := by kernel_rfl
          go_wp2_with fail
          refine wp_region_noPanic ?_
          refine wp_region_B (A := (fun W => W.cell? ⟨q, 3, none⟩ = some (.slice A3 j c3) ∧ W.cell? ⟨nb, 0, none⟩ = some (.func (.func 100) #[] #[.pointer (some ⟨pb, 0, none⟩)]) ∧ Mut w.heap.size [32] wr W)) (b := 8) (by kernel_rfl) (⟨q3, hcl, Mut.drew (Mut.refl _ _ _)⟩) (fun hHeld => ?_)
          refine wpAnyB_takeY (i := 0) (v := ?_) rfl (by kernel_rfl) (by kernel_rfl) (by kernel_rfl) (by kernel_rfl) (fun _ _ _ h => h) (Or.inl ⟨by rfl, ?_⟩) hHeld ?_
          rotate_left 1
          · ((intro w hSw; clear hSw; go_simp) <;> (with_reducible rfl))
          (try simp only [Act.put, List.setIfInBounds_toArray, List.set_cons_zero, List.set_cons_succ])
          refine wpAnyB_take (i := 1) (v := ?_) rfl (by kernel_rfl) (by kernel_rfl) (by kernel_rfl) [8, 4, 3, 2] (by kernel_rfl) (by kernel_rfl) (fun _ _ _ h => h) (Or.inl ⟨by rfl, ?_⟩) hHeld ?_
          rotate_left 1
          · ((intro w hSw; (try dsimp only at hSw); go_simp) <;> (with_reducible rfl))
          (try simp only [Act.put, List.setIfInBounds_toArray, List.set_cons_zero, List.set_cons_succ])
          refine wpAnyB_take (i := 2) (v := ?_) rfl (by kernel_rfl) (by kernel_rfl) (by kernel_rfl) [8, 4, 3] (by kernel_rfl) (by kernel_rfl) (fun _ _ _ h => h) (Or.inl ⟨by rfl, ?_⟩) hHeld ?_
          rotate_left 1
          · ((intro w hSw; (try dsimp only at hSw); go_simp) <;> (with_reducible rfl))
          (try simp only [Act.put, List.setIfInBounds_toArray, List.set_cons_zero, List.set_cons_succ])
          refine wpAnyB_take (i := 3) (v := ?_) rfl (by kernel_rfl) (by kernel_rfl) (by kernel_rfl) [8, 4] (by kernel_rfl) (by kernel_rfl) (fun _ _ _ h => h) (Or.inl ⟨by rfl, ?_⟩) hHeld ?_
          rotate_left 1
          · ((intro w hSw; (try dsimp only at hSw); go_simp) <;> (with_reducible rfl))
          (try simp only [Act.put, List.setIfInBounds_toArray, List.set_cons_zero, List.set_cons_succ])
          refine wpAnyB_take (i := 4) (v := ?_) rfl (by kernel_rfl) (by kernel_rfl) (by kernel_rfl) [8] (by kernel_rfl) (by kernel_rfl) (fun _ _ _ h => h) (Or.inl ⟨by rfl, ?_⟩) hHeld ?_
          rotate_left 1
          · ((intro w hSw; (try dsimp only at hSw); go_simp) <;> (with_reducible rfl))
          (try simp only [Act.put, List.setIfInBounds_toArray, List.set_cons_zero, List.set_cons_succ])
          refine wpAnyB_take (i := 5) (v := ?_) rfl (by kernel_rfl) (by kernel_rfl) (by kernel_rfl) [8, 6] (by kernel_rfl) (by kernel_rfl) (fun _ _ _ h => h) (Or.inl ⟨by rfl, ?_⟩) hHeld ?_
          rotate_left 1
          · ((intro w hSw; (try dsimp only at hSw); go_simp) <;> (with_reducible rfl))
          (try simp only [Act.put, List.setIfInBounds_toArray, List.set_cons_zero, List.set_cons_succ])
          refine wpAnyB_ready (rs := [6]) (by kernel_rfl) (by simp) ?_
          refine AllReadyB.pre rfl (fun Kq hKq => ?_) ?_
          · go_simp
            (go_at_call 100; refine (hnm _ (by exact hcur2) hpb hkl2.out hlb.out).mono ?_; rintro e w3 ⟨rfl, cur3, m3⟩; have m4 : Mut w.heap.size [32] wr w3 := (by first | exact m3 | exact mut_undrew m3 | exact mut_undrew (mut_undrew m3) | exact mut_undrew (mut_undrew (mut_undrew m3))); have q33 : w3.cell? ⟨q, 3, none⟩ = some (.slice A3 j c3) := (by rw [cell_of (m4.keepc hq (by decide))]; rfl); have o33 := own_mut ho3 m4 (by decide); have hqlt : q < w3.heap.size := Nat.lt_of_lt_of_le (blk_lt hq) m4.size; have hz3 : ∀ o, w.heap.size ≤ (w3.alloc o).heap.size := fun o => (by rw [World.size_alloc]; have := hbel.size; have := m4.size; omega))
            (try go_wp2_with fail)
            refine hKq.out _ _ (⟨q33, (by rw [cell_of (m4.keepc hclo (by decide))]; rfl), m4⟩) (fun hHeld => ?_)
            clear hKq Kq
            (try simp only [Act.put, List.setIfInBounds_toArray, List.set_cons_zero, List.set_cons_succ])
            refine wpAnyB_ready (rs := [7]) (by kernel_rfl) (by simp) ?_
            refine AllReadyB.pre rfl (fun Kq hKq => ?_) ?_
            · go_simp
              refine hKq.out _ _ (⟨cell_alloc q33 _, cell_alloc (by rw [cell_of (m4.keepc hclo (by decide))]; rfl) _, m4.alloc _⟩) (fun hHeld => ?_)
              clear hKq Kq
              (try simp only [Act.put, List.setIfInBounds_toArray, List.set_cons_zero, List.set_cons_succ])
              refine wpAnyB_ready (rs := [8]) (by kernel_rfl) (by simp) ?_
              refine AllReadyB.post rfl (by kernel_rfl) (fun Kq hKq => ?_) ?_
              · (refine step_app rfl (.tmp 118) (.tmp 121) 48 rfl w.heap.size 3 _ 1 8 Tryz.underlying48 infoEI rfl (by decide) _ _ _ rfl (by exact own_alloc o33 _) _ 1 1 [.int .i64 (kid : Int)] rfl rfl (by exact at_new _ _ _) (fun h => by cases h) hone hbd1.out hbd2.out (by exact hz3 _) ?_; intro v5 w5 o6 m9; obtain ⟨A5, c5, rfl, hc5, -, -⟩ := own_slice o6; have m10 : Mut w.heap.size [3] w3 w5 := ((Mut.refl _ _ _).alloc _).trans (by first | exact m9 | exact mut_undrew m9 | exact mut_undrew (mut_undrew m9)); have hq5 := m10.keepc (m4.keepc hq (by decide)) (by decide); have q35 : w5.cell? ⟨q, 3, none⟩ = some (.slice A3 j c3) := (by rw [cell_of hq5]; rfl); have f35 := unfrozen_of hq5 3)
                refine hKq.out _ _ ?_
                clear hKq Kq
                (try simp only [Act.put, List.setIfInBounds_toArray, List.set_cons_zero, List.set_cons_succ])
                refine wpAnyB_ready (rs := [9]) (by kernel_rfl) (by simp) ?_
                refine AllReadyB.post rfl (by kernel_rfl) (fun Kq hKq => ?_) ?_
                · go_simp
                  refine hKq.out _ _ ?_
                  clear hKq Kq
                  (try simp only [Act.put, List.setIfInBounds_toArray, List.set_cons_zero, List.set_cons_succ])
                  refine wpAnyB_ready (rs := [10]) (by kernel_rfl) (by simp) ?_
                  refine AllReadyB.post rfl (by kernel_rfl) (fun Kq hKq => ?_) ?_
                  · go_simp
                    refine hKq.out _ _ ?_
                    clear hKq Kq
                    (try simp only [Act.put, List.setIfInBounds_toArray, List.set_cons_zero, List.set_cons_succ])
                    refine wpAnyB_ready (rs := [11]) (by kernel_rfl) (by simp) ?_
                    refine AllReadyB.post rfl (by kernel_rfl) (fun Kq hKq => ?_) ?_
                    · go_simp
                      refine hKq.out _ _ ?_
                      clear hKq Kq
                      (try simp only [Act.put, List.setIfInBounds_toArray, List.set_cons_zero, List.set_cons_succ])
                      refine wpAnyB_done (by kernel_rfl) ?_ _
                      refine NoPanic.normal ?_
                      have m11 : Mut w.heap.size [92] w5 (w5.setCell ⟨q, 3, none⟩ (.slice A5 (j + 1) c5)) := (Mut.refl _ _ _).setCell (p := ⟨q, 3, none⟩) hq5 (by simp) hqb _
                      have hq6 := heap_set hq5 3 (.slice A5 (j + 1) c5)
                      generalize w5.setCell ⟨q, 3, none⟩ (.slice A5 (j + 1) c5) = w6 at *
                      go_wp2
                      go_round
                      case rel =>
                        refine ⟨j + 1, by omega, by simp, ?_⟩
                        have hmm : Mut w.heap.size [32, 3, 92] wr w6 := ((m4.mono (Nat.le_refl _) (by simp)).trans (m10.mono (Nat.le_refl _) (by simp))).trans (m11.mono (Nat.le_refl _) (by simp))
                        refine ⟨hbel.trans (hmm.below hbel.size), ⟨A1, c1, A2, c2, A5, c5, vc, hq6, own_mut ho1 hmm (by decide), own_mut ho2 hmm (by decide), hva.mut hmm (by decide), ?_⟩, (cur3.mut m10 (by decide) (by decide)).mut m11 (by decide) (by decide), hmm.keepc hclo (by decide)⟩
                        rw [List.take_add_one, hkid2.out, Option.toList_some, List.map_append]
                        exact own_mut o6 m11 (by decide)
                      case measure => simp [intOf]; omega
                    exact AllReadyB.nil
                  exact AllReadyB.nil
                exact AllReadyB.nil
              exact AllReadyB.nil
            exact AllReadyB.nil
          exact AllReadyB.nil
        · obtain rfl : j = k + 1 := by omega
          go_wp2
          go_ret
          rw [List.take_of_length_le (by omega), ← hkl] at ho3
          rw [← hkl] at hq
          exact ⟨q, rfl, ⟨hqb, _, _, _, vc, hq, ho1, ho2, hva, ho3⟩, hbel⟩
end Go.Proofs.YtpfjhehjmhkbpaaGreatDoor
