/- BtreeShapes: for every input the law returns true, and each argument reads behind the call as it read before; the card that ties the listed tables to the program's text. No condition beyond the row's own. -/
import Derived.Test.YtpfjhehjmhkbpaaGreatDoorM21
import Derived.Test.YtpfjhehjmhkbpaaGreatDoorM24
import Derived.Test.YtpfjhehjmhkbpaaGreatDoorM25
import Derived.Test.YtpfjhehjmhkbpaaGreatDoorSeats
namespace Go.Proofs.YtpfjhehjmhkbpaaGreatDoor
open Go.RowKit

theorem Vals.none_far {ps : List Pg} {vs : List Vl} : ∀ {bs : List (List UInt8)} {S : List Nat}, Vals ps vs bs S → (∀ v ∈ vs, ∃ l, v = .inl l ∧ l.length ≤ 60) → S = [] := by
  induction vs with
  | nil => rintro bs S ⟨_, rfl⟩ _; rfl
  | cons v vs ih =>
    rintro bs S ⟨b, bs', S1, S2, rfl, rfl, h1, h2⟩ h
    obtain ⟨l, rfl, _⟩ := h v (by simp)
    obtain ⟨_, rfl⟩ := h1
    rw [ih h2 fun v hv => h v (by simp [hv])]
    rfl

theorem Kids.fill {P : SubP} {M : Nat} (hP : ∀ n lo hi C S, P n lo hi C S → ¬ (lo = none ∧ hi = none) → S.length + 1 ≤ C.length ∧ M ≤ C.length) {ks : List ByteArray} :
    ∀ {lo hi ns C S}, Kids P lo ks hi ns C S → (1 ≤ ks.length ∨ ¬ (lo = none ∧ hi = none)) → S.length + (ks.length + 1) ≤ C.length ∧ (ks.length + 1) * M ≤ C.length := by
  induction ks with
  | nil =>
    rintro lo hi ns C S ⟨n, rfl, h⟩ hb
    have := hP _ _ _ _ _ h (hb.resolve_left (by simp))
    simpa using this
  | cons k ks ih =>
    rintro lo hi ns C S ⟨n, ns', C1, C2, S1, S2, rfl, rfl, rfl, h1, h2, h3, h4⟩ hb
    obtain ⟨a1, a2⟩ := hP _ _ _ _ _ h3 (by simp)
    obtain ⟨b1, b2⟩ := ih h4 (.inr (by simp))
    simp only [List.length_append, List.length_cons]
    refine ⟨by omega, ?_⟩
    rw [Nat.add_one_mul]
    omega

theorem Sub.fill [Mode] (hs : Mode.short = true) {ps : List Pg} : ∀ (h : Nat) {n lo hi C S}, Sub ps h n lo hi C S → ¬ (lo = none ∧ hi = none) → S.length + 1 ≤ C.length ∧ 2 ^ (h + 1) ≤ C.length
  | 0, n, lo, hi, C, S, ⟨x, T, e, h1, h2, h3, h4⟩, hb => by
    subst e
    have hT := h4.vals.none_far (h3.tiny hs).2
    subst hT
    have hl : x.keys.length = C.length := by rw [h4.keys, List.length_map]
    rcases h4.two hs with h | h
    · simp; omega
    · exact absurd h hb
  | h + 1, n, lo, hi, C, S, ⟨x, T, e, h1, h2, h3, h4, h5⟩, hb => by
    subst e
    have f := h3.fill hs h4
    obtain ⟨a1, a2⟩ := Kids.fill (M := 2 ^ (h + 1)) (fun n lo hi C S hp hb => Sub.fill hs h hp hb) h5 (.inl f)
    have a3 := Nat.mul_le_mul_right (2 ^ (h + 1)) (show 2 ≤ x.keys.length + 1 by omega)
    have e2 : 2 ^ (h + 1 + 1) = 2 * 2 ^ (h + 1) := by rw [Nat.pow_succ, Nat.mul_comm]
    rw [e2, List.length_cons]
    omega

theorem TreeAt.fill [Mode] (hm : Mode.short = true) {B : Nat} {w : World} {T p : Nat} {r : PS} {ls ps : List Pg} {R h : Nat} {S : List Nat} {C : KV} (t : TreeAt B w T p r ls ps R h S C) (hC : C ≠ []) :
    1 ≤ h ∧ S.length ≤ C.length ∧ (h = 1 ∨ 2 ^ h ≤ C.length) := by
  have hpos := List.length_pos_iff.2 hC
  rcases t.tree with ⟨_, _, h0, _⟩ | ⟨n, g, _, rfl, hs⟩
  · exact absurd h0 hC
  · cases g with
    | zero =>
      obtain ⟨x, U, rfl, h1, h2, h3, h4⟩ := hs
      have hT := h4.vals.none_far (h3.tiny hm).2
      subst hT
      exact ⟨by omega, by simp; omega, .inl rfl⟩
    | succ g =>
      obtain ⟨x, U, rfl, h1, h2, h3, h4, h5⟩ := hs
      have f := h3.fill hm h4
      obtain ⟨a1, a2⟩ := Kids.fill (M := 2 ^ (g + 1)) (fun n lo hi C S hp hb => Sub.fill hm g hp hb) h5 (.inl f)
      have a3 := Nat.mul_le_mul_right (2 ^ (g + 1)) (show 2 ≤ x.keys.length + 1 by omega)
      have e2 : 2 ^ (g + 1 + 1) = 2 * 2 ^ (g + 1) := by rw [Nat.pow_succ, Nat.mul_comm]
      rw [e2, List.length_cons]
      exact ⟨by omega, by omega, .inr (by omega)⟩

theorem TreeAt.deep_S [Mode] {B : Nat} {w : World} {T p : Nat} {r : PS} {ls ps : List Pg} {R h : Nat} {S : List Nat} {C : KV} (t : TreeAt B w T p r ls ps R h S C) : h ≤ S.length := by
  rcases t.tree with ⟨_, h0, _⟩ | ⟨n, g, _, rfl, hs⟩
  · omega
  · exact hs.deep_le

theorem taken_le : ∀ (ps : List Pg) (L : List Nat), (∀ n, hasP ps n = true → n ∈ L) → ps.countP (·.taken) ≤ L.length
  | [], L, _ => by simp
  | x :: ps, L, h => by
    have ih := taken_le ps ((L.filter (· ≠ 0)).map (· - 1)) (fun n hn => List.mem_map.2 ⟨n + 1, List.mem_filter.2 ⟨h (n + 1) (by unfold hasP at hn ⊢; simpa using hn), by simp⟩, rfl⟩)
    rw [List.length_map] at ih
    cases hx : x.taken with
    | false =>
      rw [List.countP_cons_of_neg (by simp [hx])]
      have := List.length_filter_le (· ≠ 0) L
      omega
    | true =>
      have h0 := h 0 (by unfold hasP; simp [hx])
      have : (L.filter (· ≠ 0)).length < L.length := List.length_filter_lt_length_iff_exists.2 ⟨0, h0, by simp⟩
      rw [List.countP_cons_of_pos (by simp [hx])]
      omega
theorem taken_free : ∀ (ps : List Pg), ps.length = ps.countP (·.taken) + nfree ps
  | [] => rfl
  | x :: ps => by
    have ih := taken_free ps
    unfold nfree at *
    cases hx : x.taken with
    | false => rw [List.countP_cons_of_neg (by simp [hx]), List.countP_cons_of_pos (by simp [hx]), List.length_cons]; omega
    | true => rw [List.countP_cons_of_pos (by simp [hx]), List.countP_cons_of_neg (by simp [hx]), List.length_cons]; omega

theorem TreeAt.taken [Mode] {B : Nat} {w : World} {T p : Nat} {r : PS} {ls ps : List Pg} {R h : Nat} {S : List Nat} {C : KV} (t : TreeAt B w T p r ls ps R h S C) :
    ps.length ≤ nfree ps + S.length + 1 ∧ nfree ps ≤ ps.length ∧ ps.length ≤ 16384 := by
  have h1 := taken_le ps (0 :: S) (fun n hn => by
    rcases (t.tak n).1 hn with ⟨rfl, _⟩ | h
    · simp
    · simp [h])
  have h2 := taken_free ps
  rw [List.length_cons] at h1
  exact ⟨by omega, nfree_le ps, t.pgr.few⟩

set_option maxRecDepth 4000 in
set_option maxHeartbeats 400000 in
theorem tshape [Mode] {B : Nat} {w : World} {T p : Nat} {r : PS} {ls ps : List Pg} {R h : Nat} {S : List Nat} {C : KV} (t : TreeAt B w T p r ls ps R h S C) :
    Calls Tryz.prog 16 #[.pointer (some ⟨T, 0, none⟩)] w fun e w' => e = .returned (.tuple #[.int .i64 (h : Int), .int .i64 ((ps.length - nfree ps : Nat) : Int)]) ∧ Below w.heap.size w w' := by
  have e0 := t.at_.c0
  have hc := Lib.hid (gcount t.pgr)
  have hd := Lib.hid (fun k => tdeep (t.mut (Mut.drewN (Mut.refl 0 [] w) k) (by simp) (by simp) (by simp) (by simp)))
  have hdl := t.deep_le
  obtain ⟨k1, k2, k3⟩ := t.taken
  clear t
  generalize ps.length = P at *
  generalize nfree ps = F at *
  have hsub : (P : Int) - (F : Int) = ((P - F : Nat) : Int) := by omega
  generalize P - F = D at *
  go_enter Tryz.func16, Tryz.ntmps16
  go_wp2_with (first
    | (go_at_call 38; refine hc.out.mono ?_; rintro e w' ⟨rfl, kd, rfl⟩)
    | (go_at_call 37; refine (hd.out kd).mono ?_; rintro e w2 ⟨rfl, b2⟩))
  go_ret2
  exact ⟨rfl, bel_undrewN b2⟩
end Go.Proofs.YtpfjhehjmhkbpaaGreatDoor

namespace Go.Proofs.YtpfjhehjmhkbpaaGreatDoor
open Go.RowKit

/-- Keys and values are short. -/
abbrev shortMode : Mode := ⟨true⟩
theorem and_i64_nat (a b : Nat) (ha : a < 4611686018427387904) (hb : b < 4611686018427387904) : bits .and .i64 (a : Int) (b : Int) = ((a &&& b : Nat) : Int) := by
  have hx : a &&& b ≤ b := Nat.and_le_right
  have h1 : (BitVec.ofInt 64 (a : Int)).toNat = a := by
    rw [BitVec.ofInt_natCast, BitVec.toNat_ofNat]; exact Nat.mod_eq_of_lt (by omega)
  have h2 : (BitVec.ofInt 64 (b : Int)).toNat = b := by
    rw [BitVec.ofInt_natCast, BitVec.toNat_ofNat]; exact Nat.mod_eq_of_lt (by omega)
  show IntKind.i64.wrap ((BitVec.ofInt 64 (a : Int) &&& BitVec.ofInt 64 (b : Int)).toNat : Int) = _
  rw [BitVec.toNat_and, h1, h2, IntKind.wrap_i64]
  omega

theorem mk_zero (s : Nat) (hs : s ≤ 65536) : ∃ zs : Array Value, (∀ i, i < s → zs[i]? = some (.int .u8 0)) ∧ ∀ W, (Instr.makeSlice 32 (.int .i64 (s : Int)) (.int .i64 (s : Int))).run Tryz.prog W = .ok (.slice (some ⟨W.heap.size, 0, none⟩) s s) (W.alloc (.cells zs 5)) := by
  obtain ⟨i, hi, hz, h1, h2⟩ := info_parts info5
  refine ⟨madeCells (Value.int .u8 0).cells (s * i.size), fun j hj => ?_, fun W => ?_⟩
  · rw [h1, Nat.mul_one, madeCells, Array.getElem?_map, Array.getElem?_range]
    simp [hj, Value.cells, Nat.mod_one]
  · have := run_makeSlice (P := Tryz.prog) (w := W) 32 5 i (.int .u8 0) Tryz.underlying32 hi hz .i64 .i64 s s (by omega) (Int.le_refl _) (by rw [h1]; simp; omega) (by rw [h2]; omega) (by omega)
    simpa using this

theorem byt_zero {W : World} {b s : Nat} {zs : Array Value} (hz : ∀ i, i < s → zs[i]? = some (.int .u8 0)) (hs : s ≤ 65536) (hh : W.heap[b]? = some (.cells zs 5 (0, 0))) : Byt W (.slice (some ⟨b, 0, none⟩) s s) (List.replicate s 0) := by
  refine ⟨_, s, by rw [List.length_replicate], by rw [List.length_replicate]; exact Nat.le_refl _, by unfold maxLen; omega, (fun h => by cases h), .inr ⟨b, 0, zs, (0, 0), rfl, hh, fun i hi => ?_⟩⟩
  rw [List.length_replicate] at hi
  rw [Nat.zero_add, hz i hi, List.getElem_replicate]
  rfl

theorem byt4 {W : World} {b : Nat} {x y z : Int} (hx : 0 ≤ x ∧ x < 256) (hy : 0 ≤ y ∧ y < 256) (hz : 0 ≤ z ∧ z < 256) (hh : W.heap[b]? = some (.cells #[.int .u8 107, .int .u8 x, .int .u8 y, .int .u8 z] 5 (0, 0))) :
    Byt W (.slice (some ⟨b, 0, none⟩) 4 4) [107, x.toNat.toUInt8, y.toNat.toUInt8, z.toNat.toUInt8] := by
  have e : ∀ v : Int, 0 ≤ v → v < 256 → u8 v.toNat.toUInt8 = .int .u8 v := fun v h0 h1 => by
    have : (v.toNat.toUInt8).toNat = v.toNat := by simp; omega
    unfold u8
    rw [this, Int.toNat_of_nonneg h0]
  refine ⟨_, 4, rfl, Nat.le_refl _, by unfold maxLen; omega, (fun h => by cases h), .inr ⟨b, 0, _, (0, 0), rfl, hh, fun i hi => ?_⟩⟩
  have hi4 : i < 4 := hi
  match i, hi4 with
  | 0, _ => rfl
  | 1, _ => exact congrArg some (e x hx.1 hx.2).symm
  | 2, _ => exact congrArg some (e y hy.1 hy.2).symm
  | 3, _ => exact congrArg some (e z hz.1 hz.2).symm

/-- The key that four bytes make, whatever else has been made. -/
theorem key4 (wr : World) (zs : Array Value) {x y z : Int} (hx : 0 ≤ x ∧ x < 256) (hy : 0 ≤ y ∧ y < 256) (hz : 0 ≤ z ∧ z < 256) {row : Obj} (hrow : row = .cells #[.int .u8 107, .int .u8 x, .int .u8 y, .int .u8 z] 5) :
    ∃ key : ByteArray, key.size = 4 ∧
      ((convert 32 9 (.slice (some ⟨wr.heap.size, 0, none⟩) 4 4)).run Tryz.prog (wr.alloc row).drew = .ok (.string key) (wr.alloc row).drew) ∧
      ((convert 32 9 (.slice (some ⟨wr.heap.size, 0, none⟩) 4 4)).run Tryz.prog ((wr.alloc row).alloc (.cells zs 5)).drew = .ok (.string key) ((wr.alloc row).alloc (.cells zs 5)).drew) ∧
      ((convert 32 9 (.slice (some ⟨wr.heap.size + 1, 0, none⟩) 4 4)).run Tryz.prog ((wr.alloc (.cells zs 5)).alloc row).drew = .ok (.string key) ((wr.alloc (.cells zs 5)).alloc row).drew) := by
  subst hrow
  refine ⟨⟨[107, x.toNat.toUInt8, y.toNat.toUInt8, z.toNat.toUInt8].toArray⟩, rfl, run_conv_byt (byt4 hx hy hz ?_), run_conv_byt (byt4 hx hy hz ?_), run_conv_byt (byt4 hx hy hz ?_)⟩
  · exact heap_new wr _
  · exact heap_old (heap_new wr _) _
  · have := heap_new (wr.alloc (.cells zs 5)) (.cells #[.int .u8 107, .int .u8 x, .int .u8 y, .int .u8 z] 5)
    simp only [World.size_alloc] at this
    exact this

section
attribute [local instance] shortMode

set_option maxRecDepth 8000 in
set_option maxHeartbeats 4000000 in
theorem shapes_any (n step size : Int) (w : World) (hn : -9223372036854775808 ≤ n ∧ n ≤ 9223372036854775807) (hst : -9223372036854775808 ≤ step ∧ step ≤ 9223372036854775807) (hsz : -9223372036854775808 ≤ size ∧ size ≤ 9223372036854775807) :
    Calls Tryz.prog 4 #[.int .i64 n, .int .i64 step, .int .i64 size] w fun e w' => e = .returned (.bool true) ∧ Below w.heap.size w w' := by
  by_cases hok : 0 ≤ n ∧ n ≤ 300 ∧ 1 ≤ step ∧ step ≤ 1048576 ∧ 0 ≤ size ∧ size ≤ 60
  · obtain ⟨h1, h2, h3, h4, h5, h6⟩ := hok
    clear hn hst hsz
    obtain ⟨n, rfl⟩ := Int.eq_ofNat_of_zero_le h1
    obtain ⟨size, rfl⟩ := Int.eq_ofNat_of_zero_le h5
    obtain ⟨st, rfl⟩ := Int.eq_ofNat_of_zero_le (show 0 ≤ step by omega)
    have d1 : decide (1048576 < (st : Int)) = false := by rw [decide_eq_false_iff_not]; omega
    have h4' : st ≤ 1048576 := by omega
    have h2' : n ≤ 300 := by omega
    have h6' : size ≤ 60 := by omega
    go_enter Tryz.func4, Tryz.ntmps4
    go_wp2_with (first
      | (go_at_call 11; refine (new_any 16777216 w (by omega) (by omega)).mono ?_; rintro e w1 ⟨F, rfl, hF, b1⟩; have hFH := Lib.hid hF; clear hF)
      | (go_at_call 12; refine (topen _ F 16777216 _ _ (by decide) (by decide) hFH.out).mono ?_; rintro e w2 ⟨T, p, r, rfl, t2, b2⟩; have t2H := Lib.hid t2; clear t2; have hsz1 := b1.size))
    have bw2 : Below w.heap.size w w2 := bel_then b1 hsz1 b2
    have hb2 := b2.size
    go_loopw [11, 12] (fun u11 u12 wr => ∃ (i : Nat) (ps : List Pg) (R h : Nat) (S : List Nat) (C : KV), u11 = .int .i64 (i : Int) ∧ i ≤ n ∧ Hid (TreeAt w1.heap.size wr T p r [] ps R h S C ∧ C.length ≤ i ∧ S.length ≤ i ∧ (i ≠ 0 → C ≠ []) ∧ Below w.heap.size w wr ∧ w1.heap.size ≤ wr.heap.size)) (fun u11 _ _ => n - (intOf u11).toNat)
    case atStart => exact ⟨0, [], 0, 0, [], [], rfl, Nat.zero_le _, t2H.out, Nat.le_refl _, Nat.le_refl _, (fun h => absurd rfl h), bw2, hb2⟩
    case round =>
      obtain ⟨i, ps, R, h, S, C, rfl, hi, hI⟩ := hrel
      by_cases hlt : i < n
      · obtain ⟨P, hP⟩ : ∃ P, P = i * st := ⟨_, rfl⟩
        have hPle : P ≤ 314572800 := by rw [hP]; exact Nat.le_trans (Nat.mul_le_mul (show i ≤ 300 by omega) h4') (by omega)
        have hmul : (i : Int) * (st : Int) = (P : Int) := by rw [hP]; exact (Int.natCast_mul i st).symm
        obtain ⟨K, hK⟩ : ∃ K, K = P &&& 16777215 := ⟨_, rfl⟩
        have hKle : K ≤ 16777215 := by rw [hK]; exact Nat.and_le_right
        have hand : bits .and .i64 (P : Int) 16777215 = (K : Int) := by rw [hK]; exact and_i64_nat P 16777215 (by omega) (by omega)
        clear hP hK
        obtain ⟨zs, hzs, hmk⟩ := mk_zero size (by omega)
        have hu8 : ∀ v : Int, 0 ≤ IntKind.u8.wrap v ∧ IntKind.u8.wrap v < 256 := fun v => by rw [IntKind.wrap_u8]; omega
        obtain ⟨row, hrow⟩ : ∃ row : Obj, row = .cells #[.int .u8 107, .int .u8 (IntKind.u8.wrap ((K : Int) / 65536)), .int .u8 (IntKind.u8.wrap ((K : Int) / 256)), .int .u8 (IntKind.u8.wrap (K : Int))] 5 := ⟨_, rfl⟩
        obtain ⟨key, hk4, cv1, cv2, cv3⟩ := key4 wr zs (hu8 ((K : Int) / 65536)) (hu8 ((K : Int) / 256)) (hu8 (K : Int)) hrow
        obtain ⟨i1, i2, i3, i4, i5, i6⟩ := hI.out
        have hdS := i1.deep_S
        obtain ⟨k1, k2, k3⟩ := i1.taken
        have hroom : 16384 ≤ room ps + S.length + 1 := by unfold room; omega
        have hmany : manyOf key.size (List.replicate size (0 : UInt8)).length = 0 := by unfold manyOf; rw [List.length_replicate, if_pos (by omega)]
        have hcode : isKeyB key ∧ manyOf key.size (List.replicate size (0 : UInt8)).length + h + 2 ≤ room ps := ⟨by unfold isKeyB; omega, by rw [hmany]; omega⟩
        have hins := insKV_le C key (List.replicate size 0) i1.rises
        have hput := fun (W : World) (b : Nat) (tW : TreeAt w1.heap.size W T p r [] ps R h S C) (hsW : w1.heap.size ≤ W.heap.size) (hb : W.heap[b]? = some (.cells zs 5 (0, 0))) =>
          tput w1.heap.size W T p r [] ps R h S C key (.slice (some ⟨b, 0, none⟩) size size) (List.replicate size 0) tW (byt_zero hzs (by omega) hb) (by rw [List.length_replicate]; omega) hsW (by omega) (by omega) (fun _ => ⟨by omega, by rw [List.length_replicate]; exact h6'⟩)
        have hputA := Lib.hid (hput ((wr.alloc row).alloc (.cells zs 5)).drew (wr.heap.size + 1) (i1.mut (Mut.drew (((Mut.refl 0 [] wr).alloc _).alloc _)) (by simp) (by simp) (by simp) (by simp)) (by simp; omega) (by have := heap_new (wr.alloc row) (.cells zs 5); simp only [World.size_alloc] at this; exact this))
        have hputB := Lib.hid (hput ((wr.alloc (.cells zs 5)).alloc row).drew wr.heap.size (i1.mut (Mut.drew (((Mut.refl 0 [] wr).alloc _).alloc _)) (by simp) (by simp) (by simp) (by simp)) (by simp; omega) (heap_old (heap_new wr _) _))
        have hcodeH := Lib.hid hcode
        have hinsH := Lib.hid hins
        have hfin := Lib.hid (fun (W : World) (hW : Below wr.heap.size wr W) (hsW : w1.heap.size ≤ W.heap.size) (w3 : World) (m3 : Mut w1.heap.size [133, 147, 80] W w3) (ps' : List Pg) (R' h' : Nat) (S' : List Nat) (t3 : TreeAt w1.heap.size w3 T p r [] ps' R' h' S' (insKV C key (List.replicate size 0))) =>
          show Hid (TreeAt w1.heap.size w3 T p r [] ps' R' h' S' (insKV C key (List.replicate size 0)) ∧ (insKV C key (List.replicate size 0)).length ≤ i + 1 ∧ S'.length ≤ i + 1 ∧ (i + 1 ≠ 0 → insKV C key (List.replicate size 0) ≠ []) ∧ Below w.heap.size w w3 ∧ w1.heap.size ≤ w3.heap.size) from by
            have hne : insKV C key (List.replicate size 0) ≠ [] := by unfold insKV; simp
            obtain ⟨_, f2, _⟩ := t3.fill rfl hne
            have := hI.out.2.1
            have := m3.size
            exact ⟨t3, by omega, by omega, fun _ => hne, bel_mut (bel_then hI.out.2.2.2.2.1 (by omega) hW) hsz1 hsW m3, by omega⟩)
        clear i1 i3 i4 i5 hput hins hcode hmany hroom k1 k2 k3 hzs hu8 hk4
        subst hrow
        go_wp2_with fail
        go_region_with (first
          | (go_at_call 13; (with_reducible refine hputA.out.mono ?_); rintro e w3 ⟨m3, code, C', rfl, ⟨ps', R', h', S', t3, hr3⟩, hcase, h0⟩; obtain rfl : code = 0 := h0 hcodeH.out.1 hcodeH.out.2; obtain rfl : C' = insKV C key (List.replicate size 0) := (by rcases hcase with ⟨h, _⟩ | ⟨_, _, h⟩; exact absurd rfl h; exact h); have hfinal := hfin.out _ (below_drewN (bel_alloc (bel_alloc (Below.refl _ _) _) _) 1) (by simp; omega) w3 m3 ps' R' h' S' t3; clear t3 m3 hr3 h0 hcase)
          | (go_at_call 13; (with_reducible refine hputB.out.mono ?_); rintro e w3 ⟨m3, code, C', rfl, ⟨ps', R', h', S', t3, hr3⟩, hcase, h0⟩; obtain rfl : code = 0 := h0 hcodeH.out.1 hcodeH.out.2; obtain rfl : C' = insKV C key (List.replicate size 0) := (by rcases hcase with ⟨h, _⟩ | ⟨_, _, h⟩; exact absurd rfl h; exact h); have hfinal := hfin.out _ (below_drewN (bel_alloc (bel_alloc (Below.refl _ _) _) _) 1) (by simp; omega) w3 m3 ps' R' h' S' t3; clear t3 m3 hr3 h0 hcase))
        all_goals
          clear cv1 cv2 cv3 hputA hputB hfin hmk hand hmul
          go_wp2_with fail
          go_roundw
          case rel => exact ⟨i + 1, ps', R', h', S', _, by go_num, hlt, hfinal⟩
          case measure => simp [intOf]; omega
      · obtain rfl : n = i := by omega
        obtain ⟨i1, i2, i3, i4, i5, i6⟩ := hI.out
        have hdS := i1.deep_S
        obtain ⟨k1, k2, k3⟩ := i1.taken
        have hsh := tshape i1
        have hlen := fun (W : World) (bW : Below wr.heap.size wr W) => (tlen W T p _ _ false (i1.bel bW).at_)
        have hgeo : (C.length = 0 ∧ h = 0) ∨ (1 ≤ C.length ∧ 1 ≤ h ∧ S.length ≤ C.length ∧ (h = 1 ∨ 2 ^ h ≤ C.length)) := by
          by_cases hC : C = []
          · left
            have : n = 0 := by
              by_cases e : n = 0
              · exact e
              · exact absurd hC (i4 e)
            exact ⟨by rw [hC]; rfl, by omega⟩
          · right
            obtain ⟨f1, f2, f3⟩ := i1.fill rfl hC
            exact ⟨List.length_pos_iff.2 hC, f1, f2, f3⟩
        obtain ⟨D, hD⟩ : ∃ D, D = ps.length - nfree ps := ⟨_, rfl⟩
        obtain ⟨L, hL⟩ : ∃ L, L = C.length := ⟨_, rfl⟩
        have hDL : D ≤ L + 10 := by
          rcases hgeo with ⟨g1, g2⟩ | ⟨g1, g2, g3, g4⟩
          · by_cases e : n = 0
            · omega
            · have := List.length_pos_iff.2 (i4 e); omega
          · omega
        rw [← hD] at hsh
        rw [← hL] at hlen hgeo i2
        have hshH := Lib.hid hsh
        have hlenH := Lib.hid hlen
        have hgeoH := Lib.hid hgeo
        have hh : h ≤ 300 := by omega
        have hD3 : D ≤ 311 := by omega
        clear i1 i3 i4 hdS k1 k2 k3 hsh hlen hD hL hgeo
        go_wp2_with (first
          | (go_at_call 16; refine hshH.out.mono ?_; rintro e w3 ⟨rfl, b3⟩)
          | (go_at_call 15; refine (hlenH.out _ b3).mono ?_; rintro e w' ⟨rfl, rfl⟩))
        go_loop [15, 16] (fun u15 u16 => ∃ k x : Nat, u15 = .int .i64 (k : Int) ∧ u16 = .int .i64 (x : Int) ∧ k ≤ 301 ∧ x ≤ 300 ∧ Hid (x = L / 2 ^ k)) (fun _ u16 => (intOf u16).toNat)
        case atStart => exact ⟨0, L, rfl, rfl, by omega, by omega, show L = L / 2 ^ 0 by simp⟩
        case round =>
          obtain ⟨k, x, rfl, rfl, hk, hx3, hx⟩ := hrel
          by_cases hpos : 0 < x
          · have hk' : k + 1 ≤ 301 := by
              have e1 : 0 < L / 2 ^ k := by rw [← hx.out]; exact hpos
              have e2 : 2 ^ k ≤ L := (Nat.div_pos_iff.1 e1).2
              have e3 : k < 2 ^ k := Nat.lt_two_pow_self
              omega
            go_wp2_with fail
            go_round
            case rel => exact ⟨k + 1, x / 2, by go_num, by go_num, hk', by omega, show x / 2 = L / 2 ^ (k + 1) by rw [hx.out, Nat.div_div_eq_div_mul, Nat.pow_succ]⟩
            case measure => simp [intOf]; omega
          · obtain rfl : x = 0 := by omega
            have hlk : L < 2 ^ k := by
              have := hx.out.symm
              rcases Nat.div_eq_zero_iff.1 this with h | h
              · have := Nat.two_pow_pos k; omega
              · exact h
            have hhk : h ≤ k + 2 := by
              rcases hgeoH.out with ⟨_, g⟩ | ⟨_, _, _, g | g⟩
              · omega
              · omega
              · have : h < k := (Nat.pow_lt_pow_iff_right (show 1 < 2 by omega)).1 (Nat.lt_of_le_of_lt g hlk)
                omega
            have e1 : decide ((h : Int) ≤ (k : Int) + 2) = true := by rw [decide_eq_true_eq]; omega
            have e2 : decide ((D : Int) ≤ (L : Int) + 10) = true := by rw [decide_eq_true_eq]; omega
            have e3 : (h = 0 ∧ L = 0) ∨ (decide ((h : Int) = 0) = false ∧ decide ((L : Int) = 0) = false ∧ h ≠ 0 ∧ L ≠ 0) := by
              rcases hgeoH.out with ⟨g1, g2⟩ | ⟨g1, g2, _, _⟩
              · exact .inl ⟨g2, g1⟩
              · exact .inr ⟨by rw [decide_eq_false_iff_not]; omega, by rw [decide_eq_false_iff_not]; omega, by omega, by omega⟩
            have b03 := bel_then i5 i5.size b3
            clear hlk hx hgeoH
            rcases e3 with ⟨rfl, rfl⟩ | ⟨e4, e5, e6, e7⟩
            · go_wp2_with (first
                | (go_at_call 15; refine (hlenH.out _ b3).mono ?_; rintro e w' ⟨rfl, rfl⟩)
                | (go_at_call 10; refine (known_any _).mono ?_; rintro e w8 ⟨rfl, b8⟩))
              go_ret
              exact ⟨rfl, bel_then b03 b03.size b8⟩
            · have e8 : ((h : Int) == 0) = false := by rw [beq_eq_false_iff_ne]; omega
              have e9 : ((L : Int) == 0) = false := by rw [beq_eq_false_iff_ne]; omega
              go_wp2_with (first
                | (go_at_call 15; refine (hlenH.out _ b3).mono ?_; rintro e w' ⟨rfl, rfl⟩)
                | (go_at_call 10; refine (known_any _).mono ?_; rintro e w8 ⟨rfl, b8⟩))
              go_ret
              exact ⟨rfl, bel_then b03 b03.size b8⟩
  · have hd : decide (n < 0) = true ∨ (decide (n < 0) = false ∧ decide (300 < n) = true) ∨ (decide (n < 0) = false ∧ decide (300 < n) = false ∧ decide (step < 1) = true) ∨ (decide (n < 0) = false ∧ decide (300 < n) = false ∧ decide (step < 1) = false ∧ decide (1048576 < step) = true) ∨
        (decide (n < 0) = false ∧ decide (300 < n) = false ∧ decide (step < 1) = false ∧ decide (1048576 < step) = false ∧ decide (size < 0) = true) ∨ (decide (n < 0) = false ∧ decide (300 < n) = false ∧ decide (step < 1) = false ∧ decide (1048576 < step) = false ∧ decide (size < 0) = false ∧ decide (60 < size) = true) := by
      simp only [decide_eq_true_eq, decide_eq_false_iff_not]; omega
    clear hok hn hst hsz
    rcases hd with h | ⟨h1, h⟩ | ⟨h1, h2, h⟩ | ⟨h1, h2, h3, h⟩ | ⟨h1, h2, h3, h4, h⟩ | ⟨h1, h2, h3, h4, h5, h⟩
    all_goals
      go_enter Tryz.func4, Tryz.ntmps4
      go_wp2_with (go_at_call 10; refine (known_any _).mono ?_; rintro e w8 ⟨rfl, b8⟩)
      go_ret
      exact ⟨rfl, b8⟩
end
end Go.Proofs.YtpfjhehjmhkbpaaGreatDoor

namespace Go.Proofs.YtpfjhehjmhkbpaaGreatDoor.btreeShapes
open Go.ChangeShapes Go.WideShapes Go.ChangeAt Go.RowKit

theorem laid_met (os : Os) : laidMet Tryz.prog Rows.btreeShapesRow.laid ((tabWorld os).forCall (fun _ _ => 0) ⟨#[], #[.int .i64 0, .int .i64 0, .int .i64 0], []⟩).memory :=
  laidMet_of_run' 8 (by kernel_rfl) (by kernel_rfl)
theorem reads (os : Os) {H : Type} (enc : TypeId × Value → H) : ∃ places, DataW.whole enc Tryz.prog ((tabWorld os).forCall (fun _ _ => 0) ⟨#[], #[.int .i64 0, .int .i64 0, .int .i64 0], []⟩).memory Tryz.f4.params.toList Rows.btreeShapesSpec.vars false #[Value.int .i64 0, .int .i64 0, .int .i64 0].toList 8 = some ([.lit (.int .i64 0), .lit (.int .i64 0), .lit (.int .i64 0)], [], places) :=
  ⟨[], by kernel_rfl⟩

theorem wf_bounds {n : Int} (h : (Lit.int .i64 n).wf = true) : -9223372036854775808 ≤ n ∧ n ≤ 9223372036854775807 := by
  simp only [Lit.wf, Bool.and_eq_true, decide_eq_true_eq] at h
  exact h

set_option maxRecDepth 100000 in
theorem contract (H : Type) (enc : TypeId × Value → H) (W : World) (base : Nat) (args : Array Value) (ds gs : List (DataW H)) (before : List MemPlace)
    (hval : ∀ (j : Nat) t v, Tryz.f4.params[j]? = some t → args[j]? = some v → Value.okWide Tryz.prog W .any base t v)
    (hW : DataW.Whole enc Tryz.prog Tryz.f4.params.toList Rows.btreeShapesSpec.vars false W args.toList ds gs before) :
    Calls Tryz.prog 4 args W fun e W' => ∃ v, e = .returned v ∧ Rows.btreeShapesSpec.post enc Tryz.prog Tryz.f4 false true false false W args v W' := by
  have hW' := hW
  obtain ⟨p, q, hA0, hV, rfl, hfz, hnd⟩ := hW
  have hA : DataW.TrodAll enc Tryz.prog W 0 (fun _ => true) true Tryz.f4.params.toList args.toList ds p := hA0
  rw [Tryz.params4] at hA hval
  obtain ⟨v0, vs0, d0, ds0, p0, q0, hargs, rfl, rfl, h0, r0⟩ := trodAll_cons hA
  obtain ⟨v1, vs1, d1, ds1, p1, q1, rfl, rfl, rfl, h1, r1⟩ := trodAll_cons r0
  obtain ⟨v2, vs2, d2, ds2, p2, q2, rfl, rfl, rfl, h2, r2⟩ := trodAll_cons r1
  obtain ⟨rfl, rfl, rfl⟩ := trodAll_nil r2
  obtain rfl : args = #[v0, v1, v2] := by cases args; simp_all
  obtain ⟨rfl, rfl⟩ := trodVars_none hV
  obtain ⟨n0, rfl, rfl, rfl, w0⟩ := open_int Tryz.underlying3 (hval 0 3 v0 rfl rfl) h0
  obtain ⟨n1, rfl, rfl, rfl, w1⟩ := open_int Tryz.underlying3 (hval 1 3 v1 rfl rfl) h1
  obtain ⟨n2, rfl, rfl, rfl, w2⟩ := open_int Tryz.underlying3 (hval 2 3 v2 rfl rfl) h2
  clear hA0
  refine (shapes_any n0 n1 n2 W (wf_bounds w0) (wf_bounds w1) (wf_bounds w2)).mono fun e W' ⟨he, bel⟩ => ?_
  subst he
  exact ⟨_, rfl, _, _, _, [], _, [], hW', trodAll_mk1 (shut_bool Tryz.underlying4 _), (trodAll_cons_mk (shut_int Tryz.underlying3 w0) (trodAll_cons_mk (shut_int Tryz.underlying3 w1) (trodAll_cons_mk (shut_int Tryz.underlying3 w2) trodAll_mk0))), rfl, bel.frame _, fun h => by cases h⟩

set_option maxRecDepth 100000 in
theorem lifted (os : Os) (started : os.Started) (H : Type) (enc : TypeId × Value → H) (F : Stop.Interp) :
    ReturnsInHanded {} Tryz.checked os 4 .any ((OpenSpec.ofChange Rows.btreeShapesSpec).preRow enc Tryz.prog Tryz.f4 Rows.btreeShapesRow.domain false Rows.btreeShapesRow.laid) (((OpenSpec.ofChange Rows.btreeShapesSpec).at F).post enc Tryz.prog Tryz.f4 false true false false) := by
  obtain ⟨places, hx⟩ := reads os enc
  refine returnsInHanded_of_row (C := Tryz.checked) (s := OpenSpec.ofChange Rows.btreeShapesSpec) seatOwn started (by kernel_rfl) Tryz.func4
    (witness_row_at (enc := enc) (C := Tryz.checked) false (tabWorld os) #[.int .i64 0, .int .i64 0, .int .i64 0] rfl (by kernel_rfl) (by kernel_rfl) (by kernel_rfl)
      (OpenSpec.preRow_of_cond 8 hx (by kernel_rfl) (fun k hk => by cases hk) (by kernel_rfl) (laid_met os))) ?_
  intro W base args ds gs before hval hW _ _ hsz _ _ _
  exact contract H enc W base args ds gs before hval hW

theorem said : Rows.BtreeShapesSaid :=
  OpenClaim.holds_of_cond 4 Tryz.f4 rfl rfl rfl rfl rfl rfl rfl ⟨rfl, rfl, rfl, rfl, rfl⟩ rfl rfl rfl rfl rfl (by kernel_rfl) Tryz.func4 (by kernel_rfl)
    (of_decide_eq_true (by kernel_rfl)) (by unfold Func.isWrapper; first | (rw [if_pos (by decide +kernel)]; kernel_rfl) | (rw [if_neg (by decide +kernel)]; exact ⟨rfl, rfl⟩))
    (fun os started H enc _ F => by rw [OpenClaim.pre_eq_preRow]; exact lifted os started H enc F)

theorem plain (f : FuncId) (fn : Func) (hf : Tryz.pinned.checked.prog.funcNamed "pantry/pantrylaw10.BtreeShapes" = some f) (hfn : Tryz.pinned.checked.prog.funcs[f]? = some fn) :
    false = Tryz.pinned.checked.prog.looks [] ∧ ∀ (j : Nat) t, fn.params[j]? = some t → Tryz.pinned.checked.prog.wantsStandIn t = false := by
  obtain rfl : f = 4 := Option.some.inj ((show Tryz.prog.funcNamed "pantry/pantrylaw10.BtreeShapes" = some 4 by kernel_rfl).symm.trans hf) |>.symm
  obtain rfl : fn = Tryz.f4 := (Option.some.inj (Tryz.func4.symm.trans hfn)).symm
  refine ⟨by kernel_rfl, fun j t ht => ?_⟩
  rw [Tryz.params4] at ht
  have hm : t ∈ [3, 3, 3] := by simpa using Array.mem_of_getElem? ht
  have hall : ([3, 3, 3].all fun u => !Tryz.prog.wantsStandIn u) = true := by kernel_rfl
  exact (show Tryz.prog.wantsStandIn t = false by simpa using List.all_eq_true.1 hall t hm)

/-- The card. -/
theorem card : Rows.BtreeShapesCardSaid :=
  Claim7.holds_tied_plain_at .later [] _ _ _ _ said (fun _ h => by cases h) (by kernel_rfl) (fun _ h => by cases h) btreeShapes_row_tie rfl ⟨rfl, rfl⟩ (by kernel_rfl) rfl plain (by kernel_rfl)
end Go.Proofs.YtpfjhehjmhkbpaaGreatDoor.btreeShapes
