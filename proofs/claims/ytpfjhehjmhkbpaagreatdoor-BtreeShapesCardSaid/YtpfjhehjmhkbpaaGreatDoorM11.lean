/- A node's value in memory: where it lies; another one laid there. cut, at, split: a node's parts in memory. at, split: a node as two. split: the best two parts. settles: a node is laid, in two pages if it has no room in one. -/
import Derived.Test.YtpfjhehjmhkbpaaGreatDoorM10
import Derived.Test.YtpfjhehjmhkbpaaGreatDoorM09
import Derived.Outline
import Derived.DataElems
namespace Go.Proofs.YtpfjhehjmhkbpaaGreatDoor
open Go.RowKit

theorem VlAt.four {w : World} {cs : List Value} {v : Vl} (h : VlAt w cs v) : ∃ a b c d, cs = [a, b, c, d] := by
  cases v with
  | inl l => obtain ⟨u, rfl, _⟩ := h; exact ⟨_, _, _, _, rfl⟩
  | far s f => cases h; exact ⟨_, _, _, _, rfl⟩

theorem NodeAt.val {B q : Nat} {w : World} {x : Nd} (h : NodeAt B w q x) {i : Nat} {v : Vl} (hv : x.vals[i]? = some v) :
    ∃ g c c0 c1 c2 c3 cur, w.cell? ⟨q, 2, none⟩ = some (.slice (some ⟨g, 0, none⟩) x.vals.length c) ∧ x.vals.length ≤ c ∧ c ≤ maxLen ∧ w.heap[g]? = some (.cells cur 86 (0, 0)) ∧ B ≤ g ∧ VlAt w [c0, c1, c2, c3] v ∧
      w.cell? ⟨g, i * 4, none⟩ = some c0 ∧ w.cell? ⟨g, i * 4 + 1, none⟩ = some c1 ∧ w.cell? ⟨g, i * 4 + 2, none⟩ = some c2 ∧ w.cell? ⟨g, i * 4 + 3, none⟩ = some c3 := by
  obtain ⟨h0, kv, vv, iv, vc, h1, h2, h4, h6, h7⟩ := h
  obtain ⟨A, c, rfl, g1, g2, g3⟩ := own_slice h4
  have hi := (List.getElem?_eq_some_iff.1 hv).1
  obtain ⟨g, cur, rfl, k1, k2, k3, k4⟩ := own_row h4 (by omega)
  have hat := h6.at_ hv
  obtain ⟨c0, c1, c2, c3, hcs⟩ := hat.four
  rw [hcs] at hat
  have hget : ∀ j, j < 4 → vc[i * 4 + j]? = [c0, c1, c2, c3][j]? := fun j hj => by
    rw [← hcs, List.getElem?_take, if_pos hj, List.getElem?_drop]
  exact ⟨g, c, c0, c1, c2, c3, cur, by rw [cell_of h1]; rfl, g1, g2, k1, k2, hat, k4 _ _ (by have := hget 0 (by omega); simpa using this), k4 _ _ (by have := hget 1 (by omega); simpa using this), k4 _ _ (by have := hget 2 (by omega); simpa using this), k4 _ _ (by have := hget 3 (by omega); simpa using this)⟩

theorem set4 {α : Type} (l : List α) (a m : Nat) (d0 d1 d2 d3 : α) (ha : a + 4 ≤ m) (hm : m ≤ l.length) :
    ((((l.set a d0).set (a + 1) d1).set (a + 2) d2).set (a + 3) d3).take m = (l.take m).take a ++ ([d0, d1, d2, d3] ++ (l.take m).drop (a + 4)) := by
  apply List.ext_getElem?
  intro j
  rw [List.getElem?_take]
  by_cases hj : j < m
  · rw [if_pos hj]
    by_cases h1 : j < a
    · rw [List.getElem?_append_left (by simp; omega), List.getElem?_set_ne (by omega), List.getElem?_set_ne (by omega), List.getElem?_set_ne (by omega), List.getElem?_set_ne (by omega), List.getElem?_take, if_pos h1, List.getElem?_take, if_pos hj]
    · have e1 : ((l.take m).take a).length = a := by simp; omega
      rw [List.getElem?_append_right (by omega), e1]
      by_cases h2 : j < a + 4
      · rw [List.getElem?_append_left (by simp; omega)]
        simp only [List.getElem?_set, List.length_set]
        obtain ⟨k, rfl⟩ : ∃ k, j = a + k := ⟨j - a, by omega⟩
        have hk : k < 4 := by omega
        have e2 : a + k - a = k := by omega
        rw [e2]
        match k, hk with
        | 0, _ => simp (disch := omega) only [Nat.add_zero]; simp; omega
        | 1, _ => simp; omega
        | 2, _ => simp; omega
        | 3, _ => simp; omega
      · rw [List.getElem?_append_right (by simp; omega), List.getElem?_set_ne (by omega), List.getElem?_set_ne (by omega), List.getElem?_set_ne (by omega), List.getElem?_set_ne (by omega), List.getElem?_drop]
        simp only [List.length_cons, List.length_nil]
        rw [List.getElem?_take, if_pos (by omega)]
        congr 1
        omega
  · rw [if_neg hj]
    symm
    rw [List.getElem?_eq_none]
    simp
    omega

/-- Four cells laid in a row. -/
def set4w (w : World) (g o : Nat) (d0 d1 d2 d3 : Value) : World := (((w.setCell ⟨g, o, none⟩ d0).setCell ⟨g, o + 1, none⟩ d1).setCell ⟨g, o + 2, none⟩ d2).setCell ⟨g, o + 3, none⟩ d3

theorem NodeAt.setVal {B q : Nat} {w : World} {x : Nd} (h : NodeAt B w q x) {i g c : Nat} {v : Vl} (hi : i < x.vals.length) (hq : w.cell? ⟨q, 2, none⟩ = some (.slice (some ⟨g, 0, none⟩) x.vals.length c)) {d0 d1 d2 d3 : Value} (hd : VlAt w [d0, d1, d2, d3] v) :
    NodeAt B (set4w w g (i * 4) d0 d1 d2 d3) q (x.setVal i v) ∧ Mut B [86] w (set4w w g (i * 4) d0 d1 d2 d3) := by
  obtain ⟨h0, kv, vv, iv, vc, h1, h2, h4, h6, h7⟩ := h
  have hvv : vv = .slice (some ⟨g, 0, none⟩) x.vals.length c := by
    rw [cell_of h1] at hq
    simpa using hq
  subst hvv
  obtain ⟨hl, h4'⟩ := h4
  rcases h4' with ⟨h4', _⟩ | ⟨g', cap, cur, hv', hBg, hg, hn, hcm, hcs, ht⟩
  · cases h4'
  · simp only [Value.slice.injEq, Option.some.injEq, Addr.mk.injEq] at hv'
    obtain ⟨⟨rfl, _, _⟩, _, rfl⟩ := hv'
    have hm : Mut B [86] w (set4w w g (i * 4) d0 d1 d2 d3) :=
      ((((Mut.refl B [86] w).setCell (p := ⟨g, i * 4, none⟩) hg (by simp) hBg d0).setCell (p := ⟨g, i * 4 + 1, none⟩) (heap_set hg _ _) (by simp) hBg d1).setCell (p := ⟨g, i * 4 + 2, none⟩) (heap_set (heap_set hg _ _) _ _) (by simp) hBg d2).setCell (p := ⟨g, i * 4 + 3, none⟩) (heap_set (heap_set (heap_set hg _ _) _ _) _ _) (by simp) hBg d3
    have hg4 := heap_set (heap_set (heap_set (heap_set hg (i * 4) d0) (i * 4 + 1) d1) (i * 4 + 2) d2) (i * 4 + 3) d3
    refine ⟨⟨h0, kv, _, iv, vc.take (i * 4) ++ ([d0, d1, d2, d3] ++ vc.drop ((i + 1) * 4)), hm.keepc h1 (by decide), own_mut h2 hm (by decide), ?_, ?_, own_mut h7 hm (by decide)⟩, hm⟩
    · have hlen : (x.setVal i v).vals.length = x.vals.length := List.length_set ..
      have e4 : cur.toList.length = c * 4 := by rw [Array.length_toList]; exact hcs
      rw [hlen]
      refine ⟨?_, .inr ⟨g, c, _, rfl, hBg, hg4, hn, hcm, by simpa using hcs, ?_⟩⟩
      · simp only [List.length_append, List.length_take, List.length_drop, List.length_cons, List.length_nil]; omega
      · simp only [Array.toList_setIfInBounds]
        rw [set4 _ _ _ _ _ _ _ (by omega) (by omega), ht, show i * 4 + 4 = (i + 1) * 4 by omega]
    · exact (h6.mut hm (by decide)).set (hd.mut hm (by decide)) hi
end Go.Proofs.YtpfjhehjmhkbpaaGreatDoor

namespace Go.Proofs.YtpfjhehjmhkbpaaGreatDoor
open Go.RowKit

/-- Where a part of a slice begins. -/
def subAddr (A : Option Addr) (a c s : Nat) : Option Addr := if c = a then A else A.map fun x => x.add (a * s)

theorem run_sub {t E : TypeId} {sz : Nat} (ht : Tryz.prog.underlying t = some (.slice E)) (hz : (Tryz.prog.info? E).map (·.size) = some sz) (A : Option Addr) {n c a b : Nat} (hab : a ≤ b) (hbc : b ≤ c) (W : World) :
    (Instr.slice t (.slice A n c) (some (.int .i64 (a : Int))) (some (.int .i64 (b : Int))) none).run Tryz.prog W = .ok (.slice (subAddr A a c sz) (b - a) (c - a)) W := by
  have he : Tryz.prog.elem t = E := by unfold Program.elem; rw [ht]
  have hz' : (sizeOf E).run Tryz.prog W = .ok sz W := by
    cases hi : Tryz.prog.info? E with
    | none => rw [hi] at hz; cases hz
    | some i =>
      rw [hi] at hz
      simp only [Option.map_some, Option.some.injEq] at hz
      simp [Go.sizeOf, typeInfo, hi, hz]
  rw [run_slice_lh _ t A n c (by rw [he]; exact ht) .i64 .i64 a b (by omega) (by omega) (by omega), he, hz']
  simp [sliced, subAddr]

theorem At.sub {w : World} {A : Option Addr} {xs : List Value} {n c sz : Nat} (h : At w A xs) (hl : xs.length = n * sz) {a b : Nat} (hab : a ≤ b) (hb : b ≤ n) (hn : n ≤ c) : At w (subAddr A a c sz) ((xs.take (b * sz)).drop (a * sz)) := by
  rcases h with rfl | ⟨ad, rfl, h⟩
  · left; simp
  · unfold subAddr
    by_cases hc : c = a
    · left
      have : b = a := by omega
      subst this
      rw [List.drop_eq_nil_iff, List.length_take]; omega
    · right
      rw [if_neg hc]
      refine ⟨_, rfl, fun j u hu => ?_⟩
      rw [List.getElem?_drop, List.getElem?_take] at hu
      split at hu
      · rw [Addr.add_add, h _ u hu]
      · cases hu

theorem sub_none {A : Option Addr} {a c s : Nat} (h : subAddr A a c s = none) : A = none := by unfold subAddr at h; split at h <;> simp_all

theorem At.below {w w' : World} {A : Option Addr} {news : List Value} (h : At w A news) (hb : Below w.heap.size w w') : At w' A news := by
  rcases h with h | ⟨ad, rfl, h⟩
  · exact .inl h
  · refine .inr ⟨ad, rfl, fun j u hu => ?_⟩
    have h1 := h j u hu
    have h2 : (ad.add j).block < w.heap.size := by
      unfold World.cell? at h1
      cases hb : w.heap[(ad.add j).block]? with
      | none => rw [hb] at h1; simp at h1
      | some o => exact blk_lt hb
    rw [← h1]
    exact hb.cell h2

theorem own_at {w : World} {B e sz n : Nat} {A : Option Addr} {c : Nat} {xs : List Value} (h : w.ownsRow B e sz (.slice A n c) n xs) : At w A xs := by
  obtain ⟨h1, h2 | ⟨g, cap, cur, h2, _, hg, hnc, hcm, hcs, ht⟩⟩ := h
  · obtain ⟨h2, rfl⟩ := h2
    exact .inl (List.eq_nil_of_length_eq_zero (by simpa using h1))
  · simp only [Value.slice.injEq] at h2
    obtain ⟨rfl, _, rfl⟩ := h2
    refine .inr ⟨_, rfl, fun j u hu => ?_⟩
    rw [Addr.add_mid, cell_of hg, Nat.zero_add]
    have hj := (List.getElem?_eq_some_iff.1 hu).1
    have h3 : (cur.toList.take (n * sz))[j]? = xs[j]? := by rw [ht]
    rw [List.getElem?_take, if_pos (by omega), hu] at h3
    rw [← Array.getElem?_toList]; exact h3
theorem one_str (l : List ByteArray) : ∀ u ∈ l.map Value.string, u.oneCell' = true := by
  intro u hu
  obtain ⟨_, _, rfl⟩ := List.mem_map.1 hu
  rfl
theorem one_int (l : List Nat) : ∀ u ∈ l.map (fun k : Nat => Value.int .i64 (k : Int)), u.oneCell' = true := by
  intro u hu
  obtain ⟨_, _, rfl⟩ := List.mem_map.1 hu
  rfl

set_option maxRecDepth 4000 in
set_option maxHeartbeats 400000 in
theorem cut_leafw (B : Nat) (w : World) (q : Nat) (x : Nd) (a b : Nat) (h : NodeAt B w q x) (hok : x.Ok) (hlf : x.leaf = true) (hab : a ≤ b) (hb : b ≤ x.keys.length) :
    Calls Tryz.prog 186 #[.pointer (some ⟨q, 0, none⟩), .int .i64 (a : Int), .int .i64 (b : Int)] w fun e w' => ∃ q', e = .returned (.pointer (some ⟨q', 0, none⟩)) ∧ NodeAt w.heap.size w' q' (x.cut a b) ∧ Below w.heap.size w w' := by
  obtain ⟨h0, kv, vv, iv, vc, h1, h2, h4, h6, h7⟩ := h
  obtain ⟨A1, c1, rfl, l1, m1, z1⟩ := own_slice h2
  obtain ⟨A2, c2, rfl, l2, m2, z2⟩ := own_slice h4
  have q0 : w.cell? ⟨q, 0, none⟩ = some (.bool true) := by rw [cell_of h1, hlf]; rfl
  have q1 : w.cell? ⟨q, 1, none⟩ = some (.slice A1 x.keys.length c1) := by rw [cell_of h1]; rfl
  have q2 : w.cell? ⟨q, 2, none⟩ = some (.slice A2 x.vals.length c2) := by rw [cell_of h1]; rfl
  have hk : x.vals.length = x.keys.length := (hok.lf hlf).1
  rw [hk] at q2 l2
  obtain ⟨n, hn⟩ : ∃ n, n = x.keys.length := ⟨_, rfl⟩
  rw [← hn] at hb q1 q2 l1 l2
  have hnH := Lib.hid hn; clear hn
  have hkH := Lib.hid hk; clear hk
  have hfew := hok.few
  rw [← hnH.out] at hfew
  have hlfH := Lib.hid hlf; clear hlf
  unfold maxLen at m1 m2
  have hat1 := own_at h2
  have hat2 := own_at h4
  clear h2 h4 h7 h1
  go_enter Tryz.func186, Tryz.ntmps186
  have s1 := run_sub (n := n) Tryz.underlying22 sizeES A1 hab (show b ≤ c1 by omega)
  have s2 := run_sub (n := n) Tryz.underlying90 sizeEV A2 hab (show b ≤ c2 by omega)
  have hc1 := cloneS (subAddr A1 a c1 1) (b - a) (c1 - a) _ w.drew (hat1.sub (by simp [hnH.out]) hab hb l1) (by rw [List.length_drop, List.length_take, List.length_map, ← hnH.out]; omega) (fun h => by have := z1 (sub_none h); omega) (fun h => by have := z1 (sub_none h); omega) (fun u hu => one_str _ u (mem_cut hu)) (by omega)
  have mixed : Tryz.prog.follows .mixedOrders = true := by kernel_rfl
  go_wp2_with fail
  go_region_held3 (fun W => W.cell? ⟨q, 0, none⟩ = some (.bool true) ∧ W.cell? ⟨q, 1, none⟩ = some (.slice A1 n c1)) (first | exact ⟨q0, q1⟩ | exact ⟨q01, q11⟩ | exact ⟨cell_alloc q01 _, cell_alloc q11 _⟩) (first
    | (go_at_call 140; refine hc1.mono ?_; rintro e w1 ⟨v1, rfl, o1, b1⟩; obtain ⟨A3, c3, rfl, -, -, -⟩ := own_slice o1; have q01 := bel_cell b1 q0; have q11 := bel_cell b1 q1; have q21 := bel_cell b1 q2))
  have hN := heap_new w1 (.cells #[.bool true, .slice A3 (b - a) c3, .slice none 0 0, .slice none 0 0] 92)
  have bel2 : Below w.heap.size w (w1.alloc (.cells #[.bool true, .slice A3 (b - a) c3, .slice none 0 0, .slice none 0 0] 92)) := bel_alloc (bel_undrew b1) _
  have q02 := cell_alloc q01 (.cells #[.bool true, .slice A3 (b - a) c3, .slice none 0 0, .slice none 0 0] 92)
  have q22 := cell_alloc q21 (.cells #[.bool true, .slice A3 (b - a) c3, .slice none 0 0, .slice none 0 0] 92)
  have hat22 : At (w1.alloc (.cells #[.bool true, .slice A3 (b - a) c3, .slice none 0 0, .slice none 0 0] 92)) A2 vc := (hat2.below (bel_undrew b1)).alloc _
  have o2 := own_alloc o1 (.cells #[.bool true, .slice A3 (b - a) c3, .slice none 0 0, .slice none 0 0] 92)
  have hnb : w.heap.size ≤ w1.heap.size := (bel_undrew b1).size
  clear q01 q11 q21 o1 b1 hc1 s1 q1 q0
  generalize w1.alloc (.cells #[.bool true, .slice A3 (b - a) c3, .slice none 0 0, .slice none 0 0] 92) = w2 at *
  generalize w1.heap.size = nb at *
  clear hat2
  have hc2 := cloneV (subAddr A2 a c2 4) (b - a) (c2 - a) _ w2 (hat22.sub (by rw [h6.len, hkH.out, ← hnH.out]) hab hb l2) (by rw [List.length_drop, List.length_take, h6.len, hkH.out, ← hnH.out]; omega) (fun h => by have := z2 (sub_none h); omega) (fun h => by have := z2 (sub_none h); omega) (fun u hu => h6.one u (mem_cut hu)) (by omega)
  go_wp2_with (go_at_call 141; refine hc2.mono ?_; rintro e w3 ⟨v3, rfl, o3, b3⟩; obtain ⟨A4, c4, rfl, -, -, -⟩ := own_slice o3; have hN3 := heap_below hN b3 (blk_lt hN); have n2 : w3.cell? ⟨nb, 2, none⟩ = some (.slice none 0 0) := (by rw [cell_of hN3]; rfl); have f2 := unfrozen_of hN3 2)
  have hm4 : Mut w.heap.size [92] w3 (w3.setCell ⟨nb, 2, none⟩ (.slice A4 (b - a) c4)) := (Mut.refl _ _ _).setCell (p := ⟨nb, 2, none⟩) hN3 (by simp) hnb _
  have hN4 := heap_set hN3 2 (.slice A4 (b - a) c4)
  generalize w3.setCell ⟨nb, 2, none⟩ (.slice A4 (b - a) c4) = w4 at *
  go_wp2
  go_ret
  have bel3 : Below w.heap.size w w3 := bel_then bel2 bel2.size b3
  have bel4 : Below w.heap.size w w4 := bel3.trans (hm4.below bel3.size)
  refine ⟨nb, rfl, ⟨hnb, .slice A3 (b - a) c3, .slice A4 (b - a) c4, .slice none 0 0, (vc.take (b * 4)).drop (a * 4), ?_, ?_, ?_, ?_, ?_⟩, bel4⟩
  all_goals rw [cut_leaf hlfH.out]
  · exact hN4
  · have := own_mut (own_below o2 b3) hm4 (by decide)
    rw [show ((x.keys.take b).drop a).length = b - a by rw [List.length_drop, List.length_take, ← hnH.out]; omega]
    simp only [Nat.mul_one] at this
    rw [List.map_drop, List.map_take]
    exact own_base this (Nat.le_refl _)
  · have := own_mut o3 hm4 (by decide)
    rw [show ((x.vals.take b).drop a).length = b - a by rw [List.length_drop, List.length_take, hkH.out, ← hnH.out]; omega]
    exact own_base this bel2.size
  · have h7 := (h6.mut (.of_below bel4 0 []) (by decide)).take b
    exact h7.drop a
  · exact ⟨by simp, .inl ⟨rfl, rfl⟩⟩

set_option maxRecDepth 4000 in
set_option maxHeartbeats 400000 in
theorem cut_inw (B : Nat) (w : World) (q : Nat) (x : Nd) (a b : Nat) (h : NodeAt B w q x) (hok : x.Ok) (hlf : x.leaf = false) (hab : a ≤ b) (hb : b ≤ x.keys.length) :
    Calls Tryz.prog 186 #[.pointer (some ⟨q, 0, none⟩), .int .i64 (a : Int), .int .i64 (b : Int)] w fun e w' => ∃ q', e = .returned (.pointer (some ⟨q', 0, none⟩)) ∧ NodeAt w.heap.size w' q' (x.cut a b) ∧ Below w.heap.size w w' := by
  obtain ⟨h0, kv, vv, iv, vc, h1, h2, h4, h6, h7⟩ := h
  obtain ⟨A1, c1, rfl, l1, m1, z1⟩ := own_slice h2
  obtain ⟨A2, c2, rfl, l2, m2, z2⟩ := own_slice h7
  have q0 : w.cell? ⟨q, 0, none⟩ = some (.bool false) := by rw [cell_of h1, hlf]; rfl
  have q1 : w.cell? ⟨q, 1, none⟩ = some (.slice A1 x.keys.length c1) := by rw [cell_of h1]; rfl
  have q2 : w.cell? ⟨q, 3, none⟩ = some (.slice A2 x.kids.length c2) := by rw [cell_of h1]; rfl
  have hk : x.kids.length = x.keys.length + 1 := (hok.nd hlf).1
  rw [hk] at q2 l2
  obtain ⟨n, hn⟩ : ∃ n, n = x.keys.length := ⟨_, rfl⟩
  rw [← hn] at hb q1 q2 l1 l2
  have hnH := Lib.hid hn; clear hn
  have hkH := Lib.hid hk; clear hk
  have hfew := hok.few
  rw [← hnH.out] at hfew
  have hlfH := Lib.hid hlf; clear hlf
  unfold maxLen at m1 m2
  have hat1 := own_at h2
  have hat2 := own_at h7
  clear h2 h4 h6 h1
  go_enter Tryz.func186, Tryz.ntmps186
  have s1 := run_sub (n := n) Tryz.underlying22 sizeES A1 hab (show b ≤ c1 by omega)
  have s2 : ∀ W, (Instr.slice 48 (.slice A2 (n + 1) c2) (some (.int .i64 (a : Int))) (some (.int .i64 ((b : Int) + 1))) none).run Tryz.prog W = .ok (.slice (subAddr A2 a c2 1) (b + 1 - a) (c2 - a)) W := fun W => run_sub (n := n + 1) Tryz.underlying48 sizeEI A2 (b := b + 1) (by omega) (show b + 1 ≤ c2 by omega) W
  have hc1 := cloneS (subAddr A1 a c1 1) (b - a) (c1 - a) _ w.drew (hat1.sub (by simp [hnH.out]) hab hb l1) (by rw [List.length_drop, List.length_take, List.length_map, ← hnH.out]; omega) (fun h => by have := z1 (sub_none h); omega) (fun h => by have := z1 (sub_none h); omega) (fun u hu => one_str _ u (mem_cut hu)) (by omega)
  have mixed : Tryz.prog.follows .mixedOrders = true := by kernel_rfl
  go_wp2_with fail
  go_region_held3 (fun W => W.cell? ⟨q, 0, none⟩ = some (.bool false) ∧ W.cell? ⟨q, 1, none⟩ = some (.slice A1 n c1)) (first | exact ⟨q0, q1⟩ | exact ⟨q01, q11⟩ | exact ⟨cell_alloc q01 _, cell_alloc q11 _⟩) (first
    | (go_at_call 140; refine hc1.mono ?_; rintro e w1 ⟨v1, rfl, o1, b1⟩; obtain ⟨A3, c3, rfl, -, -, -⟩ := own_slice o1; have q01 := bel_cell b1 q0; have q11 := bel_cell b1 q1; have q21 := bel_cell b1 q2))
  have hN := heap_new w1 (.cells #[.bool false, .slice A3 (b - a) c3, .slice none 0 0, .slice none 0 0] 92)
  have bel2 : Below w.heap.size w (w1.alloc (.cells #[.bool false, .slice A3 (b - a) c3, .slice none 0 0, .slice none 0 0] 92)) := bel_alloc (bel_undrew b1) _
  have q02 := cell_alloc q01 (.cells #[.bool false, .slice A3 (b - a) c3, .slice none 0 0, .slice none 0 0] 92)
  have q22 := cell_alloc q21 (.cells #[.bool false, .slice A3 (b - a) c3, .slice none 0 0, .slice none 0 0] 92)
  have hat22 : At (w1.alloc (.cells #[.bool false, .slice A3 (b - a) c3, .slice none 0 0, .slice none 0 0] 92)) A2 _ := (hat2.below (bel_undrew b1)).alloc _
  have o2 := own_alloc o1 (.cells #[.bool false, .slice A3 (b - a) c3, .slice none 0 0, .slice none 0 0] 92)
  have hnb : w.heap.size ≤ w1.heap.size := (bel_undrew b1).size
  clear q01 q11 q21 o1 b1 hc1 s1 q1 q0
  generalize w1.alloc (.cells #[.bool false, .slice A3 (b - a) c3, .slice none 0 0, .slice none 0 0] 92) = w2 at *
  generalize w1.heap.size = nb at *
  clear hat2
  have hc2 := cloneI (subAddr A2 a c2 1) (b + 1 - a) (c2 - a) _ w2 (hat22.sub (b := b + 1) (n := n + 1) (by rw [List.length_map, hkH.out, ← hnH.out]; omega) (by omega) (by omega) l2) (by rw [List.length_drop, List.length_take, List.length_map, hkH.out, ← hnH.out]; omega) (fun h => by have := z2 (sub_none h); omega) (fun h => by have := z2 (sub_none h); omega) (fun u hu => one_int _ u (mem_cut hu)) (by omega)
  go_wp2_with (go_at_call 142; refine hc2.mono ?_; rintro e w3 ⟨v3, rfl, o3, b3⟩; obtain ⟨A4, c4, rfl, -, -, -⟩ := own_slice o3; have hN3 := heap_below hN b3 (blk_lt hN); have n2 : w3.cell? ⟨nb, 3, none⟩ = some (.slice none 0 0) := (by rw [cell_of hN3]; rfl); have f2 := unfrozen_of hN3 3)
  have hm4 : Mut w.heap.size [92] w3 (w3.setCell ⟨nb, 3, none⟩ (.slice A4 (b + 1 - a) c4)) := (Mut.refl _ _ _).setCell (p := ⟨nb, 3, none⟩) hN3 (by simp) hnb _
  have hN4 := heap_set hN3 3 (.slice A4 (b + 1 - a) c4)
  generalize w3.setCell ⟨nb, 3, none⟩ (.slice A4 (b + 1 - a) c4) = w4 at *
  go_wp2
  go_ret
  have bel3 : Below w.heap.size w w3 := bel_then bel2 bel2.size b3
  have bel4 : Below w.heap.size w w4 := bel3.trans (hm4.below bel3.size)
  refine ⟨nb, rfl, ⟨hnb, .slice A3 (b - a) c3, .slice none 0 0, .slice A4 (b + 1 - a) c4, [], ?_, ?_, ?_, ?_, ?_⟩, bel4⟩
  all_goals rw [cut_in hlfH.out]
  · exact hN4
  · have := own_mut (own_below o2 b3) hm4 (by decide)
    rw [show ((x.keys.take b).drop a).length = b - a by rw [List.length_drop, List.length_take, ← hnH.out]; omega]
    simp only [Nat.mul_one] at this
    rw [List.map_drop, List.map_take]
    exact own_base this (Nat.le_refl _)
  · exact ⟨by simp, .inl ⟨rfl, rfl⟩⟩
  · exact ValsAt.nil
  · have := own_mut o3 hm4 (by decide)
    rw [show ((x.kids.take (b + 1)).drop a).length = b + 1 - a by rw [List.length_drop, List.length_take, hkH.out, ← hnH.out]; omega]
    simp only [Nat.mul_one] at this
    rw [List.map_drop, List.map_take]
    exact own_base this bel2.size

theorem cut_any (B : Nat) (w : World) (q : Nat) (x : Nd) (a b : Nat) (h : NodeAt B w q x) (hok : x.Ok) (hab : a ≤ b) (hb : b ≤ x.keys.length) :
    Calls Tryz.prog 186 #[.pointer (some ⟨q, 0, none⟩), .int .i64 (a : Int), .int .i64 (b : Int)] w fun e w' => ∃ q', e = .returned (.pointer (some ⟨q', 0, none⟩)) ∧ NodeAt w.heap.size w' q' (x.cut a b) ∧ Below w.heap.size w w' := by
  cases hl : x.leaf
  · exact cut_inw B w q x a b h hok hl hab hb
  · exact cut_leafw B w q x a b h hok hl hab hb
end Go.Proofs.YtpfjhehjmhkbpaaGreatDoor

namespace Go.Proofs.YtpfjhehjmhkbpaaGreatDoor
open Go.RowKit

theorem NodeAt.base_ {B B' q : Nat} {w : World} {x : Nd} (h : NodeAt B w q x) (hB : B' ≤ B) : NodeAt B' w q x := by
  obtain ⟨h0, kv, vv, iv, vc, h1, h2, h4, h6, h7⟩ := h
  exact ⟨Nat.le_trans hB h0, kv, vv, iv, vc, h1, own_base h2 hB, own_base h4 hB, h6, own_base h7 hB⟩

set_option maxRecDepth 4000 in
set_option maxHeartbeats 400000 in
theorem at_leaf (B : Nat) (w : World) (q : Nat) (x : Nd) (i : Nat) (k : ByteArray) (h : NodeAt B w q x) (hok : x.Ok) (hl : x.leaf = true) (hk : x.keys[i]? = some k) :
    Calls Tryz.prog 158 #[.pointer (some ⟨q, 0, none⟩), .int .i64 (i : Int)] w fun e w' => ∃ q1 q2, e = .returned (.tuple #[.pointer (some ⟨q1, 0, none⟩), .string k, .pointer (some ⟨q2, 0, none⟩)]) ∧
      NodeAt w.heap.size w' q1 (x.lo_ i) ∧ NodeAt w.heap.size w' q2 (x.hi_ i) ∧ Below w.heap.size w w' := by
  obtain ⟨A, c, e1, g2, g3, g4, hrd⟩ := h.keysRd
  have hi := (List.getElem?_eq_some_iff.1 hk).1
  have e0 := h.leaf0
  rw [hl] at e0
  obtain ⟨kb, ko, rfl, hkc, hkb⟩ := hrd.addr? (by omega)
  have ek := hkc i k hk
  have hcut := fun W hW a b hab hb => cut_any B W q x a b hW hok hab hb
  have c1 : Calls Tryz.prog 186 #[.pointer (some ⟨q, 0, none⟩), .int .i64 0, .int .i64 (i : Int)] w.drew fun e w' => ∃ q', e = .returned (.pointer (some ⟨q', 0, none⟩)) ∧ NodeAt w.drew.heap.size w' q' (x.cut 0 i) ∧ Below w.drew.heap.size w.drew w' := hcut w.drew h.drew 0 i (Nat.zero_le _) (by omega)
  have hd := Lib.hid h.drew
  obtain ⟨n, hn⟩ : ∃ n, n = x.keys.length := ⟨_, rfl⟩
  have hhi : x.hi_ i = x.cut i n := by unfold Nd.hi_; rw [if_pos hl, ← hn]
  have hfew := hok.few
  rw [← hn] at e1 hi g2 hfew
  have hnH := Lib.hid hn
  have hhiH := Lib.hid hhi
  have hcutH := Lib.hid hcut
  clear hn hhi hcut hk hkc hrd h g3 g4 hl hok
  have mixed : Tryz.prog.follows .mixedOrders = true := by kernel_rfl
  go_enter Tryz.func158, Tryz.ntmps158
  go_wp2_with fail
  go_region_held3 (fun W => W.cell? ⟨q, 1, none⟩ = some (.slice (some ⟨kb, ko, none⟩) n c) ∧ W.cell? ⟨kb, ko + i, none⟩ = some (.string k)) (first | exact ⟨e1, ek⟩ | exact ⟨e11, ek1⟩ | exact ⟨e12, ek2⟩) (first
    | (go_at_call 186; (with_reducible refine c1.mono ?_); rintro e w1 ⟨q1, rfl, n1, b1⟩; have e11 := bel_cell b1 e1; have ek1 := bel_cell b1 ek)
    | (go_at_call 186; refine (hcutH.out w1 (hd.out.below b1) i n (by omega) (by rw [hnH.out]; exact Nat.le_refl _)).mono ?_; rintro e w2 ⟨q2, rfl, n2, b2⟩; have e12 := bel_cell b2 e11; have ek2 := bel_cell b2 ek1))
  go_wp2
  go_ret3
  refine ⟨q1, q2, rfl, n1.below b2, ?_, bel_then (bel_undrew b1) (bel_undrew b1).size b2⟩
  rw [hhiH.out]
  exact n2.base_ (bel_undrew b1).size

set_option maxRecDepth 4000 in
set_option maxHeartbeats 400000 in
theorem at_in (B : Nat) (w : World) (q : Nat) (x : Nd) (i : Nat) (k : ByteArray) (h : NodeAt B w q x) (hok : x.Ok) (hl : x.leaf = false) (hk : x.keys[i]? = some k) :
    Calls Tryz.prog 158 #[.pointer (some ⟨q, 0, none⟩), .int .i64 (i : Int)] w fun e w' => ∃ q1 q2, e = .returned (.tuple #[.pointer (some ⟨q1, 0, none⟩), .string k, .pointer (some ⟨q2, 0, none⟩)]) ∧
      NodeAt w.heap.size w' q1 (x.lo_ i) ∧ NodeAt w.heap.size w' q2 (x.hi_ i) ∧ Below w.heap.size w w' := by
  obtain ⟨A, c, e1, g2, g3, g4, hrd⟩ := h.keysRd
  have hi := (List.getElem?_eq_some_iff.1 hk).1
  have e0 := h.leaf0
  rw [hl] at e0
  obtain ⟨kb, ko, rfl, hkc, hkb⟩ := hrd.addr? (by omega)
  have ek := hkc i k hk
  have hcut := fun W hW a b hab hb => cut_any B W q x a b hW hok hab hb
  have c1 : Calls Tryz.prog 186 #[.pointer (some ⟨q, 0, none⟩), .int .i64 0, .int .i64 (i : Int)] w.drew fun e w' => ∃ q', e = .returned (.pointer (some ⟨q', 0, none⟩)) ∧ NodeAt w.drew.heap.size w' q' (x.cut 0 i) ∧ Below w.drew.heap.size w.drew w' := hcut w.drew h.drew 0 i (Nat.zero_le _) (by omega)
  have hd := Lib.hid h.drew
  obtain ⟨n, hn⟩ : ∃ n, n = x.keys.length := ⟨_, rfl⟩
  have hhi : x.hi_ i = x.cut (i + 1) n := by unfold Nd.hi_; rw [if_neg (by simp [hl]), ← hn]
  have hfew := hok.few
  rw [← hn] at e1 hi g2 hfew
  have hnH := Lib.hid hn
  have hhiH := Lib.hid hhi
  have hcutH := Lib.hid hcut
  have hcut2 := Lib.hid (show ∀ W, NodeAt B W q x → i + 1 ≤ n → n ≤ x.keys.length → Calls Tryz.prog 186 #[.pointer (some ⟨q, 0, none⟩), .int .i64 ((i : Int) + 1), .int .i64 (n : Int)] W fun e w' => ∃ q', e = .returned (.pointer (some ⟨q', 0, none⟩)) ∧ NodeAt W.heap.size w' q' (x.cut (i + 1) n) ∧ Below W.heap.size W w' from fun W hW h1 h2 => hcut W hW (i + 1) n h1 h2)
  clear hn hhi hcut hk hkc hrd h g3 g4 hl hok
  have hi2 := Lib.hid (show i + 1 ≤ n from hi)
  have hw1 : IntKind.i64.wrap ((i : Int) + 1) = (i : Int) + 1 := by rw [IntKind.wrap_i64]; omega
  have mixed : Tryz.prog.follows .mixedOrders = true := by kernel_rfl
  go_enter Tryz.func158, Tryz.ntmps158
  go_wp2_with fail
  go_region_held3 (fun W => W.cell? ⟨q, 1, none⟩ = some (.slice (some ⟨kb, ko, none⟩) n c) ∧ W.cell? ⟨kb, ko + i, none⟩ = some (.string k)) (first | exact ⟨e1, ek⟩ | exact ⟨e11, ek1⟩ | exact ⟨e12, ek2⟩) (first
    | (go_at_call 186; (with_reducible refine c1.mono ?_); rintro e w1 ⟨q1, rfl, n1, b1⟩; have e11 := bel_cell b1 e1; have ek1 := bel_cell b1 ek)
    | (go_at_call 186; (with_reducible refine (hcut2.out w1 (hd.out.below b1) hi2.out (by rw [hnH.out]; exact Nat.le_refl _)).mono ?_); rintro e w2 ⟨q2, rfl, n2, b2⟩; have e12 := bel_cell b2 e11; have ek2 := bel_cell b2 ek1))
  go_wp2
  go_ret3
  refine ⟨q1, q2, rfl, n1.below b2, ?_, bel_then (bel_undrew b1) (bel_undrew b1).size b2⟩
  rw [hhiH.out]
  exact n2.base_ (bel_undrew b1).size

theorem at_any (B : Nat) (w : World) (q : Nat) (x : Nd) (i : Nat) (k : ByteArray) (h : NodeAt B w q x) (hok : x.Ok) (hk : x.keys[i]? = some k) :
    Calls Tryz.prog 158 #[.pointer (some ⟨q, 0, none⟩), .int .i64 (i : Int)] w fun e w' => ∃ q1 q2, e = .returned (.tuple #[.pointer (some ⟨q1, 0, none⟩), .string k, .pointer (some ⟨q2, 0, none⟩)]) ∧
      NodeAt w.heap.size w' q1 (x.lo_ i) ∧ NodeAt w.heap.size w' q2 (x.hi_ i) ∧ Below w.heap.size w w' := by
  cases hl : x.leaf
  · exact at_in B w q x i k h hok hl hk
  · exact at_leaf B w q x i k h hok hl hk
end Go.Proofs.YtpfjhehjmhkbpaaGreatDoor

namespace Go.Proofs.YtpfjhehjmhkbpaaGreatDoor
open Go.RowKit

/-- What split has found ahead of a place. -/
def Best (x : Nd) (i best m : Nat) : Prop := (∀ j, 1 ≤ j → j < i → m ≤ x.cost j) ∧ ((i = 1 ∧ best = 1 ∧ m = 1073741824) ∨ (1 ≤ best ∧ best < i ∧ m = x.cost best))

theorem Best.yes {x : Nd} {i best m c : Nat} (h : Best x i best m) (hi : 1 ≤ i) (hc : c = x.cost i) (hlt : c < m) : Best x (i + 1) i c := by
  refine ⟨fun j h1 h2 => ?_, .inr ⟨hi, by omega, hc⟩⟩
  by_cases e : j = i
  · subst e; omega
  · have := h.1 j h1 (by omega); omega
theorem Best.no {x : Nd} {i best m c : Nat} (h : Best x i best m) (hi : 1 ≤ i) (hc : c = x.cost i) (hlt : ¬ c < m) (hb : c < 1073741824) : Best x (i + 1) best m := by
  refine ⟨fun j h1 h2 => ?_, ?_⟩
  · by_cases e : j = i
    · subst e; omega
    · exact h.1 j h1 (by omega)
  · rcases h.2 with ⟨_, _, h3⟩ | ⟨h1, h2, h3⟩
    · omega
    · exact .inr ⟨h1, by omega, h3⟩

theorem Nd.cut_bytes_le {x : Nd} (h : x.Ok) {a b : Nat} (hab : a ≤ b) (hb : b ≤ x.keys.length) : (x.cut a b).bytes.length ≤ x.bytes.length + 2 := by
  have h1 := Nd.cut_ok h hab hb
  have h2 := enc_two h1.few
  rw [Nd.bytes_len, Nd.bytes_len]
  have h3 : sumLen (x.cut a b).entries ≤ sumLen x.entries := by
    rw [Nd.cut_entries]
    have e1 := sumLen_cut x.entries b
    have e2 := sumLen_cut (x.entries.take b) a
    omega
  have h4 : sumLen ((x.cut a b).kids.map enc) ≤ sumLen (x.kids.map enc) := by
    cases hl : x.leaf with
    | true => rw [cut_leaf hl]; simp [sumLen]
    | false =>
      rw [cut_in hl, List.map_drop, List.map_take]
      have e1 := sumLen_cut (x.kids.map enc) (b + 1)
      have e2 := sumLen_cut ((x.kids.map enc).take (b + 1)) a
      omega
  have h5 : 0 < (enc x.keys.length).length := List.length_pos_iff.2 (enc_ne _)
  omega

set_option maxRecDepth 4000 in
set_option maxHeartbeats 800000 in
theorem split_any (B : Nat) (w : World) (q : Nat) (x : Nd) (h : NodeAt B w q x) (hok : x.Ok) (h2 : 2 ≤ x.keys.length) (hlen : x.bytes.length ≤ 900000) :
    Calls Tryz.prog 125 #[.pointer (some ⟨q, 0, none⟩)] w fun e w' => ∃ q1 q2 i k, e = .returned (.tuple #[.pointer (some ⟨q1, 0, none⟩), .string k, .pointer (some ⟨q2, 0, none⟩)]) ∧
      (1 ≤ i ∧ x.keys[i]? = some k ∧ ∀ j, 1 ≤ j → j < x.keys.length → x.cost i ≤ x.cost j) ∧
      NodeAt w.heap.size w' q1 (x.lo_ i) ∧ NodeAt w.heap.size w' q2 (x.hi_ i) ∧ Below w.heap.size w w' := by
  obtain ⟨n, hn⟩ : ∃ n, n = x.keys.length := ⟨_, rfl⟩
  have hfew := hok.few
  rw [← hn] at h2 hfew
  have hlo : ∀ i, i < n → (x.lo_ i).Ok ∧ (x.hi_ i).Ok ∧ (x.lo_ i).bytes.length ≤ 900002 ∧ (x.hi_ i).bytes.length ≤ 900002 := fun i hi => by
    have a1 := Nd.cut_ok hok (a := 0) (b := i) (Nat.zero_le _) (by omega)
    have a2 := Nd.cut_bytes_le hok (a := 0) (b := i) (Nat.zero_le _) (by omega)
    refine ⟨a1, ?_, by unfold Nd.lo_; omega, ?_⟩
    · unfold Nd.hi_; split
      · exact Nd.cut_ok hok (by omega) (Nat.le_refl _)
      · exact Nd.cut_ok hok (by omega) (Nat.le_refl _)
    · unfold Nd.hi_; split
      · have := Nd.cut_bytes_le hok (a := i) (b := x.keys.length) (by omega) (Nat.le_refl _); omega
      · have := Nd.cut_bytes_le hok (a := i + 1) (b := x.keys.length) (by omega) (Nat.le_refl _); omega
  have hloH := Lib.hid hlo
  have hnH := Lib.hid hn
  have hok2 := Lib.hid hok
  have hH := Lib.hid h
  clear hlo hn h hok
  go_enter Tryz.func125, Tryz.ntmps125
  go_wp2_with fail
  go_loopw [5, 6, 7] (fun b m i wr => ∃ (best most k : Nat), b = .int .i64 (best : Int) ∧ m = .int .i64 (most : Int) ∧ i = .int .i64 (k : Int) ∧ 1 ≤ k ∧ k ≤ n ∧ best < n ∧ most ≤ 1073741824 ∧ Hid (Best x k best most) ∧ Below w.heap.size w wr) (fun _ _ i _ => n - (intOf i).toNat)
  case atStart => exact ⟨1, 1073741824, 1, rfl, rfl, rfl, by omega, by omega, by omega, by omega, ⟨fun j h1 h2 => by omega, .inl ⟨rfl, rfl, rfl⟩⟩, .refl _ _⟩
  case round =>
    obtain ⟨best, most, k, rfl, rfl, rfl, hk1, hkn, hbn, hm, hbest, hbel⟩ := hrel
    have hNd := hH.out.below hbel
    obtain ⟨A, c, e1, g2, g3, g4, hrd⟩ := hNd.keysRd
    rw [← hnH.out] at e1 g2
    clear g3 g4 hrd
    by_cases hlt : k < n
    · obtain ⟨key, hkey⟩ : ∃ key, x.keys[k]? = some key := ⟨_, List.getElem?_eq_getElem (by rw [← hnH.out]; exact hlt)⟩
      have hat := at_any B wr q x k key hNd hok2.out hkey
      obtain ⟨o1, o2, o3, o4⟩ := hloH.out k hlt
      have hcost : x.cost k = max (x.lo_ k).bytes.length (x.hi_ k).bytes.length := rfl
      have hby1 := Lib.hid (fun (W : World) (B : Nat) (q : Nat) (hW : NodeAt B W q (x.lo_ k)) => bytes_any B W q _ hW o1 (Nat.le_trans o3 (by omega)))
      have hby2 := Lib.hid (fun (W : World) (B : Nat) (q : Nat) (hW : NodeAt B W q (x.hi_ k)) => bytes_any B W q _ hW o2 (Nat.le_trans o4 (by omega)))
      generalize (x.lo_ k).bytes.length = La at *
      generalize (x.hi_ k).bytes.length = Lb at *
      have hcH := Lib.hid hcost
      clear hcost o1 o2 hkey
      go_wp2_with (first
        | (go_at_call 158; refine hat.mono ?_; rintro e w1 ⟨q1, q2, rfl, n1, n2, b1⟩)
        | (go_at_call 83; (with_reducible refine (hby1.out _ _ _ n1).mono ?_); rintro e w2 ⟨v2, rfl, v2o, b2⟩; obtain ⟨A2, c2, rfl, -, -, -⟩ := own_slice v2o; have n22 := n2.below b2)
        | (go_at_call 83; (with_reducible refine (hby2.out _ _ _ n22).mono ?_); rintro e w3 ⟨v3, rfl, v3o, b3⟩; obtain ⟨A3, c3, rfl, -, -, -⟩ := own_slice v3o))
      all_goals
        refine ⟨?_, by simp [intOf]; omega⟩
        have bel1 : Below w.heap.size w w1 := bel_then hbel hbel.size b1
        have bel2 : Below w.heap.size w w2 := bel_then bel1 bel1.size b2
        have bel3 : Below w.heap.size w w3 := bel_then bel2 bel2.size b3
        by_cases hmx : La < Lb
        · have hcm : Lb = x.cost k := by rw [hcH.out]; omega
          try simp only [if_pos hmx] at *
          first
          | (refine ⟨k, Lb, k + 1, rfl, rfl, by simp, ?_, ?_, ?_, ?_, hbest.out.yes hk1 hcm ?_, bel3⟩ <;> omega)
          | (refine ⟨best, most, k + 1, rfl, rfl, by simp, ?_, ?_, ?_, ?_, hbest.out.no hk1 hcm ?_ ?_, bel3⟩ <;> omega)
        · have hcm : La = x.cost k := by rw [hcH.out]; omega
          try simp only [if_neg hmx] at *
          first
          | (refine ⟨k, La, k + 1, rfl, rfl, by simp, ?_, ?_, ?_, ?_, hbest.out.yes hk1 hcm ?_, bel3⟩ <;> omega)
          | (refine ⟨best, most, k + 1, rfl, rfl, by simp, ?_, ?_, ?_, ?_, hbest.out.no hk1 hcm ?_ ?_, bel3⟩ <;> omega)
    · obtain rfl : k = n := by omega
      have hB : 1 ≤ best ∧ ∀ j, 1 ≤ j → j < k → x.cost best ≤ x.cost j := by
        obtain ⟨g1, g2⟩ := hbest.out
        rcases g2 with ⟨g3, _, _⟩ | ⟨g3, _, g4⟩
        · omega
        · exact ⟨g3, fun j h1 h2 => by have := g1 j h1 h2; omega⟩
      obtain ⟨key, hkey⟩ : ∃ key, x.keys[best]? = some key := ⟨_, List.getElem?_eq_getElem (by rw [← hnH.out]; exact hbn)⟩
      have hat := at_any B wr q x best key hNd hok2.out hkey
      have hBH := Lib.hid hB
      have hkH := Lib.hid hkey
      clear hB hkey
      go_wp2_with (go_at_call 158; refine hat.mono ?_; rintro e w1 ⟨q1, q2, rfl, n1, n2, b1⟩)
      go_ret3
      refine ⟨q1, q2, best, key, rfl, ⟨hBH.out.1, hkH.out, by rw [← hnH.out]; exact hBH.out.2⟩, n1.base_ hbel.size, n2.base_ hbel.size, bel_then hbel hbel.size b1⟩
end Go.Proofs.YtpfjhehjmhkbpaaGreatDoor

namespace Go.Proofs.YtpfjhehjmhkbpaaGreatDoor
open Go.RowKit

/-- A pointer to a new node on the right, or nil. -/
def RightIs (B : Nat) (w : World) (v : Value) (o : Option (ByteArray × Nat)) : Prop :=
  match o with
  | none => v = .pointer none
  | some (k, m) => ∃ rq, v = .pointer (some ⟨rq, 0, none⟩) ∧ B ≤ rq ∧ w.heap[rq]? = some (.cells #[.string k, .int .i64 (m : Int)] 161 (0, 0))

/-- Behind a change in the tree. -/
def Grown_ [Mode] (B W0 : Nat) (T p : Nat) (root cnt : Int) (dead : Bool) (r : PS) (ls ps : List Pg) (S : List Nat) (h n : Nat) (lo hi : Option ByteArray) (C : KV) (k : Nat) (v : Value) (w' : World) : Prop :=
  ∃ ps' o, RightIs W0 w' v o ∧ Grew ps S h n lo hi C ps' o ∧ Pgr B w' p r ls ps' ∧ TAt w' T p root cnt dead ∧ room ps ≤ room ps' + k

set_option maxRecDepth 4000 in
set_option maxHeartbeats 400000 in
theorem settles_one [Mode] (B B' : Nat) (w : World) (T p n q h : Nat) (root cnt : Int) (dead : Bool) (r : PS) (ls ps : List Pg) (x : Nd) (lo hi : Option ByteArray) (C : KV) (Tl : List Nat)
    (hT : TAt w T p root cnt dead) (hp : Pgr B w p r ls ps) (hx : NodeAt B' w q x) (hg : x.Good) (hb : Body ps h x lo hi C Tl) (hn : hasP ps n = true) (hd : (n :: Tl).Nodup) (hlen : x.bytes.length ≤ 512) :
    Calls Tryz.prog 90 #[.pointer (some ⟨T, 0, none⟩), .int .i64 (n : Int), .pointer (some ⟨q, 0, none⟩)] w fun e w' => ∃ v, e = .returned v ∧ Grown_ B w.heap.size T p root cnt dead r ls ps (n :: Tl) h n lo hi C 1 v w' ∧ Mut B [133, 147] w w' := by
  have c1 := fits_yes B' w q x hx hg.ok hlen
  have H := Lib.hid (And.intro hT (And.intro hp (And.intro hx (And.intro hg (And.intro hb (And.intro hn (And.intro hd hlen)))))))
  clear hT hp hx hg hb hn hd hlen
  go_enter Tryz.func90, Tryz.ntmps90
  go_wp2_with (first
    | (go_at_call 124; refine c1.mono ?_; rintro e w1 ⟨rfl, b1⟩)
    | (go_at_call 41; refine (store_any B B' w1 T p n q root cnt dead r ls ps x (H.out.1.below b1) (H.out.2.1.below b1) H.out.2.2.2.2.2.1 (H.out.2.2.1.below b1) H.out.2.2.2.1.ok H.out.2.2.2.2.2.2.2).mono ?_; rintro e w2 ⟨rfl, v', hp2, m2⟩))
  go_ret
  obtain ⟨hT, hp, hx, hg, hb, hn, hd, hlen⟩ := H.out
  refine ⟨_, rfl, ⟨_, none, rfl, grew_one hb hg hlen hn hd, hp2, (hT.below b1).mut m2 (by decide), ?_⟩, (Mut.of_below b1 B [133, 147]).trans m2⟩
  rw [room_set_taken hn]; omega

set_option maxRecDepth 4000 in
set_option maxHeartbeats 800000 in
theorem settles_two [Mode] (B B' : Nat) (w : World) (T p n q h : Nat) (root cnt : Int) (dead : Bool) (r : PS) (ls ps : List Pg) (x : Nd) (lo hi : Option ByteArray) (C : KV) (Tl : List Nat)
    (hT : TAt w T p root cnt dead) (hp : Pgr B w p r ls ps) (hx : NodeAt B' w q x) (hg : x.Good) (hb : Body ps h x lo hi C Tl) (hn : hasP ps n = true) (hd : (n :: Tl).Nodup) (hbig : 512 < x.bytes.length) (hle : x.bytes.length ≤ if x.leaf then 740 else 900)
    (hr : 1 ≤ room ps) (hB : B ≤ w.heap.size) :
    Calls Tryz.prog 90 #[.pointer (some ⟨T, 0, none⟩), .int .i64 (n : Int), .pointer (some ⟨q, 0, none⟩)] w fun e w' => ∃ v, e = .returned v ∧ Grown_ B w.heap.size T p root cnt dead r ls ps (n :: Tl) h n lo hi C 1 v w' ∧ Mut B [133, 147] w w' := by
  obtain ⟨h2, i0, i1, i2, i3⟩ := Nd.parts hg hbig hle
  have hle2 : x.bytes.length ≤ 900 := by split at hle <;> omega
  have c1 := fits_no B' w q x hx hg.ok hbig (by omega)
  have hbigH := Lib.hid hbig
  have H := Lib.hid (And.intro hT (And.intro hp (And.intro hx (And.intro hg (And.intro hb (And.intro hn (And.intro hd (And.intro h2 (And.intro hle2 (And.intro hr (And.intro i1 (And.intro i2 i3))))))))))))
  clear hT hp hx hg hb hn hd h2 hle2 hr hbig hle i1 i2 i3
  go_enter Tryz.func90, Tryz.ntmps90
  go_wp2_with (first
    | (go_at_call 124; refine c1.mono ?_; rintro e w1 ⟨rfl, b1⟩; have e0 := (H.out.1.below b1).c0)
    | (go_at_call 125; refine (split_any B' w1 q x (H.out.2.2.1.below b1) H.out.2.2.2.1.ok H.out.2.2.2.2.2.2.2.1 (by have := H.out.2.2.2.2.2.2.2.2.1; omega)).mono ?_; rintro e w2 ⟨q1, q2, i, k, rfl, hbest, n1, n2, b2⟩; have hbestH := Lib.hid hbest; clear hbest; have e02 := ((H.out.1.below b1).below b2).c0)
    | (go_at_call 39; refine (gnew ((H.out.2.1.below b1).below b2) (newPs_room H.out.2.1.few H.out.2.2.2.2.2.2.2.2.2.1).2.1 (by have := b1.size; have := b2.size; omega)).mono ?_; rintro e w3 ⟨rfl, hp3, m3⟩; have n13 := n1.mut m3 (by decide) (by decide) (by decide) (by decide) (by decide); have n23 := n2.mut m3 (by decide) (by decide) (by decide) (by decide) (by decide)))
  obtain ⟨hT, hp, hx, hg, hb, hn, hd, h2, hle2, hr, i1, i2, i3⟩ := H.out
  obtain ⟨g1, g2, g3⟩ := hbestH.out
  have hil := (List.getElem?_eq_some_iff.1 g2).1
  have hc : x.cost i ≤ 512 := Nat.le_trans (g3 i0 i1 i2) i3
  have hlo : (x.lo_ i).bytes.length ≤ 512 := by unfold Nd.cost at hc; omega
  have hhi : (x.hi_ i).bytes.length ≤ 512 := by unfold Nd.cost at hc; omega
  have hT3 := ((hT.below b1).below b2).mut m3 (by decide)
  have hn3 : hasP (newPs ps) n = true := by rw [newPs_has, hn]; rfl
  have s1 := store_any B _ w3 T p n q1 root cnt dead r ls (newPs ps) _ hT3 hp3 hn3 n13 (Nd.lo_ok hg.ok (by omega)) hlo
  refine s1.mono ?_
  rintro e w4 ⟨rfl, v4, hp4, m4⟩
  have hT4 := hT3.mut m4 (by decide)
  have n24 := n23.mut m4 (by decide) (by decide) (by decide) (by decide) (by decide)
  have hn4 : hasP ((newPs ps).set n ⟨true, v4, (x.lo_ i).bytes⟩) (newIdx ps) = true := by
    rw [hasP_set (hasP_some hn3).choose_spec.2.2]
    split
    · rfl
    · rw [newPs_has]; simp
  have s2 := store_any B _ w4 T p (newIdx ps) q2 root cnt dead r ls _ _ hT4 hp4 hn4 n24 (Nd.hi_ok hg.ok hil) hhi
  have hk := hT4.c0
  have Hfin := Lib.hid (And.intro hT4 (And.intro s2 (And.intro hn3 (And.intro hn4 (And.intro hil hc)))))
  clear hT hp hx hg hb hn hd h2 hle2 hr i1 i2 i3 g1 g2 g3 hil hc hlo hhi hT3 hn3 s1 hT4 n24 hn4 s2 hp4 hp3 n13 n23 n1 n2 e0 e02
  go_wp2_with (go_at_call 41; refine Hfin.out.2.1.mono ?_; rintro e w5 ⟨rfl, v5, hp5, m5⟩)
  go_ret
  obtain ⟨hT, hp, hx, hg, hb, hn, hd, h2, hle2, hr, i1, i2, i3⟩ := H.out
  obtain ⟨hT4, s2, hn3, hn4, hil, hc⟩ := Hfin.out
  obtain ⟨g1, g2, g3⟩ := hbestH.out
  have b12 : Below w.heap.size w w2 := bel_then b1 b1.size b2
  have m25 : Mut B [133, 147] w w5 := (((Mut.of_below b12 B [133, 147]).trans m3).trans m4).trans m5
  have hsz : w.heap.size ≤ w5.heap.size := m25.size
  refine ⟨_, rfl, ⟨_, some (k, newIdx ps), ⟨w5.heap.size, rfl, hsz, heap_new _ _⟩, grew_two hb hg g1 g2 hc hn hd hp.few hr (fun h => Nd.parts_short hg h hbigH.out g1 hil g3), hp5.mut ((Mut.refl 0 [] w5).alloc _) (by simp) (by simp) (by simp), (hT4.mut m5 (by decide)).mut ((Mut.refl 0 [] w5).alloc _) (by simp), ?_⟩, m25.alloc _⟩
  rw [room_set_taken hn4, room_set_taken hn3]
  have := (newPs_room hp.few hr).1
  omega

theorem settles_any [Mode] (B B' : Nat) (w : World) (T p n q h : Nat) (root cnt : Int) (dead : Bool) (r : PS) (ls ps : List Pg) (x : Nd) (lo hi : Option ByteArray) (C : KV) (Tl : List Nat)
    (hT : TAt w T p root cnt dead) (hp : Pgr B w p r ls ps) (hx : NodeAt B' w q x) (hg : x.Good) (hb : Body ps h x lo hi C Tl) (hn : hasP ps n = true) (hd : (n :: Tl).Nodup) (hle : x.bytes.length ≤ if x.leaf then 740 else 900)
    (hr : 1 ≤ room ps) (hB : B ≤ w.heap.size) :
    Calls Tryz.prog 90 #[.pointer (some ⟨T, 0, none⟩), .int .i64 (n : Int), .pointer (some ⟨q, 0, none⟩)] w fun e w' => ∃ v, e = .returned v ∧ Grown_ B w.heap.size T p root cnt dead r ls ps (n :: Tl) h n lo hi C 1 v w' ∧ Mut B [133, 147] w w' := by
  by_cases hlen : x.bytes.length ≤ 512
  · exact settles_one B B' w T p n q h root cnt dead r ls ps x lo hi C Tl hT hp hx hg hb hn hd hlen
  · exact settles_two B B' w T p n q h root cnt dead r ls ps x lo hi C Tl hT hp hx hg hb hn hd (by omega) hle hr hB
end Go.Proofs.YtpfjhehjmhkbpaaGreatDoor
