/- slices.Insert at []value: the row with the new element put in. Printed by wip/tools/mkins.py. slices.Delete at []value: the row with one element taken out. Printed by wip/tools/mkdel.py. -/
import Derived.Test.YtpfjhehjmhkbpaaGreatDoorM01
import Derived.Test.YtpfjhehjmhkbpaaGreatDoorM02
import Derived.Shelf.RegionOpenPlain
namespace Go.Proofs.YtpfjhehjmhkbpaaGreatDoor
open Go.RowKit

theorem infoEV : (Tryz.prog.info? 86).map (fun i => (i.zero, i.size, i.bytes)) = some (some (.agg #[.slice none 0 0, .bool false, .int .i64 0, .int .i64 0]), 4, 48) := by kernel_rfl
theorem sizeEV : (Tryz.prog.info? 86).map (·.size) = some 4 := by kernel_rfl

theorem overlapsV (w : World) (vb b o : Nat) (m vc lb cb : Nat) (hne : vb ≠ b) (news cur : Array Value) (hn : w.heap[vb]? = some (.cells news 86 (0, 0))) (hg : w.heap[b]? = some (.cells cur 86 (0, 0))) (hk : cur.size ≠ 0) :
    (callFunc 121 #[.slice (some ⟨vb, 0, none⟩) m vc, .slice (some ⟨b, o, none⟩) lb cb]).run Tryz.prog w = .ok (.value (.bool false)) w := by
  have hz : ∀ w, (Go.sizeOf 86).run Tryz.prog w = .ok 4 w := fun w => by
    obtain ⟨i0, hi, _, h1, _⟩ := info_parts infoEV
    simp [Go.sizeOf, typeInfo, hi, h1]
  rw [run_callFunc_extern Tryz.func121 (by kernel_rfl) (by kernel_rfl) (by kernel_rfl) (e := Extern.SlicesOverlaps.overlaps #[90, 90] #[4]) (by kernel_rfl),
    Lib.run_overlaps_apart w 90 4 86 Tryz.underlying90 4 hz ⟨vb, 0, none⟩ ⟨b, o, none⟩ m vc lb cb hne 86 86 news.size cur.size (by simp [World.shape?, hn]) (by simp [World.shape?, hg]) hk
      (unfrozen_of hn _) (unfrozen_of hn _)]
  rfl

set_option maxRecDepth 6000 in
set_option maxHeartbeats 1000000 in
theorem insert_shiftV (w : World) (b n c i vb : Nat) (cur news : List Value) (hg : w.heap[b]? = some (.cells cur.toArray 86 (0, 0))) (hcl : cur.length = c * 4) (hnv : w.heap[vb]? = some (.cells news.toArray 86 (0, 0))) (hnl : news.length = 4)
    (hi : i < n) (hroom : n + 1 ≤ c) (hc63 : c ≤ 9223372036854775807) (hvb : vb ≠ b) (h1c : ∀ v ∈ cur.take (n * 4), v.oneCell' = true) (h1v : ∀ v ∈ news, v.oneCell' = true) :
    Calls Tryz.prog 88 #[.slice (some ⟨b, 0, none⟩) n c, goInt i, .slice (some ⟨vb, 0, none⟩) 1 1] w fun e w' =>
      e = .returned (.slice (some ⟨b, 0, none⟩) (n + 1) c) ∧ w'.heap[b]? = some (.cells (splice (splice cur ((i + 1) * 4) ((cur.take (n * 4)).drop (i * 4))) (i * 4) news).toArray 86 (0, 0)) ∧ Mut b [86] w w' := by
  have hov := fun w h1 h2 lb cb => overlapsV w vb b ((i + 1) * 4) 1 1 lb cb hvb news.toArray cur.toArray h1 h2 (by rw [List.size_toArray]; omega)
  have hz2 : ¬ ((i : Int) = (n : Int)) := by omega
  have hw1 : IntKind.i64.wrap ((i : Int) + 1) = (i : Int) + 1 := by rw [IntKind.wrap_i64]; omega
  have hw2 : IntKind.i64.wrap ((n : Int) + 1) = (n : Int) + 1 := by rw [IntKind.wrap_i64]; omega
  have hb1 : (0 : Int) ≤ (i : Int) + 1 := by omega
  have hin : i ≤ n := by omega
  have htn : ((i : Int) + 1).toNat = i + 1 := by omega
  have htn2 : ((n : Int) + 1).toNat = n + 1 := by omega
  have hb2 : ¬ (c = i + 1) := by omega
  have hb3 : (i : Int) ≤ (n : Int) + 1 := by omega
  have hb4 : ¬ (c = i) := by omega
  have hb5 : ((n : Int) + 1) ≤ (c : Int) := by omega
  have hov1 := hov w hnv hg
  obtain ⟨X, hX⟩ : ∃ X, X = (cur.take (n * 4)).drop (i * 4) := ⟨_, rfl⟩
  have hX1 : X.length = Nat.min (n + 1 - i) (n - i) * 4 := by
    have h0 : Nat.min (n + 1 - i) (n - i) = n - i := Nat.min_eq_right (by omega)
    rw [hX, h0, List.length_drop, List.length_take]; omega
  have hX2 : ∀ j v, X[j]? = some v → w.drew.cell? ((⟨b, (i * 4), none⟩ : Addr).add j) = some v := fun j v hj => by
    have h0 : (⟨b, (i * 4), none⟩ : Addr).add j = ⟨b, (i * 4) + j, none⟩ := by unfold Addr.add; split <;> simp_all
    rw [h0]
    show w.cell? _ = _
    rw [cell_of hg, hX] at *
    rw [List.getElem?_drop, List.getElem?_take] at hj
    split at hj
    · simpa using hj
    · cases hj
  have hX3 : (i + 1) * 4 + X.length ≤ cur.length := by rw [hX]; simp; omega
  have hX4 : ∀ v ∈ X, v.oneCell' = true := fun v hv => h1c v (by rw [hX] at hv; exact List.mem_of_mem_drop hv)
  have hXH := Lib.hid hX; clear hX
  have hH := Lib.hid hcl; clear hcl
  have hH1 := Lib.hid h1c; clear h1c
  have hH2 := Lib.hid h1v; clear h1v
  have hg0 := Lib.hid hg; clear hg
  have hnv0 := Lib.hid hnv; clear hnv
  have mixed : Tryz.prog.follows .mixedOrders = true := by kernel_rfl
  go_enter Tryz.func88, Tryz.ntmps88
  go_wp2_with (simp only [hov1])
  go_region_law (refine step_copy_z rfl (.tmp 73) (.tmp 76) 90 90 rfl 86 Tryz.underlying90 4 sizeEV b ((i + 1) * 4) ((i + 1) * 4) (n - i) (c - (i + 1)) ⟨b, (i * 4), none⟩ (n + 1 - i) (c - i) (by simp [Act.eval, Act.put]) (by simp [Act.eval, Act.put]) (by omega) cur 86 hg0.out X hX1 hX2 hX3 hX4 ?_; intro w1 hg1 ho1 hm1)
  have hY1 : news.length = Nat.min 1 (n + 1 - i) * 4 := by
    have h0 : Nat.min 1 (n + 1 - i) = 1 := Nat.min_eq_left (by omega)
    rw [h0, hnl]
  have hY2 : ∀ j v, news[j]? = some v → w1.cell? ((⟨vb, 0, none⟩ : Addr).add j) = some v := fun j v hj => by
    have h0 : (⟨vb, 0, none⟩ : Addr).add j = ⟨vb, j, none⟩ := by unfold Addr.add; split <;> simp_all
    have h1 : w1.heap[vb]? = some (.cells news.toArray 86 (0, 0)) := (ho1 vb hvb).trans hnv0.out
    rw [h0, cell_of h1]
    simpa using hj
  have hY3 : i * 4 + news.length ≤ (splice cur ((i + 1) * 4) X).length := by
    rw [length_splice _ _ _ hX3]; have := hH.out; omega
  go_wp2_with (refine wpList_copy_z rfl (.tmp 80) (.tmp 81) 90 90 rfl 86 Tryz.underlying90 4 sizeEV b (i * 4) (i * 4) (n + 1 - i) (c - i) ⟨vb, 0, none⟩ 1 1 rfl rfl (by omega) (splice cur ((i + 1) * 4) X) 86 hg1.out news hY1 hY2 hY3 hH2.out ?_; intro w2 hg2 ho2 hm2)
  go_ret
  refine ⟨rfl, ?_, ?_⟩
  · rw [← hXH.out]; exact hg2.out
  · exact (Mut.trans (w1 := w1) ⟨hm1.os, hm1.tape, hm1.output, hm1.size, hm1.block⟩ hm2)

set_option maxRecDepth 6000 in
set_option maxHeartbeats 1000000 in
theorem insert_growV (w : World) (b n c i vb : Nat) (cur news : List Value) (hg : w.heap[b]? = some (.cells cur.toArray 86 (0, 0))) (hcl : cur.length = c * 4) (hnv : w.heap[vb]? = some (.cells news.toArray 86 (0, 0))) (hnl : news.length = 4)
    (hi : i < n) (hnc : n ≤ c) (hroom : c < n + 1) (hbig : (n + 1) * 48 ≤ 140737488355328) (h1c : ∀ v ∈ cur.take (n * 4), v.oneCell' = true) (h1v : ∀ v ∈ news, v.oneCell' = true) :
    Calls Tryz.prog 88 #[.slice (some ⟨b, 0, none⟩) n c, goInt i, .slice (some ⟨vb, 0, none⟩) 1 1] w fun e w' => ∃ G Z,
      e = .returned (.slice (some ⟨w.heap.size, 0, none⟩) (n + 1) G) ∧ n + 1 ≤ G ∧ G ≤ maxLen ∧ ((cur.take (n * 4)).take (i * 4) ++ Z).length = G * 4 ∧
      w'.heap[w.heap.size]? = some (.cells (splice (splice ((cur.take (n * 4)).take (i * 4) ++ Z) (i * 4) news) ((i + 1) * 4) ((cur.take (n * 4)).drop (i * 4))).toArray 86 (0, 0)) ∧ Below w.heap.size w w' := by
  obtain ⟨i0, hi0, hz0, hzs, hzb⟩ := info_parts infoEV
  have hz2 : ¬ ((i : Int) = (n : Int)) := by omega
  have hz3 : (c : Int) < (n : Int) + 1 := by omega
  have hw1 : IntKind.i64.wrap ((i : Int) + 1) = (i : Int) + 1 := by rw [IntKind.wrap_i64]; omega
  have hw2 : IntKind.i64.wrap ((n : Int) + 1) = (n : Int) + 1 := by rw [IntKind.wrap_i64]; omega
  have hw3 : IntKind.i64.wrap ((n : Int) + 1 - (i : Int)) = (n : Int) + 1 - (i : Int) := by rw [IntKind.wrap_i64]; omega
  have hb1 : (0 : Int) ≤ (i : Int) + 1 := by omega
  have hin : i ≤ n := by omega
  have hic : i ≤ c := by omega
  have htn : ((i : Int) + 1).toNat = i + 1 := by omega
  obtain ⟨A, hA⟩ : ∃ A, A = (cur.take (n * 4)).take (i * 4) := ⟨_, rfl⟩
  obtain ⟨X, hX⟩ : ∃ X, X = (cur.take (n * 4)).drop (i * 4) := ⟨_, rfl⟩
  have hAl : A.length = i * 4 := by rw [hA, List.length_take, List.length_take]; omega
  have hXl : X.length = (n - i) * 4 := by rw [hX, List.length_drop, List.length_take]; omega
  have hold : (Builtin.firstCells i0.size i (.slice (some ⟨b, 0, none⟩) i c)).run Tryz.prog w.drew = .ok A.toArray w.drew := by
    rw [hzs]
    exact run_firstCells_some w.drew 4 i ⟨b, 0, none⟩ i c A hAl (fun j v hj => by
      have h0 : (⟨b, 0, none⟩ : Addr).add j = ⟨b, j, none⟩ := by unfold Addr.add; split <;> simp_all
      rw [h0]
      show w.cell? _ = _
      rw [cell_of hg]
      rw [hA, List.getElem?_take, List.getElem?_take] at hj
      split at hj
      · split at hj
        · simpa using hj
        · cases hj
      · cases hj)
  obtain ⟨G, hG⟩ : ∃ G, G = grownCap w (n + 1) c 86 := ⟨_, rfl⟩
  have hGn : n + 1 ≤ G := by rw [hG]; exact grownCap_ge w _ _ _
  have hGm : G ≤ maxLen := by rw [hG]; exact grownCap_le_maxLen w (n + 1) c 86 (by unfold maxLen; omega)
  have hG63 : G ≤ 9223372036854775807 := by unfold maxLen at hGm; omega
  obtain ⟨Z, hZ⟩ : ∃ Z : List Value, Z = (Builtin.zeroCells (Value.cells (.agg #[.slice none 0 0, .bool false, .int .i64 0, .int .i64 0])) (n + 1 - i) ++ Builtin.zeroCells (Value.cells (.agg #[.slice none 0 0, .bool false, .int .i64 0, .int .i64 0])) (G - (n + 1))).toList := ⟨_, rfl⟩
  have hZl : (A ++ Z).length = G * 4 := by
    rw [List.length_append, hAl, hZ]
    simp [Builtin.zeroCells, Value.cells]
    omega
  have hrz : ∀ ty, (Builtin.append_ #[90, 3] ty #[.slice (some ⟨b, 0, none⟩) i c, .int .i64 ((n : Int) + 1 - (i : Int))]).run Tryz.prog w =
      .ok (.slice (some ⟨w.heap.size, 0, none⟩) (n + 1) G) (w.drew.alloc (.cells (A ++ Z).toArray 86)) := fun ty => by
    have hik : i + (n + 1 - i) = n + 1 := by omega
    have h := Lib.run_append_grow_zeros w 90 3 ty 86 i0 _ .i64 .i64 Tryz.underlying90 Tryz.underlying3 hi0 hz0 (some ⟨b, 0, none⟩) i c A hold (n + 1 - i) (by omega) (by omega) (by omega) (by omega) (by rw [hzb]; omega) (by rw [hzb, hik]; exact growslice_fits hroom hbig)
    rw [hik, ← hG] at h
    rw [show (n : Int) + 1 - (i : Int) = ((n + 1 - i : Nat) : Int) by omega, h, hZ]
    congr 4
    apply Array.ext'
    simp
  have hgd : w.drew.heap[b]? = some (.cells cur.toArray 86 (0, 0)) := hg
  have hnd : w.drew.heap[vb]? = some (.cells news.toArray 86 (0, 0)) := hnv
  have hbw : b < w.heap.size := blk_lt hg
  have hvw : vb < w.heap.size := blk_lt hnv
  obtain ⟨W1, hW1⟩ : ∃ W1, W1 = w.drew.alloc (.cells (A ++ Z).toArray 86) := ⟨_, rfl⟩
  have hB1 : Below w.heap.size w W1 := by rw [hW1]; exact bel_alloc ((Below.refl _ w).drew) _
  have hg1 : W1.heap[w.heap.size]? = some (.cells (A ++ Z).toArray 86 (0, 0)) := by rw [hW1]; exact heap_new w.drew _
  have hn1 : W1.heap[vb]? = some (.cells news.toArray 86 (0, 0)) := by rw [hW1]; exact heap_old hnd _
  have ho1 : W1.heap[b]? = some (.cells cur.toArray 86 (0, 0)) := by rw [hW1]; exact heap_old hgd _
  rw [← hW1] at hrz
  have hY1 : news.length = Nat.min 1 (n + 1 - i) * 4 := by
    have h0 : Nat.min 1 (n + 1 - i) = 1 := Nat.min_eq_left (by omega)
    rw [h0, hnl]
  have hY2 : ∀ j v, news[j]? = some v → W1.cell? ((⟨vb, 0, none⟩ : Addr).add j) = some v := fun j v hj => by
    have h0 : (⟨vb, 0, none⟩ : Addr).add j = ⟨vb, j, none⟩ := by unfold Addr.add; split <;> simp_all
    rw [h0, cell_of hn1]
    simpa using hj
  have hY3 : i * 4 + news.length ≤ (A ++ Z).length := by rw [hZl, hnl]; omega
  have hX0 : X.length = Nat.min (n - i) (n - i) * 4 := by
    have h0 : Nat.min (n - i) (n - i) = n - i := Nat.min_eq_left (by omega)
    rw [h0, hXl]
  have hX2 : ∀ j v, X[j]? = some v → cur[i * 4 + j]? = some v := fun j v hj => by
    rw [hX, List.getElem?_drop, List.getElem?_take] at hj
    split at hj
    · exact hj
    · cases hj
  have hX4 : ∀ v ∈ X, v.oneCell' = true := fun v hv => h1c v (by rw [hX] at hv; exact List.mem_of_mem_drop hv)
  have hXH := Lib.hid hX; clear hX
  have hAH := Lib.hid hA; clear hA
  have hGH := Lib.hid hG; clear hG
  have hZH := Lib.hid hZ; clear hZ
  have hZlH := Lib.hid hZl; clear hZl
  have hGmH := Lib.hid hGm; clear hGm
  have hH := Lib.hid hcl; clear hcl
  have hH1 := Lib.hid h1c; clear h1c
  have hH2 := Lib.hid h1v; clear h1v
  have hg0 := Lib.hid hg; clear hg
  have hnv0 := Lib.hid hnv; clear hnv
  have hgd0 := Lib.hid hgd; clear hgd
  have hnd0 := Lib.hid hnd; clear hnd
  have hg10 := Lib.hid hg1; clear hg1
  have hn10 := Lib.hid hn1; clear hn1
  have ho10 := Lib.hid ho1; clear ho1
  have hW10 := Lib.hid hW1; clear hW1
  clear hold hz0 hzs hzb
  have hGi : ¬ (G = i) := by omega
  have hGim : ¬ (G = i + 1) := by omega
  have hci : ¬ (c = i) := by omega
  have mixed : Tryz.prog.follows .mixedOrders = true := by kernel_rfl
  go_enter Tryz.func88, Tryz.ntmps88
  go_wp2_with (first
    | (at_builtin; refine Lib.wpList_append_run _ rfl _ _ _ _ rfl _ _ rfl rfl _ _ (hrz _) ?_)
    | (refine wpList_copy_z rfl (.tmp 43) (.tmp 44) 90 90 rfl 86 Tryz.underlying90 4 sizeEV w.heap.size (i * 4) (i * 4) (n + 1 - i) (G - i) ⟨vb, 0, none⟩ 1 1 rfl rfl (by omega) (A ++ Z) 86 hg10.out news hY1 hY2 hY3 hH2.out ?_; intro w2 hg2 ho2 hm2))
  have hX3 : ∀ j v, X[j]? = some v → w2.drew.cell? ((⟨b, (i * 4), none⟩ : Addr).add j) = some v := fun j v hj => by
    have h0 : (⟨b, (i * 4), none⟩ : Addr).add j = ⟨b, (i * 4) + j, none⟩ := by unfold Addr.add; split <;> simp_all
    have h1 : w2.heap[b]? = some (.cells cur.toArray 86 (0, 0)) := (ho2 b (by omega)).trans ho10.out
    rw [h0]
    show w2.cell? _ = _
    rw [cell_of h1]
    have := hX2 j v hj
    simpa using this
  have hX5 : (i + 1) * 4 + X.length ≤ (splice (A ++ Z) (i * 4) news).length := by
    rw [length_splice _ _ _ hY3, hZlH.out, hXl]; omega
  have hX6 : X.length = Nat.min (n - i) (n - i) * 4 := hX0
  go_region_law_o (refine step_copy_z rfl (.tmp 50) (.tmp 53) 90 90 rfl 86 Tryz.underlying90 4 sizeEV w.heap.size ((i + 1) * 4) ((i + 1) * 4) (n - i) (G - (i + 1)) ⟨b, (i * 4), none⟩ (n - i) (c - i) (by simp [Act.eval, Act.put]) (by simp [Act.eval, Act.put]) (by omega) (splice (A ++ Z) (i * 4) news) 86 hg2.out X hX6 hX3 hX5 hX4 ?_; intro w3 hg3 ho3 hm3)
  go_wp2
  go_ret
  refine ⟨G, Z, rfl, hGn, hGmH.out, ?_, ?_, ?_⟩
  · rw [← hAH.out]; exact hZlH.out
  · rw [← hAH.out, ← hXH.out]; exact hg3.out
  · have h2 : Below w.heap.size w w2 := hB1.trans (hm2.below (Nat.le_of_lt (blk_lt hg10.out)))
    have h3 : Below w.heap.size w2 w3 := by
      have := hm3.below (Nat.le_of_lt (blk_lt (show w2.drew.heap[w.heap.size]? = _ from hg2.out)))
      exact ⟨this.os, this.tape, this.output, this.size, this.block⟩
    exact h2.trans h3

set_option maxRecDepth 6000 in
set_option maxHeartbeats 1000000 in
theorem insert_endV (base : Nat) (w : World) (v : Value) (n vb : Nat) (xs news : List Value) (hown : w.ownsRow base 86 4 v n xs) (hnv : w.heap[vb]? = some (.cells news.toArray 86 (0, 0))) (hnl : news.length = 4)
    (h1v : ∀ v ∈ news, v.oneCell' = true) (hbig : (n + 1) * 48 ≤ 140737488355328) (hbase : base ≤ w.heap.size) :
    Calls Tryz.prog 88 #[v, goInt n, .slice (some ⟨vb, 0, none⟩) 1 1] w fun e w' => ∃ v',
      e = .returned v' ∧ w'.ownsRow base 86 4 v' (n + 1) (xs ++ news) ∧ Mut base [86] w w' := by
  obtain ⟨A, c, rfl, hnc, hcm, hA0⟩ := own_slice hown
  have hc63 : c ≤ 9223372036854775807 := by unfold maxLen at hcm; omega
  have hcut : ∀ (a1 a2 : Nat), True := fun _ _ => trivial
  have hat : At w (some ⟨vb, 0, none⟩) news := .inr ⟨_, rfl, fun j u hj => by
    have h0 : (⟨vb, 0, none⟩ : Addr).add j = ⟨vb, j, none⟩ := by unfold Addr.add; split <;> simp_all
    rw [h0, cell_of hnv]; simpa using hj⟩
  have hcH := Lib.hid hcm; clear hcm
  have hH2 := Lib.hid h1v; clear h1v
  clear hcut
  cases A with
  | none =>
    obtain rfl := hA0 rfl
    obtain rfl : n = 0 := by omega
    go_enter Tryz.func88, Tryz.ntmps88
    go_wp2_with (at_builtin; refine wpList_app rfl (.tmp 23) (.tmp 24) 90 rfl base 86 _ 4 48 Tryz.underlying90 infoEV rfl (by decide) _ _ _ rfl hown _ _ _ news rfl (by rw [hnl]) hat (fun h => by cases h) hH2.out (by unfold maxLen; omega) hbig hbase ?_; intro v' w' ho' hm')
    go_ret
    exact ⟨v', rfl, ho', hm'⟩
  | some ad =>
    go_enter Tryz.func88, Tryz.ntmps88
    go_wp2_with (at_builtin; refine wpList_app rfl (.tmp 23) (.tmp 24) 90 rfl base 86 _ 4 48 Tryz.underlying90 infoEV rfl (by decide) _ _ _ rfl hown _ _ _ news rfl (by rw [hnl]) hat (fun h => by cases h) hH2.out (by unfold maxLen; omega) hbig hbase ?_; intro v' w' ho' hm')
    all_goals go_ret
    all_goals exact ⟨v', rfl, ho', hm'⟩

/-- slices.Insert of one element: the row with it put in; where there was room, in place. -/
theorem insertV (base : Nat) (w : World) (v : Value) (n i vb : Nat) (xs news : List Value) (hown : w.ownsRow base 86 4 v n xs) (hxs : ∀ u ∈ xs, u.oneCell' = true) (hnv : w.heap[vb]? = some (.cells news.toArray 86 (0, 0))) (hnl : news.length = 4)
    (h1v : ∀ v ∈ news, v.oneCell' = true) (hne : v.ownBlock ≠ some vb) (hin : i ≤ n) (hbig : (n + 1) * 48 ≤ 140737488355328) (hbase : base ≤ w.heap.size) :
    Calls Tryz.prog 88 #[v, goInt i, .slice (some ⟨vb, 0, none⟩) 1 1] w fun e w' => ∃ v',
      e = .returned v' ∧ w'.ownsRow base 86 4 v' (n + 1) (ins xs (i * 4) news) ∧ Mut base [86] w w' := by
  by_cases hi : i = n
  · subst hi
    have := insert_endV base w v i vb xs news hown hnv hnl h1v hbig hbase
    rwa [ins_end xs news _ (by rw [hown.1]; exact Nat.le_refl _)]
  · obtain ⟨hl, ho⟩ := hown
    rcases ho with ⟨_, h0⟩ | ⟨g, cap, cur0, rfl, hb, hg, hnc, hcm, hcs, htk⟩
    · omega
    obtain ⟨cur, rfl⟩ : ∃ cur : List Value, cur0 = cur.toArray := ⟨cur0.toList, by simp⟩
    have hcl : cur.length = cap * 4 := by simpa using hcs
    have htk : cur.take (n * 4) = xs := by simpa using htk
    have hvb : vb ≠ g := by
      rintro rfl
      simp [Value.ownBlock] at hne
    have hcm' : cap ≤ 9223372036854775807 := by unfold maxLen at hcm; omega
    by_cases hroom : n + 1 ≤ cap
    · refine (insert_shiftV w g n cap i vb cur news hg hcl hnv hnl (by omega) hroom hcm' hvb (by rw [htk]; exact hxs) h1v).mono ?_
      rintro e w' ⟨rfl, h1, h2⟩
      have hX3 : (i + 1) * 4 + (xs.drop (i * 4)).length ≤ cur.length := by rw [List.length_drop, hl]; omega
      have hY3 : i * 4 + news.length ≤ (splice cur ((i + 1) * 4) (xs.drop (i * 4))).length := by rw [length_splice _ _ _ hX3]; omega
      have hfin := ins_shift cur xs news (i * 4) 4 (n * 4) htk hnl (by omega) (by omega)
      rw [htk] at h1
      refine ⟨_, rfl, ⟨by rw [ins_length, hl, hnl]; omega, .inr ⟨g, cap, _, rfl, hb, h1, hroom, hcm, ?_, ?_⟩⟩, h2.mono hb (fun _ h => h)⟩
      · rw [List.size_toArray, length_splice _ _ _ hY3, length_splice _ _ _ hX3, hcl]
      · rw [show (n + 1) * 4 = n * 4 + 4 by omega, show (i + 1) * 4 = i * 4 + 4 by omega]; exact hfin
    · refine (insert_growV w g n cap i vb cur news hg hcl hnv hnl (by omega) hnc (by omega) hbig (by rw [htk]; exact hxs) h1v).mono ?_
      rintro e w' ⟨G, Z, rfl, hG1, hG2, hZ, h1, h2⟩
      rw [htk] at hZ h1
      have hAl : (xs.take (i * 4)).length = i * 4 := by rw [List.length_take, hl]; omega
      have hZ2 := hZ
      rw [List.length_append, hAl] at hZ2
      have hY3 : i * 4 + news.length ≤ (xs.take (i * 4) ++ Z).length := by rw [hZ]; omega
      have hX3 : (i + 1) * 4 + (xs.drop (i * 4)).length ≤ (splice (xs.take (i * 4) ++ Z) (i * 4) news).length := by rw [length_splice _ _ _ hY3, List.length_drop, hl, hZ]; omega
      have hfin := ins_grow Z xs news (i * 4) 4 (n * 4) hl hnl (by omega) (by omega)
      refine ⟨_, rfl, ⟨by rw [ins_length, hl, hnl]; omega, .inr ⟨w.heap.size, G, _, rfl, hbase, h1, hG1, hG2, ?_, ?_⟩⟩, .of_below h2 _ _⟩
      · rw [List.size_toArray, length_splice _ _ _ hX3, length_splice _ _ _ hY3, hZ]
      · rw [show (n + 1) * 4 = n * 4 + 4 by omega, show (i + 1) * 4 = i * 4 + 4 by omega]; exact hfin

end Go.Proofs.YtpfjhehjmhkbpaaGreatDoor

namespace Go.Proofs.YtpfjhehjmhkbpaaGreatDoor
open Go.RowKit

set_option maxRecDepth 6000 in
set_option maxHeartbeats 1000000 in
theorem delete_rowV (w : World) (g n cap i : Nat) (cur : List Value) (hg : w.heap[g]? = some (.cells cur.toArray 86 (0, 0))) (hcl : cur.length = cap * 4)
    (hi : i < n) (hnc : n ≤ cap) (hcm : cap ≤ 9223372036854775807) (h1c : ∀ v ∈ cur.take (n * 4), v.oneCell' = true) :
    Calls Tryz.prog 98 #[.slice (some ⟨g, 0, none⟩) n cap, .int .i64 (i : Int), .int .i64 ((i : Int) + 1)] w fun e w' =>
      e = .returned (.slice (some ⟨g, 0, none⟩) (n - 1) cap) ∧ w'.heap[g]? = some (.cells (splice (splice cur (i * 4) ((cur.take (n * 4)).drop ((i + 1) * 4))) ((n - 1) * 4) (Builtin.zeroCells (Value.cells (.agg #[.slice none 0 0, .bool false, .int .i64 0, .int .i64 0])) 1).toList).toArray 86 (0, 0)) ∧ Mut g [86] w w' := by
  obtain ⟨i0, hi0, hz0, hzs, hzb⟩ := info_parts infoEV
  have hw1 : IntKind.i64.wrap ((i : Int) + 1) = (i : Int) + 1 := by rw [IntKind.wrap_i64]; omega
  have hb1 : (0 : Int) ≤ (i : Int) + 1 := by omega
  have hin : i ≤ n := by omega
  have hic : i ≤ cap := by omega
  have hjc : i + 1 ≤ cap := by omega
  have hjn : i + 1 ≤ n := by omega
  have hjn2 : (i : Int) + 1 ≤ (n : Int) := by omega
  have hii : (i : Int) ≤ (i : Int) + 1 := by omega
  have hne : ¬ ((i : Int) = (i : Int) + 1) := by omega
  have hci : ¬ (cap = i) := by omega
  have hni : ¬ (n = i) := by omega
  have htn : ((i : Int) + 1).toNat = i + 1 := by omega
  have hlen : i + (n - (i + 1)) = n - 1 := by omega
  have hcl1 : ¬ (cap = n - 1) := by omega
  have hn1 : ((n - 1 : Nat) : Int) ≤ (n : Int) := by omega
  have hn2 : n - (n - 1) = 1 := by omega
  obtain ⟨X, hX⟩ : ∃ X, X = (cur.take (n * 4)).drop ((i + 1) * 4) := ⟨_, rfl⟩
  have hXl : X.length = (n - (i + 1)) * 4 := by rw [hX, List.length_drop, List.length_take]; omega
  have hX2 : ∀ j v, X[j]? = some v → cur[(i + 1) * 4 + j]? = some v := fun j v hj => by
    rw [hX, List.getElem?_drop, List.getElem?_take] at hj
    split at hj
    · exact hj
    · cases hj
  have hX3 : i * 4 + X.length ≤ cur.length := by rw [hXl]; omega
  have hX4 : ∀ v ∈ X, v.oneCell' = true := fun v hv => h1c v (by rw [hX] at hv; exact List.mem_of_mem_drop hv)
  obtain ⟨A, hA, hsrc⟩ : ∃ A : Addr, (if cap = i + 1 then (some ⟨g, 0, none⟩ : Option Addr) else some ⟨g, ((i + 1) * 4), none⟩) = some A ∧ Hid (∀ t u, X[t]? = some u → w.drew.cell? (A.add t) = some u) := by
    by_cases h : cap = i + 1
    · refine ⟨⟨g, 0, none⟩, by simp [h], fun t u hu => ?_⟩
      have h0 : X.length = 0 := by rw [hXl]; omega
      rw [List.length_eq_zero_iff.1 h0] at hu
      simp at hu
    · refine ⟨⟨g, ((i + 1) * 4), none⟩, by simp [h], fun t u hu => ?_⟩
      have h0 : (⟨g, ((i + 1) * 4), none⟩ : Addr).add t = ⟨g, ((i + 1) * 4) + t, none⟩ := by unfold Addr.add; split <;> simp_all
      rw [h0]
      show w.cell? _ = _
      rw [cell_of hg]
      have := hX2 t u hu
      simpa using this
  have hY3 : (n - 1) * 4 + (Builtin.zeroCells (Value.cells (.agg #[.slice none 0 0, .bool false, .int .i64 0, .int .i64 0])) 1).toList.length ≤ (splice cur (i * 4) X).length := by
    rw [length_splice _ _ _ hX3]
    simp [Builtin.zeroCells, Value.cells]
    omega
  have hZ1 : ∀ v ∈ (Builtin.zeroCells (Value.cells (.agg #[.slice none 0 0, .bool false, .int .i64 0, .int .i64 0])) 1).toList, v.oneCell' = true := by
    first | (simp [Builtin.zeroCells, Value.cells, Value.oneCell']; done) | (simp only [Builtin.zeroCells, Value.cells, Value.oneCell']; simp; intro a ha; match a, ha with | 0, _ => rfl | 1, _ => rfl | 2, _ => rfl | 3, _ => rfl)
  have hXH := Lib.hid hX; clear hX
  have hH := Lib.hid hcl; clear hcl
  have hH1 := Lib.hid h1c; clear h1c
  have hg0 := Lib.hid hg; clear hg
  have hX2H := Lib.hid hX2; clear hX2
  clear hz0 hzs hzb
  have mixed : Tryz.prog.follows .mixedOrders = true := by kernel_rfl
  go_enter Tryz.func98, Tryz.ntmps98
  go_wp2_with fail
  go_region_law_o (refine step_append_z rfl (.tmp 22) (.tmp 25) 90 rfl 86 Tryz.underlying90 4 sizeEV g i cap A (n - (i + 1)) (cap - (i + 1)) (by simp [Act.eval, Act.put]) (by simp [Act.eval, Act.put]) cur 86 hg0.out X hXl hsrc.out hX3 hX4 (by omega) ?_; rw [hlen]; intro w1 hg1 ho1 hm1)
  go_wp2_with (refine wpList_clear_z rfl (.tmp 31) 90 rfl 86 _ 4 48 Tryz.underlying90 infoEV g ((n - 1) * 4) ((n - 1) * 4) 1 (cap - (n - 1)) rfl (by omega) (splice cur (i * 4) X) 86 hg1.out (by decide) hY3 hZ1 ?_; intro w2 hg2 ho2 hm2)
  go_ret
  refine ⟨rfl, ?_, ?_⟩
  · rw [← hXH.out]; exact hg2.out
  · exact (Mut.trans (w1 := w1) ⟨hm1.os, hm1.tape, hm1.output, hm1.size, hm1.block⟩ hm2)

/-- slices.Delete of one element. -/
theorem deleteV (base : Nat) (w : World) (v : Value) (n i : Nat) (xs : List Value) (hown : w.ownsRow base 86 4 v n xs) (hxs : ∀ u ∈ xs, u.oneCell' = true) (hi : i < n) :
    Calls Tryz.prog 98 #[v, .int .i64 (i : Int), .int .i64 ((i : Int) + 1)] w fun e w' => ∃ v',
      e = .returned v' ∧ w'.ownsRow base 86 4 v' (n - 1) (del xs (i * 4) 4) ∧ Mut base [86] w w' := by
  obtain ⟨hl, ho⟩ := hown
  rcases ho with ⟨_, h0⟩ | ⟨g, cap, cur0, rfl, hb, hg, hnc, hcm, hcs, htk⟩
  · omega
  obtain ⟨cur, rfl⟩ : ∃ cur : List Value, cur0 = cur.toArray := ⟨cur0.toList, by simp⟩
  have hcl : cur.length = cap * 4 := by simpa using hcs
  have htk : cur.take (n * 4) = xs := by simpa using htk
  have hcm' : cap ≤ 9223372036854775807 := by unfold maxLen at hcm; omega
  refine (delete_rowV w g n cap i cur hg hcl hi hnc hcm' (by rw [htk]; exact hxs)).mono ?_
  rintro e w' ⟨rfl, h1, h2⟩
  rw [htk] at h1
  have hZl : (Builtin.zeroCells (Value.cells (.agg #[.slice none 0 0, .bool false, .int .i64 0, .int .i64 0])) 1).toList.length = 4 := by simp [Builtin.zeroCells, Value.cells]
  have hX3 : i * 4 + (xs.drop ((i + 1) * 4)).length ≤ cur.length := by rw [List.length_drop, hl]; omega
  have hY3 : (n - 1) * 4 + (Builtin.zeroCells (Value.cells (.agg #[.slice none 0 0, .bool false, .int .i64 0, .int .i64 0])) 1).toList.length ≤ (splice cur (i * 4) (xs.drop ((i + 1) * 4))).length := by rw [length_splice _ _ _ hX3, hZl]; omega
  have hfin := del_row cur xs (Builtin.zeroCells (Value.cells (.agg #[.slice none 0 0, .bool false, .int .i64 0, .int .i64 0])) 1).toList (i * 4) 4 (n * 4) htk (by omega) (by omega) hZl
  refine ⟨_, rfl, ⟨by rw [del_length _ _ _ (by omega), hl]; omega, .inr ⟨g, cap, _, rfl, hb, h1, by omega, hcm, ?_, ?_⟩⟩, h2.mono hb (fun _ h => h)⟩
  · rw [List.size_toArray, length_splice _ _ _ hY3, length_splice _ _ _ hX3, hcl]
  · rw [show (n - 1) * 4 = n * 4 - 4 by omega, show (i + 1) * 4 = i * 4 + 4 by omega]; exact hfin

end Go.Proofs.YtpfjhehjmhkbpaaGreatDoor
