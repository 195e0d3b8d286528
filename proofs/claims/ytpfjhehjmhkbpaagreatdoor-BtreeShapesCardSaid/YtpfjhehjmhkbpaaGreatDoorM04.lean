/- slices.Insert at []int: the row with the new element put in. Printed by wip/tools/mkins.py. slices.Delete at []int: the row with one element taken out. Printed by wip/tools/mkdel.py. The order of strings, byte by byte, as the model has it: a strict total order. slices.BinarySearch at []string, a node's place and kid. takeNum reads what appendNum laid (btree's copy). -/
import Derived.Test.YtpfjhehjmhkbpaaGreatDoorM01
import Derived.Test.YtpfjhehjmhkbpaaGreatDoorM02
import Derived.Shelf.RegionOpenPlain
import Derived.WalkKit
import Derived.Lib.SlicesS
import Derived.Laws.Bits64b
namespace Go.Proofs.YtpfjhehjmhkbpaaGreatDoor
open Go.RowKit

theorem infoEI : (Tryz.prog.info? 3).map (fun i => (i.zero, i.size, i.bytes)) = some (some (.int .i64 0), 1, 8) := by kernel_rfl
theorem sizeEI : (Tryz.prog.info? 3).map (·.size) = some 1 := by kernel_rfl

theorem overlapsI (w : World) (vb b o : Nat) (m vc lb cb : Nat) (hne : vb ≠ b) (news cur : Array Value) (hn : w.heap[vb]? = some (.cells news 3 (0, 0))) (hg : w.heap[b]? = some (.cells cur 3 (0, 0))) (hk : cur.size ≠ 0) :
    (callFunc 126 #[.slice (some ⟨vb, 0, none⟩) m vc, .slice (some ⟨b, o, none⟩) lb cb]).run Tryz.prog w = .ok (.value (.bool false)) w := by
  have hz : ∀ w, (Go.sizeOf 3).run Tryz.prog w = .ok 1 w := fun w => by
    obtain ⟨i0, hi, _, h1, _⟩ := info_parts infoEI
    simp [Go.sizeOf, typeInfo, hi, h1]
  rw [run_callFunc_extern Tryz.func126 (by kernel_rfl) (by kernel_rfl) (by kernel_rfl) (e := Extern.SlicesOverlaps.overlaps #[48, 48] #[4]) (by kernel_rfl),
    Lib.run_overlaps_apart w 48 4 3 Tryz.underlying48 1 hz ⟨vb, 0, none⟩ ⟨b, o, none⟩ m vc lb cb hne 3 3 news.size cur.size (by simp [World.shape?, hn]) (by simp [World.shape?, hg]) hk
      (unfrozen_of hn _) (unfrozen_of hn _)]
  rfl

set_option maxRecDepth 6000 in
set_option maxHeartbeats 1000000 in
theorem insert_shiftI (w : World) (b n c i vb : Nat) (cur news : List Value) (hg : w.heap[b]? = some (.cells cur.toArray 3 (0, 0))) (hcl : cur.length = c * 1) (hnv : w.heap[vb]? = some (.cells news.toArray 3 (0, 0))) (hnl : news.length = 1)
    (hi : i < n) (hroom : n + 1 ≤ c) (hc63 : c ≤ 9223372036854775807) (hvb : vb ≠ b) (h1c : ∀ v ∈ cur.take (n * 1), v.oneCell' = true) (h1v : ∀ v ∈ news, v.oneCell' = true) :
    Calls Tryz.prog 92 #[.slice (some ⟨b, 0, none⟩) n c, goInt i, .slice (some ⟨vb, 0, none⟩) 1 1] w fun e w' =>
      e = .returned (.slice (some ⟨b, 0, none⟩) (n + 1) c) ∧ w'.heap[b]? = some (.cells (splice (splice cur ((i + 1) * 1) ((cur.take (n * 1)).drop (i * 1))) (i * 1) news).toArray 3 (0, 0)) ∧ Mut b [3] w w' := by
  have hov := fun w h1 h2 lb cb => overlapsI w vb b (i + 1) 1 1 lb cb hvb news.toArray cur.toArray h1 h2 (by rw [List.size_toArray]; omega)
  have hz2 : ¬ ((i : Int) = (n : Int)) := by omega
  have hw1 : IntKind.i64.wrap ((i : Int) + 1) = (i : Int) + 1 := by rw [IntKind.wrap_i64]; omega
  have hw2 : IntKind.i64.wrap ((n : Int) + 1) = (n : Int) + 1 := by rw [IntKind.wrap_i64]; omega
  have hb1 : (0 : Int) ≤ (i : Int) + 1 := by omega
  have hin : i ≤ n := by omega
  have htn : ((i : Int) + 1).toNat = i + 1 := by omega
  have htn2 : ((n : Int) + 1).toNat = n + 1 := by omega
  have hb2 : ¬ (c = i + 1) := by omega
  have hb3 : (i : Int) ≤ (n : Int) + 1 := by omega
  have hb4 : ¬ (c = i) := by omega
  have hb5 : ((n : Int) + 1) ≤ (c : Int) := by omega
  have hov1 := hov w hnv hg
  obtain ⟨X, hX⟩ : ∃ X, X = (cur.take (n * 1)).drop (i * 1) := ⟨_, rfl⟩
  have hX1 : X.length = Nat.min (n + 1 - i) (n - i) * 1 := by
    have h0 : Nat.min (n + 1 - i) (n - i) = n - i := Nat.min_eq_right (by omega)
    rw [hX, h0, List.length_drop, List.length_take]; omega
  have hX2 : ∀ j v, X[j]? = some v → w.drew.cell? ((⟨b, i, none⟩ : Addr).add j) = some v := fun j v hj => by
    have h0 : (⟨b, i, none⟩ : Addr).add j = ⟨b, i + j, none⟩ := by unfold Addr.add; split <;> simp_all
    rw [h0]
    show w.cell? _ = _
    rw [cell_of hg, hX] at *
    rw [List.getElem?_drop, List.getElem?_take] at hj
    split at hj
    · simpa using hj
    · cases hj
  have hX3 : (i + 1) * 1 + X.length ≤ cur.length := by rw [hX]; simp; omega
  have hX4 : ∀ v ∈ X, v.oneCell' = true := fun v hv => h1c v (by rw [hX] at hv; exact List.mem_of_mem_drop hv)
  have hXH := Lib.hid hX; clear hX
  have hH := Lib.hid hcl; clear hcl
  have hH1 := Lib.hid h1c; clear h1c
  have hH2 := Lib.hid h1v; clear h1v
  have hg0 := Lib.hid hg; clear hg
  have hnv0 := Lib.hid hnv; clear hnv
  have mixed : Tryz.prog.follows .mixedOrders = true := by kernel_rfl
  go_enter Tryz.func92, Tryz.ntmps92
  go_wp2_with (simp only [hov1])
  go_region_law (refine step_copy_z rfl (.tmp 73) (.tmp 76) 48 48 rfl 3 Tryz.underlying48 1 sizeEI b (i + 1) ((i + 1) * 1) (n - i) (c - (i + 1)) ⟨b, i, none⟩ (n + 1 - i) (c - i) (by simp [Act.eval, Act.put]) (by simp [Act.eval, Act.put]) (by omega) cur 3 hg0.out X hX1 hX2 hX3 hX4 ?_; intro w1 hg1 ho1 hm1)
  have hY1 : news.length = Nat.min 1 (n + 1 - i) * 1 := by
    have h0 : Nat.min 1 (n + 1 - i) = 1 := Nat.min_eq_left (by omega)
    rw [h0, hnl]
  have hY2 : ∀ j v, news[j]? = some v → w1.cell? ((⟨vb, 0, none⟩ : Addr).add j) = some v := fun j v hj => by
    have h0 : (⟨vb, 0, none⟩ : Addr).add j = ⟨vb, j, none⟩ := by unfold Addr.add; split <;> simp_all
    have h1 : w1.heap[vb]? = some (.cells news.toArray 3 (0, 0)) := (ho1 vb hvb).trans hnv0.out
    rw [h0, cell_of h1]
    simpa using hj
  have hY3 : i * 1 + news.length ≤ (splice cur ((i + 1) * 1) X).length := by
    rw [length_splice _ _ _ hX3]; have := hH.out; omega
  go_wp2_with (refine wpList_copy_z rfl (.tmp 80) (.tmp 81) 48 48 rfl 3 Tryz.underlying48 1 sizeEI b i (i * 1) (n + 1 - i) (c - i) ⟨vb, 0, none⟩ 1 1 rfl rfl (by omega) (splice cur ((i + 1) * 1) X) 3 hg1.out news hY1 hY2 hY3 hH2.out ?_; intro w2 hg2 ho2 hm2)
  go_ret
  refine ⟨rfl, ?_, ?_⟩
  · rw [← hXH.out]; exact hg2.out
  · exact (Mut.trans (w1 := w1) ⟨hm1.os, hm1.tape, hm1.output, hm1.size, hm1.block⟩ hm2)

set_option maxRecDepth 6000 in
set_option maxHeartbeats 1000000 in
theorem insert_growI (w : World) (b n c i vb : Nat) (cur news : List Value) (hg : w.heap[b]? = some (.cells cur.toArray 3 (0, 0))) (hcl : cur.length = c * 1) (hnv : w.heap[vb]? = some (.cells news.toArray 3 (0, 0))) (hnl : news.length = 1)
    (hi : i < n) (hnc : n ≤ c) (hroom : c < n + 1) (hbig : (n + 1) * 8 ≤ 140737488355328) (h1c : ∀ v ∈ cur.take (n * 1), v.oneCell' = true) (h1v : ∀ v ∈ news, v.oneCell' = true) :
    Calls Tryz.prog 92 #[.slice (some ⟨b, 0, none⟩) n c, goInt i, .slice (some ⟨vb, 0, none⟩) 1 1] w fun e w' => ∃ G Z,
      e = .returned (.slice (some ⟨w.heap.size, 0, none⟩) (n + 1) G) ∧ n + 1 ≤ G ∧ G ≤ maxLen ∧ ((cur.take (n * 1)).take (i * 1) ++ Z).length = G * 1 ∧
      w'.heap[w.heap.size]? = some (.cells (splice (splice ((cur.take (n * 1)).take (i * 1) ++ Z) (i * 1) news) ((i + 1) * 1) ((cur.take (n * 1)).drop (i * 1))).toArray 3 (0, 0)) ∧ Below w.heap.size w w' := by
  obtain ⟨i0, hi0, hz0, hzs, hzb⟩ := info_parts infoEI
  have hz2 : ¬ ((i : Int) = (n : Int)) := by omega
  have hz3 : (c : Int) < (n : Int) + 1 := by omega
  have hw1 : IntKind.i64.wrap ((i : Int) + 1) = (i : Int) + 1 := by rw [IntKind.wrap_i64]; omega
  have hw2 : IntKind.i64.wrap ((n : Int) + 1) = (n : Int) + 1 := by rw [IntKind.wrap_i64]; omega
  have hw3 : IntKind.i64.wrap ((n : Int) + 1 - (i : Int)) = (n : Int) + 1 - (i : Int) := by rw [IntKind.wrap_i64]; omega
  have hb1 : (0 : Int) ≤ (i : Int) + 1 := by omega
  have hin : i ≤ n := by omega
  have hic : i ≤ c := by omega
  have htn : ((i : Int) + 1).toNat = i + 1 := by omega
  obtain ⟨A, hA⟩ : ∃ A, A = (cur.take (n * 1)).take (i * 1) := ⟨_, rfl⟩
  obtain ⟨X, hX⟩ : ∃ X, X = (cur.take (n * 1)).drop (i * 1) := ⟨_, rfl⟩
  have hAl : A.length = i * 1 := by rw [hA, List.length_take, List.length_take]; omega
  have hXl : X.length = (n - i) * 1 := by rw [hX, List.length_drop, List.length_take]; omega
  have hold : (Builtin.firstCells i0.size i (.slice (some ⟨b, 0, none⟩) i c)).run Tryz.prog w.drew = .ok A.toArray w.drew := by
    rw [hzs]
    exact run_firstCells_some w.drew 1 i ⟨b, 0, none⟩ i c A hAl (fun j v hj => by
      have h0 : (⟨b, 0, none⟩ : Addr).add j = ⟨b, j, none⟩ := by unfold Addr.add; split <;> simp_all
      rw [h0]
      show w.cell? _ = _
      rw [cell_of hg]
      rw [hA, List.getElem?_take, List.getElem?_take] at hj
      split at hj
      · split at hj
        · simpa using hj
        · cases hj
      · cases hj)
  obtain ⟨G, hG⟩ : ∃ G, G = grownCap w (n + 1) c 3 := ⟨_, rfl⟩
  have hGn : n + 1 ≤ G := by rw [hG]; exact grownCap_ge w _ _ _
  have hGm : G ≤ maxLen := by rw [hG]; exact grownCap_le_maxLen w (n + 1) c 3 (by unfold maxLen; omega)
  have hG63 : G ≤ 9223372036854775807 := by unfold maxLen at hGm; omega
  obtain ⟨Z, hZ⟩ : ∃ Z : List Value, Z = (Builtin.zeroCells (Value.cells (.int .i64 0)) (n + 1 - i) ++ Builtin.zeroCells (Value.cells (.int .i64 0)) (G - (n + 1))).toList := ⟨_, rfl⟩
  have hZl : (A ++ Z).length = G * 1 := by
    rw [List.length_append, hAl, hZ]
    simp [Builtin.zeroCells, Value.cells]
    omega
  have hrz : ∀ ty, (Builtin.append_ #[48, 3] ty #[.slice (some ⟨b, 0, none⟩) i c, .int .i64 ((n : Int) + 1 - (i : Int))]).run Tryz.prog w =
      .ok (.slice (some ⟨w.heap.size, 0, none⟩) (n + 1) G) (w.drew.alloc (.cells (A ++ Z).toArray 3)) := fun ty => by
    have hik : i + (n + 1 - i) = n + 1 := by omega
    have h := Lib.run_append_grow_zeros w 48 3 ty 3 i0 _ .i64 .i64 Tryz.underlying48 Tryz.underlying3 hi0 hz0 (some ⟨b, 0, none⟩) i c A hold (n + 1 - i) (by omega) (by omega) (by omega) (by omega) (by rw [hzb]; omega) (by rw [hzb, hik]; exact growslice_fits hroom hbig)
    rw [hik, ← hG] at h
    rw [show (n : Int) + 1 - (i : Int) = ((n + 1 - i : Nat) : Int) by omega, h, hZ]
    congr 4
    apply Array.ext'
    simp
  have hgd : w.drew.heap[b]? = some (.cells cur.toArray 3 (0, 0)) := hg
  have hnd : w.drew.heap[vb]? = some (.cells news.toArray 3 (0, 0)) := hnv
  have hbw : b < w.heap.size := blk_lt hg
  have hvw : vb < w.heap.size := blk_lt hnv
  obtain ⟨W1, hW1⟩ : ∃ W1, W1 = w.drew.alloc (.cells (A ++ Z).toArray 3) := ⟨_, rfl⟩
  have hB1 : Below w.heap.size w W1 := by rw [hW1]; exact bel_alloc ((Below.refl _ w).drew) _
  have hg1 : W1.heap[w.heap.size]? = some (.cells (A ++ Z).toArray 3 (0, 0)) := by rw [hW1]; exact heap_new w.drew _
  have hn1 : W1.heap[vb]? = some (.cells news.toArray 3 (0, 0)) := by rw [hW1]; exact heap_old hnd _
  have ho1 : W1.heap[b]? = some (.cells cur.toArray 3 (0, 0)) := by rw [hW1]; exact heap_old hgd _
  rw [← hW1] at hrz
  have hY1 : news.length = Nat.min 1 (n + 1 - i) * 1 := by
    have h0 : Nat.min 1 (n + 1 - i) = 1 := Nat.min_eq_left (by omega)
    rw [h0, hnl]
  have hY2 : ∀ j v, news[j]? = some v → W1.cell? ((⟨vb, 0, none⟩ : Addr).add j) = some v := fun j v hj => by
    have h0 : (⟨vb, 0, none⟩ : Addr).add j = ⟨vb, j, none⟩ := by unfold Addr.add; split <;> simp_all
    rw [h0, cell_of hn1]
    simpa using hj
  have hY3 : i * 1 + news.length ≤ (A ++ Z).length := by rw [hZl, hnl]; omega
  have hX0 : X.length = Nat.min (n - i) (n - i) * 1 := by
    have h0 : Nat.min (n - i) (n - i) = n - i := Nat.min_eq_left (by omega)
    rw [h0, hXl]
  have hX2 : ∀ j v, X[j]? = some v → cur[i * 1 + j]? = some v := fun j v hj => by
    rw [hX, List.getElem?_drop, List.getElem?_take] at hj
    split at hj
    · exact hj
    · cases hj
  have hX4 : ∀ v ∈ X, v.oneCell' = true := fun v hv => h1c v (by rw [hX] at hv; exact List.mem_of_mem_drop hv)
  have hXH := Lib.hid hX; clear hX
  have hAH := Lib.hid hA; clear hA
  have hGH := Lib.hid hG; clear hG
  have hZH := Lib.hid hZ; clear hZ
  have hZlH := Lib.hid hZl; clear hZl
  have hGmH := Lib.hid hGm; clear hGm
  have hH := Lib.hid hcl; clear hcl
  have hH1 := Lib.hid h1c; clear h1c
  have hH2 := Lib.hid h1v; clear h1v
  have hg0 := Lib.hid hg; clear hg
  have hnv0 := Lib.hid hnv; clear hnv
  have hgd0 := Lib.hid hgd; clear hgd
  have hnd0 := Lib.hid hnd; clear hnd
  have hg10 := Lib.hid hg1; clear hg1
  have hn10 := Lib.hid hn1; clear hn1
  have ho10 := Lib.hid ho1; clear ho1
  have hW10 := Lib.hid hW1; clear hW1
  clear hold hz0 hzs hzb
  have hGi : ¬ (G = i) := by omega
  have hGim : ¬ (G = i + 1) := by omega
  have hci : ¬ (c = i) := by omega
  have mixed : Tryz.prog.follows .mixedOrders = true := by kernel_rfl
  go_enter Tryz.func92, Tryz.ntmps92
  go_wp2_with (first
    | (at_builtin; refine Lib.wpList_append_run _ rfl _ _ _ _ rfl _ _ rfl rfl _ _ (hrz _) ?_)
    | (refine wpList_copy_z rfl (.tmp 43) (.tmp 44) 48 48 rfl 3 Tryz.underlying48 1 sizeEI w.heap.size i (i * 1) (n + 1 - i) (G - i) ⟨vb, 0, none⟩ 1 1 rfl rfl (by omega) (A ++ Z) 3 hg10.out news hY1 hY2 hY3 hH2.out ?_; intro w2 hg2 ho2 hm2))
  have hX3 : ∀ j v, X[j]? = some v → w2.drew.cell? ((⟨b, i, none⟩ : Addr).add j) = some v := fun j v hj => by
    have h0 : (⟨b, i, none⟩ : Addr).add j = ⟨b, i + j, none⟩ := by unfold Addr.add; split <;> simp_all
    have h1 : w2.heap[b]? = some (.cells cur.toArray 3 (0, 0)) := (ho2 b (by omega)).trans ho10.out
    rw [h0]
    show w2.cell? _ = _
    rw [cell_of h1]
    have := hX2 j v hj
    simpa using this
  have hX5 : (i + 1) * 1 + X.length ≤ (splice (A ++ Z) (i * 1) news).length := by
    rw [length_splice _ _ _ hY3, hZlH.out, hXl]; omega
  have hX6 : X.length = Nat.min (n - i) (n - i) * 1 := hX0
  go_region_law_o (refine step_copy_z rfl (.tmp 50) (.tmp 53) 48 48 rfl 3 Tryz.underlying48 1 sizeEI w.heap.size (i + 1) ((i + 1) * 1) (n - i) (G - (i + 1)) ⟨b, i, none⟩ (n - i) (c - i) (by simp [Act.eval, Act.put]) (by simp [Act.eval, Act.put]) (by omega) (splice (A ++ Z) (i * 1) news) 3 hg2.out X hX6 hX3 hX5 hX4 ?_; intro w3 hg3 ho3 hm3)
  go_wp2
  go_ret
  refine ⟨G, Z, rfl, hGn, hGmH.out, ?_, ?_, ?_⟩
  · rw [← hAH.out]; exact hZlH.out
  · rw [← hAH.out, ← hXH.out]; exact hg3.out
  · have h2 : Below w.heap.size w w2 := hB1.trans (hm2.below (Nat.le_of_lt (blk_lt hg10.out)))
    have h3 : Below w.heap.size w2 w3 := by
      have := hm3.below (Nat.le_of_lt (blk_lt (show w2.drew.heap[w.heap.size]? = _ from hg2.out)))
      exact ⟨this.os, this.tape, this.output, this.size, this.block⟩
    exact h2.trans h3

set_option maxRecDepth 6000 in
set_option maxHeartbeats 1000000 in
theorem insert_endI (base : Nat) (w : World) (v : Value) (n vb : Nat) (xs news : List Value) (hown : w.ownsRow base 3 1 v n xs) (hnv : w.heap[vb]? = some (.cells news.toArray 3 (0, 0))) (hnl : news.length = 1)
    (h1v : ∀ v ∈ news, v.oneCell' = true) (hbig : (n + 1) * 8 ≤ 140737488355328) (hbase : base ≤ w.heap.size) :
    Calls Tryz.prog 92 #[v, goInt n, .slice (some ⟨vb, 0, none⟩) 1 1] w fun e w' => ∃ v',
      e = .returned v' ∧ w'.ownsRow base 3 1 v' (n + 1) (xs ++ news) ∧ Mut base [3] w w' := by
  obtain ⟨A, c, rfl, hnc, hcm, hA0⟩ := own_slice hown
  have hc63 : c ≤ 9223372036854775807 := by unfold maxLen at hcm; omega
  have hcut : ∀ (a1 a2 : Nat), True := fun _ _ => trivial
  have hat : At w (some ⟨vb, 0, none⟩) news := .inr ⟨_, rfl, fun j u hj => by
    have h0 : (⟨vb, 0, none⟩ : Addr).add j = ⟨vb, j, none⟩ := by unfold Addr.add; split <;> simp_all
    rw [h0, cell_of hnv]; simpa using hj⟩
  have hcH := Lib.hid hcm; clear hcm
  have hH2 := Lib.hid h1v; clear h1v
  clear hcut
  cases A with
  | none =>
    obtain rfl := hA0 rfl
    obtain rfl : n = 0 := by omega
    go_enter Tryz.func92, Tryz.ntmps92
    go_wp2_with (at_builtin; refine wpList_app rfl (.tmp 23) (.tmp 24) 48 rfl base 3 _ 1 8 Tryz.underlying48 infoEI rfl (by decide) _ _ _ rfl hown _ _ _ news rfl (by rw [hnl]) hat (fun h => by cases h) hH2.out (by unfold maxLen; omega) hbig hbase ?_; intro v' w' ho' hm')
    go_ret
    exact ⟨v', rfl, ho', hm'⟩
  | some ad =>
    go_enter Tryz.func92, Tryz.ntmps92
    go_wp2_with (at_builtin; refine wpList_app rfl (.tmp 23) (.tmp 24) 48 rfl base 3 _ 1 8 Tryz.underlying48 infoEI rfl (by decide) _ _ _ rfl hown _ _ _ news rfl (by rw [hnl]) hat (fun h => by cases h) hH2.out (by unfold maxLen; omega) hbig hbase ?_; intro v' w' ho' hm')
    all_goals go_ret
    all_goals exact ⟨v', rfl, ho', hm'⟩

/-- slices.Insert of one element: the row with it put in; where there was room, in place. -/
theorem insertI (base : Nat) (w : World) (v : Value) (n i vb : Nat) (xs news : List Value) (hown : w.ownsRow base 3 1 v n xs) (hxs : ∀ u ∈ xs, u.oneCell' = true) (hnv : w.heap[vb]? = some (.cells news.toArray 3 (0, 0))) (hnl : news.length = 1)
    (h1v : ∀ v ∈ news, v.oneCell' = true) (hne : v.ownBlock ≠ some vb) (hin : i ≤ n) (hbig : (n + 1) * 8 ≤ 140737488355328) (hbase : base ≤ w.heap.size) :
    Calls Tryz.prog 92 #[v, goInt i, .slice (some ⟨vb, 0, none⟩) 1 1] w fun e w' => ∃ v',
      e = .returned v' ∧ w'.ownsRow base 3 1 v' (n + 1) (ins xs (i * 1) news) ∧ Mut base [3] w w' := by
  by_cases hi : i = n
  · subst hi
    have := insert_endI base w v i vb xs news hown hnv hnl h1v hbig hbase
    rwa [ins_end xs news _ (by rw [hown.1]; exact Nat.le_refl _)]
  · obtain ⟨hl, ho⟩ := hown
    rcases ho with ⟨_, h0⟩ | ⟨g, cap, cur0, rfl, hb, hg, hnc, hcm, hcs, htk⟩
    · omega
    obtain ⟨cur, rfl⟩ : ∃ cur : List Value, cur0 = cur.toArray := ⟨cur0.toList, by simp⟩
    have hcl : cur.length = cap * 1 := by simpa using hcs
    have htk : cur.take (n * 1) = xs := by simpa using htk
    have hvb : vb ≠ g := by
      rintro rfl
      simp [Value.ownBlock] at hne
    have hcm' : cap ≤ 9223372036854775807 := by unfold maxLen at hcm; omega
    by_cases hroom : n + 1 ≤ cap
    · refine (insert_shiftI w g n cap i vb cur news hg hcl hnv hnl (by omega) hroom hcm' hvb (by rw [htk]; exact hxs) h1v).mono ?_
      rintro e w' ⟨rfl, h1, h2⟩
      have hX3 : (i + 1) * 1 + (xs.drop (i * 1)).length ≤ cur.length := by rw [List.length_drop, hl]; omega
      have hY3 : i * 1 + news.length ≤ (splice cur ((i + 1) * 1) (xs.drop (i * 1))).length := by rw [length_splice _ _ _ hX3]; omega
      have hfin := ins_shift cur xs news (i * 1) 1 (n * 1) htk hnl (by omega) (by omega)
      rw [htk] at h1
      refine ⟨_, rfl, ⟨by rw [ins_length, hl, hnl]; omega, .inr ⟨g, cap, _, rfl, hb, h1, hroom, hcm, ?_, ?_⟩⟩, h2.mono hb (fun _ h => h)⟩
      · rw [List.size_toArray, length_splice _ _ _ hY3, length_splice _ _ _ hX3, hcl]
      · rw [show (n + 1) * 1 = n * 1 + 1 by omega, show (i + 1) * 1 = i * 1 + 1 by omega]; exact hfin
    · refine (insert_growI w g n cap i vb cur news hg hcl hnv hnl (by omega) hnc (by omega) hbig (by rw [htk]; exact hxs) h1v).mono ?_
      rintro e w' ⟨G, Z, rfl, hG1, hG2, hZ, h1, h2⟩
      rw [htk] at hZ h1
      have hAl : (xs.take (i * 1)).length = i * 1 := by rw [List.length_take, hl]; omega
      have hZ2 := hZ
      rw [List.length_append, hAl] at hZ2
      have hY3 : i * 1 + news.length ≤ (xs.take (i * 1) ++ Z).length := by rw [hZ]; omega
      have hX3 : (i + 1) * 1 + (xs.drop (i * 1)).length ≤ (splice (xs.take (i * 1) ++ Z) (i * 1) news).length := by rw [length_splice _ _ _ hY3, List.length_drop, hl, hZ]; omega
      have hfin := ins_grow Z xs news (i * 1) 1 (n * 1) hl hnl (by omega) (by omega)
      refine ⟨_, rfl, ⟨by rw [ins_length, hl, hnl]; omega, .inr ⟨w.heap.size, G, _, rfl, hbase, h1, hG1, hG2, ?_, ?_⟩⟩, .of_below h2 _ _⟩
      · rw [List.size_toArray, length_splice _ _ _ hX3, length_splice _ _ _ hY3, hZ]
      · rw [show (n + 1) * 1 = n * 1 + 1 by omega, show (i + 1) * 1 = i * 1 + 1 by omega]; exact hfin

end Go.Proofs.YtpfjhehjmhkbpaaGreatDoor

namespace Go.Proofs.YtpfjhehjmhkbpaaGreatDoor
open Go.RowKit

set_option maxRecDepth 6000 in
set_option maxHeartbeats 1000000 in
theorem delete_rowI (w : World) (g n cap i : Nat) (cur : List Value) (hg : w.heap[g]? = some (.cells cur.toArray 3 (0, 0))) (hcl : cur.length = cap * 1)
    (hi : i < n) (hnc : n ≤ cap) (hcm : cap ≤ 9223372036854775807) (h1c : ∀ v ∈ cur.take (n * 1), v.oneCell' = true) :
    Calls Tryz.prog 143 #[.slice (some ⟨g, 0, none⟩) n cap, .int .i64 (i : Int), .int .i64 ((i : Int) + 1)] w fun e w' =>
      e = .returned (.slice (some ⟨g, 0, none⟩) (n - 1) cap) ∧ w'.heap[g]? = some (.cells (splice (splice cur (i * 1) ((cur.take (n * 1)).drop ((i + 1) * 1))) ((n - 1) * 1) (Builtin.zeroCells (Value.cells (.int .i64 0)) 1).toList).toArray 3 (0, 0)) ∧ Mut g [3] w w' := by
  obtain ⟨i0, hi0, hz0, hzs, hzb⟩ := info_parts infoEI
  have hw1 : IntKind.i64.wrap ((i : Int) + 1) = (i : Int) + 1 := by rw [IntKind.wrap_i64]; omega
  have hb1 : (0 : Int) ≤ (i : Int) + 1 := by omega
  have hin : i ≤ n := by omega
  have hic : i ≤ cap := by omega
  have hjc : i + 1 ≤ cap := by omega
  have hjn : i + 1 ≤ n := by omega
  have hjn2 : (i : Int) + 1 ≤ (n : Int) := by omega
  have hii : (i : Int) ≤ (i : Int) + 1 := by omega
  have hne : ¬ ((i : Int) = (i : Int) + 1) := by omega
  have hci : ¬ (cap = i) := by omega
  have hni : ¬ (n = i) := by omega
  have htn : ((i : Int) + 1).toNat = i + 1 := by omega
  have hlen : i + (n - (i + 1)) = n - 1 := by omega
  have hcl1 : ¬ (cap = n - 1) := by omega
  have hn1 : ((n - 1 : Nat) : Int) ≤ (n : Int) := by omega
  have hn2 : n - (n - 1) = 1 := by omega
  obtain ⟨X, hX⟩ : ∃ X, X = (cur.take (n * 1)).drop ((i + 1) * 1) := ⟨_, rfl⟩
  have hXl : X.length = (n - (i + 1)) * 1 := by rw [hX, List.length_drop, List.length_take]; omega
  have hX2 : ∀ j v, X[j]? = some v → cur[(i + 1) * 1 + j]? = some v := fun j v hj => by
    rw [hX, List.getElem?_drop, List.getElem?_take] at hj
    split at hj
    · exact hj
    · cases hj
  have hX3 : i * 1 + X.length ≤ cur.length := by rw [hXl]; omega
  have hX4 : ∀ v ∈ X, v.oneCell' = true := fun v hv => h1c v (by rw [hX] at hv; exact List.mem_of_mem_drop hv)
  obtain ⟨A, hA, hsrc⟩ : ∃ A : Addr, (if cap = i + 1 then (some ⟨g, 0, none⟩ : Option Addr) else some ⟨g, (i + 1), none⟩) = some A ∧ Hid (∀ t u, X[t]? = some u → w.drew.cell? (A.add t) = some u) := by
    by_cases h : cap = i + 1
    · refine ⟨⟨g, 0, none⟩, by simp [h], fun t u hu => ?_⟩
      have h0 : X.length = 0 := by rw [hXl]; omega
      rw [List.length_eq_zero_iff.1 h0] at hu
      simp at hu
    · refine ⟨⟨g, (i + 1), none⟩, by simp [h], fun t u hu => ?_⟩
      have h0 : (⟨g, (i + 1), none⟩ : Addr).add t = ⟨g, (i + 1) + t, none⟩ := by unfold Addr.add; split <;> simp_all
      rw [h0]
      show w.cell? _ = _
      rw [cell_of hg]
      have := hX2 t u hu
      simpa using this
  have hY3 : (n - 1) * 1 + (Builtin.zeroCells (Value.cells (.int .i64 0)) 1).toList.length ≤ (splice cur (i * 1) X).length := by
    rw [length_splice _ _ _ hX3]
    simp [Builtin.zeroCells, Value.cells]
    omega
  have hZ1 : ∀ v ∈ (Builtin.zeroCells (Value.cells (.int .i64 0)) 1).toList, v.oneCell' = true := by
    first | (simp [Builtin.zeroCells, Value.cells, Value.oneCell']; done) | (simp only [Builtin.zeroCells, Value.cells, Value.oneCell']; simp; intro a ha; match a, ha with | 0, _ => rfl | 1, _ => rfl | 2, _ => rfl | 3, _ => rfl)
  have hXH := Lib.hid hX; clear hX
  have hH := Lib.hid hcl; clear hcl
  have hH1 := Lib.hid h1c; clear h1c
  have hg0 := Lib.hid hg; clear hg
  have hX2H := Lib.hid hX2; clear hX2
  clear hz0 hzs hzb
  have mixed : Tryz.prog.follows .mixedOrders = true := by kernel_rfl
  go_enter Tryz.func143, Tryz.ntmps143
  go_wp2_with fail
  go_region_law_o (refine step_append_z rfl (.tmp 22) (.tmp 25) 48 rfl 3 Tryz.underlying48 1 sizeEI g i cap A (n - (i + 1)) (cap - (i + 1)) (by simp [Act.eval, Act.put]) (by simp [Act.eval, Act.put]) cur 3 hg0.out X hXl hsrc.out hX3 hX4 (by omega) ?_; rw [hlen]; intro w1 hg1 ho1 hm1)
  go_wp2_with (refine wpList_clear_z rfl (.tmp 31) 48 rfl 3 _ 1 8 Tryz.underlying48 infoEI g (n - 1) ((n - 1) * 1) 1 (cap - (n - 1)) rfl (by omega) (splice cur (i * 1) X) 3 hg1.out (by decide) hY3 hZ1 ?_; intro w2 hg2 ho2 hm2)
  go_ret
  refine ⟨rfl, ?_, ?_⟩
  · rw [← hXH.out]; exact hg2.out
  · exact (Mut.trans (w1 := w1) ⟨hm1.os, hm1.tape, hm1.output, hm1.size, hm1.block⟩ hm2)

/-- slices.Delete of one element. -/
theorem deleteI (base : Nat) (w : World) (v : Value) (n i : Nat) (xs : List Value) (hown : w.ownsRow base 3 1 v n xs) (hxs : ∀ u ∈ xs, u.oneCell' = true) (hi : i < n) :
    Calls Tryz.prog 143 #[v, .int .i64 (i : Int), .int .i64 ((i : Int) + 1)] w fun e w' => ∃ v',
      e = .returned v' ∧ w'.ownsRow base 3 1 v' (n - 1) (del xs (i * 1) 1) ∧ Mut base [3] w w' := by
  obtain ⟨hl, ho⟩ := hown
  rcases ho with ⟨_, h0⟩ | ⟨g, cap, cur0, rfl, hb, hg, hnc, hcm, hcs, htk⟩
  · omega
  obtain ⟨cur, rfl⟩ : ∃ cur : List Value, cur0 = cur.toArray := ⟨cur0.toList, by simp⟩
  have hcl : cur.length = cap * 1 := by simpa using hcs
  have htk : cur.take (n * 1) = xs := by simpa using htk
  have hcm' : cap ≤ 9223372036854775807 := by unfold maxLen at hcm; omega
  refine (delete_rowI w g n cap i cur hg hcl hi hnc hcm' (by rw [htk]; exact hxs)).mono ?_
  rintro e w' ⟨rfl, h1, h2⟩
  rw [htk] at h1
  have hZl : (Builtin.zeroCells (Value.cells (.int .i64 0)) 1).toList.length = 1 := by simp [Builtin.zeroCells, Value.cells]
  have hX3 : i * 1 + (xs.drop ((i + 1) * 1)).length ≤ cur.length := by rw [List.length_drop, hl]; omega
  have hY3 : (n - 1) * 1 + (Builtin.zeroCells (Value.cells (.int .i64 0)) 1).toList.length ≤ (splice cur (i * 1) (xs.drop ((i + 1) * 1))).length := by rw [length_splice _ _ _ hX3, hZl]; omega
  have hfin := del_row cur xs (Builtin.zeroCells (Value.cells (.int .i64 0)) 1).toList (i * 1) 1 (n * 1) htk (by omega) (by omega) hZl
  refine ⟨_, rfl, ⟨by rw [del_length _ _ _ (by omega), hl]; omega, .inr ⟨g, cap, _, rfl, hb, h1, by omega, hcm, ?_, ?_⟩⟩, h2.mono hb (fun _ h => h)⟩
  · rw [List.size_toArray, length_splice _ _ _ hY3, length_splice _ _ _ hX3, hcl]
  · rw [show (n - 1) * 1 = n * 1 - 1 by omega, show (i + 1) * 1 = i * 1 + 1 by omega]; exact hfin

end Go.Proofs.YtpfjhehjmhkbpaaGreatDoor

namespace Go.Proofs.YtpfjhehjmhkbpaaGreatDoor

theorem less_irrefl : ∀ a : List UInt8, Op.bytesLess a a = false
  | [] => rfl
  | x :: a => by simp [Op.bytesLess, less_irrefl a]
theorem less_trans : ∀ a b c : List UInt8, Op.bytesLess a b = true → Op.bytesLess b c = true → Op.bytesLess a c = true
  | _, [], _ => by simp [Op.bytesLess]
  | _, _ :: _, [] => by simp [Op.bytesLess]
  | [], _ :: _, _ :: _ => by simp [Op.bytesLess]
  | x :: a, y :: b, z :: c => by
    simp only [Op.bytesLess, Bool.or_eq_true, decide_eq_true_eq, Bool.and_eq_true, beq_iff_eq]
    rintro (h1 | ⟨rfl, h1⟩) (h2 | ⟨rfl, h2⟩)
    · exact .inl (UInt8.lt_trans h1 h2)
    · exact .inl h1
    · exact .inl h2
    · exact .inr ⟨rfl, less_trans a b c h1 h2⟩
theorem less_total : ∀ a b : List UInt8, Op.bytesLess a b = false → Op.bytesLess b a = false → a = b
  | [], [] => by simp
  | _ :: _, [] => by simp [Op.bytesLess]
  | [], _ :: _ => by simp [Op.bytesLess]
  | x :: a, y :: b => by
    simp only [Op.bytesLess, Bool.or_eq_false_iff, decide_eq_false_iff_not, Bool.and_eq_false_imp, beq_iff_eq]
    rintro ⟨h1, h2⟩ ⟨h3, h4⟩
    have hxy : x = y := by
      have h1' := UInt8.not_lt.1 h1
      have h3' := UInt8.not_lt.1 h3
      exact UInt8.le_antisymm h3' h1'
    subst hxy
    rw [less_total a b (h2 rfl) (h4 rfl)]

/-- a stands before b. -/
def blt (a b : ByteArray) : Bool := Op.bytesLess a.toList b.toList

theorem toList_inj {a b : ByteArray} (h : a.toList = b.toList) : a = b := (Lib.bytes_beq_iff a b).1 (by simp [h])
theorem blt_irrefl (a : ByteArray) : blt a a = false := less_irrefl _
theorem blt_trans {a b c : ByteArray} (h : blt a b = true) (k : blt b c = true) : blt a c = true := less_trans _ _ _ h k
theorem blt_total {a b : ByteArray} (h : blt a b = false) (k : blt b a = false) : a = b := toList_inj (less_total _ _ h k)
theorem blt_asymm {a b : ByteArray} (h : blt a b = true) : blt b a = false := by
  cases hb : blt b a
  · rfl
  · have := blt_trans h hb
    rw [blt_irrefl] at this; cases this
theorem blt_of_not {a b : ByteArray} (h : blt a b = false) (hne : a ≠ b) : blt b a = true := by
  cases hb : blt b a
  · exact absurd (blt_total h hb) hne
  · rfl
theorem not_blt_trans {a b c : ByteArray} (h : blt a b = false) (k : blt b c = false) : blt a c = false := by
  cases hc : blt a c
  · rfl
  · by_cases hab : a = b
    · subst hab; rw [hc] at k; cases k
    · have := blt_trans (blt_of_not h hab) hc
      rw [this] at k; cases k
/-- a ≤ b < c. -/
theorem blt_of_le_lt {a b c : ByteArray} (h : blt b a = false) (k : blt b c = true) : blt a c = true := by
  by_cases hab : a = b
  · subst hab; exact k
  · exact blt_trans (blt_of_not h (fun e => hab e.symm)) k
theorem blt_of_lt_le {a b c : ByteArray} (h : blt a b = true) (k : blt c b = false) : blt a c = true := by
  by_cases hbc : b = c
  · subst hbc; exact h
  · exact blt_trans h (blt_of_not k (fun e => hbc e.symm))

/-- Keys that rise. -/
def Rises (l : List ByteArray) : Prop := l.Pairwise fun a b => blt a b = true

/-- How many keys stand before one. -/
def below (l : List ByteArray) (k : ByteArray) : Nat := l.countP fun a => blt a k

theorem below_le (l : List ByteArray) (k : ByteArray) : below l k ≤ l.length := List.countP_le_length

theorem Rises.get_lt {l : List ByteArray} (h : Rises l) {i j : Nat} (hij : i < j) (hj : j < l.length) : blt (l[i]'(by omega)) l[j] = true :=
  List.pairwise_iff_getElem.1 h i j (by omega) hj hij

/-- The one place that parts the keys. -/
theorem below_eq {l : List ByteArray} {k : ByteArray} {i : Nat} (hi : i ≤ l.length) (h1 : ∀ j (hj : j < l.length), j < i → blt l[j] k = true) (h2 : ∀ j (hj : j < l.length), i ≤ j → blt l[j] k = false) : below l k = i := by
  unfold below
  have e : l = l.take i ++ l.drop i := (List.take_append_drop i l).symm
  rw [e, List.countP_append]
  have a1 : (l.take i).countP (fun a => blt a k) = i := by
    have : (l.take i).countP (fun a => blt a k) = (l.take i).length := by
      rw [List.countP_eq_length]
      intro a ha
      obtain ⟨j, hj, rfl⟩ := List.getElem_of_mem ha
      simp only [List.length_take] at hj
      simpa using h1 j (by omega) (by omega)
    rw [this, List.length_take]; omega
  have a2 : (l.drop i).countP (fun a => blt a k) = 0 := by
    rw [List.countP_eq_zero]
    intro a ha
    obtain ⟨j, hj, rfl⟩ := List.getElem_of_mem ha
    simp only [List.length_drop] at hj
    simpa using h2 (i + j) (by omega) (by omega)
  rw [a1, a2]; rfl
end Go.Proofs.YtpfjhehjmhkbpaaGreatDoor

namespace Go.Proofs.YtpfjhehjmhkbpaaGreatDoor
open Go.RowKit

theorem less_any (a b : ByteArray) (w : World) : Calls Tryz.prog 154 #[.string a, .string b] w fun e w' => e = .returned (.bool (blt a b)) ∧ w = w' := by
  go_enter Tryz.func154, Tryz.ntmps154
  go_wp2
  go_ret
  exact ⟨rfl, rfl⟩

theorem isNaN_any (a : ByteArray) (w : World) : Calls Tryz.prog 155 #[.string a] w fun e w' => e = .returned (.bool false) ∧ w = w' := by
  go_enter Tryz.func155, Tryz.ntmps155
  go_wp2
  go_ret
  exact ⟨rfl, rfl⟩

/-- A []string that reads as a list. -/
abbrev RdS (w : World) (A : Option Addr) (l : List ByteArray) : Prop := Rd 9 Value.string w A l

/-- Is the key there? -/
def hasKey (l : List ByteArray) (k : ByteArray) : Bool := decide (l[below l k]? = some k)

set_option maxRecDepth 8000 in
set_option maxHeartbeats 400000 in
theorem search_any (A : Option Addr) (c : Nat) (l : List ByteArray) (key : ByteArray) (w : World) (h : RdS w A l) (hs : Rises l) (hl : l.length ≤ 1000000000) :
    Calls Tryz.prog 118 #[.slice A l.length c, .string key] w fun e w' => e = .returned (.tuple #[.int .i64 (below l key), .bool (hasKey l key)]) ∧ w = w' := by
  have HR := Lib.hid h
  have HS := Lib.hid hs
  clear h hs
  go_enter Tryz.func118, Tryz.ntmps118
  go_wp2
  go_loop [7, 8, 9] (fun i j _ => ∃ a b : Nat, a ≤ b ∧ b ≤ l.length ∧ i = .int .i64 a ∧ j = .int .i64 b ∧ Hid ((∀ k (hk : k < l.length), k < a → blt l[k] key = true) ∧ (∀ k (hk : k < l.length), b ≤ k → blt l[k] key = false))) (fun i j _ => (intOf j).toNat - (intOf i).toNat)
  case atStart => exact ⟨0, l.length, by omega, by omega, rfl, rfl, fun k hk h => by omega, fun k hk h => by omega⟩
  case round =>
    obtain ⟨a, b, hab, hbl, rfl, rfl, hk⟩ := hrel
    by_cases hlt : a < b
    · obtain ⟨bb, off, rfl, hc, -⟩ := HR.out.addr (by omega)
      have hm : (a + b) / 2 < l.length := by omega
      have hcell := hc _ hm
      clear hc
      have HC : Hid (∀ k (hk : k < l.length), (blt l[(a + b) / 2] key = true → k < (a + b) / 2 + 1 → blt l[k] key = true) ∧ (blt l[(a + b) / 2] key = false → (a + b) / 2 ≤ k → blt l[k] key = false)) := by
        intro k hk'
        refine ⟨fun h1 h2 => ?_, fun h1 h2 => ?_⟩
        · by_cases e : k = (a + b) / 2
          · subst e; exact h1
          · exact blt_trans (HS.out.get_lt (show k < (a + b) / 2 by omega) hm) h1
        · by_cases e : k = (a + b) / 2
          · subst e; exact h1
          · cases hb : blt l[k] key
            · rfl
            · have := blt_trans (HS.out.get_lt (show (a + b) / 2 < k by omega) hk') hb
              rw [this] at h1; cases h1
      by_cases hb : blt l[(a + b) / 2] key = true
      · go_wp2_with (go_at_call 154; refine (less_any _ _ _).mono ?_; rw [hb]; rintro e w' ⟨rfl, rfl⟩)
        go_round
        case rel => exact ⟨(a + b) / 2 + 1, b, by omega, hbl, by go_num, rfl, fun k hk' h => (HC.out k hk').1 hb h, hk.out.2⟩
        case measure => simp [intOf]; omega
      · have hb' : blt l[(a + b) / 2] key = false := by simpa using hb
        go_wp2_with (go_at_call 154; refine (less_any _ _ _).mono ?_; rw [hb']; rintro e w' ⟨rfl, rfl⟩)
        go_round
        case rel => exact ⟨a, (a + b) / 2, by omega, by omega, rfl, by go_num, hk.out.1, fun k hk' h => (HC.out k hk').2 hb' h⟩
        case measure => simp [intOf]; omega
    · obtain rfl : a = b := by omega
      have hbe := below_eq hbl hk.out.1 hk.out.2
      have HB := Lib.hid hbe
      clear hbe
      by_cases ha : a < l.length
      · obtain ⟨bb, off, rfl, hc, -⟩ := HR.out.addr (by omega)
        have hcell := hc _ ha
        have HK : Hid (hasKey l key = decide (l[a] = key)) := by
          show hasKey l key = decide (l[a] = key)
          unfold hasKey
          rw [HB.out, List.getElem?_eq_getElem ha]
          simp
        clear hc
        have ha' : (a : Int) < (l.length : Int) := by omega
        by_cases hq : l[a] = key
        · have hq' : (l[a].toList == key.toList) = true := (Lib.bytes_beq_iff _ _).2 hq
          have HQ := Lib.hid hq
          clear hq
          go_wp2
          go_ret2
          refine ⟨?_, rfl⟩
          rw [HB.out, HK.out, HQ.out]; simp
        · have hq' : (l[a].toList == key.toList) = false := (Lib.bytes_beq_false_iff _ _).2 hq
          have HQ := Lib.hid hq
          clear hq
          go_wp2_with (go_at_call 155; refine (isNaN_any _ _).mono ?_; rintro e w' ⟨rfl, rfl⟩)
          go_ret2
          refine ⟨?_, rfl⟩
          rw [HB.out, HK.out]; simp [HQ.out]
      · have HK : Hid (hasKey l key = false) := by
          show hasKey l key = false
          unfold hasKey
          rw [HB.out, List.getElem?_eq_none (by omega)]
          simp
        have ha' : ¬ (a : Int) < (l.length : Int) := by omega
        go_wp2
        go_ret2
        refine ⟨?_, rfl⟩
        rw [HB.out, HK.out]; simp
end Go.Proofs.YtpfjhehjmhkbpaaGreatDoor

namespace Go.Proofs.YtpfjhehjmhkbpaaGreatDoor
open Go.RowKit

theorem enc_get (k : Nat) : ∀ n, (enc n)[k]? = if k = 0 ∨ 128 ≤ n / 128 ^ (k - 1) then some (if n / 128 ^ k < 128 then n / 128 ^ k else n / 128 ^ k % 128 + 128).toUInt8 else none := by
  induction k with
  | zero =>
    intro n
    by_cases h : n < 128
    · rw [enc_small h]; simp [h]
    · rw [enc_big h]; simp [h]
  | succ k ih =>
    intro n
    by_cases h : n < 128
    · rw [enc_small h]
      have : ¬ 128 ≤ n / 128 ^ k := by
        have := Nat.div_le_self n (128 ^ k); omega
      simp [this]
    · rw [enc_big h, List.getElem?_cons_succ, ih]
      rw [Nat.div_div_eq_div_mul, Nat.div_div_eq_div_mul, ← Nat.pow_succ', ← Nat.pow_succ']
      cases k with
      | zero => simp; omega
      | succ k => simp

theorem enc_lt {n k : Nat} : k < (enc n).length ↔ k = 0 ∨ 128 ≤ n / 128 ^ (k - 1) := by
  have h := enc_get k n
  by_cases c : k = 0 ∨ 128 ≤ n / 128 ^ (k - 1)
  · rw [if_pos c] at h
    exact ⟨fun _ => c, fun _ => (List.getElem?_eq_some_iff.1 h).1⟩
  · rw [if_neg c] at h
    exact ⟨fun hk => absurd (List.getElem?_eq_none_iff.1 h) (by omega), fun h => absurd h c⟩

theorem or_shift {a c k : Nat} (ha : a < 128 ^ k) : a ||| (c * 128 ^ k) = a + c * 128 ^ k := by
  have h : 128 ^ k = 2 ^ (7 * k) := by rw [Nat.pow_mul]
  rw [h] at ha ⊢
  rw [Nat.or_comm, Nat.mul_comm, Nat.add_comm, Nat.two_pow_add_eq_or_of_lt ha]

theorem mod_step (n k : Nat) : n % 128 ^ k + n / 128 ^ k % 128 * 128 ^ k = n % 128 ^ (k + 1) := by
  rw [Nat.pow_succ, Nat.mod_mul, Nat.mul_comm (128 ^ k)]

theorem wrap_shl7 (x k : Nat) (hfit : x * 128 ^ k < 18446744073709551616) : IntKind.u64.wrap ((x : Int) * 2 ^ (7 * k)) = ((x * 128 ^ k : Nat) : Int) := by
  have hp : (2 : Nat) ^ (7 * k) = 128 ^ k := by rw [Nat.pow_mul]
  have e : ((x : Int) * (2 : Int) ^ (7 * k)) = ((x * 128 ^ k : Nat) : Int) := by
    rw [← hp]; simp
  rw [e, IntKind.wrap_u64, Int.emod_eq_of_lt (by omega) (by omega)]

theorem and127 {q : Nat} : bits BinOp.and IntKind.u8 (((q % 128 + 128 : Nat)) : Int) 127 = ((q % 128 : Nat) : Int) := by
  have key : ∀ m, m < 128 → bits BinOp.and IntKind.u8 ((m + 128 : Nat) : Int) 127 = ((m : Nat) : Int) := by decide +kernel
  exact key _ (Nat.mod_lt _ (by omega))

theorem ret_num {a c : Int} {b d : Int} (h1 : a = c) (h2 : b = d) : Ending.returned (.tuple #[.int .u64 a, .int .i64 b]) = .returned (.tuple #[.int .u64 c, .int .i64 d]) := by rw [h1, h2]

/-- One byte more: the numbers so far and the new seven bits. -/
theorem or_step {n k c : Nat} (hn : n < M64) (hc : c = n / 128 ^ k % 128) : bits BinOp.or IntKind.u64 ((n % 128 ^ k : Nat) : Int) ((c * 128 ^ k : Nat) : Int) = ((n % 128 ^ (k + 1) : Nat) : Int) ∧ c * 128 ^ k < 18446744073709551616 := by
  have hpk : 0 < 128 ^ k := Nat.pow_pos (by omega)
  have h1 : n % 128 ^ k < 128 ^ k := Nat.mod_lt _ hpk
  have h2 := mod_step n k
  have h3 : n % 128 ^ (k + 1) ≤ n := Nat.mod_le _ _
  have h4 : n % 128 ^ k ≤ n := Nat.mod_le _ _
  unfold M64 at hn
  rw [← hc] at h2
  have h5 : c * 128 ^ k < 18446744073709551616 := by omega
  refine ⟨?_, h5⟩
  rw [bits_or_u64_nat _ _ (by omega) h5, or_shift h1, h2]

set_option maxRecDepth 8000 in
set_option maxHeartbeats 400000 in
theorem takeNum_any (A : Option Addr) (c n : Nat) (l rest : List UInt8) (w : World) (he : l = enc n ++ rest) (h : Rd 5 u8 w A l) (hn : n < M64) (hl : l.length ≤ 1000000000) :
    Calls Tryz.prog 77 #[.slice A l.length c] w fun e w' => e = .returned (.tuple #[.int .u64 n, .int .i64 ((enc n).length : Nat)]) ∧ w = w' := by
  have hpos : 0 < (enc n).length := List.length_pos_iff.2 (enc_ne n)
  have hle : (enc n).length ≤ l.length := by rw [he]; simp
  obtain ⟨b, off, rfl, hc, -⟩ := h.addr? (by omega)
  have HC : Hid (∀ (i : Nat) (x : UInt8), (enc n)[i]? = some x → w.cell? ⟨b, off + i, none⟩ = some (u8 x)) := fun i x hx => by
    refine hc i x ?_
    rw [he, List.getElem?_append_left (List.getElem?_eq_some_iff.1 hx).1]; exact hx
  have HN := Lib.hid hn
  have H10 := Lib.hid (enc_le10 hn)
  clear hc hn h he
  go_enter Tryz.func77, Tryz.ntmps77
  go_wp2
  go_loop [4, 5, 6, 9] (fun a _ _ i => ∃ k : Nat, k < (enc n).length ∧ i = .int .i64 k ∧ a = .int .u64 ((n % 128 ^ k : Nat) : Int)) (fun _ _ _ i => (enc n).length - (intOf i).toNat)
  case atStart => exact ⟨0, hpos, rfl, by simp [Nat.mod_one]⟩
  case round =>
    obtain ⟨k, hk, rfl, rfl⟩ := hrel
    have hkL : (k : Int) < (l.length : Int) := by omega
    have h10 := H10.out
    have hg := enc_get k n
    rw [if_pos (enc_lt.1 hk)] at hg
    have e1 : ((k : Int) == 10) = false := by rw [beq_eq_false_iff_ne]; omega
    have hk9 : k ≤ 9 := by omega
    have hcq : n / 128 ^ k % 128 = n / 128 ^ k % 128 := rfl
    obtain ⟨hor, hfit⟩ := or_step (k := k) HN.out hcq
    by_cases hlast : n / 128 ^ k < 128
    · rw [if_pos hlast] at hg
      have hcell := HC.out k _ hg
      rw [u8_nat (by omega)] at hcell
      have hlen : (enc n).length = k + 1 := by
        have h1 : ¬ k + 1 < (enc n).length := by
          rw [enc_lt]
          rintro (h | h)
          · omega
          · rw [Nat.add_sub_cancel] at h; omega
        omega
      have hall : n % 128 ^ (k + 1) = n := by
        refine Nat.mod_eq_of_lt ?_
        rw [Nat.pow_succ, Nat.mul_comm]
        exact (Nat.div_lt_iff_lt_mul (Nat.pow_pos (by omega))).1 hlast
      have hq1 : k = 9 → ((n / 128 ^ k : Nat) : Int) ≤ 1 := by
        rintro rfl
        have h := HN.out
        unfold M64 at h
        have : n / 128 ^ 9 ≤ 1 := by
          have : n / 128 ^ 9 < 2 := Nat.div_lt_of_lt_mul (by omega)
          omega
        omega
      rw [hall, Nat.mod_eq_of_lt hlast] at hor
      rw [Nat.mod_eq_of_lt hlast] at hfit
      have HS := Lib.hid (wrap_shl7 _ _ hfit)
      generalize n / 128 ^ k = q at *
      generalize n % 128 ^ k = r at *
      generalize q * 128 ^ k = s at *
      have HLen := Lib.hid (And.intro hlen hor)
      clear hg hk hcq hall hfit hlen hor
      by_cases h9 : k = 9
      · subst h9
        have hq1 := hq1 rfl
        go_wp2
        go_ret2
        refine ⟨ret_num ?_ ?_, rfl⟩
        · have h1 := HS.out
          rw [show (2 : Int) ^ (7 * 9) = 9223372036854775808 by decide, IntKind.wrap_u64] at h1
          have h2 := HLen.out.2
          rw [show (q : Int) * 9223372036854775808 = (s : Int) by omega]
          exact h2
        · rw [HLen.out.1]; rfl
      · have h9' : ((k : Int) == 9) = false := by rw [beq_eq_false_iff_ne]; omega
        clear hq1
        go_wp2
        go_ret2
        refine ⟨ret_num ?_ ?_, rfl⟩
        · rw [HS.out]; exact HLen.out.2
        · rw [HLen.out.1]; omega
    · rw [if_neg hlast] at hg
      have hcell := HC.out k _ hg
      rw [u8_nat (by omega)] at hcell
      have HS := Lib.hid (wrap_shl7 _ _ hfit)
      have HA := Lib.hid (and127 (q := n / 128 ^ k))
      have hm127 : n / 128 ^ k % 128 < 128 := Nat.mod_lt _ (by omega)
      generalize n / 128 ^ k % 128 = q at *
      generalize hr' : n % 128 ^ (k + 1) = r' at *
      have HR := Lib.hid hr'
      clear hr'
      generalize n % 128 ^ k = r at *
      generalize q * 128 ^ k = s at *
      have HO := Lib.hid (And.intro hor hk)
      have hls : k + 1 < (enc n).length := by
        rw [enc_lt, Nat.add_sub_cancel]; right; omega
      have HK := Lib.hid hls
      clear hg hk hcq hfit hor hls
      have hq2 : ¬ ((q + 128 : Nat) : Int) < 128 := by omega
      have hwr : IntKind.u64.wrap (q : Int) = (q : Int) := by rw [IntKind.wrap_u64]; omega
      have HW := Lib.hid hwr
      go_wp2
      refine ⟨⟨k + 1, HK.out, by go_num, ?_⟩, ?_⟩
      · have h1 := HA.out
        rw [show ((q + 128 : Nat) : Int) = (q : Int) + 128 by omega] at h1
        rw [h1, HW.out, HS.out, HO.out.1, HR.out]
      · have := HO.out.2; simp [intOf]; omega
end Go.Proofs.YtpfjhehjmhkbpaaGreatDoor
