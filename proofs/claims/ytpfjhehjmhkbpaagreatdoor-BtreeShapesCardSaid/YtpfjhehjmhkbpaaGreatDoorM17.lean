/- delete, at a leaf. The region's walk was printed by wip/tools/mkregion.py (region_del5.py). A key is put below a kid: what becomes of the node; no walk in sight. -/
import Derived.Test.YtpfjhehjmhkbpaaGreatDoorM10
import Derived.Test.YtpfjhehjmhkbpaaGreatDoorM16
namespace Go.Proofs.YtpfjhehjmhkbpaaGreatDoor
open Go.RowKit

theorem da_of {w1 : World} {q : Nat} {e k v i : Value} {B : Nat} (hq : w1.heap[q]? = some (.cells #[e, k, v, i] 92 (0, 0))) (W : World) (m : Mut B [9] w1 W) :
    W.cell? ⟨q, 1, none⟩ = some k ∧ W.cell? ⟨q, 2, none⟩ = some v ∧ Mut B [9] w1 W := by
  have h1 := m.keepc hq (by decide)
  exact ⟨by rw [cell_of h1]; rfl, by rw [cell_of h1]; rfl, m⟩

set_option maxRecDepth 4000 in
set_option maxHeartbeats 2000000 in
theorem delete_leaf [Mode] (B : Nat) (w : World) (T p n : Nat) (root cnt : Int) (dead : Bool) (r : PS) (ls ps : List Pg) (x : Nd) (lo hi : Option ByteArray) (C : KV) (Tl : List Nat) (key : ByteArray)
    (hT : TAt w T p root cnt dead) (hp : Pgr B w p r ls ps) (hx : PgIs ps n x.bytes) (hl : x.bytes.length ≤ 512) (hg : x.Good) (hb : LeafIs ps x lo hi C Tl) (hd : (n :: Tl).Nodup) (_hB : B ≤ w.heap.size) (hBT : B ≤ T) (hc0 : 1 ≤ cnt) (hc1 : cnt ≤ 1000000000) (hk : hasKey x.keys key = true) (hsm : Mode.short = false) :
    Calls Tryz.prog 52 #[.pointer (some ⟨T, 0, none⟩), .int .i64 (n : Int), .string key] w fun e w' => e = .returned (.pointer none) ∧ (∃ ps', Grew ps (n :: Tl) 0 n lo hi (delKV C key) ps' none ∧ Pgr B w' p r ls ps' ∧ TAt w' T p root (cnt + -1) dead ∧ room ps ≤ room ps') ∧ Mut B [133, 147, 80] w w' := by
  obtain ⟨T1, V0, T2, v0, b0, hTl, hkey, hv0, hvo0, hgone, hlen⟩ := hb.gone hk hsm
  have hld := load_sub hT hp hx hg hl
  have hok0 : v0.Ok := hg.ok.vals v0 (List.mem_of_getElem? hv0)
  have hfew := few512 hg.ok hl
  obtain ⟨i, hi'⟩ : ∃ i, i = below x.keys key := ⟨_, rfl⟩
  obtain ⟨K, hK⟩ : ∃ K, K = x.keys.length := ⟨_, rfl⟩
  rw [← hi'] at hkey hv0 hgone
  have hil : i < K := by rw [hK]; exact (List.getElem?_eq_some_iff.1 hkey).1
  have hvl : x.vals.length = K := by rw [hK]; exact (hg.ok.lf hb.leaf).1
  have hlf := hb.leaf
  have hpl := fun (W : World) (q : Nat) (h : NodeAt w.heap.size W q x) => place_any _ W q x key h hb.rises (by omega)
  rw [← hi', hk] at hpl
  have hldH := Lib.hid hld
  have hplH := Lib.hid hpl
  rw [← hK] at hfew
  have hgd := Lib.hid (Nd.dropKey_good hg hlf hl (i := i) (by omega))
  have hone1 := Lib.hid (one_str x.keys)
  have hiK := Lib.hid hil
  have H := Lib.hid (And.intro hT (And.intro hp (And.intro hx (And.intro hg (And.intro hb (And.intro hd (And.intro hgone (And.intro hvo0 (And.intro hi' (And.intro hK (And.intro hvl (And.intro hlf (And.intro hk (And.intro hl (And.intro hTl (And.intro hv0 hok0))))))))))))))))
  clear hld hpl hT hp hx hg hb hd hgone hvo0 hi' hK hlf hk hl hTl hkey hlen hv0 hok0
  have hivl : i < x.vals.length := by rw [hvl]; exact hil
  clear hvl
  go_enter Tryz.func52, Tryz.ntmps52
  go_wp2_with (first
    | (go_at_call 53; refine hldH.out.mono ?_; rintro e w1 ⟨q, rfl, n1, b1⟩; have hT1 := H.out.1.below b1; have hp1 := H.out.2.1.below b1; have e0 := n1.leaf0; rw [H.out.2.2.2.2.2.2.2.2.2.2.2.1] at e0; obtain ⟨g, c, c0, c1, c2, c3, cur, hq2, hnc, hcm, hgg, hBg, hvat, k0, k1, k2, k3⟩ := n1.val H.out.2.2.2.2.2.2.2.2.2.2.2.2.2.2.2.1; have hb1 := b1.size; have hcmH := Lib.hid hcm; clear hcm; have n1H := Lib.hid n1; have hvatH := Lib.hid hvat; clear n1 hvat)
    | (go_at_call 85; refine (hplH.out w1 q n1H.out).mono ?_; rintro e w' ⟨rfl, rfl⟩)
    | (go_at_call 86; refine (clear_any B w1 T p root cnt dead r ls ps v0 [c0, c1, c2, c3] b0 V0 hT1 hp1 H.out.2.2.2.2.2.2.2.1 H.out.2.2.2.2.2.2.2.2.2.2.2.2.2.2.2.2 (by have h1 := H.out.2.2.2.2.2.1; rw [H.out.2.2.2.2.2.2.2.2.2.2.2.2.2.2.1] at h1; simp only [List.nodup_cons, List.nodup_append] at h1; exact h1.2.1.2.1) hvatH.out).mono ?_; rintro e w2 ⟨rfl, ps1, hp2, st2, rm2, m2⟩))
  obtain ⟨hT, hp, hx, hg, hb, hd, hgone, hvo0, hi', hK, hvl, hlf, hk, hl, hTl, hv0, hok0⟩ := H.out
  have hT2 := hT1.mut m2 (by decide)
  have hw2 : Mut B [133, 147] w w2 := (Mut.of_below b1 B [133, 147]).trans m2
  have n2 := n1H.out.mut m2 (by decide) (by decide) (by decide) (by decide) (by decide)
  obtain ⟨hBq, kv, vv, iv, vc, hq, o1, o2, hvals, o3⟩ := n2
  obtain ⟨A1, c1, rfl, l1, m1, -⟩ := own_slice o1
  obtain ⟨A2, c2, rfl, l2, mm2, -⟩ := own_slice o2
  rw [hlf] at hq
  rw [hvl] at hq o2 l2
  rw [← hK] at hq o1 l1
  have hone2 := Lib.hid hvals.one
  have hra := Lib.hid (da_of (B := w.heap.size) hq)
  have mixed : Tryz.prog.follows .mixedOrders = true := by kernel_rfl
  have hw1 : IntKind.i64.wrap ((i : Int) + 1) = (i : Int) + 1 := by rw [IntKind.wrap_i64]; omega
  have H1 := Lib.hid (And.intro hT2 (And.intro hp2 (And.intro hw2 (And.intro hvals (And.intro o3 (And.intro st2 rm2))))))
  have hwc := Lib.hid (show IntKind.i64.wrap (cnt + -1) = cnt + -1 by rw [IntKind.wrap_i64]; omega)
  clear hT hp hx hg hb hd hgone hvo0 hi' hK hvl hlf hk hl hTl hv0 hok0 hT1 hp1 hT2 hp2 hw2 hvals o3 st2 rm2 m1 mm2 e0 hq2 hgg k0 k1 k2 k3 m2
  have hfin : ∀ (w17 : World) (A9 : Option Addr) (c9 : Nat) (A17 : Option Addr) (c17 : Nat), Mut w.heap.size [9, 86] w2 w17 → w17.ownsRow w.heap.size 9 1 (.slice A9 (K - 1) c9) (K - 1) (del (x.keys.map .string) (i * 1) 1) →
      w17.ownsRow w.heap.size 86 4 (.slice A17 (K - 1) c17) (K - 1) (del vc (i * 4) 4) →
      ((w17.setCell ⟨q, 1, none⟩ (.slice A9 (K - 1) c9)).setCell ⟨q, 2, none⟩ (.slice A17 (K - 1) c17)).cell? ⟨T, 2, none⟩ = some (.int .i64 cnt) ∧
      ((w17.setCell ⟨q, 1, none⟩ (.slice A9 (K - 1) c9)).setCell ⟨q, 2, none⟩ (.slice A17 (K - 1) c17)).frozen? ⟨T, 2, none⟩ = false ∧
      Hid (Calls Tryz.prog 41 #[.pointer (some ⟨T, 0, none⟩), .int .i64 (n : Int), .pointer (some ⟨q, 0, none⟩)] (((w17.setCell ⟨q, 1, none⟩ (.slice A9 (K - 1) c9)).setCell ⟨q, 2, none⟩ (.slice A17 (K - 1) c17)).setCell ⟨T, 2, none⟩ (.int .i64 (cnt + -1))) fun e w' =>
        e = .returned (.tuple #[]) ∧ (∃ ps', Grew ps (n :: Tl) 0 n lo hi (delKV C key) ps' none ∧ Pgr B w' p r ls ps' ∧ TAt w' T p root (cnt + -1) dead ∧ room ps ≤ room ps') ∧ Mut B [133, 147, 80] w w') := by
    intro w17 A9 c9 A17 c17 M17 o9 o17
    obtain ⟨hT, hp, hx, hg, hb, hd, hgone, hvo0, hi', hK, hvl, hlf, hk, hl, hTl, hv0, hok0⟩ := H.out
    obtain ⟨hT2, hp2, hw2, hvals, o3, st2, rm2⟩ := H1.out
    have hq17 := M17.keepc hq (by decide)
    have hm1 : Mut w.heap.size [92] w17 (w17.setCell ⟨q, 1, none⟩ (.slice A9 (K - 1) c9)) := (Mut.refl _ _ _).setCell (p := ⟨q, 1, none⟩) hq17 (by simp) hBq _
    have hm2 : Mut w.heap.size [92] w17 ((w17.setCell ⟨q, 1, none⟩ (.slice A9 (K - 1) c9)).setCell ⟨q, 2, none⟩ (.slice A17 (K - 1) c17)) := hm1.setCell (p := ⟨q, 2, none⟩) (heap_set hq17 _ _) (by simp) hBq _
    have hq4 := heap_set (heap_set hq17 1 (.slice A9 (K - 1) c9)) 2 (.slice A17 (K - 1) c17)
    generalize (w17.setCell ⟨q, 1, none⟩ (.slice A9 (K - 1) c9)).setCell ⟨q, 2, none⟩ (.slice A17 (K - 1) c17) = w4 at *
    have M4 : Mut w.heap.size [9, 86, 92] w2 w4 := (M17.mono (Nat.le_refl _) (by simp)).trans (hm2.mono (Nat.le_refl _) (by simp))
    have hT4 := hT2.mut M4 (by decide)
    have hkl : (x.dropKey i).keys.length = K - 1 := by show (del x.keys _ _).length = _; rw [del_length _ _ _ (by omega), ← hK]
    have hvl2 : (x.dropKey i).vals.length = K - 1 := by show (del x.vals _ _).length = _; rw [del_length _ _ _ (by omega), hvl]
    have n4 : NodeAt w.heap.size w4 q (x.dropKey i) := by
      refine ⟨hBq, .slice A9 (K - 1) c9, .slice A17 (K - 1) c17, iv, del vc (i * 4) 4, ?_, ?_, ?_, ?_, own_mut o3 M4 (by decide)⟩
      · rw [show (x.dropKey i).leaf = true from hlf]; exact hq4
      · rw [hkl]
        have e : (x.dropKey i).keys.map Value.string = del (x.keys.map .string) (i * 1) 1 := by
          show (del x.keys i 1).map _ = _
          rw [Nat.mul_one]; simp [del, List.map_take, List.map_drop]
        rw [e]
        exact own_mut o9 hm2 (by decide)
      · rw [hvl2]; exact own_mut o17 hm2 (by decide)
      · exact (hvals.mut M4 (by decide)).del i
    refine ⟨hT4.c2, hT4.unfrozen 2, ?_⟩
    have hm5 : Mut B [80] w4 (w4.setCell ⟨T, 2, none⟩ (.int .i64 (cnt + -1))) := (Mut.refl _ _ _).setCell (p := ⟨T, 2, none⟩) hT4 (by simp) hBT _
    have hT5 : TAt (w4.setCell ⟨T, 2, none⟩ (.int .i64 (cnt + -1))) T p root (cnt + -1) dead := heap_set hT4 2 _
    have hw5 : Mut B [133, 147, 80] w (w4.setCell ⟨T, 2, none⟩ (.int .i64 (cnt + -1))) :=
      ((hw2.mono (Nat.le_refl _) (by simp) : Mut B [133, 147, 80] w w2).local_ M4).trans (hm5.mono (Nat.le_refl _) (by simp))
    have hall : ∀ m ∈ n :: (T1 ++ V0 ++ T2) ++ [], hasP ps m = true := fun m hm => by
      rw [List.append_nil, ← hTl] at hm
      rcases List.mem_cons.1 hm with rfl | hm
      · exact hx.has
      · exact hb.pages m hm
    obtain ⟨s1, s2⟩ := leaf_old_step (V := []) (by rw [List.append_nil, ← hTl]; exact hd) hall st2
    simp only [List.append_nil] at s1 s2
    rw [← hTl] at s1
    have hn1 : hasP ps1 n = true := (s1.tak n).2 (.inr (by simp))
    have hleaf := hgone ps1 (fun m hm => s2 m hm)
    refine (store_any B w.heap.size _ T p n q root (cnt + -1) dead r ls ps1 (x.dropKey i) hT5 ((hp2.mut M4 (by decide) (by decide) (by decide)).mut hm5 (by decide) (by decide) (by decide)) hn1 (n4.mut hm5 (by decide) (by decide) (by decide) (by decide) (by decide)) hgd.out.1.ok hgd.out.2).mono ?_
    rintro e w6 ⟨rfl, v6, hp6, m6⟩
    refine ⟨rfl, ⟨_, (grew_one (h := 0) (x := x.dropKey i) (v := v6) hleaf hgd.out.1 hgd.out.2 hn1 s1.nd).before s1, hp6, hT5.mut m6 (by decide), ?_⟩, hw5.trans (m6.mono (Nat.le_refl _) (by simp))⟩
    rw [room_set_taken hn1]; exact rm2
  have hfinH := Lib.hid hfin
  clear hfin
  refine wp_region_noPanic ?_
  refine wp_region_B (A := (fun W => W.cell? ⟨q, 1, none⟩ = some (.slice A1 K c1) ∧ W.cell? ⟨q, 2, none⟩ = some (.slice A2 K c2) ∧ Mut w.heap.size [9] w2 W)) (b := 17) (by kernel_rfl) (hra.out _ ((Mut.refl _ _ _).drew)) (fun hHeld => ?_)
  refine wpAnyB_takeY (i := 0) (v := ?_) rfl (by kernel_rfl) (by kernel_rfl) (by kernel_rfl) (by kernel_rfl) (fun _ _ _ h => h) (Or.inl ⟨by rfl, ?_⟩) hHeld ?_
  rotate_left 1
  · ((intro w hSw; clear hSw; go_simp) <;> (with_reducible rfl))
  (try simp only [Act.put, List.setIfInBounds_toArray, List.set_cons_zero, List.set_cons_succ])
  refine wpAnyB_takeY (i := 1) (v := ?_) rfl (by kernel_rfl) (by kernel_rfl) (by kernel_rfl) (by kernel_rfl) (fun _ _ _ h => h) (Or.inl ⟨by rfl, ?_⟩) hHeld ?_
  rotate_left 1
  · ((intro w hSw; clear hSw; go_simp) <;> (with_reducible rfl))
  (try simp only [Act.put, List.setIfInBounds_toArray, List.set_cons_zero, List.set_cons_succ])
  refine wpAnyB_take (i := 2) (v := ?_) rfl (by kernel_rfl) (by kernel_rfl) (by kernel_rfl) [17, 9, 5, 4, 3] (by kernel_rfl) (by kernel_rfl) (fun _ _ _ h => h) (Or.inl ⟨by rfl, ?_⟩) hHeld ?_
  rotate_left 1
  · ((intro w hSw; (try dsimp only at hSw); go_simp) <;> (with_reducible rfl))
  (try simp only [Act.put, List.setIfInBounds_toArray, List.set_cons_zero, List.set_cons_succ])
  refine wpAnyB_take (i := 3) (v := ?_) rfl (by kernel_rfl) (by kernel_rfl) (by kernel_rfl) [17, 9, 5, 4] (by kernel_rfl) (by kernel_rfl) (fun _ _ _ h => h) (Or.inl ⟨by rfl, ?_⟩) hHeld ?_
  rotate_left 1
  · ((intro w hSw; (try dsimp only at hSw); go_simp) <;> (with_reducible rfl))
  (try simp only [Act.put, List.setIfInBounds_toArray, List.set_cons_zero, List.set_cons_succ])
  refine wpAnyB_take (i := 4) (v := ?_) rfl (by kernel_rfl) (by kernel_rfl) (by kernel_rfl) [17, 9, 5] (by kernel_rfl) (by kernel_rfl) (fun _ _ _ h => h) (Or.inl ⟨by rfl, ?_⟩) hHeld ?_
  rotate_left 1
  · ((intro w hSw; (try dsimp only at hSw); go_simp) <;> (with_reducible rfl))
  (try simp only [Act.put, List.setIfInBounds_toArray, List.set_cons_zero, List.set_cons_succ])
  refine wpAnyB_take (i := 5) (v := ?_) rfl (by kernel_rfl) (by kernel_rfl) (by kernel_rfl) [17, 9] (by kernel_rfl) (by kernel_rfl) (fun _ _ _ h => h) (Or.inl ⟨by rfl, ?_⟩) hHeld ?_
  rotate_left 1
  · ((intro w hSw; (try dsimp only at hSw); go_simp) <;> (with_reducible rfl))
  (try simp only [Act.put, List.setIfInBounds_toArray, List.set_cons_zero, List.set_cons_succ])
  refine wpAnyB_take (i := 6) (v := ?_) rfl (by kernel_rfl) (by kernel_rfl) (by kernel_rfl) [17, 9] (by kernel_rfl) (by kernel_rfl) (fun _ _ _ h => h) (Or.inl ⟨by rfl, ?_⟩) hHeld ?_
  rotate_left 1
  · ((intro w hSw; (try dsimp only at hSw); go_simp) <;> (with_reducible rfl))
  (try simp only [Act.put, List.setIfInBounds_toArray, List.set_cons_zero, List.set_cons_succ])
  refine wpAnyB_take (i := 7) (v := ?_) rfl (by kernel_rfl) (by kernel_rfl) (by kernel_rfl) [17, 9, 8] (by kernel_rfl) (by kernel_rfl) (fun _ _ _ h => h) (Or.inl ⟨by rfl, ?_⟩) hHeld ?_
  rotate_left 1
  · ((intro w hSw; (try dsimp only at hSw); go_simp) <;> (with_reducible rfl))
  (try simp only [Act.put, List.setIfInBounds_toArray, List.set_cons_zero, List.set_cons_succ])
  refine wpAnyB_take (i := 8) (v := ?_) rfl (by kernel_rfl) (by kernel_rfl) (by kernel_rfl) [17, 9] (by kernel_rfl) (by kernel_rfl) (fun _ _ _ h => h) (Or.inl ⟨by rfl, ?_⟩) hHeld ?_
  rotate_left 1
  · ((intro w hSw; (try dsimp only at hSw); go_simp) <;> (with_reducible rfl))
  (try simp only [Act.put, List.setIfInBounds_toArray, List.set_cons_zero, List.set_cons_succ])
  refine wpAnyB_take (i := 10) (v := ?_) rfl (by kernel_rfl) (by kernel_rfl) (by kernel_rfl) [17, 13, 12, 11] (by kernel_rfl) (by kernel_rfl) (fun _ _ _ h => h) (Or.inl ⟨by rfl, ?_⟩) hHeld ?_
  rotate_left 1
  · ((intro w hSw; (try dsimp only at hSw); go_simp) <;> (with_reducible rfl))
  (try simp only [Act.put, List.setIfInBounds_toArray, List.set_cons_zero, List.set_cons_succ])
  refine wpAnyB_take (i := 11) (v := ?_) rfl (by kernel_rfl) (by kernel_rfl) (by kernel_rfl) [17, 13, 12] (by kernel_rfl) (by kernel_rfl) (fun _ _ _ h => h) (Or.inl ⟨by rfl, ?_⟩) hHeld ?_
  rotate_left 1
  · ((intro w hSw; (try dsimp only at hSw); go_simp) <;> (with_reducible rfl))
  (try simp only [Act.put, List.setIfInBounds_toArray, List.set_cons_zero, List.set_cons_succ])
  refine wpAnyB_take (i := 12) (v := ?_) rfl (by kernel_rfl) (by kernel_rfl) (by kernel_rfl) [17, 13] (by kernel_rfl) (by kernel_rfl) (fun _ _ _ h => h) (Or.inl ⟨by rfl, ?_⟩) hHeld ?_
  rotate_left 1
  · ((intro w hSw; (try dsimp only at hSw); go_simp) <;> (with_reducible rfl))
  (try simp only [Act.put, List.setIfInBounds_toArray, List.set_cons_zero, List.set_cons_succ])
  refine wpAnyB_take (i := 13) (v := ?_) rfl (by kernel_rfl) (by kernel_rfl) (by kernel_rfl) [17] (by kernel_rfl) (by kernel_rfl) (fun _ _ _ h => h) (Or.inl ⟨by rfl, ?_⟩) hHeld ?_
  rotate_left 1
  · ((intro w hSw; (try dsimp only at hSw); go_simp) <;> (with_reducible rfl))
  (try simp only [Act.put, List.setIfInBounds_toArray, List.set_cons_zero, List.set_cons_succ])
  refine wpAnyB_take (i := 14) (v := ?_) rfl (by kernel_rfl) (by kernel_rfl) (by kernel_rfl) [17] (by kernel_rfl) (by kernel_rfl) (fun _ _ _ h => h) (Or.inl ⟨by rfl, ?_⟩) hHeld ?_
  rotate_left 1
  · ((intro w hSw; (try dsimp only at hSw); go_simp) <;> (with_reducible rfl))
  (try simp only [Act.put, List.setIfInBounds_toArray, List.set_cons_zero, List.set_cons_succ])
  refine wpAnyB_take (i := 15) (v := ?_) rfl (by kernel_rfl) (by kernel_rfl) (by kernel_rfl) [17, 16] (by kernel_rfl) (by kernel_rfl) (fun _ _ _ h => h) (Or.inl ⟨by rfl, ?_⟩) hHeld ?_
  rotate_left 1
  · ((intro w hSw; (try dsimp only at hSw); go_simp) <;> (with_reducible rfl))
  (try simp only [Act.put, List.setIfInBounds_toArray, List.set_cons_zero, List.set_cons_succ])
  refine wpAnyB_take (i := 16) (v := ?_) rfl (by kernel_rfl) (by kernel_rfl) (by kernel_rfl) [17] (by kernel_rfl) (by kernel_rfl) (fun _ _ _ h => h) (Or.inl ⟨by rfl, ?_⟩) hHeld ?_
  rotate_left 1
  · ((intro w hSw; (try dsimp only at hSw); go_simp) <;> (with_reducible rfl))
  (try simp only [Act.put, List.setIfInBounds_toArray, List.set_cons_zero, List.set_cons_succ])
  refine wpAnyB_ready (rs := [9]) (by kernel_rfl) (by simp) ?_
  refine AllReadyB.pre rfl (fun Kq hKq => ?_) ?_
  · go_simp
    (go_at_call 97; refine (deleteS w.heap.size _ (.slice A1 K c1) K i _ (by exact o1) hone1.out hiK.out).mono ?_; rintro e w9 ⟨v9, rfl, o9, m9⟩; obtain ⟨A9, c9, rfl, hc9, -, -⟩ := own_slice o9)
    (try go_wp2_with fail)
    refine hKq.out _ _ (hra.out _ (hHeld.2.2.trans m9)) (fun hHeld => ?_)
    clear hKq Kq
    (try simp only [Act.put, List.setIfInBounds_toArray, List.set_cons_zero, List.set_cons_succ])
    refine wpAnyB_ready (rs := [17]) (by kernel_rfl) (by simp) ?_
    refine AllReadyB.post rfl (by kernel_rfl) (fun Kq hKq => ?_) ?_
    · go_simp
      (go_at_call 98; refine (deleteV w.heap.size _ (.slice A2 K c2) K i _ (by exact own_mut o2 hHeld.2.2 (by decide)) hone2.out hiK.out).mono ?_; rintro e w17 ⟨v17, rfl, o17, m17⟩; obtain ⟨A17, c17, rfl, hc17, -, -⟩ := own_slice o17; have M17 : Mut w.heap.size [9, 86] w2 w17 := ((hHeld.2.2).mono (Nat.le_refl _) (by simp)).trans (m17.mono (Nat.le_refl _) (by simp)); have hq17 := M17.keepc hq (by decide); have y1 : w17.cell? ⟨q, 1, none⟩ = some (.slice A1 K c1) := (by rw [cell_of hq17]; rfl); have y2 : w17.cell? ⟨q, 2, none⟩ = some (.slice A2 K c2) := (by rw [cell_of hq17]; rfl); have z1 := unfrozen_of hq17 1; have z2 := unfrozen_of hq17 2; have o99 : w17.ownsRow w.heap.size 9 1 (.slice A9 (K - 1) c9) (K - 1) (del (x.keys.map .string) (i * 1) 1) := own_mut o9 m17 (by decide))
      (try go_wp2_with fail)
      refine hKq.out _ _ ?_
      clear hKq Kq
      (try simp only [Act.put, List.setIfInBounds_toArray, List.set_cons_zero, List.set_cons_succ])
      refine wpAnyB_ready (rs := [18]) (by kernel_rfl) (by simp) ?_
      refine AllReadyB.post rfl (by kernel_rfl) (fun Kq hKq => ?_) ?_
      · go_simp
        refine hKq.out _ _ ?_
        clear hKq Kq
        (try simp only [Act.put, List.setIfInBounds_toArray, List.set_cons_zero, List.set_cons_succ])
        refine wpAnyB_ready (rs := [19]) (by kernel_rfl) (by simp) ?_
        refine AllReadyB.post rfl (by kernel_rfl) (fun Kq hKq => ?_) ?_
        · go_simp
          refine hKq.out _ _ ?_
          clear hKq Kq
          (try simp only [Act.put, List.setIfInBounds_toArray, List.set_cons_zero, List.set_cons_succ])
          refine wpAnyB_ready (rs := [20]) (by kernel_rfl) (by simp) ?_
          refine AllReadyB.post rfl (by kernel_rfl) (fun Kq hKq => ?_) ?_
          · go_simp
            refine hKq.out _ _ ?_
            clear hKq Kq
            (try simp only [Act.put, List.setIfInBounds_toArray, List.set_cons_zero, List.set_cons_succ])
            refine wpAnyB_ready (rs := [21]) (by kernel_rfl) (by simp) ?_
            refine AllReadyB.post rfl (by kernel_rfl) (fun Kq hKq => ?_) ?_
            · go_simp
              refine hKq.out _ _ ?_
              clear hKq Kq
              (try simp only [Act.put, List.setIfInBounds_toArray, List.set_cons_zero, List.set_cons_succ])
              refine wpAnyB_ready (rs := [22]) (by kernel_rfl) (by simp) ?_
              refine AllReadyB.post rfl (by kernel_rfl) (fun Kq hKq => ?_) ?_
              · go_simp
                refine hKq.out _ _ ?_
                clear hKq Kq
                (try simp only [Act.put, List.setIfInBounds_toArray, List.set_cons_zero, List.set_cons_succ])
                refine wpAnyB_ready (rs := [23]) (by kernel_rfl) (by simp) ?_
                refine AllReadyB.post rfl (by kernel_rfl) (fun Kq hKq => ?_) ?_
                · go_simp
                  refine hKq.out _ _ ?_
                  clear hKq Kq
                  (try simp only [Act.put, List.setIfInBounds_toArray, List.set_cons_zero, List.set_cons_succ])
                  refine wpAnyB_done (by kernel_rfl) ?_ _
                  refine NoPanic.normal ?_
                  obtain ⟨t1, t2, t3⟩ := hfinH.out _ _ _ _ _ M17 o99 o17
                  go_wp2_with (first | (go_at_call 89; refine (addI64 T 2 cnt (-1) _ t1 t2 hwc.out).mono ?_; rintro e w' ⟨rfl, rfl⟩) | (go_at_call 41; refine t3.out.mono ?_; rintro e w6 ⟨rfl, g6, m6⟩))
                  go_ret
                  exact ⟨rfl, g6, m6⟩
                exact AllReadyB.nil
              exact AllReadyB.nil
            exact AllReadyB.nil
          exact AllReadyB.nil
        exact AllReadyB.nil
      exact AllReadyB.nil
    exact AllReadyB.nil
  exact AllReadyB.nil
end Go.Proofs.YtpfjhehjmhkbpaaGreatDoor

namespace Go.Proofs.YtpfjhehjmhkbpaaGreatDoor

/-- The node with a new kid behind kid i. -/
def Nd.addKid (x : Nd) (i : Nat) (k : ByteArray) (m : Nat) : Nd := { x with keys := ins x.keys i [k], kids := ins x.kids (i + 1) [m] }

theorem Nd.addKid_good [Mode] {x : Nd} (h : x.Good) (hl : x.leaf = false) (hb : x.bytes.length ≤ 512) {i : Nat} (_hi : i ≤ x.keys.length) {k : ByteArray} {m : Nat} (hk : k.size ≤ 200) (hm : m < 16384) (ht : Mode.short = true → k.size ≤ 4) :
    (x.addKid i k m).Good ∧ (x.addKid i k m).bytes.length ≤ 900 := by
  have hkl := (h.ok.nd hl).1
  have hv0 := (h.ok.nd hl).2
  have hf := few512 h.ok hb
  have hgood : (x.addKid i k m).Good := by
    refine ⟨⟨?_, fun k' hk' => ?_, h.ok.vals, fun u hu => ?_, (fun h' => by rw [show (x.addKid i k m).leaf = x.leaf from rfl, hl] at h'; cases h'), fun _ => ⟨?_, hv0⟩⟩, fun j k' u h1 h2 => ?_, fun hs => ⟨fun k' hk' => ?_, (h.tiny hs).2⟩, fun _ _ => ?_⟩
    · show (ins x.keys _ _).length ≤ _
      rw [ins_length]; simp only [List.length_cons, List.length_nil]; omega
    · rcases mem_ins hk' with rfl | h'
      · exact hk
      · exact h.ok.keys k' h'
    · rcases mem_ins hu with rfl | h'
      · omega
      · exact h.ok.kids u h'
    · show (ins x.kids _ _).length = (ins x.keys _ _).length + 1
      rw [ins_length, ins_length, hkl]; rfl
    · have h2' : x.vals[j]? = some u := h2
      rw [hv0] at h2'; simp at h2'
    · rcases mem_ins hk' with rfl | h'
      · exact ht hs
      · exact (h.tiny hs).1 k' h'
    · show 1 ≤ (ins x.keys _ _).length
      rw [ins_length]; simp only [List.length_cons, List.length_nil]; omega
  refine ⟨hgood, ?_⟩
  have e1 : (x.addKid i k m).entries = ins x.entries i [keyBytes k] := by
    unfold Nd.entries
    rw [if_neg (by rw [show (x.addKid i k m).leaf = x.leaf from rfl, hl]; decide), if_neg (by rw [hl]; decide)]
    show (ins x.keys i [k]).map keyBytes = _
    simp [ins, List.map_take, List.map_drop]
  have e2 := Nd.entry_le hgood (keyBytes k) (by rw [e1]; simp [ins])
  have e0 : (x.addKid i k m).kids.map enc = ins (x.kids.map enc) (i + 1) [enc m] := by
    show (ins x.kids (i + 1) [m]).map enc = _
    simp [ins, List.map_take, List.map_drop]
  have e9 := enc_three (n := m) (by omega)
  have e3 := Nd.bytes_len (x.addKid i k m)
  have e4 := x.bytes_len
  have e5 := enc_two hgood.ok.few
  rw [e1, sumLen_ins, e0, sumLen_ins] at e3
  have e7 : 0 < (enc x.keys.length).length := List.length_pos_iff.2 (enc_ne _)
  omega

/-- A key is put below a kid. -/
theorem Kids.put [Mode] {ps : List Pg} {h n : Nat} {x : Nd} {lo hi : Option ByteArray} {C : KV} {T V : List Nat} {key : ByteArray} {b : List UInt8}
    (hk : Kids (Sub ps h) lo x.keys hi x.kids C T) (hx : PgIs ps n x.bytes) (hl : x.bytes.length ≤ 512) (hg : x.Good) (hlf : x.leaf = false) (hd : (n :: T ++ V).Nodup) (hlo : leO lo key) (hhi : ltO key hi) :
    ∃ m l r Ci Si, x.kids[kidIdx x.keys key]? = some m ∧ Sub ps h m l r Ci Si ∧ leO l key ∧ ltO key r ∧ (Si ++ V).Nodup ∧ (((insKV C key b).length : Int) - C.length = (insKV Ci key b).length - Ci.length) ∧
      (∀ ps', Grew ps (Si ++ V) h m l r (insKV Ci key b) ps' none → Grew ps (n :: T ++ V) (h + 1) n lo hi (insKV C key b) ps' none) ∧
      (∀ ps' k m2, Grew ps (Si ++ V) h m l r (insKV Ci key b) ps' (some (k, m2)) → ∃ T', Stp ps (n :: T ++ V) ps' (n :: T') ∧ Body ps' (h + 1) (x.addKid (kidIdx x.keys key) k m2) lo hi (insKV C key b) T' ∧ k.size ≤ 200 ∧ (Mode.short = true → k.size ≤ 4) ∧ m2 < 16384 ∧ hasP ps' n = true) := by
  obtain ⟨m, l, r, Ca, Ci, Cb, Sa, Si, Sb, h1, rfl, rfl, h4, h5, h6, h7, h8, h9⟩ := hk.open (fun n lo hi C T hp => hp.span h) hlo hhi
  have hpg : ∀ q ∈ n :: (Sa ++ Si ++ Sb), hasP ps q = true := fun q hq => by
    rcases List.mem_cons.1 hq with rfl | hq
    · exact hx.has
    · exact Kids.pages (q := fun m => hasP ps m = true) (fun n lo hi C T hp => hp.pages h) hk q hq
  have hperm : ((n :: Sa) ++ (Si ++ V) ++ Sb).Perm (n :: (Sa ++ Si ++ Sb) ++ V) := by
    have := (List.perm_append_comm (l₁ := V) (l₂ := Sb)).append_left (n :: Sa ++ Si)
    simpa using this
  have hd2 := hperm.nodup_iff.2 hd
  have hSV : (Si ++ V).Nodup := (List.nodup_append.1 (List.nodup_append.1 hd2).1).2.1
  have hframe : ∀ {ps' : List Pg} {S' : List Nat}, Stp ps (Si ++ V) ps' S' → Stp ps (n :: (Sa ++ Si ++ Sb) ++ V) ps' (n :: (Sa ++ S' ++ Sb)) ∧ (∀ q ∈ n :: (Sa ++ Sb), ∀ l, PgIs ps q l → PgIs ps' q l) := fun {ps' S'} hst => by
    refine ⟨(hst.frame (A := n :: Sa) (B := Sb) (fun q hq => hpg q (by simp only [List.mem_append, List.mem_cons] at hq ⊢; rcases hq with (rfl | h) | h; exact .inl rfl; exact .inr (.inl (.inl h)); exact .inr (.inr h))) hd2).perm0 hperm |>.perm (by simp), fun q hq l hl => hst.keep q l hl fun hqs => ?_⟩
    obtain ⟨g1, g2, g3⟩ := List.nodup_append.1 hd2
    obtain ⟨g4, g5, g6⟩ := List.nodup_append.1 g1
    have hq' : q ∈ n :: Sa ∨ q ∈ Sb := by
      simp only [List.mem_cons, List.mem_append] at hq ⊢
      rcases hq with h | h | h
      · exact .inl (.inl h)
      · exact .inl (.inr h)
      · exact .inr h
    rcases hq' with hq' | hq'
    · exact g6 q hq' q hqs rfl
    · exact g3 q (List.mem_append.2 (.inr hqs)) q hq' rfl
  have hkids : x.kids.set (kidIdx x.keys key) m = x.kids := by
    apply List.ext_getElem?
    intro j
    rw [List.getElem?_set]
    by_cases e : kidIdx x.keys key = j
    · subst e
      have := (List.getElem?_eq_some_iff.1 h1).1
      rw [if_pos rfl, if_pos this, h1]
    · rw [if_neg e]
  have hmono : ∀ {ps' : List Pg}, (∀ q ∈ n :: (Sa ++ Sb), ∀ l, PgIs ps q l → PgIs ps' q l) → ∀ (n : Nat) lo hi C T, (∀ m ∈ T, m ∈ Sa ++ Sb) → Sub ps h n lo hi C T → Sub ps' h n lo hi C T := fun {ps'} hmv n lo hi C T hT hs => hs.move h fun q hq l hl => hmv q (List.mem_cons_of_mem _ (hT q hq)) l hl
  refine ⟨m, l, r, Ci, Si, h1, h6, h4, h5, hSV, ?_, fun ps' hg' => ?_, fun ps' k m2 hg' => ?_⟩
  · rw [insKV_mid h7 h8]
    simp only [List.length_append]
    omega
  · cases hg' with
    | one hs hp =>
      obtain ⟨k1, k2⟩ := hframe hp
      have hK := (h9 (Sub ps' h) (hmono k2)).1 m _ _ hs
      rw [hkids] at hK
      rw [insKV_mid h7 h8]
      exact .one ⟨x, _, rfl, k2 n (by simp) _ hx, hl, hg, hlf, hK⟩ k1
  · cases hg' with
    | two hC hlo' hhi' hks hkt hm g1 g2 hp =>
      obtain ⟨k1, k2⟩ := hframe hp
      have hK := (h9 (Sub ps' h) (hmono k2)).2 m k m2 _ _ _ _ hlo' hhi' g1 g2
      rw [hkids] at hK
      rw [insKV_mid h7 h8, hC]
      exact ⟨_, k1, ⟨hlf, hK⟩, hks, hkt, hm, (k2 n (by simp) _ hx).has⟩
end Go.Proofs.YtpfjhehjmhkbpaaGreatDoor
