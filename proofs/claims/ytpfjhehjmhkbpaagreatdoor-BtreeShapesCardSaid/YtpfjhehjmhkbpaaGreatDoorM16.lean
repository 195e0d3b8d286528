/- put, at a leaf, of a new key. The region's walk was printed by wip/tools/mkregion.py. -/
import Derived.Test.YtpfjhehjmhkbpaaGreatDoorM15
import Derived.Test.YtpfjhehjmhkbpaaGreatDoorM12
import Derived.Test.YtpfjhehjmhkbpaaGreatDoorM05
namespace Go.Proofs.YtpfjhehjmhkbpaaGreatDoor
open Go.RowKit

theorem heap_at {w : World} {n : Nat} (o : Obj) (_ : True) (h : n = w.heap.size) : (w.alloc o).heap[n]? = some o := by subst h; exact heap_new w o

theorem own_block_lt {w : World} {B e sz n : Nat} {v : Value} {xs : List Value} (h : w.ownsRow B e sz v n xs) : ∀ m, w.heap.size ≤ m → v.ownBlock ≠ some m := by
  intro m hm he
  obtain ⟨_, h2 | ⟨g, cap, cur, rfl, _, hg, _⟩⟩ := h
  · obtain ⟨rfl, _⟩ := h2; simp [Value.ownBlock] at he
  · simp only [Value.ownBlock, Option.some.injEq] at he
    subst he
    have := blk_lt hg
    omega

theorem ra_of {w1 : World} {q pb : Nat} {e k v i d0 d1 d2 d3 : Value} {B : Nat} (hq : w1.heap[q]? = some (.cells #[e, k, v, i] 92 (0, 0))) (hb : w1.heap[pb]? = some (.cells #[d0, d1, d2, d3] 86 (0, 0))) (W : World) (m : Mut B [9] w1 W) :
    W.cell? ⟨q, 1, none⟩ = some k ∧ W.cell? ⟨q, 2, none⟩ = some v ∧ W.cell? ⟨pb, 0, none⟩ = some d0 ∧ W.cell? ⟨pb, 1, none⟩ = some d1 ∧ W.cell? ⟨pb, 2, none⟩ = some d2 ∧ W.cell? ⟨pb, 3, none⟩ = some d3 ∧ Mut B [9] w1 W := by
  have h1 := m.keepc hq (by decide)
  have h2 := m.keepc hb (by decide)
  exact ⟨by rw [cell_of h1]; rfl, by rw [cell_of h1]; rfl, by rw [cell_of h2]; rfl, by rw [cell_of h2]; rfl, by rw [cell_of h2]; rfl, by rw [cell_of h2]; rfl, m⟩

set_option maxRecDepth 4000 in
set_option maxHeartbeats 2000000 in
theorem put_leaf_new [Mode] (B : Nat) (w : World) (T p n : Nat) (root cnt : Int) (dead : Bool) (r : PS) (ls ps : List Pg) (x : Nd) (lo hi : Option ByteArray) (C : KV) (Tl : List Nat) (key : ByteArray) (b : List UInt8) (vl : Vl) (cs : List Value) (V : List Nat)
    (hT : TAt w T p root cnt dead) (hp : Pgr B w p r ls ps) (hx : PgIs ps n x.bytes) (hl : x.bytes.length ≤ 512) (hg : x.Good) (hb : LeafIs ps x lo hi C Tl) (hd : (n :: Tl ++ V).Nodup) (hks : key.size ≤ 200) (hin : Fit key vl) (hvo : vl.Ok)
    (hlo : leO lo key) (hhi : ltO key hi) (hva : VlAt w cs vl) (hv : VlOf ps vl b V) (hr : 1 ≤ room ps) (hB : B ≤ w.heap.size) (hBT : B ≤ T) (hc0 : 0 ≤ cnt) (hc1 : cnt ≤ 1000000000) (hk : hasKey x.keys key = false) :
    Calls Tryz.prog 44 #[.pointer (some ⟨T, 0, none⟩), .int .i64 (n : Int), .string key, .agg cs.toArray] w fun e w' => ∃ v, e = .returned v ∧ Grown_ B w.heap.size T p root (cnt + 1) dead r ls ps (n :: Tl ++ V) 0 n lo hi (insKV C key b) 1 v w' ∧ Mut B [133, 147, 80] w w' := by
  obtain ⟨da, dn, dc, db, ds, df, rfl⟩ := hva.shape
  have hld := fun (o : Obj) => load_sub (hT.mut ((Mut.refl 0 [] w).alloc o) (by simp)) (hp.mut ((Mut.refl 0 [] w).alloc o) (by simp) (by simp) (by simp)) hx hg hl
  have hfew := few512 hg.ok hl
  obtain ⟨i, hi'⟩ : ∃ i, i = below x.keys key := ⟨_, rfl⟩
  obtain ⟨K, hK⟩ : ∃ K, K = x.keys.length := ⟨_, rfl⟩
  have hik : i ≤ K := by rw [hi', hK]; exact below_le _ _
  have hvl : x.vals.length = K := by rw [hK]; exact (hg.ok.lf hb.leaf).1
  have hlf := hb.leaf
  have hpl := fun (W : World) (q : Nat) (h : NodeAt (w.heap.size + 1) W q x) => place_any _ W q x key h hb.rises (by omega)
  rw [← hi', hk] at hpl
  have hldH := Lib.hid hld
  have hplH := Lib.hid hpl
  rw [← hK] at hfew
  have hone1 := Lib.hid (one_str x.keys)
  have honek := Lib.hid (show ∀ v ∈ [Value.string key], v.oneCell' = true from fun u hu => by simp at hu; subst hu; rfl)
  have hone4 := Lib.hid (show ∀ v ∈ ([.slice da dn dc, .bool db, .int .i64 ds, .int .i64 df] : List Value), v.oneCell' = true from hva.one)
  have hbd1 := Lib.hid (show (K + 1) * 16 ≤ 140737488355328 by omega)
  have hbd2 := Lib.hid (show (K + 1) * 48 ≤ 140737488355328 by omega)
  have hikH := Lib.hid hik
  have H := Lib.hid (And.intro hT (And.intro hp (And.intro hx (And.intro hg (And.intro hb (And.intro hd (And.intro hva (And.intro hv (And.intro hi' (And.intro hK (And.intro hvl (And.intro hlf (And.intro hk hl)))))))))))))
  clear hld hpl hT hp hx hg hb hd hva hv hi' hK hvl hlf hk hl
  go_enter Tryz.func44, Tryz.ntmps44
  go_wp2_with (first
    | (go_at_call 53; refine (hldH.out _).mono ?_; rintro e w1 ⟨q, rfl, n1, b1⟩; have e0 := n1.leaf0; rw [H.out.2.2.2.2.2.2.2.2.2.2.2.1] at e0; have n1H := Lib.hid n1; clear n1)
    | (go_at_call 85; refine (hplH.out w1 q (by have := n1H.out; simpa using this)).mono ?_; rintro e w' ⟨rfl, rfl⟩))
  obtain ⟨hT, hp, hx, hg, hb, hd, hva, hv, hi', hK, hvl, hlf, hk, hl⟩ := H.out
  have hT1 := (hT.mut ((Mut.refl 0 [] w).alloc (.cells #[.slice da dn dc, .bool db, .int .i64 ds, .int .i64 df] 86)) (by simp)).below b1
  have hp1 := (hp.mut ((Mut.refl 0 [] w).alloc (.cells #[.slice da dn dc, .bool db, .int .i64 ds, .int .i64 df] 86)) (by simp) (by simp) (by simp)).below b1
  have hva1 := (hva.mut ((Mut.refl 0 [] w).alloc (.cells #[.slice da dn dc, .bool db, .int .i64 ds, .int .i64 df] 86)) (by simp)).mut (.of_below b1 0 []) (by simp)
  have hpb := heap_below (heap_new w (.cells #[.slice da dn dc, .bool db, .int .i64 ds, .int .i64 df] 86)) b1 (by simp)
  have hw1 : Below w.heap.size w w1 := bel_then ((Below.refl _ _).alloc (Nat.le_refl _) _) (by simp) b1
  have n1 := n1H.out
  simp only [World.size_alloc] at n1
  obtain ⟨hBq, kv, vv, iv, vc, hq, o1, o2, hvals, o3⟩ := n1
  obtain ⟨A1, c1, rfl, l1, m1, -⟩ := own_slice o1
  obtain ⟨A2, c2, rfl, l2, m2, -⟩ := own_slice o2
  rw [hlf] at hq
  rw [hvl] at hq o2 l2
  rw [← hK] at hq o1 l1
  have hb1 := b1.size
  simp only [World.size_alloc] at hb1
  have hne1 := Lib.hid (own_block_lt o1)
  have hne2 := Lib.hid (own_block_lt o2)
  have hone2 := Lib.hid hvals.one
  have hra := Lib.hid (ra_of (B := w.heap.size + 1) hq hpb)
  have mixed : Tryz.prog.follows .mixedOrders = true := by kernel_rfl
  have H1 := Lib.hid (And.intro hT1 (And.intro hp1 (And.intro hva1 (And.intro hw1 (And.intro hvals o3)))))
  clear hT hp hx hg hb hd hva hv hi' hK hvl hlf hk hl hT1 hp1 hva1 hw1 hvals o3 m1 m2 e0
  have hwc := Lib.hid (show IntKind.i64.wrap (cnt + 1) = cnt + 1 by rw [IntKind.wrap_i64]; omega)
  have hfin : ∀ (w17 : World) (A9 : Option Addr) (c9 : Nat) (A17 : Option Addr) (c17 : Nat), Mut (w.heap.size + 1) [9, 86] w1 w17 → w17.ownsRow (w.heap.size + 1) 9 1 (.slice A9 (K + 1) c9) (K + 1) (ins (x.keys.map .string) (i * 1) [.string key]) →
      w17.ownsRow (w.heap.size + 1) 86 4 (.slice A17 (K + 1) c17) (K + 1) (ins vc (i * 4) [.slice da dn dc, .bool db, .int .i64 ds, .int .i64 df]) →
      ((w17.setCell ⟨q, 1, none⟩ (.slice A9 (K + 1) c9)).setCell ⟨q, 2, none⟩ (.slice A17 (K + 1) c17)).cell? ⟨T, 2, none⟩ = some (.int .i64 cnt) ∧
      ((w17.setCell ⟨q, 1, none⟩ (.slice A9 (K + 1) c9)).setCell ⟨q, 2, none⟩ (.slice A17 (K + 1) c17)).frozen? ⟨T, 2, none⟩ = false ∧
      Hid (Calls Tryz.prog 90 #[.pointer (some ⟨T, 0, none⟩), .int .i64 (n : Int), .pointer (some ⟨q, 0, none⟩)] (((w17.setCell ⟨q, 1, none⟩ (.slice A9 (K + 1) c9)).setCell ⟨q, 2, none⟩ (.slice A17 (K + 1) c17)).setCell ⟨T, 2, none⟩ (.int .i64 (cnt + 1))) fun e w' =>
        ∃ v, e = .returned v ∧ Grown_ B w.heap.size T p root (cnt + 1) dead r ls ps (n :: Tl ++ V) 0 n lo hi (insKV C key b) 1 v w' ∧ Mut B [133, 147, 80] w w') := by
    intro w17 A9 c9 A17 c17 M17 o9 o17
    obtain ⟨hT, hp, hx, hg, hb, hd, hva, hv, hi', hK, hvl, hlf, hk, hl⟩ := H.out
    obtain ⟨hT1, hp1, hva1, hw1, hvals, o3⟩ := H1.out
    have hq17 := M17.keepc hq (by decide)
    have hm1 : Mut (w.heap.size + 1) [92] w17 (w17.setCell ⟨q, 1, none⟩ (.slice A9 (K + 1) c9)) := (Mut.refl _ _ _).setCell (p := ⟨q, 1, none⟩) hq17 (by simp) hBq _
    have hm2 : Mut (w.heap.size + 1) [92] w17 ((w17.setCell ⟨q, 1, none⟩ (.slice A9 (K + 1) c9)).setCell ⟨q, 2, none⟩ (.slice A17 (K + 1) c17)) := hm1.setCell (p := ⟨q, 2, none⟩) (heap_set hq17 _ _) (by simp) hBq _
    have hq4 := heap_set (heap_set hq17 1 (.slice A9 (K + 1) c9)) 2 (.slice A17 (K + 1) c17)
    generalize (w17.setCell ⟨q, 1, none⟩ (.slice A9 (K + 1) c9)).setCell ⟨q, 2, none⟩ (.slice A17 (K + 1) c17) = w4 at *
    have M4 : Mut (w.heap.size + 1) [9, 86, 92] w1 w4 := (M17.mono (Nat.le_refl _) (by simp)).trans (hm2.mono (Nat.le_refl _) (by simp))
    have hT4 := hT1.mut M4 (by decide)
    have hkl : (x.addKey key vl).keys.length = K + 1 := by show (ins x.keys _ _).length = _; rw [ins_length, ← hK]; rfl
    have hvl2 : (x.addKey key vl).vals.length = K + 1 := by show (ins x.vals _ _).length = _; rw [ins_length, hvl]; rfl
    have n4 : NodeAt (w.heap.size + 1) w4 q (x.addKey key vl) := by
      refine ⟨hBq, .slice A9 (K + 1) c9, .slice A17 (K + 1) c17, iv, ins vc (i * 4) [.slice da dn dc, .bool db, .int .i64 ds, .int .i64 df], ?_, ?_, ?_, ?_, own_mut o3 M4 (by decide)⟩
      · rw [show (x.addKey key vl).leaf = true from hlf]; exact hq4
      · rw [hkl]
        have e : (x.addKey key vl).keys.map Value.string = ins (x.keys.map .string) (i * 1) [.string key] := by
          show (ins x.keys (below x.keys key) [key]).map _ = _
          rw [← hi', Nat.mul_one]; simp [ins, List.map_take, List.map_drop]
        rw [e]
        exact own_mut o9 hm2 (by decide)
      · rw [hvl2]; exact own_mut o17 hm2 (by decide)
      · show ValsAt w4 _ (ins x.vals (below x.keys key) [vl])
        rw [← hi']
        exact (hvals.mut M4 (by decide)).ins (hva1.mut M4 (by decide)) i
    refine ⟨hT4.c2, hT4.unfrozen 2, ?_⟩
    have hm5 : Mut B [80] w4 (w4.setCell ⟨T, 2, none⟩ (.int .i64 (cnt + 1))) := (Mut.refl _ _ _).setCell (p := ⟨T, 2, none⟩) hT4 (by simp) hBT _
    have hT5 : TAt (w4.setCell ⟨T, 2, none⟩ (.int .i64 (cnt + 1))) T p root (cnt + 1) dead := heap_set hT4 2 _
    have hw5 : Mut B [133, 147, 80] w (w4.setCell ⟨T, 2, none⟩ (.int .i64 (cnt + 1))) :=
      ((Mut.of_below hw1 B [133, 147, 80]).local_ (M4.mono (by omega) (fun _ h => h))).trans (hm5.mono (Nat.le_refl _) (by simp))
    obtain ⟨T1, T2, hTl, hleaf⟩ := hb.add hk hlo hhi hv
    have hgd := Nd.addKey_good hg hlf hl hks hvo hin
    have hperm : (n :: Tl ++ V).Perm (n :: (T1 ++ V ++ T2)) := by
      rw [hTl]
      have := (List.perm_append_comm (l₁ := T2) (l₂ := V)).append_left (n :: T1)
      simpa using this
    have hall : ∀ m ∈ n :: Tl ++ V, hasP ps m = true := fun m hm => by
      rcases List.mem_append.1 hm with hm | hm
      · rcases List.mem_cons.1 hm with rfl | hm
        · exact hx.has
        · exact hb.pages m hm
      · exact hv.pages m hm
    have hst : Stp ps (n :: Tl ++ V) ps (n :: (T1 ++ V ++ T2)) := (Stp.refl hall hd).perm hperm
    have hs := settles_any B _ (w4.setCell ⟨T, 2, none⟩ (.int .i64 (cnt + 1))) T p n q 0 root (cnt + 1) dead r ls ps _ lo hi (insKV C key b) (T1 ++ V ++ T2) hT5 ((hp1.mut M4 (by decide) (by decide) (by decide)).mut hm5 (by decide) (by decide) (by decide))
      (n4.mut hm5 (by decide) (by decide) (by decide) (by decide) (by decide)) hgd.1 hleaf hx.has (hperm.nodup_iff.1 hd) (by rw [if_pos (show (x.addKey key vl).leaf = true from hlf)]; exact hgd.2) hr (by have := hw5.size; omega)
    refine hs.mono ?_
    rintro e w6 ⟨v6, rfl, ⟨ps', o, h1, h2, h3, h4, h5⟩, m6⟩
    refine ⟨v6, rfl, ⟨ps', o, ?_, h2.before hst, h3, h4, h5⟩, hw5.trans (m6.mono (Nat.le_refl _) (by simp))⟩
    have hsz := hw5.size
    cases o with
    | none => exact h1
    | some km => obtain ⟨rq, a1, a2, a3⟩ := h1; exact ⟨rq, a1, by omega, a3⟩
  have hfinH := Lib.hid hfin
  clear hfin
  refine wp_region_noPanic ?_
  refine wp_region_B (A := (fun W => W.cell? ⟨q, 1, none⟩ = some (.slice A1 K c1) ∧ W.cell? ⟨q, 2, none⟩ = some (.slice A2 K c2) ∧ W.cell? ⟨w.heap.size, 0, none⟩ = some (.slice da dn dc) ∧ W.cell? ⟨w.heap.size, 1, none⟩ = some (.bool db) ∧ W.cell? ⟨w.heap.size, 2, none⟩ = some (.int .i64 ds) ∧ W.cell? ⟨w.heap.size, 3, none⟩ = some (.int .i64 df) ∧ Mut (w.heap.size + 1) [9] w1 W)) (b := 17) (by kernel_rfl) (hra.out _ ((Mut.refl _ _ _).drew)) (fun hHeld => ?_)
  refine wpAnyB_takeY (i := 0) (v := ?_) rfl (by kernel_rfl) (by kernel_rfl) (by kernel_rfl) (by kernel_rfl) (fun _ _ _ h => h) (Or.inl ⟨by rfl, ?_⟩) hHeld ?_
  rotate_left 1
  · ((intro w hSw; clear hSw; go_simp) <;> (with_reducible rfl))
  (try simp only [Act.put, List.setIfInBounds_toArray, List.set_cons_zero, List.set_cons_succ])
  refine wpAnyB_takeY (i := 1) (v := ?_) rfl (by kernel_rfl) (by kernel_rfl) (by kernel_rfl) (by kernel_rfl) (fun _ _ _ h => h) (Or.inl ⟨by rfl, ?_⟩) hHeld ?_
  rotate_left 1
  · ((intro w hSw; clear hSw; go_simp) <;> (with_reducible rfl))
  (try simp only [Act.put, List.setIfInBounds_toArray, List.set_cons_zero, List.set_cons_succ])
  refine wpAnyB_take (i := 2) (v := ?_) rfl (by kernel_rfl) (by kernel_rfl) (by kernel_rfl) [17, 9, 5, 4, 3] (by kernel_rfl) (by kernel_rfl) (fun _ _ _ h => h) (Or.inl ⟨by rfl, ?_⟩) hHeld ?_
  rotate_left 1
  · ((intro w hSw; (try dsimp only at hSw); go_simp) <;> (with_reducible rfl))
  (try simp only [Act.put, List.setIfInBounds_toArray, List.set_cons_zero, List.set_cons_succ])
  refine wpAnyB_take (i := 3) (v := ?_) rfl (by kernel_rfl) (by kernel_rfl) (by kernel_rfl) [17, 9, 5, 4] (by kernel_rfl) (by kernel_rfl) (fun _ _ _ h => h) (Or.inl ⟨by rfl, ?_⟩) hHeld ?_
  rotate_left 1
  · ((intro w hSw; (try dsimp only at hSw); go_simp) <;> (with_reducible rfl))
  (try simp only [Act.put, List.setIfInBounds_toArray, List.set_cons_zero, List.set_cons_succ])
  refine wpAnyB_take (i := 4) (v := ?_) rfl (by kernel_rfl) (by kernel_rfl) (by kernel_rfl) [17, 9, 5] (by kernel_rfl) (by kernel_rfl) (fun _ _ _ h => h) (Or.inl ⟨by rfl, ?_⟩) hHeld ?_
  rotate_left 1
  · ((intro w hSw; (try dsimp only at hSw); go_simp) <;> (with_reducible rfl))
  (try simp only [Act.put, List.setIfInBounds_toArray, List.set_cons_zero, List.set_cons_succ])
  refine wpAnyB_take (i := 5) (v := ?_) rfl (by kernel_rfl) (by kernel_rfl) (by kernel_rfl) [17, 9] (by kernel_rfl) (by kernel_rfl) (fun _ _ _ h => h) (Or.inl ⟨by rfl, ?_⟩) hHeld ?_
  rotate_left 1
  · ((intro w hSw; (try dsimp only at hSw); go_simp) <;> (with_reducible rfl))
  (try simp only [Act.put, List.setIfInBounds_toArray, List.set_cons_zero, List.set_cons_succ])
  refine wpAnyB_take (i := 6) (v := ?_) rfl (by kernel_rfl) (by kernel_rfl) (by kernel_rfl) [17, 9] (by kernel_rfl) (by kernel_rfl) (fun _ _ _ h => h) (Or.inl ⟨by rfl, ?_⟩) hHeld ?_
  rotate_left 1
  · ((intro w hSw; (try dsimp only at hSw); go_simp) <;> (with_reducible rfl))
  (try simp only [Act.put, List.setIfInBounds_toArray, List.set_cons_zero, List.set_cons_succ])
  refine wpAnyB_take (i := 7) (v := ?_) rfl (by kernel_rfl) (by kernel_rfl) (by kernel_rfl) [17, 9, 8] (by kernel_rfl) (by kernel_rfl) (fun _ _ _ h => h) (Or.inl ⟨by rfl, ?_⟩) hHeld ?_
  rotate_left 1
  · ((intro w hSw; (try dsimp only at hSw); go_simp) <;> (with_reducible rfl))
  (try simp only [Act.put, List.setIfInBounds_toArray, List.set_cons_zero, List.set_cons_succ])
  refine wpAnyB_take (i := 10) (v := ?_) rfl (by kernel_rfl) (by kernel_rfl) (by kernel_rfl) [17, 13, 12, 11] (by kernel_rfl) (by kernel_rfl) (fun _ _ _ h => h) (Or.inl ⟨by rfl, ?_⟩) hHeld ?_
  rotate_left 1
  · ((intro w hSw; (try dsimp only at hSw); go_simp) <;> (with_reducible rfl))
  (try simp only [Act.put, List.setIfInBounds_toArray, List.set_cons_zero, List.set_cons_succ])
  refine wpAnyB_take (i := 11) (v := ?_) rfl (by kernel_rfl) (by kernel_rfl) (by kernel_rfl) [17, 13, 12] (by kernel_rfl) (by kernel_rfl) (fun _ _ _ h => h) (Or.inl ⟨by rfl, ?_⟩) hHeld ?_
  rotate_left 1
  · ((intro w hSw; (try dsimp only at hSw); go_simp) <;> (with_reducible rfl))
  (try simp only [Act.put, List.setIfInBounds_toArray, List.set_cons_zero, List.set_cons_succ])
  refine wpAnyB_take (i := 12) (v := ?_) rfl (by kernel_rfl) (by kernel_rfl) (by kernel_rfl) [17, 13] (by kernel_rfl) (by kernel_rfl) (fun _ _ _ h => h) (Or.inl ⟨by rfl, ?_⟩) hHeld ?_
  rotate_left 1
  · ((intro w hSw; (try dsimp only at hSw); go_simp) <;> (with_reducible rfl))
  (try simp only [Act.put, List.setIfInBounds_toArray, List.set_cons_zero, List.set_cons_succ])
  refine wpAnyB_take (i := 13) (v := ?_) rfl (by kernel_rfl) (by kernel_rfl) (by kernel_rfl) [17] (by kernel_rfl) (by kernel_rfl) (fun _ _ _ h => h) (Or.inl ⟨by rfl, ?_⟩) hHeld ?_
  rotate_left 1
  · ((intro w hSw; (try dsimp only at hSw); go_simp) <;> (with_reducible rfl))
  (try simp only [Act.put, List.setIfInBounds_toArray, List.set_cons_zero, List.set_cons_succ])
  refine wpAnyB_take (i := 14) (v := ?_) rfl (by kernel_rfl) (by kernel_rfl) (by kernel_rfl) [17] (by kernel_rfl) (by kernel_rfl) (fun _ _ _ h => h) (Or.inl ⟨by rfl, ?_⟩) hHeld ?_
  rotate_left 1
  · ((intro w hSw; (try dsimp only at hSw); go_simp) <;> (with_reducible rfl))
  (try simp only [Act.put, List.setIfInBounds_toArray, List.set_cons_zero, List.set_cons_succ])
  refine wpAnyB_take (i := 15) (v := ?_) rfl (by kernel_rfl) (by kernel_rfl) (by kernel_rfl) [17, 16] (by kernel_rfl) (by kernel_rfl) (fun _ _ _ h => h) (Or.inl ⟨by rfl, ?_⟩) hHeld ?_
  rotate_left 1
  · ((intro w hSw; (try dsimp only at hSw); go_simp) <;> (with_reducible rfl))
  (try simp only [Act.put, List.setIfInBounds_toArray, List.set_cons_zero, List.set_cons_succ])
  refine wpAnyB_ready (rs := [8, 16]) (by kernel_rfl) (by simp) ?_
  refine AllReadyB.pre rfl (fun Kq hKq => ?_) ?_
  · go_simp
    refine hKq.out _ _ (hra.out _ (hHeld.2.2.2.2.2.2.alloc _)) (fun hHeld => ?_)
    clear hKq Kq
    (try simp only [Act.put, List.setIfInBounds_toArray, List.set_cons_zero, List.set_cons_succ])
    refine wpAnyB_ready (rs := [9, 16]) (by kernel_rfl) (by simp) ?_
    refine AllReadyB.pre rfl (fun Kq hKq => ?_) ?_
    · go_simp
      (go_at_call 87; refine (insertS (w.heap.size + 1) _ (.slice A1 K c1) K i _ _ [.string key] (by first | exact own_alloc (own_alloc o1 _) _ | exact own_alloc o1 _) hone1.out (by first | exact heap_at _ trivial (by simp) | exact heap_old (heap_at _ trivial (by simp)) _) rfl honek.out (hne1.out _ (by simp)) hikH.out hbd1.out (by simp; omega)).mono ?_; rintro e w9 ⟨v9, rfl, o9, m9⟩; obtain ⟨A9, c9, rfl, hc9, -, -⟩ := own_slice o9)
      (try go_wp2_with fail)
      refine hKq.out _ _ (hra.out _ (hHeld.2.2.2.2.2.2.trans m9)) (fun hHeld => ?_)
      clear hKq Kq
      (try simp only [Act.put, List.setIfInBounds_toArray, List.set_cons_zero, List.set_cons_succ])
      refine wpAnyB_ready (rs := [16]) (by kernel_rfl) (by simp) ?_
      refine AllReadyB.pre rfl (fun Kq hKq => ?_) ?_
      · go_simp
        refine hKq.out _ _ (hra.out _ (hHeld.2.2.2.2.2.2.alloc _)) (fun hHeld => ?_)
        clear hKq Kq
        (try simp only [Act.put, List.setIfInBounds_toArray, List.set_cons_zero, List.set_cons_succ])
        refine wpAnyB_ready (rs := [17]) (by kernel_rfl) (by simp) ?_
        refine AllReadyB.post rfl (by kernel_rfl) (fun Kq hKq => ?_) ?_
        · go_simp
          (go_at_call 88; refine (insertV (w.heap.size + 1) _ (.slice A2 K c2) K i _ _ [.slice da dn dc, .bool db, .int .i64 ds, .int .i64 df] (by exact own_mut o2 hHeld.2.2.2.2.2.2 (by decide)) hone2.out (by first | exact heap_at _ trivial (by simp) | exact m9.keepc (heap_at _ trivial (by simp)) (by decide) | exact m9.keepc (heap_old (heap_at _ trivial (by simp)) _) (by decide)) rfl hone4.out (hne2.out _ (by first | (have := m9.size; simp at this ⊢; omega) | (simp; omega) | simp)) hikH.out hbd2.out (by first | (have := (hHeld.2.2.2.2.2.2).size; omega))).mono ?_; rintro e w17 ⟨v17, rfl, o17, m17⟩; obtain ⟨A17, c17, rfl, hc17, -, -⟩ := own_slice o17; have M17 : Mut (w.heap.size + 1) [9, 86] w1 w17 := ((hHeld.2.2.2.2.2.2).mono (Nat.le_refl _) (by simp)).trans (m17.mono (Nat.le_refl _) (by simp)); have hq17 := M17.keepc hq (by decide); have y1 : w17.cell? ⟨q, 1, none⟩ = some (.slice A1 K c1) := (by rw [cell_of hq17]; rfl); have y2 : w17.cell? ⟨q, 2, none⟩ = some (.slice A2 K c2) := (by rw [cell_of hq17]; rfl); have z1 := unfrozen_of hq17 1; have z2 := unfrozen_of hq17 2; have o99 : w17.ownsRow (w.heap.size + 1) 9 1 (.slice A9 (K + 1) c9) (K + 1) (ins (x.keys.map .string) (i * 1) [.string key]) := (by first | exact own_mut o9 m17 (by decide) | exact own_mut (own_alloc o9 _) m17 (by decide)))
          (try go_wp2_with fail)
          refine hKq.out _ _ ?_
          clear hKq Kq
          (try simp only [Act.put, List.setIfInBounds_toArray, List.set_cons_zero, List.set_cons_succ])
          refine wpAnyB_ready (rs := [18]) (by kernel_rfl) (by simp) ?_
          refine AllReadyB.post rfl (by kernel_rfl) (fun Kq hKq => ?_) ?_
          · go_simp
            refine hKq.out _ _ ?_
            clear hKq Kq
            (try simp only [Act.put, List.setIfInBounds_toArray, List.set_cons_zero, List.set_cons_succ])
            refine wpAnyB_ready (rs := [19]) (by kernel_rfl) (by simp) ?_
            refine AllReadyB.post rfl (by kernel_rfl) (fun Kq hKq => ?_) ?_
            · go_simp
              refine hKq.out _ _ ?_
              clear hKq Kq
              (try simp only [Act.put, List.setIfInBounds_toArray, List.set_cons_zero, List.set_cons_succ])
              refine wpAnyB_ready (rs := [20]) (by kernel_rfl) (by simp) ?_
              refine AllReadyB.post rfl (by kernel_rfl) (fun Kq hKq => ?_) ?_
              · go_simp
                refine hKq.out _ _ ?_
                clear hKq Kq
                (try simp only [Act.put, List.setIfInBounds_toArray, List.set_cons_zero, List.set_cons_succ])
                refine wpAnyB_ready (rs := [21]) (by kernel_rfl) (by simp) ?_
                refine AllReadyB.post rfl (by kernel_rfl) (fun Kq hKq => ?_) ?_
                · go_simp
                  refine hKq.out _ _ ?_
                  clear hKq Kq
                  (try simp only [Act.put, List.setIfInBounds_toArray, List.set_cons_zero, List.set_cons_succ])
                  refine wpAnyB_ready (rs := [22]) (by kernel_rfl) (by simp) ?_
                  refine AllReadyB.post rfl (by kernel_rfl) (fun Kq hKq => ?_) ?_
                  · go_simp
                    refine hKq.out _ _ ?_
                    clear hKq Kq
                    (try simp only [Act.put, List.setIfInBounds_toArray, List.set_cons_zero, List.set_cons_succ])
                    refine wpAnyB_ready (rs := [23]) (by kernel_rfl) (by simp) ?_
                    refine AllReadyB.post rfl (by kernel_rfl) (fun Kq hKq => ?_) ?_
                    · go_simp
                      refine hKq.out _ _ ?_
                      clear hKq Kq
                      (try simp only [Act.put, List.setIfInBounds_toArray, List.set_cons_zero, List.set_cons_succ])
                      refine wpAnyB_done (by kernel_rfl) ?_ _
                      refine NoPanic.normal ?_
                      obtain ⟨t1, t2, t3⟩ := hfinH.out _ _ _ _ _ M17 o99 o17
                      go_wp2_with (first | (go_at_call 89; refine (addI64 T 2 cnt 1 _ t1 t2 hwc.out).mono ?_; rintro e w' ⟨rfl, rfl⟩) | (go_at_call 90; refine t3.out.mono ?_; rintro e w6 ⟨v6, rfl, g6, m6⟩))
                      go_ret
                      exact ⟨v6, rfl, g6, m6⟩
                    exact AllReadyB.nil
                  exact AllReadyB.nil
                exact AllReadyB.nil
              exact AllReadyB.nil
            exact AllReadyB.nil
          exact AllReadyB.nil
        exact AllReadyB.nil
      exact AllReadyB.nil
    refine AllReadyB.pre rfl (fun Kq hKq => ?_) ?_
    · go_simp
      refine hKq.out _ _ (hra.out _ (hHeld.2.2.2.2.2.2.alloc _)) (fun hHeld => ?_)
      clear hKq Kq
      (try simp only [Act.put, List.setIfInBounds_toArray, List.set_cons_zero, List.set_cons_succ])
      refine wpAnyB_ready (rs := [9]) (by kernel_rfl) (by simp) ?_
      refine AllReadyB.pre rfl (fun Kq hKq => ?_) ?_
      · go_simp
        (go_at_call 87; refine (insertS (w.heap.size + 1) _ (.slice A1 K c1) K i _ _ [.string key] (by first | exact own_alloc (own_alloc o1 _) _ | exact own_alloc o1 _) hone1.out (by first | exact heap_at _ trivial (by simp) | exact heap_old (heap_at _ trivial (by simp)) _) rfl honek.out (hne1.out _ (by simp)) hikH.out hbd1.out (by simp; omega)).mono ?_; rintro e w9 ⟨v9, rfl, o9, m9⟩; obtain ⟨A9, c9, rfl, hc9, -, -⟩ := own_slice o9)
        (try go_wp2_with fail)
        refine hKq.out _ _ (hra.out _ (hHeld.2.2.2.2.2.2.trans m9)) (fun hHeld => ?_)
        clear hKq Kq
        (try simp only [Act.put, List.setIfInBounds_toArray, List.set_cons_zero, List.set_cons_succ])
        refine wpAnyB_ready (rs := [17]) (by kernel_rfl) (by simp) ?_
        refine AllReadyB.post rfl (by kernel_rfl) (fun Kq hKq => ?_) ?_
        · go_simp
          (go_at_call 88; refine (insertV (w.heap.size + 1) _ (.slice A2 K c2) K i _ _ [.slice da dn dc, .bool db, .int .i64 ds, .int .i64 df] (by exact own_mut o2 hHeld.2.2.2.2.2.2 (by decide)) hone2.out (by first | exact heap_at _ trivial (by simp) | exact m9.keepc (heap_at _ trivial (by simp)) (by decide) | exact m9.keepc (heap_old (heap_at _ trivial (by simp)) _) (by decide)) rfl hone4.out (hne2.out _ (by first | (have := m9.size; simp at this ⊢; omega) | (simp; omega) | simp)) hikH.out hbd2.out (by first | (have := (hHeld.2.2.2.2.2.2).size; omega))).mono ?_; rintro e w17 ⟨v17, rfl, o17, m17⟩; obtain ⟨A17, c17, rfl, hc17, -, -⟩ := own_slice o17; have M17 : Mut (w.heap.size + 1) [9, 86] w1 w17 := ((hHeld.2.2.2.2.2.2).mono (Nat.le_refl _) (by simp)).trans (m17.mono (Nat.le_refl _) (by simp)); have hq17 := M17.keepc hq (by decide); have y1 : w17.cell? ⟨q, 1, none⟩ = some (.slice A1 K c1) := (by rw [cell_of hq17]; rfl); have y2 : w17.cell? ⟨q, 2, none⟩ = some (.slice A2 K c2) := (by rw [cell_of hq17]; rfl); have z1 := unfrozen_of hq17 1; have z2 := unfrozen_of hq17 2; have o99 : w17.ownsRow (w.heap.size + 1) 9 1 (.slice A9 (K + 1) c9) (K + 1) (ins (x.keys.map .string) (i * 1) [.string key]) := (by first | exact own_mut o9 m17 (by decide) | exact own_mut (own_alloc o9 _) m17 (by decide)))
          (try go_wp2_with fail)
          refine hKq.out _ _ ?_
          clear hKq Kq
          (try simp only [Act.put, List.setIfInBounds_toArray, List.set_cons_zero, List.set_cons_succ])
          refine wpAnyB_ready (rs := [18]) (by kernel_rfl) (by simp) ?_
          refine AllReadyB.post rfl (by kernel_rfl) (fun Kq hKq => ?_) ?_
          · go_simp
            refine hKq.out _ _ ?_
            clear hKq Kq
            (try simp only [Act.put, List.setIfInBounds_toArray, List.set_cons_zero, List.set_cons_succ])
            refine wpAnyB_ready (rs := [19]) (by kernel_rfl) (by simp) ?_
            refine AllReadyB.post rfl (by kernel_rfl) (fun Kq hKq => ?_) ?_
            · go_simp
              refine hKq.out _ _ ?_
              clear hKq Kq
              (try simp only [Act.put, List.setIfInBounds_toArray, List.set_cons_zero, List.set_cons_succ])
              refine wpAnyB_ready (rs := [20]) (by kernel_rfl) (by simp) ?_
              refine AllReadyB.post rfl (by kernel_rfl) (fun Kq hKq => ?_) ?_
              · go_simp
                refine hKq.out _ _ ?_
                clear hKq Kq
                (try simp only [Act.put, List.setIfInBounds_toArray, List.set_cons_zero, List.set_cons_succ])
                refine wpAnyB_ready (rs := [21]) (by kernel_rfl) (by simp) ?_
                refine AllReadyB.post rfl (by kernel_rfl) (fun Kq hKq => ?_) ?_
                · go_simp
                  refine hKq.out _ _ ?_
                  clear hKq Kq
                  (try simp only [Act.put, List.setIfInBounds_toArray, List.set_cons_zero, List.set_cons_succ])
                  refine wpAnyB_ready (rs := [22]) (by kernel_rfl) (by simp) ?_
                  refine AllReadyB.post rfl (by kernel_rfl) (fun Kq hKq => ?_) ?_
                  · go_simp
                    refine hKq.out _ _ ?_
                    clear hKq Kq
                    (try simp only [Act.put, List.setIfInBounds_toArray, List.set_cons_zero, List.set_cons_succ])
                    refine wpAnyB_ready (rs := [23]) (by kernel_rfl) (by simp) ?_
                    refine AllReadyB.post rfl (by kernel_rfl) (fun Kq hKq => ?_) ?_
                    · go_simp
                      refine hKq.out _ _ ?_
                      clear hKq Kq
                      (try simp only [Act.put, List.setIfInBounds_toArray, List.set_cons_zero, List.set_cons_succ])
                      refine wpAnyB_done (by kernel_rfl) ?_ _
                      refine NoPanic.normal ?_
                      obtain ⟨t1, t2, t3⟩ := hfinH.out _ _ _ _ _ M17 o99 o17
                      go_wp2_with (first | (go_at_call 89; refine (addI64 T 2 cnt 1 _ t1 t2 hwc.out).mono ?_; rintro e w' ⟨rfl, rfl⟩) | (go_at_call 90; refine t3.out.mono ?_; rintro e w6 ⟨v6, rfl, g6, m6⟩))
                      go_ret
                      exact ⟨v6, rfl, g6, m6⟩
                    exact AllReadyB.nil
                  exact AllReadyB.nil
                exact AllReadyB.nil
              exact AllReadyB.nil
            exact AllReadyB.nil
          exact AllReadyB.nil
        exact AllReadyB.nil
      exact AllReadyB.nil
    exact AllReadyB.nil
  refine AllReadyB.pre rfl (fun Kq hKq => ?_) ?_
  · go_simp
    refine hKq.out _ _ (hra.out _ (hHeld.2.2.2.2.2.2.alloc _)) (fun hHeld => ?_)
    clear hKq Kq
    (try simp only [Act.put, List.setIfInBounds_toArray, List.set_cons_zero, List.set_cons_succ])
    refine wpAnyB_ready (rs := [8]) (by kernel_rfl) (by simp) ?_
    refine AllReadyB.pre rfl (fun Kq hKq => ?_) ?_
    · go_simp
      refine hKq.out _ _ (hra.out _ (hHeld.2.2.2.2.2.2.alloc _)) (fun hHeld => ?_)
      clear hKq Kq
      (try simp only [Act.put, List.setIfInBounds_toArray, List.set_cons_zero, List.set_cons_succ])
      refine wpAnyB_ready (rs := [9]) (by kernel_rfl) (by simp) ?_
      refine AllReadyB.pre rfl (fun Kq hKq => ?_) ?_
      · go_simp
        (go_at_call 87; refine (insertS (w.heap.size + 1) _ (.slice A1 K c1) K i _ _ [.string key] (by first | exact own_alloc (own_alloc o1 _) _ | exact own_alloc o1 _) hone1.out (by first | exact heap_at _ trivial (by simp) | exact heap_old (heap_at _ trivial (by simp)) _) rfl honek.out (hne1.out _ (by simp)) hikH.out hbd1.out (by simp; omega)).mono ?_; rintro e w9 ⟨v9, rfl, o9, m9⟩; obtain ⟨A9, c9, rfl, hc9, -, -⟩ := own_slice o9)
        (try go_wp2_with fail)
        refine hKq.out _ _ (hra.out _ (hHeld.2.2.2.2.2.2.trans m9)) (fun hHeld => ?_)
        clear hKq Kq
        (try simp only [Act.put, List.setIfInBounds_toArray, List.set_cons_zero, List.set_cons_succ])
        refine wpAnyB_ready (rs := [17]) (by kernel_rfl) (by simp) ?_
        refine AllReadyB.post rfl (by kernel_rfl) (fun Kq hKq => ?_) ?_
        · go_simp
          (go_at_call 88; refine (insertV (w.heap.size + 1) _ (.slice A2 K c2) K i _ _ [.slice da dn dc, .bool db, .int .i64 ds, .int .i64 df] (by exact own_mut o2 hHeld.2.2.2.2.2.2 (by decide)) hone2.out (by first | exact heap_at _ trivial (by simp) | exact m9.keepc (heap_at _ trivial (by simp)) (by decide) | exact m9.keepc (heap_old (heap_at _ trivial (by simp)) _) (by decide)) rfl hone4.out (hne2.out _ (by first | (have := m9.size; simp at this ⊢; omega) | (simp; omega) | simp)) hikH.out hbd2.out (by first | (have := (hHeld.2.2.2.2.2.2).size; omega))).mono ?_; rintro e w17 ⟨v17, rfl, o17, m17⟩; obtain ⟨A17, c17, rfl, hc17, -, -⟩ := own_slice o17; have M17 : Mut (w.heap.size + 1) [9, 86] w1 w17 := ((hHeld.2.2.2.2.2.2).mono (Nat.le_refl _) (by simp)).trans (m17.mono (Nat.le_refl _) (by simp)); have hq17 := M17.keepc hq (by decide); have y1 : w17.cell? ⟨q, 1, none⟩ = some (.slice A1 K c1) := (by rw [cell_of hq17]; rfl); have y2 : w17.cell? ⟨q, 2, none⟩ = some (.slice A2 K c2) := (by rw [cell_of hq17]; rfl); have z1 := unfrozen_of hq17 1; have z2 := unfrozen_of hq17 2; have o99 : w17.ownsRow (w.heap.size + 1) 9 1 (.slice A9 (K + 1) c9) (K + 1) (ins (x.keys.map .string) (i * 1) [.string key]) := (by first | exact own_mut o9 m17 (by decide) | exact own_mut (own_alloc o9 _) m17 (by decide)))
          (try go_wp2_with fail)
          refine hKq.out _ _ ?_
          clear hKq Kq
          (try simp only [Act.put, List.setIfInBounds_toArray, List.set_cons_zero, List.set_cons_succ])
          refine wpAnyB_ready (rs := [18]) (by kernel_rfl) (by simp) ?_
          refine AllReadyB.post rfl (by kernel_rfl) (fun Kq hKq => ?_) ?_
          · go_simp
            refine hKq.out _ _ ?_
            clear hKq Kq
            (try simp only [Act.put, List.setIfInBounds_toArray, List.set_cons_zero, List.set_cons_succ])
            refine wpAnyB_ready (rs := [19]) (by kernel_rfl) (by simp) ?_
            refine AllReadyB.post rfl (by kernel_rfl) (fun Kq hKq => ?_) ?_
            · go_simp
              refine hKq.out _ _ ?_
              clear hKq Kq
              (try simp only [Act.put, List.setIfInBounds_toArray, List.set_cons_zero, List.set_cons_succ])
              refine wpAnyB_ready (rs := [20]) (by kernel_rfl) (by simp) ?_
              refine AllReadyB.post rfl (by kernel_rfl) (fun Kq hKq => ?_) ?_
              · go_simp
                refine hKq.out _ _ ?_
                clear hKq Kq
                (try simp only [Act.put, List.setIfInBounds_toArray, List.set_cons_zero, List.set_cons_succ])
                refine wpAnyB_ready (rs := [21]) (by kernel_rfl) (by simp) ?_
                refine AllReadyB.post rfl (by kernel_rfl) (fun Kq hKq => ?_) ?_
                · go_simp
                  refine hKq.out _ _ ?_
                  clear hKq Kq
                  (try simp only [Act.put, List.setIfInBounds_toArray, List.set_cons_zero, List.set_cons_succ])
                  refine wpAnyB_ready (rs := [22]) (by kernel_rfl) (by simp) ?_
                  refine AllReadyB.post rfl (by kernel_rfl) (fun Kq hKq => ?_) ?_
                  · go_simp
                    refine hKq.out _ _ ?_
                    clear hKq Kq
                    (try simp only [Act.put, List.setIfInBounds_toArray, List.set_cons_zero, List.set_cons_succ])
                    refine wpAnyB_ready (rs := [23]) (by kernel_rfl) (by simp) ?_
                    refine AllReadyB.post rfl (by kernel_rfl) (fun Kq hKq => ?_) ?_
                    · go_simp
                      refine hKq.out _ _ ?_
                      clear hKq Kq
                      (try simp only [Act.put, List.setIfInBounds_toArray, List.set_cons_zero, List.set_cons_succ])
                      refine wpAnyB_done (by kernel_rfl) ?_ _
                      refine NoPanic.normal ?_
                      obtain ⟨t1, t2, t3⟩ := hfinH.out _ _ _ _ _ M17 o99 o17
                      go_wp2_with (first | (go_at_call 89; refine (addI64 T 2 cnt 1 _ t1 t2 hwc.out).mono ?_; rintro e w' ⟨rfl, rfl⟩) | (go_at_call 90; refine t3.out.mono ?_; rintro e w6 ⟨v6, rfl, g6, m6⟩))
                      go_ret
                      exact ⟨v6, rfl, g6, m6⟩
                    exact AllReadyB.nil
                  exact AllReadyB.nil
                exact AllReadyB.nil
              exact AllReadyB.nil
            exact AllReadyB.nil
          exact AllReadyB.nil
        exact AllReadyB.nil
      exact AllReadyB.nil
    exact AllReadyB.nil
  exact AllReadyB.nil


end Go.Proofs.YtpfjhehjmhkbpaaGreatDoor
