/- Put into a tree of one leaf that stays one. Printed by wip/tools/mkone.py out of the texts PutN and TMore. -/
import Derived.Test.YtpfjhehjmhkbpaaGreatDoorM21
namespace Go.Proofs.YtpfjhehjmhkbpaaGreatDoor
open Go.RowKit

/-- Behind a change of a leaf that stays one. -/
def Grown1_ [Mode] (B : Nat) (T p : Nat) (root cnt : Int) (dead : Bool) (r : PS) (ls ps : List Pg) (S : List Nat) (n : Nat) (lo hi : Option ByteArray) (C : KV) (v : Value) (w' : World) : Prop :=
  v = .pointer none ∧ ∃ ps', Grew ps S 0 n lo hi C ps' none ∧ Pgr B w' p r ls ps' ∧ TAt w' T p root cnt dead ∧ room ps ≤ room ps' + 1

theorem sumLen_le (m : Nat) : ∀ l : List (List UInt8), (∀ u ∈ l, u.length ≤ m) → sumLen l ≤ l.length * m
  | [], _ => by simp [sumLen]
  | a :: l, h => by
    have h1 := sumLen_le m l fun u hu => h u (by simp [hu])
    have h2 := h a (by simp)
    simp only [sumLen, List.flatten_cons, List.length_append, List.length_cons] at h1 ⊢
    rw [Nat.succ_mul]; omega

theorem add_fits [Mode] {x : Nd} (h : x.Good) (hl : x.leaf = true) (hb : x.bytes.length ≤ 512) (hfew : x.keys.length ≤ 1) {key : ByteArray} {v : Vl} (hk : key.size ≤ 200) (hv : v.Ok) (hin : Fit key v) : (x.addKey key v).bytes.length ≤ 512 := by
  have hg := (Nd.addKey_good h hl hb hk hv hin).1
  have h1 := Nd.bytes_len (x.addKey key v)
  have h2 := sumLen_le 210 _ (Nd.entry_le hg)
  have h3 := Nd.entries_len hg.ok
  have h4 : (x.addKey key v).keys.length = x.keys.length + 1 := by show (ins x.keys _ _).length = _; rw [ins_length]; rfl
  have h5 : (x.addKey key v).kids = [] := (h.ok.lf hl).2
  have h6 := enc_two hg.ok.few
  rw [h5] at h1
  simp only [List.map_nil, sumLen, List.flatten_nil, List.length_nil] at h1
  unfold sumLen at h2
  rw [h3] at h2
  omega

theorem insKV_new [Mode] {ps : List Pg} {x : Nd} {lo hi : Option ByteArray} {C : KV} {T : List Nat} (h : LeafIs ps x lo hi C T) {key : ByteArray} {b : List UInt8} (hk : hasKey x.keys key = false) : (insKV C key b).length = C.length + 1 := by
  have hr : Rises (C.map (·.1)) := by rw [← h.keys]; exact h.rises
  have hki : kidIdx x.keys key = below x.keys key := by rw [kidIdx_eq h.rises, hk]; simp
  have hle := below_le x.keys key
  rw [insKV_take hr, ← h.keys, hki]
  have hcl : C.length = x.keys.length := by rw [h.keys, List.length_map]
  simp only [List.length_append, List.length_take, List.length_cons, List.length_drop]
  omega

set_option maxRecDepth 4000 in
set_option maxHeartbeats 400000 in
theorem settles_one1 [Mode] (B B' : Nat) (w : World) (T p n q _h : Nat) (root cnt : Int) (dead : Bool) (r : PS) (ls ps : List Pg) (x : Nd) (lo hi : Option ByteArray) (C : KV) (Tl : List Nat)
    (hT : TAt w T p root cnt dead) (hp : Pgr B w p r ls ps) (hx : NodeAt B' w q x) (hg : x.Good) (hb : Body ps 0 x lo hi C Tl) (hn : hasP ps n = true) (hd : (n :: Tl).Nodup) (hlen : x.bytes.length ≤ 512) :
    Calls Tryz.prog 90 #[.pointer (some ⟨T, 0, none⟩), .int .i64 (n : Int), .pointer (some ⟨q, 0, none⟩)] w fun e w' => ∃ v, e = .returned v ∧ Grown1_ B T p root cnt dead r ls ps (n :: Tl) n lo hi C v w' ∧ Mut B [133, 147] w w' := by
  have c1 := fits_yes B' w q x hx hg.ok hlen
  have H := Lib.hid (And.intro hT (And.intro hp (And.intro hx (And.intro hg (And.intro hb (And.intro hn (And.intro hd hlen)))))))
  clear hT hp hx hg hb hn hd hlen
  go_enter Tryz.func90, Tryz.ntmps90
  go_wp2_with (first
    | (go_at_call 124; refine c1.mono ?_; rintro e w1 ⟨rfl, b1⟩)
    | (go_at_call 41; refine (store_any B B' w1 T p n q root cnt dead r ls ps x (H.out.1.below b1) (H.out.2.1.below b1) H.out.2.2.2.2.2.1 (H.out.2.2.1.below b1) H.out.2.2.2.1.ok H.out.2.2.2.2.2.2.2).mono ?_; rintro e w2 ⟨rfl, v', hp2, m2⟩))
  go_ret
  obtain ⟨hT, hp, hx, hg, hb, hn, hd, hlen⟩ := H.out
  refine ⟨_, rfl, ⟨rfl, _, grew_one hb hg hlen hn hd, hp2, (hT.below b1).mut m2 (by decide), ?_⟩, (Mut.of_below b1 B [133, 147]).trans m2⟩
  rw [room_set_taken hn]; omega

set_option maxRecDepth 4000 in
set_option maxHeartbeats 2000000 in
theorem put_leaf_one [Mode] (B : Nat) (w : World) (T p n : Nat) (root cnt : Int) (dead : Bool) (r : PS) (ls ps : List Pg) (x : Nd) (lo hi : Option ByteArray) (C : KV) (Tl : List Nat) (key : ByteArray) (b : List UInt8) (vl : Vl) (cs : List Value) (V : List Nat)
    (hT : TAt w T p root cnt dead) (hp : Pgr B w p r ls ps) (hx : PgIs ps n x.bytes) (hl : x.bytes.length ≤ 512) (hg : x.Good) (hb : LeafIs ps x lo hi C Tl) (hd : (n :: Tl ++ V).Nodup) (hks : key.size ≤ 200) (hin : Fit key vl) (hvo : vl.Ok)
    (hlo : leO lo key) (hhi : ltO key hi) (hva : VlAt w cs vl) (hv : VlOf ps vl b V) (_hr : 1 ≤ room ps) (_hB : B ≤ w.heap.size) (hBT : B ≤ T) (hc0 : 0 ≤ cnt) (hc1 : cnt ≤ 1000000000) (hk : hasKey x.keys key = false) (hfit : (x.addKey key vl).bytes.length ≤ 512) :
    Calls Tryz.prog 44 #[.pointer (some ⟨T, 0, none⟩), .int .i64 (n : Int), .string key, .agg cs.toArray] w fun e w' => ∃ v, e = .returned v ∧ Grown1_ B T p root (cnt + 1) dead r ls ps (n :: Tl ++ V) n lo hi (insKV C key b) v w' ∧ Mut B [133, 147, 80] w w' := by
  have hfitH := Lib.hid hfit; clear hfit
  obtain ⟨da, dn, dc, db, ds, df, rfl⟩ := hva.shape
  have hld := fun (o : Obj) => load_sub (hT.mut ((Mut.refl 0 [] w).alloc o) (by simp)) (hp.mut ((Mut.refl 0 [] w).alloc o) (by simp) (by simp) (by simp)) hx hg hl
  have hfew := few512 hg.ok hl
  obtain ⟨i, hi'⟩ : ∃ i, i = below x.keys key := ⟨_, rfl⟩
  obtain ⟨K, hK⟩ : ∃ K, K = x.keys.length := ⟨_, rfl⟩
  have hik : i ≤ K := by rw [hi', hK]; exact below_le _ _
  have hvl : x.vals.length = K := by rw [hK]; exact (hg.ok.lf hb.leaf).1
  have hlf := hb.leaf
  have hpl := fun (W : World) (q : Nat) (h : NodeAt (w.heap.size + 1) W q x) => place_any _ W q x key h hb.rises (by omega)
  rw [← hi', hk] at hpl
  have hldH := Lib.hid hld
  have hplH := Lib.hid hpl
  rw [← hK] at hfew
  have hone1 := Lib.hid (one_str x.keys)
  have honek := Lib.hid (show ∀ v ∈ [Value.string key], v.oneCell' = true from fun u hu => by simp at hu; subst hu; rfl)
  have hone4 := Lib.hid (show ∀ v ∈ ([.slice da dn dc, .bool db, .int .i64 ds, .int .i64 df] : List Value), v.oneCell' = true from hva.one)
  have hbd1 := Lib.hid (show (K + 1) * 16 ≤ 140737488355328 by omega)
  have hbd2 := Lib.hid (show (K + 1) * 48 ≤ 140737488355328 by omega)
  have hikH := Lib.hid hik
  have H := Lib.hid (And.intro hT (And.intro hp (And.intro hx (And.intro hg (And.intro hb (And.intro hd (And.intro hva (And.intro hv (And.intro hi' (And.intro hK (And.intro hvl (And.intro hlf (And.intro hk hl)))))))))))))
  clear hld hpl hT hp hx hg hb hd hva hv hi' hK hvl hlf hk hl
  go_enter Tryz.func44, Tryz.ntmps44
  go_wp2_with (first
    | (go_at_call 53; refine (hldH.out _).mono ?_; rintro e w1 ⟨q, rfl, n1, b1⟩; have e0 := n1.leaf0; rw [H.out.2.2.2.2.2.2.2.2.2.2.2.1] at e0; have n1H := Lib.hid n1; clear n1)
    | (go_at_call 85; refine (hplH.out w1 q (by have := n1H.out; simpa using this)).mono ?_; rintro e w' ⟨rfl, rfl⟩))
  obtain ⟨hT, hp, hx, hg, hb, hd, hva, hv, hi', hK, hvl, hlf, hk, hl⟩ := H.out
  have hT1 := (hT.mut ((Mut.refl 0 [] w).alloc (.cells #[.slice da dn dc, .bool db, .int .i64 ds, .int .i64 df] 86)) (by simp)).below b1
  have hp1 := (hp.mut ((Mut.refl 0 [] w).alloc (.cells #[.slice da dn dc, .bool db, .int .i64 ds, .int .i64 df] 86)) (by simp) (by simp) (by simp)).below b1
  have hva1 := (hva.mut ((Mut.refl 0 [] w).alloc (.cells #[.slice da dn dc, .bool db, .int .i64 ds, .int .i64 df] 86)) (by simp)).mut (.of_below b1 0 []) (by simp)
  have hpb := heap_below (heap_new w (.cells #[.slice da dn dc, .bool db, .int .i64 ds, .int .i64 df] 86)) b1 (by simp)
  have hw1 : Below w.heap.size w w1 := bel_then ((Below.refl _ _).alloc (Nat.le_refl _) _) (by simp) b1
  have n1 := n1H.out
  simp only [World.size_alloc] at n1
  obtain ⟨hBq, kv, vv, iv, vc, hq, o1, o2, hvals, o3⟩ := n1
  obtain ⟨A1, c1, rfl, l1, m1, -⟩ := own_slice o1
  obtain ⟨A2, c2, rfl, l2, m2, -⟩ := own_slice o2
  rw [hlf] at hq
  rw [hvl] at hq o2 l2
  rw [← hK] at hq o1 l1
  have hb1 := b1.size
  simp only [World.size_alloc] at hb1
  have hne1 := Lib.hid (own_block_lt o1)
  have hne2 := Lib.hid (own_block_lt o2)
  have hone2 := Lib.hid hvals.one
  have hra := Lib.hid (ra_of (B := w.heap.size + 1) hq hpb)
  have mixed : Tryz.prog.follows .mixedOrders = true := by kernel_rfl
  have H1 := Lib.hid (And.intro hT1 (And.intro hp1 (And.intro hva1 (And.intro hw1 (And.intro hvals o3)))))
  clear hT hp hx hg hb hd hva hv hi' hK hvl hlf hk hl hT1 hp1 hva1 hw1 hvals o3 m1 m2 e0
  have hwc := Lib.hid (show IntKind.i64.wrap (cnt + 1) = cnt + 1 by rw [IntKind.wrap_i64]; omega)
  have hfin : ∀ (w17 : World) (A9 : Option Addr) (c9 : Nat) (A17 : Option Addr) (c17 : Nat), Mut (w.heap.size + 1) [9, 86] w1 w17 → w17.ownsRow (w.heap.size + 1) 9 1 (.slice A9 (K + 1) c9) (K + 1) (ins (x.keys.map .string) (i * 1) [.string key]) →
      w17.ownsRow (w.heap.size + 1) 86 4 (.slice A17 (K + 1) c17) (K + 1) (ins vc (i * 4) [.slice da dn dc, .bool db, .int .i64 ds, .int .i64 df]) →
      ((w17.setCell ⟨q, 1, none⟩ (.slice A9 (K + 1) c9)).setCell ⟨q, 2, none⟩ (.slice A17 (K + 1) c17)).cell? ⟨T, 2, none⟩ = some (.int .i64 cnt) ∧
      ((w17.setCell ⟨q, 1, none⟩ (.slice A9 (K + 1) c9)).setCell ⟨q, 2, none⟩ (.slice A17 (K + 1) c17)).frozen? ⟨T, 2, none⟩ = false ∧
      Hid (Calls Tryz.prog 90 #[.pointer (some ⟨T, 0, none⟩), .int .i64 (n : Int), .pointer (some ⟨q, 0, none⟩)] (((w17.setCell ⟨q, 1, none⟩ (.slice A9 (K + 1) c9)).setCell ⟨q, 2, none⟩ (.slice A17 (K + 1) c17)).setCell ⟨T, 2, none⟩ (.int .i64 (cnt + 1))) fun e w' =>
        ∃ v, e = .returned v ∧ Grown1_ B T p root (cnt + 1) dead r ls ps (n :: Tl ++ V) n lo hi (insKV C key b) v w' ∧ Mut B [133, 147, 80] w w') := by
    intro w17 A9 c9 A17 c17 M17 o9 o17
    obtain ⟨hT, hp, hx, hg, hb, hd, hva, hv, hi', hK, hvl, hlf, hk, hl⟩ := H.out
    obtain ⟨hT1, hp1, hva1, hw1, hvals, o3⟩ := H1.out
    have hq17 := M17.keepc hq (by decide)
    have hm1 : Mut (w.heap.size + 1) [92] w17 (w17.setCell ⟨q, 1, none⟩ (.slice A9 (K + 1) c9)) := (Mut.refl _ _ _).setCell (p := ⟨q, 1, none⟩) hq17 (by simp) hBq _
    have hm2 : Mut (w.heap.size + 1) [92] w17 ((w17.setCell ⟨q, 1, none⟩ (.slice A9 (K + 1) c9)).setCell ⟨q, 2, none⟩ (.slice A17 (K + 1) c17)) := hm1.setCell (p := ⟨q, 2, none⟩) (heap_set hq17 _ _) (by simp) hBq _
    have hq4 := heap_set (heap_set hq17 1 (.slice A9 (K + 1) c9)) 2 (.slice A17 (K + 1) c17)
    generalize (w17.setCell ⟨q, 1, none⟩ (.slice A9 (K + 1) c9)).setCell ⟨q, 2, none⟩ (.slice A17 (K + 1) c17) = w4 at *
    have M4 : Mut (w.heap.size + 1) [9, 86, 92] w1 w4 := (M17.mono (Nat.le_refl _) (by simp)).trans (hm2.mono (Nat.le_refl _) (by simp))
    have hT4 := hT1.mut M4 (by decide)
    have hkl : (x.addKey key vl).keys.length = K + 1 := by show (ins x.keys _ _).length = _; rw [ins_length, ← hK]; rfl
    have hvl2 : (x.addKey key vl).vals.length = K + 1 := by show (ins x.vals _ _).length = _; rw [ins_length, hvl]; rfl
    have n4 : NodeAt (w.heap.size + 1) w4 q (x.addKey key vl) := by
      refine ⟨hBq, .slice A9 (K + 1) c9, .slice A17 (K + 1) c17, iv, ins vc (i * 4) [.slice da dn dc, .bool db, .int .i64 ds, .int .i64 df], ?_, ?_, ?_, ?_, own_mut o3 M4 (by decide)⟩
      · rw [show (x.addKey key vl).leaf = true from hlf]; exact hq4
      · rw [hkl]
        have e : (x.addKey key vl).keys.map Value.string = ins (x.keys.map .string) (i * 1) [.string key] := by
          show (ins x.keys (below x.keys key) [key]).map _ = _
          rw [← hi', Nat.mul_one]; simp [ins, List.map_take, List.map_drop]
        rw [e]
        exact own_mut o9 hm2 (by decide)
      · rw [hvl2]; exact own_mut o17 hm2 (by decide)
      · show ValsAt w4 _ (ins x.vals (below x.keys key) [vl])
        rw [← hi']
        exact (hvals.mut M4 (by decide)).ins (hva1.mut M4 (by decide)) i
    refine ⟨hT4.c2, hT4.unfrozen 2, ?_⟩
    have hm5 : Mut B [80] w4 (w4.setCell ⟨T, 2, none⟩ (.int .i64 (cnt + 1))) := (Mut.refl _ _ _).setCell (p := ⟨T, 2, none⟩) hT4 (by simp) hBT _
    have hT5 : TAt (w4.setCell ⟨T, 2, none⟩ (.int .i64 (cnt + 1))) T p root (cnt + 1) dead := heap_set hT4 2 _
    have hw5 : Mut B [133, 147, 80] w (w4.setCell ⟨T, 2, none⟩ (.int .i64 (cnt + 1))) :=
      ((Mut.of_below hw1 B [133, 147, 80]).local_ (M4.mono (by omega) (fun _ h => h))).trans (hm5.mono (Nat.le_refl _) (by simp))
    obtain ⟨T1, T2, hTl, hleaf⟩ := hb.add hk hlo hhi hv
    have hgd := Nd.addKey_good hg hlf hl hks hvo hin
    have hperm : (n :: Tl ++ V).Perm (n :: (T1 ++ V ++ T2)) := by
      rw [hTl]
      have := (List.perm_append_comm (l₁ := T2) (l₂ := V)).append_left (n :: T1)
      simpa using this
    have hall : ∀ m ∈ n :: Tl ++ V, hasP ps m = true := fun m hm => by
      rcases List.mem_append.1 hm with hm | hm
      · rcases List.mem_cons.1 hm with rfl | hm
        · exact hx.has
        · exact hb.pages m hm
      · exact hv.pages m hm
    have hst : Stp ps (n :: Tl ++ V) ps (n :: (T1 ++ V ++ T2)) := (Stp.refl hall hd).perm hperm
    have hs := settles_one1 B _ (w4.setCell ⟨T, 2, none⟩ (.int .i64 (cnt + 1))) T p n q 0 root (cnt + 1) dead r ls ps _ lo hi (insKV C key b) (T1 ++ V ++ T2) hT5 ((hp1.mut M4 (by decide) (by decide) (by decide)).mut hm5 (by decide) (by decide) (by decide))
      (n4.mut hm5 (by decide) (by decide) (by decide) (by decide) (by decide)) hgd.1 hleaf hx.has (hperm.nodup_iff.1 hd) hfitH.out
    refine hs.mono ?_
    rintro e w6 ⟨v6, rfl, ⟨hv6, ps', h2, h3, h4, h5⟩, m6⟩
    exact ⟨v6, rfl, ⟨hv6, ps', h2.before hst, h3, h4, h5⟩, hw5.trans (m6.mono (Nat.le_refl _) (by simp))⟩
  have hfinH := Lib.hid hfin
  clear hfin
  refine wp_region_noPanic ?_
  refine wp_region_B (A := (fun W => W.cell? ⟨q, 1, none⟩ = some (.slice A1 K c1) ∧ W.cell? ⟨q, 2, none⟩ = some (.slice A2 K c2) ∧ W.cell? ⟨w.heap.size, 0, none⟩ = some (.slice da dn dc) ∧ W.cell? ⟨w.heap.size, 1, none⟩ = some (.bool db) ∧ W.cell? ⟨w.heap.size, 2, none⟩ = some (.int .i64 ds) ∧ W.cell? ⟨w.heap.size, 3, none⟩ = some (.int .i64 df) ∧ Mut (w.heap.size + 1) [9] w1 W)) (b := 17) (by kernel_rfl) (hra.out _ ((Mut.refl _ _ _).drew)) (fun hHeld => ?_)
  refine wpAnyB_takeY (i := 0) (v := ?_) rfl (by kernel_rfl) (by kernel_rfl) (by kernel_rfl) (by kernel_rfl) (fun _ _ _ h => h) (Or.inl ⟨by rfl, ?_⟩) hHeld ?_
  rotate_left 1
  · ((intro w hSw; clear hSw; go_simp) <;> (with_reducible rfl))
  (try simp only [Act.put, List.setIfInBounds_toArray, List.set_cons_zero, List.set_cons_succ])
  refine wpAnyB_takeY (i := 1) (v := ?_) rfl (by kernel_rfl) (by kernel_rfl) (by kernel_rfl) (by kernel_rfl) (fun _ _ _ h => h) (Or.inl ⟨by rfl, ?_⟩) hHeld ?_
  rotate_left 1
  · ((intro w hSw; clear hSw; go_simp) <;> (with_reducible rfl))
  (try simp only [Act.put, List.setIfInBounds_toArray, List.set_cons_zero, List.set_cons_succ])
  refine wpAnyB_take (i := 2) (v := ?_) rfl (by kernel_rfl) (by kernel_rfl) (by kernel_rfl) [17, 9, 5, 4, 3] (by kernel_rfl) (by kernel_rfl) (fun _ _ _ h => h) (Or.inl ⟨by rfl, ?_⟩) hHeld ?_
  rotate_left 1
  · ((intro w hSw; (try dsimp only at hSw); go_simp) <;> (with_reducible rfl))
  (try simp only [Act.put, List.setIfInBounds_toArray, List.set_cons_zero, List.set_cons_succ])
  refine wpAnyB_take (i := 3) (v := ?_) rfl (by kernel_rfl) (by kernel_rfl) (by kernel_rfl) [17, 9, 5, 4] (by kernel_rfl) (by kernel_rfl) (fun _ _ _ h => h) (Or.inl ⟨by rfl, ?_⟩) hHeld ?_
  rotate_left 1
  · ((intro w hSw; (try dsimp only at hSw); go_simp) <;> (with_reducible rfl))
  (try simp only [Act.put, List.setIfInBounds_toArray, List.set_cons_zero, List.set_cons_succ])
  refine wpAnyB_take (i := 4) (v := ?_) rfl (by kernel_rfl) (by kernel_rfl) (by kernel_rfl) [17, 9, 5] (by kernel_rfl) (by kernel_rfl) (fun _ _ _ h => h) (Or.inl ⟨by rfl, ?_⟩) hHeld ?_
  rotate_left 1
  · ((intro w hSw; (try dsimp only at hSw); go_simp) <;> (with_reducible rfl))
  (try simp only [Act.put, List.setIfInBounds_toArray, List.set_cons_zero, List.set_cons_succ])
  refine wpAnyB_take (i := 5) (v := ?_) rfl (by kernel_rfl) (by kernel_rfl) (by kernel_rfl) [17, 9] (by kernel_rfl) (by kernel_rfl) (fun _ _ _ h => h) (Or.inl ⟨by rfl, ?_⟩) hHeld ?_
  rotate_left 1
  · ((intro w hSw; (try dsimp only at hSw); go_simp) <;> (with_reducible rfl))
  (try simp only [Act.put, List.setIfInBounds_toArray, List.set_cons_zero, List.set_cons_succ])
  refine wpAnyB_take (i := 6) (v := ?_) rfl (by kernel_rfl) (by kernel_rfl) (by kernel_rfl) [17, 9] (by kernel_rfl) (by kernel_rfl) (fun _ _ _ h => h) (Or.inl ⟨by rfl, ?_⟩) hHeld ?_
  rotate_left 1
  · ((intro w hSw; (try dsimp only at hSw); go_simp) <;> (with_reducible rfl))
  (try simp only [Act.put, List.setIfInBounds_toArray, List.set_cons_zero, List.set_cons_succ])
  refine wpAnyB_take (i := 7) (v := ?_) rfl (by kernel_rfl) (by kernel_rfl) (by kernel_rfl) [17, 9, 8] (by kernel_rfl) (by kernel_rfl) (fun _ _ _ h => h) (Or.inl ⟨by rfl, ?_⟩) hHeld ?_
  rotate_left 1
  · ((intro w hSw; (try dsimp only at hSw); go_simp) <;> (with_reducible rfl))
  (try simp only [Act.put, List.setIfInBounds_toArray, List.set_cons_zero, List.set_cons_succ])
  refine wpAnyB_take (i := 10) (v := ?_) rfl (by kernel_rfl) (by kernel_rfl) (by kernel_rfl) [17, 13, 12, 11] (by kernel_rfl) (by kernel_rfl) (fun _ _ _ h => h) (Or.inl ⟨by rfl, ?_⟩) hHeld ?_
  rotate_left 1
  · ((intro w hSw; (try dsimp only at hSw); go_simp) <;> (with_reducible rfl))
  (try simp only [Act.put, List.setIfInBounds_toArray, List.set_cons_zero, List.set_cons_succ])
  refine wpAnyB_take (i := 11) (v := ?_) rfl (by kernel_rfl) (by kernel_rfl) (by kernel_rfl) [17, 13, 12] (by kernel_rfl) (by kernel_rfl) (fun _ _ _ h => h) (Or.inl ⟨by rfl, ?_⟩) hHeld ?_
  rotate_left 1
  · ((intro w hSw; (try dsimp only at hSw); go_simp) <;> (with_reducible rfl))
  (try simp only [Act.put, List.setIfInBounds_toArray, List.set_cons_zero, List.set_cons_succ])
  refine wpAnyB_take (i := 12) (v := ?_) rfl (by kernel_rfl) (by kernel_rfl) (by kernel_rfl) [17, 13] (by kernel_rfl) (by kernel_rfl) (fun _ _ _ h => h) (Or.inl ⟨by rfl, ?_⟩) hHeld ?_
  rotate_left 1
  · ((intro w hSw; (try dsimp only at hSw); go_simp) <;> (with_reducible rfl))
  (try simp only [Act.put, List.setIfInBounds_toArray, List.set_cons_zero, List.set_cons_succ])
  refine wpAnyB_take (i := 13) (v := ?_) rfl (by kernel_rfl) (by kernel_rfl) (by kernel_rfl) [17] (by kernel_rfl) (by kernel_rfl) (fun _ _ _ h => h) (Or.inl ⟨by rfl, ?_⟩) hHeld ?_
  rotate_left 1
  · ((intro w hSw; (try dsimp only at hSw); go_simp) <;> (with_reducible rfl))
  (try simp only [Act.put, List.setIfInBounds_toArray, List.set_cons_zero, List.set_cons_succ])
  refine wpAnyB_take (i := 14) (v := ?_) rfl (by kernel_rfl) (by kernel_rfl) (by kernel_rfl) [17] (by kernel_rfl) (by kernel_rfl) (fun _ _ _ h => h) (Or.inl ⟨by rfl, ?_⟩) hHeld ?_
  rotate_left 1
  · ((intro w hSw; (try dsimp only at hSw); go_simp) <;> (with_reducible rfl))
  (try simp only [Act.put, List.setIfInBounds_toArray, List.set_cons_zero, List.set_cons_succ])
  refine wpAnyB_take (i := 15) (v := ?_) rfl (by kernel_rfl) (by kernel_rfl) (by kernel_rfl) [17, 16] (by kernel_rfl) (by kernel_rfl) (fun _ _ _ h => h) (Or.inl ⟨by rfl, ?_⟩) hHeld ?_
  rotate_left 1
  · ((intro w hSw; (try dsimp only at hSw); go_simp) <;> (with_reducible rfl))
  (try simp only [Act.put, List.setIfInBounds_toArray, List.set_cons_zero, List.set_cons_succ])
  refine wpAnyB_ready (rs := [8, 16]) (by kernel_rfl) (by simp) ?_
  refine AllReadyB.pre rfl (fun Kq hKq => ?_) ?_
  · go_simp
    refine hKq.out _ _ (hra.out _ (hHeld.2.2.2.2.2.2.alloc _)) (fun hHeld => ?_)
    clear hKq Kq
    (try simp only [Act.put, List.setIfInBounds_toArray, List.set_cons_zero, List.set_cons_succ])
    refine wpAnyB_ready (rs := [9, 16]) (by kernel_rfl) (by simp) ?_
    refine AllReadyB.pre rfl (fun Kq hKq => ?_) ?_
    · go_simp
      (go_at_call 87; refine (insertS (w.heap.size + 1) _ (.slice A1 K c1) K i _ _ [.string key] (by first | exact own_alloc (own_alloc o1 _) _ | exact own_alloc o1 _) hone1.out (by first | exact heap_at _ trivial (by simp) | exact heap_old (heap_at _ trivial (by simp)) _) rfl honek.out (hne1.out _ (by simp)) hikH.out hbd1.out (by simp; omega)).mono ?_; rintro e w9 ⟨v9, rfl, o9, m9⟩; obtain ⟨A9, c9, rfl, hc9, -, -⟩ := own_slice o9)
      (try go_wp2_with fail)
      refine hKq.out _ _ (hra.out _ (hHeld.2.2.2.2.2.2.trans m9)) (fun hHeld => ?_)
      clear hKq Kq
      (try simp only [Act.put, List.setIfInBounds_toArray, List.set_cons_zero, List.set_cons_succ])
      refine wpAnyB_ready (rs := [16]) (by kernel_rfl) (by simp) ?_
      refine AllReadyB.pre rfl (fun Kq hKq => ?_) ?_
      · go_simp
        refine hKq.out _ _ (hra.out _ (hHeld.2.2.2.2.2.2.alloc _)) (fun hHeld => ?_)
        clear hKq Kq
        (try simp only [Act.put, List.setIfInBounds_toArray, List.set_cons_zero, List.set_cons_succ])
        refine wpAnyB_ready (rs := [17]) (by kernel_rfl) (by simp) ?_
        refine AllReadyB.post rfl (by kernel_rfl) (fun Kq hKq => ?_) ?_
        · go_simp
          (go_at_call 88; refine (insertV (w.heap.size + 1) _ (.slice A2 K c2) K i _ _ [.slice da dn dc, .bool db, .int .i64 ds, .int .i64 df] (by exact own_mut o2 hHeld.2.2.2.2.2.2 (by decide)) hone2.out (by first | exact heap_at _ trivial (by simp) | exact m9.keepc (heap_at _ trivial (by simp)) (by decide) | exact m9.keepc (heap_old (heap_at _ trivial (by simp)) _) (by decide)) rfl hone4.out (hne2.out _ (by first | (have := m9.size; simp at this ⊢; omega) | (simp; omega) | simp)) hikH.out hbd2.out (by first | (have := (hHeld.2.2.2.2.2.2).size; omega))).mono ?_; rintro e w17 ⟨v17, rfl, o17, m17⟩; obtain ⟨A17, c17, rfl, hc17, -, -⟩ := own_slice o17; have M17 : Mut (w.heap.size + 1) [9, 86] w1 w17 := ((hHeld.2.2.2.2.2.2).mono (Nat.le_refl _) (by simp)).trans (m17.mono (Nat.le_refl _) (by simp)); have hq17 := M17.keepc hq (by decide); have y1 : w17.cell? ⟨q, 1, none⟩ = some (.slice A1 K c1) := (by rw [cell_of hq17]; rfl); have y2 : w17.cell? ⟨q, 2, none⟩ = some (.slice A2 K c2) := (by rw [cell_of hq17]; rfl); have z1 := unfrozen_of hq17 1; have z2 := unfrozen_of hq17 2; have o99 : w17.ownsRow (w.heap.size + 1) 9 1 (.slice A9 (K + 1) c9) (K + 1) (ins (x.keys.map .string) (i * 1) [.string key]) := (by first | exact own_mut o9 m17 (by decide) | exact own_mut (own_alloc o9 _) m17 (by decide)))
          (try go_wp2_with fail)
          refine hKq.out _ _ ?_
          clear hKq Kq
          (try simp only [Act.put, List.setIfInBounds_toArray, List.set_cons_zero, List.set_cons_succ])
          refine wpAnyB_ready (rs := [18]) (by kernel_rfl) (by simp) ?_
          refine AllReadyB.post rfl (by kernel_rfl) (fun Kq hKq => ?_) ?_
          · go_simp
            refine hKq.out _ _ ?_
            clear hKq Kq
            (try simp only [Act.put, List.setIfInBounds_toArray, List.set_cons_zero, List.set_cons_succ])
            refine wpAnyB_ready (rs := [19]) (by kernel_rfl) (by simp) ?_
            refine AllReadyB.post rfl (by kernel_rfl) (fun Kq hKq => ?_) ?_
            · go_simp
              refine hKq.out _ _ ?_
              clear hKq Kq
              (try simp only [Act.put, List.setIfInBounds_toArray, List.set_cons_zero, List.set_cons_succ])
              refine wpAnyB_ready (rs := [20]) (by kernel_rfl) (by simp) ?_
              refine AllReadyB.post rfl (by kernel_rfl) (fun Kq hKq => ?_) ?_
              · go_simp
                refine hKq.out _ _ ?_
                clear hKq Kq
                (try simp only [Act.put, List.setIfInBounds_toArray, List.set_cons_zero, List.set_cons_succ])
                refine wpAnyB_ready (rs := [21]) (by kernel_rfl) (by simp) ?_
                refine AllReadyB.post rfl (by kernel_rfl) (fun Kq hKq => ?_) ?_
                · go_simp
                  refine hKq.out _ _ ?_
                  clear hKq Kq
                  (try simp only [Act.put, List.setIfInBounds_toArray, List.set_cons_zero, List.set_cons_succ])
                  refine wpAnyB_ready (rs := [22]) (by kernel_rfl) (by simp) ?_
                  refine AllReadyB.post rfl (by kernel_rfl) (fun Kq hKq => ?_) ?_
                  · go_simp
                    refine hKq.out _ _ ?_
                    clear hKq Kq
                    (try simp only [Act.put, List.setIfInBounds_toArray, List.set_cons_zero, List.set_cons_succ])
                    refine wpAnyB_ready (rs := [23]) (by kernel_rfl) (by simp) ?_
                    refine AllReadyB.post rfl (by kernel_rfl) (fun Kq hKq => ?_) ?_
                    · go_simp
                      refine hKq.out _ _ ?_
                      clear hKq Kq
                      (try simp only [Act.put, List.setIfInBounds_toArray, List.set_cons_zero, List.set_cons_succ])
                      refine wpAnyB_done (by kernel_rfl) ?_ _
                      refine NoPanic.normal ?_
                      obtain ⟨t1, t2, t3⟩ := hfinH.out _ _ _ _ _ M17 o99 o17
                      go_wp2_with (first | (go_at_call 89; refine (addI64 T 2 cnt 1 _ t1 t2 hwc.out).mono ?_; rintro e w' ⟨rfl, rfl⟩) | (go_at_call 90; refine t3.out.mono ?_; rintro e w6 ⟨v6, rfl, g6, m6⟩))
                      go_ret
                      exact ⟨v6, rfl, g6, m6⟩
                    exact AllReadyB.nil
                  exact AllReadyB.nil
                exact AllReadyB.nil
              exact AllReadyB.nil
            exact AllReadyB.nil
          exact AllReadyB.nil
        exact AllReadyB.nil
      exact AllReadyB.nil
    refine AllReadyB.pre rfl (fun Kq hKq => ?_) ?_
    · go_simp
      refine hKq.out _ _ (hra.out _ (hHeld.2.2.2.2.2.2.alloc _)) (fun hHeld => ?_)
      clear hKq Kq
      (try simp only [Act.put, List.setIfInBounds_toArray, List.set_cons_zero, List.set_cons_succ])
      refine wpAnyB_ready (rs := [9]) (by kernel_rfl) (by simp) ?_
      refine AllReadyB.pre rfl (fun Kq hKq => ?_) ?_
      · go_simp
        (go_at_call 87; refine (insertS (w.heap.size + 1) _ (.slice A1 K c1) K i _ _ [.string key] (by first | exact own_alloc (own_alloc o1 _) _ | exact own_alloc o1 _) hone1.out (by first | exact heap_at _ trivial (by simp) | exact heap_old (heap_at _ trivial (by simp)) _) rfl honek.out (hne1.out _ (by simp)) hikH.out hbd1.out (by simp; omega)).mono ?_; rintro e w9 ⟨v9, rfl, o9, m9⟩; obtain ⟨A9, c9, rfl, hc9, -, -⟩ := own_slice o9)
        (try go_wp2_with fail)
        refine hKq.out _ _ (hra.out _ (hHeld.2.2.2.2.2.2.trans m9)) (fun hHeld => ?_)
        clear hKq Kq
        (try simp only [Act.put, List.setIfInBounds_toArray, List.set_cons_zero, List.set_cons_succ])
        refine wpAnyB_ready (rs := [17]) (by kernel_rfl) (by simp) ?_
        refine AllReadyB.post rfl (by kernel_rfl) (fun Kq hKq => ?_) ?_
        · go_simp
          (go_at_call 88; refine (insertV (w.heap.size + 1) _ (.slice A2 K c2) K i _ _ [.slice da dn dc, .bool db, .int .i64 ds, .int .i64 df] (by exact own_mut o2 hHeld.2.2.2.2.2.2 (by decide)) hone2.out (by first | exact heap_at _ trivial (by simp) | exact m9.keepc (heap_at _ trivial (by simp)) (by decide) | exact m9.keepc (heap_old (heap_at _ trivial (by simp)) _) (by decide)) rfl hone4.out (hne2.out _ (by first | (have := m9.size; simp at this ⊢; omega) | (simp; omega) | simp)) hikH.out hbd2.out (by first | (have := (hHeld.2.2.2.2.2.2).size; omega))).mono ?_; rintro e w17 ⟨v17, rfl, o17, m17⟩; obtain ⟨A17, c17, rfl, hc17, -, -⟩ := own_slice o17; have M17 : Mut (w.heap.size + 1) [9, 86] w1 w17 := ((hHeld.2.2.2.2.2.2).mono (Nat.le_refl _) (by simp)).trans (m17.mono (Nat.le_refl _) (by simp)); have hq17 := M17.keepc hq (by decide); have y1 : w17.cell? ⟨q, 1, none⟩ = some (.slice A1 K c1) := (by rw [cell_of hq17]; rfl); have y2 : w17.cell? ⟨q, 2, none⟩ = some (.slice A2 K c2) := (by rw [cell_of hq17]; rfl); have z1 := unfrozen_of hq17 1; have z2 := unfrozen_of hq17 2; have o99 : w17.ownsRow (w.heap.size + 1) 9 1 (.slice A9 (K + 1) c9) (K + 1) (ins (x.keys.map .string) (i * 1) [.string key]) := (by first | exact own_mut o9 m17 (by decide) | exact own_mut (own_alloc o9 _) m17 (by decide)))
          (try go_wp2_with fail)
          refine hKq.out _ _ ?_
          clear hKq Kq
          (try simp only [Act.put, List.setIfInBounds_toArray, List.set_cons_zero, List.set_cons_succ])
          refine wpAnyB_ready (rs := [18]) (by kernel_rfl) (by simp) ?_
          refine AllReadyB.post rfl (by kernel_rfl) (fun Kq hKq => ?_) ?_
          · go_simp
            refine hKq.out _ _ ?_
            clear hKq Kq
            (try simp only [Act.put, List.setIfInBounds_toArray, List.set_cons_zero, List.set_cons_succ])
            refine wpAnyB_ready (rs := [19]) (by kernel_rfl) (by simp) ?_
            refine AllReadyB.post rfl (by kernel_rfl) (fun Kq hKq => ?_) ?_
            · go_simp
              refine hKq.out _ _ ?_
              clear hKq Kq
              (try simp only [Act.put, List.setIfInBounds_toArray, List.set_cons_zero, List.set_cons_succ])
              refine wpAnyB_ready (rs := [20]) (by kernel_rfl) (by simp) ?_
              refine AllReadyB.post rfl (by kernel_rfl) (fun Kq hKq => ?_) ?_
              · go_simp
                refine hKq.out _ _ ?_
                clear hKq Kq
                (try simp only [Act.put, List.setIfInBounds_toArray, List.set_cons_zero, List.set_cons_succ])
                refine wpAnyB_ready (rs := [21]) (by kernel_rfl) (by simp) ?_
                refine AllReadyB.post rfl (by kernel_rfl) (fun Kq hKq => ?_) ?_
                · go_simp
                  refine hKq.out _ _ ?_
                  clear hKq Kq
                  (try simp only [Act.put, List.setIfInBounds_toArray, List.set_cons_zero, List.set_cons_succ])
                  refine wpAnyB_ready (rs := [22]) (by kernel_rfl) (by simp) ?_
                  refine AllReadyB.post rfl (by kernel_rfl) (fun Kq hKq => ?_) ?_
                  · go_simp
                    refine hKq.out _ _ ?_
                    clear hKq Kq
                    (try simp only [Act.put, List.setIfInBounds_toArray, List.set_cons_zero, List.set_cons_succ])
                    refine wpAnyB_ready (rs := [23]) (by kernel_rfl) (by simp) ?_
                    refine AllReadyB.post rfl (by kernel_rfl) (fun Kq hKq => ?_) ?_
                    · go_simp
                      refine hKq.out _ _ ?_
                      clear hKq Kq
                      (try simp only [Act.put, List.setIfInBounds_toArray, List.set_cons_zero, List.set_cons_succ])
                      refine wpAnyB_done (by kernel_rfl) ?_ _
                      refine NoPanic.normal ?_
                      obtain ⟨t1, t2, t3⟩ := hfinH.out _ _ _ _ _ M17 o99 o17
                      go_wp2_with (first | (go_at_call 89; refine (addI64 T 2 cnt 1 _ t1 t2 hwc.out).mono ?_; rintro e w' ⟨rfl, rfl⟩) | (go_at_call 90; refine t3.out.mono ?_; rintro e w6 ⟨v6, rfl, g6, m6⟩))
                      go_ret
                      exact ⟨v6, rfl, g6, m6⟩
                    exact AllReadyB.nil
                  exact AllReadyB.nil
                exact AllReadyB.nil
              exact AllReadyB.nil
            exact AllReadyB.nil
          exact AllReadyB.nil
        exact AllReadyB.nil
      exact AllReadyB.nil
    exact AllReadyB.nil
  refine AllReadyB.pre rfl (fun Kq hKq => ?_) ?_
  · go_simp
    refine hKq.out _ _ (hra.out _ (hHeld.2.2.2.2.2.2.alloc _)) (fun hHeld => ?_)
    clear hKq Kq
    (try simp only [Act.put, List.setIfInBounds_toArray, List.set_cons_zero, List.set_cons_succ])
    refine wpAnyB_ready (rs := [8]) (by kernel_rfl) (by simp) ?_
    refine AllReadyB.pre rfl (fun Kq hKq => ?_) ?_
    · go_simp
      refine hKq.out _ _ (hra.out _ (hHeld.2.2.2.2.2.2.alloc _)) (fun hHeld => ?_)
      clear hKq Kq
      (try simp only [Act.put, List.setIfInBounds_toArray, List.set_cons_zero, List.set_cons_succ])
      refine wpAnyB_ready (rs := [9]) (by kernel_rfl) (by simp) ?_
      refine AllReadyB.pre rfl (fun Kq hKq => ?_) ?_
      · go_simp
        (go_at_call 87; refine (insertS (w.heap.size + 1) _ (.slice A1 K c1) K i _ _ [.string key] (by first | exact own_alloc (own_alloc o1 _) _ | exact own_alloc o1 _) hone1.out (by first | exact heap_at _ trivial (by simp) | exact heap_old (heap_at _ trivial (by simp)) _) rfl honek.out (hne1.out _ (by simp)) hikH.out hbd1.out (by simp; omega)).mono ?_; rintro e w9 ⟨v9, rfl, o9, m9⟩; obtain ⟨A9, c9, rfl, hc9, -, -⟩ := own_slice o9)
        (try go_wp2_with fail)
        refine hKq.out _ _ (hra.out _ (hHeld.2.2.2.2.2.2.trans m9)) (fun hHeld => ?_)
        clear hKq Kq
        (try simp only [Act.put, List.setIfInBounds_toArray, List.set_cons_zero, List.set_cons_succ])
        refine wpAnyB_ready (rs := [17]) (by kernel_rfl) (by simp) ?_
        refine AllReadyB.post rfl (by kernel_rfl) (fun Kq hKq => ?_) ?_
        · go_simp
          (go_at_call 88; refine (insertV (w.heap.size + 1) _ (.slice A2 K c2) K i _ _ [.slice da dn dc, .bool db, .int .i64 ds, .int .i64 df] (by exact own_mut o2 hHeld.2.2.2.2.2.2 (by decide)) hone2.out (by first | exact heap_at _ trivial (by simp) | exact m9.keepc (heap_at _ trivial (by simp)) (by decide) | exact m9.keepc (heap_old (heap_at _ trivial (by simp)) _) (by decide)) rfl hone4.out (hne2.out _ (by first | (have := m9.size; simp at this ⊢; omega) | (simp; omega) | simp)) hikH.out hbd2.out (by first | (have := (hHeld.2.2.2.2.2.2).size; omega))).mono ?_; rintro e w17 ⟨v17, rfl, o17, m17⟩; obtain ⟨A17, c17, rfl, hc17, -, -⟩ := own_slice o17; have M17 : Mut (w.heap.size + 1) [9, 86] w1 w17 := ((hHeld.2.2.2.2.2.2).mono (Nat.le_refl _) (by simp)).trans (m17.mono (Nat.le_refl _) (by simp)); have hq17 := M17.keepc hq (by decide); have y1 : w17.cell? ⟨q, 1, none⟩ = some (.slice A1 K c1) := (by rw [cell_of hq17]; rfl); have y2 : w17.cell? ⟨q, 2, none⟩ = some (.slice A2 K c2) := (by rw [cell_of hq17]; rfl); have z1 := unfrozen_of hq17 1; have z2 := unfrozen_of hq17 2; have o99 : w17.ownsRow (w.heap.size + 1) 9 1 (.slice A9 (K + 1) c9) (K + 1) (ins (x.keys.map .string) (i * 1) [.string key]) := (by first | exact own_mut o9 m17 (by decide) | exact own_mut (own_alloc o9 _) m17 (by decide)))
          (try go_wp2_with fail)
          refine hKq.out _ _ ?_
          clear hKq Kq
          (try simp only [Act.put, List.setIfInBounds_toArray, List.set_cons_zero, List.set_cons_succ])
          refine wpAnyB_ready (rs := [18]) (by kernel_rfl) (by simp) ?_
          refine AllReadyB.post rfl (by kernel_rfl) (fun Kq hKq => ?_) ?_
          · go_simp
            refine hKq.out _ _ ?_
            clear hKq Kq
            (try simp only [Act.put, List.setIfInBounds_toArray, List.set_cons_zero, List.set_cons_succ])
            refine wpAnyB_ready (rs := [19]) (by kernel_rfl) (by simp) ?_
            refine AllReadyB.post rfl (by kernel_rfl) (fun Kq hKq => ?_) ?_
            · go_simp
              refine hKq.out _ _ ?_
              clear hKq Kq
              (try simp only [Act.put, List.setIfInBounds_toArray, List.set_cons_zero, List.set_cons_succ])
              refine wpAnyB_ready (rs := [20]) (by kernel_rfl) (by simp) ?_
              refine AllReadyB.post rfl (by kernel_rfl) (fun Kq hKq => ?_) ?_
              · go_simp
                refine hKq.out _ _ ?_
                clear hKq Kq
                (try simp only [Act.put, List.setIfInBounds_toArray, List.set_cons_zero, List.set_cons_succ])
                refine wpAnyB_ready (rs := [21]) (by kernel_rfl) (by simp) ?_
                refine AllReadyB.post rfl (by kernel_rfl) (fun Kq hKq => ?_) ?_
                · go_simp
                  refine hKq.out _ _ ?_
                  clear hKq Kq
                  (try simp only [Act.put, List.setIfInBounds_toArray, List.set_cons_zero, List.set_cons_succ])
                  refine wpAnyB_ready (rs := [22]) (by kernel_rfl) (by simp) ?_
                  refine AllReadyB.post rfl (by kernel_rfl) (fun Kq hKq => ?_) ?_
                  · go_simp
                    refine hKq.out _ _ ?_
                    clear hKq Kq
                    (try simp only [Act.put, List.setIfInBounds_toArray, List.set_cons_zero, List.set_cons_succ])
                    refine wpAnyB_ready (rs := [23]) (by kernel_rfl) (by simp) ?_
                    refine AllReadyB.post rfl (by kernel_rfl) (fun Kq hKq => ?_) ?_
                    · go_simp
                      refine hKq.out _ _ ?_
                      clear hKq Kq
                      (try simp only [Act.put, List.setIfInBounds_toArray, List.set_cons_zero, List.set_cons_succ])
                      refine wpAnyB_done (by kernel_rfl) ?_ _
                      refine NoPanic.normal ?_
                      obtain ⟨t1, t2, t3⟩ := hfinH.out _ _ _ _ _ M17 o99 o17
                      go_wp2_with (first | (go_at_call 89; refine (addI64 T 2 cnt 1 _ t1 t2 hwc.out).mono ?_; rintro e w' ⟨rfl, rfl⟩) | (go_at_call 90; refine t3.out.mono ?_; rintro e w6 ⟨v6, rfl, g6, m6⟩))
                      go_ret
                      exact ⟨v6, rfl, g6, m6⟩
                    exact AllReadyB.nil
                  exact AllReadyB.nil
                exact AllReadyB.nil
              exact AllReadyB.nil
            exact AllReadyB.nil
          exact AllReadyB.nil
        exact AllReadyB.nil
      exact AllReadyB.nil
    exact AllReadyB.nil
  exact AllReadyB.nil



set_option maxRecDepth 4000 in
set_option maxHeartbeats 1000000 in
theorem tput_one [Mode] (B : Nat) (w : World) (T p n g : Nat) (r : PS) (ls ps : List Pg) (S : List Nat) (C : KV) (key : ByteArray) (v : Value) (l : List UInt8) (t : TreeAt B w T p r ls ps (n + 1) (g + 1) S C) (hsub : Sub ps g n none none C S) (hgz : g = 0) (hC1 : C.length ≤ 1) (hnew : ∀ q ∈ C, q.1 ≠ key) (hv : Byt w v l) (hk1 : 1 ≤ key.size) (hk2 : key.size ≤ 200) (hn : l.length ≤ 65536)
    (hf : manyOf key.size l.length + (g + 1) + 2 ≤ room ps) (hB : B ≤ w.heap.size) (hsh : Mode.short = true → key.size ≤ 4 ∧ l.length ≤ 60) :
    Calls Tryz.prog 13 #[.pointer (some ⟨T, 0, none⟩), .string key, v] w fun e w' => e = .returned (.int .i64 0) ∧ (∃ ps' S', TreeAt B w' T p r ls ps' (n + 1) 1 S' (insKV C key l) ∧ room ps ≤ room ps' + (manyOf key.size l.length + (g + 1) + 2)) ∧ Mut B [133, 147, 80] w w' := by
  have hC : C.length ≤ 100000000 := by omega
  have hC2 : (insKV C key l).length ≤ 100000001 := by
    unfold insKV
    have h1 := List.length_filter_le (fun p : ByteArray × List UInt8 => blt p.1 key) C
    have h2 := List.length_filter_le (fun p : ByteArray × List UInt8 => blt key p.1) C
    simp only [List.length_append, List.length_cons]; omega
  have hxx : Sub ps 0 n none none C S := by rw [← hgz]; exact hsub
  obtain ⟨x, Tl, hS, hx0, hl0, hg0, hb0⟩ := hxx
  have hkeyf : hasKey x.keys key = false := by
    cases h : hasKey x.keys key
    · rfl
    · exfalso
      have hkey : x.keys[below x.keys key]? = some key := by unfold hasKey at h; simpa using h
      have hmem := List.mem_of_getElem? hkey
      rw [hb0.keys] at hmem
      obtain ⟨q, hq, hqe⟩ := List.mem_map.1 hmem
      exact hnew q hq hqe
  have hins1 : (insKV C key l).length = C.length + 1 := insKV_new hb0 hkeyf
  have hone0 := Lib.hid (And.intro hS (And.intro hx0 (And.intro hl0 (And.intro hg0 (And.intro hb0 (And.intro hkeyf (And.intro hins1 hC1)))))))
  clear hS hx0 hl0 hg0 hb0 hkeyf hins1 hC1 hnew
  have hgzH := Lib.hid hgz; clear hgz
  have hvH := Lib.hid hv
  obtain ⟨A, c, rfl, g1, g2, g3, g4⟩ := hv
  have hT : TAt w T p (n : Int) (C.length : Int) false := by have := t.at_; rw [show (((n + 1 : Nat) : Int) - 1) = (n : Int) by omega] at this; exact this
  have h1 := may_any w T p _ _ hT
  have h2 := isKey_yes key w hk1 hk2
  have h3 := left_any B w T p r ls ps hT.c0 t.pgr
  have h4 := Lib.hid (fun W => many_any key A l.length c W (by omega) (by omega))
  have h5 := Lib.hid (fun k => tdeep (t.mut (Mut.drewN (Mut.refl 0 [] w) k) (by simp) (by simp) (by simp) (by simp)))
  have h6 := Lib.hid (fun (W : World) (hb : Below w.heap.size w W) => gcount (t.pgr.below hb))
  have hro : room ps ≤ 40000 := by unfold room; have := nfree_le ps; have := t.pgr.few; omega
  have hfew := t.pgr.few
  have hgd : g + 1 ≤ 16384 := t.deep_le
  have hm : manyOf key.size l.length ≤ 1000 := by unfold manyOf; split <;> omega
  have hnS : n ∈ S := by obtain ⟨T', e⟩ := hsub.head; rw [e]; simp
  have hn16 : n < 16384 := by have := t.root_le; omega
  have hps : ps ≠ [] := fun h => by
    have := (t.tak n).2 (.inr hnS)
    rw [h] at this; cases this
  obtain ⟨M, hM⟩ : ∃ M, M = manyOf key.size l.length := ⟨_, rfl⟩
  obtain ⟨Rm, hRm⟩ : ∃ Rm, Rm = room ps := ⟨_, rfl⟩
  obtain ⟨nl, hnl⟩ : ∃ nl, nl = l.length := ⟨_, rfl⟩
  obtain ⟨N, hN⟩ : ∃ N, N = ps.length := ⟨_, rfl⟩
  obtain ⟨D, hD⟩ : ∃ D, D = g + 1 := ⟨_, rfl⟩
  have hl0 : ((N : Int) == 0) = false := beq_eq_false_iff_ne.2 (by have := List.length_pos_iff.2 hps; omega)
  rw [← hnl] at hM hn g1
  rw [← hnl] at h4 hf hm ⊢
  rw [← hM] at h4 hf hm ⊢
  rw [← hRm] at h3 hf hro ⊢
  rw [← hD] at h5 hf hgd ⊢
  have h6 : Hid (∀ (W : World), Below w.heap.size w W → Calls Tryz.prog 38 #[.pointer (some ⟨p, 0, none⟩)] W fun e w' => e = .returned (.tuple #[.int .i64 (N : Int), .int .i64 (nfree ps)]) ∧ ∃ k, w' = W.drewN k) := by rw [hN]; exact h6.out
  have hroom := Lib.hid (And.intro hM (And.intro hRm (And.intro hnl (And.intro hN hD))))
  have tH := Lib.hid (And.intro t (And.intro hT (And.intro hsub (And.intro hps (And.intro hnS (And.intro hC hC2))))))
  have hn0 : ¬ ((n : Int) < 0) := by omega
  clear t hT g4 g2 hM hRm hnl hN hps hsub hnS hD hC hC2
  go_enter Tryz.func13, Tryz.ntmps13
  go_wp2_with (first
    | (go_at_call 33; refine h1.mono ?_; rintro e w' ⟨rfl, rfl⟩)
    | (go_at_call 34; refine h2.mono ?_; rintro e w' ⟨rfl, rfl⟩)
    | (go_at_call 35; refine h3.mono ?_; rintro e w' ⟨rfl, kd, rfl⟩)
    | (go_at_call 36; refine (h4.out _).mono ?_; rintro e w' ⟨rfl, rfl⟩)
    | (go_at_call 37; refine (h5.out kd).mono ?_; rintro e w2 ⟨rfl, b2⟩; have b2' := bel_undrewN b2; have e02 := (tH.out.2.1.below b2').c0)
    | (go_at_call 38; refine (h6.out w2 b2').mono ?_; rintro e w' ⟨rfl, k3, rfl⟩; have hmd : Mut B [133, 147] w (w2.drewN k3) := (Mut.of_below b2' _ _).drewN k3))
  have hpd : Pgr B (w2.drewN k3) p r ls ps := (tH.out.1.pgr).mut (Mut.of_below b2' 0 [] |>.drewN k3) (by simp) (by simp) (by simp)
  clear e02 b2' b2
  obtain ⟨w3, hw3⟩ : ∃ W, W = w2.drewN k3 := ⟨_, rfl⟩
  rw [← hw3] at hmd hpd ⊢
  have hm3 := hmd
  have hp3 := hpd
  clear hw3 hmd hpd h1 h2 h3
  have hT3 : TAt w3 T p (n : Int) (C.length : Int) false := tH.out.2.1.mut hm3 (by decide)
  have hv3 : Byt w3 (.slice A nl c) l := by
    have := hvH.out
    rw [← hroom.out.2.2.1] at this
    exact this.mut hm3 (by decide)
  have hwr := write_any B w3 T p (n : Int) (C.length : Int) false r ls ps key (.slice A nl c) l hT3 hp3 hv3 hk2 (by rw [← hroom.out.2.2.1]; exact hn) (by rw [← hroom.out.2.2.1, ← hroom.out.1]; have := hroom.out.2.1; omega) (by have := hm3.size; omega) hsh
  rw [← hroom.out.2.2.1, ← hroom.out.1] at hwr
  clear hp3 hv3
  go_wp2_with (go_at_call 40; refine hwr.mono ?_; rintro e w4 ⟨vl, cs, V, ps4, rfl, hva, hvo, hin, hvof, hp4, st4, rm4, m4⟩; obtain ⟨da, dn, dc, db, ds, df, rfl⟩ := hva.shape; have hT4 := hT3.mut m4 (by decide); have e41 := (hT4.mut ((Mut.refl 0 [] w4).alloc (.cells #[.slice da dn dc, .bool db, .int .i64 ds, .int .i64 df] 86)) (by simp)).c1; have e40 := (hT4.mut ((Mut.refl 0 [] w4).alloc (.cells #[.slice da dn dc, .bool db, .int .i64 ds, .int .i64 df] 86)) (by simp)).c0)
  have hpb := heap_new w4 (.cells #[.slice da dn dc, .bool db, .int .i64 ds, .int .i64 df] 86)
  have hp5 : Pgr B (w4.alloc (.cells #[.slice da dn dc, .bool db, .int .i64 ds, .int .i64 df] 86)) p r ls ps4 := hp4.mut ((Mut.refl 0 [] w4).alloc _) (by simp) (by simp) (by simp)
  have hva5 : VlAt (w4.alloc (.cells #[.slice da dn dc, .bool db, .int .i64 ds, .int .i64 df] 86)) [.slice da dn dc, .bool db, .int .i64 ds, .int .i64 df] vl := hva.mut ((Mut.refl 0 [] w4).alloc _) (by simp)
  have hT5 : TAt (w4.alloc (.cells #[.slice da dn dc, .bool db, .int .i64 ds, .int .i64 df] 86)) T p (n : Int) (C.length : Int) false := hT4.mut ((Mut.refl 0 [] w4).alloc _) (by simp)
  have hm5 : Mut B [133, 147] w (w4.alloc (.cells #[.slice da dn dc, .bool db, .int .i64 ds, .int .i64 df] 86)) := (hm3.trans m4).alloc _
  generalize w4.alloc (.cells #[.slice da dn dc, .bool db, .int .i64 ds, .int .i64 df] 86) = w5 at *
  generalize w4.heap.size = pb at *
  have hS1 : w5.drew.cell? ⟨T, 1, none⟩ = some (.int .i64 (n : Int)) ∧ w5.drew.cell? ⟨pb, 0, none⟩ = some (.slice da dn dc) ∧ w5.drew.cell? ⟨pb, 1, none⟩ = some (.bool db) ∧ w5.drew.cell? ⟨pb, 2, none⟩ = some (.int .i64 ds) ∧ w5.drew.cell? ⟨pb, 3, none⟩ = some (.int .i64 df) :=
    ⟨hT5.c1, (cell_of hpb 0).trans rfl, (cell_of hpb 1).trans rfl, (cell_of hpb 2).trans rfl, (cell_of hpb 3).trans rfl⟩
  have hS1H := Lib.hid hS1
  obtain ⟨hS, hx0, hl0, hg0, hb0, hkeyf, hins1, hC1⟩ := hone0.out
  have hput := put_leaf_one B w5.drew T p n (n : Int) (C.length : Int) false r ls ps4 x none none C Tl key l vl [.slice da dn dc, .bool db, .int .i64 ds, .int .i64 df] V hT5.drew hp5.drew
    (st4.keep n _ hx0 (by simp)) hl0 hg0 (hb0.move fun m hm l hl => st4.keep m l hl (by simp))
    (by rw [← hS]; exact List.nodup_append.2 ⟨tH.out.1.nd, st4.nd, fun a ha b hb e => by
      subst e
      rcases st4.new a hb with h | h
      · simp at h
      · rw [(tH.out.1.tak a).2 (.inr ha)] at h; cases h⟩) hk2 hin hvo (leO_none key) (ltO_none key) (hva5.mut (Mut.drew (Mut.refl 0 [] w5)) (by simp)) hvof (by have := hroom.out.2.1; have := hroom.out.2.2.2.2; omega) (by have := hm5.size; simp; omega) tH.out.1.base (by omega) (by omega) hkeyf (add_fits hg0 hb0.leaf hl0 (by rw [hb0.keys, List.length_map]; exact hC1) hk2 hvo hin)
  rw [← hS] at hput
  rw [show ((C.length : Int) + 1) = ((insKV C key l).length : Int) by omega] at hput
  clear hS hx0 hl0 hg0 hb0 hkeyf hins1 hC1
  have hputH := Lib.hid hput
  have hF := Lib.hid (And.intro st4 (And.intro rm4 hm5))
  have hpbH := Lib.hid hpb
  have mixed : Tryz.prog.follows .mixedOrders = true := by kernel_rfl
  clear hvo hin hvof st4 hp4 hp5 hva5 hpb hT5 hT4 hm5 hm3 m4 hva hT3 hwr hput hS1 rm4 e40
  go_wp2_with fail
  go_region_held3 (fun W => W.cell? ⟨T, 1, none⟩ = some (.int .i64 (n : Int)) ∧ W.cell? ⟨pb, 0, none⟩ = some (.slice da dn dc) ∧ W.cell? ⟨pb, 1, none⟩ = some (.bool db) ∧ W.cell? ⟨pb, 2, none⟩ = some (.int .i64 ds) ∧ W.cell? ⟨pb, 3, none⟩ = some (.int .i64 df)) (first | (with_reducible exact hS1H.out) | (with_reducible exact hS4)) (first
    | (go_at_call 44; refine hputH.out.mono ?_; rintro e w6 ⟨v6, rfl, g6, m6⟩; have hpb6 : w6.heap[pb]? = _ := m6.keepc hpbH.out (by decide); have hS4 : w6.cell? ⟨T, 1, none⟩ = some (.int .i64 (n : Int)) ∧ w6.cell? ⟨pb, 0, none⟩ = some (.slice da dn dc) ∧ w6.cell? ⟨pb, 1, none⟩ = some (.bool db) ∧ w6.cell? ⟨pb, 2, none⟩ = some (.int .i64 ds) ∧ w6.cell? ⟨pb, 3, none⟩ = some (.int .i64 df) := ⟨g6.2.choose_spec.2.2.1.c1, (cell_of hpb6 0).trans rfl, (cell_of hpb6 1).trans rfl, (cell_of hpb6 2).trans rfl, (cell_of hpb6 3).trans rfl⟩))
  clear hS4 hpb6 e41
  obtain ⟨hri, ps5, hgrow, hp6, hT6, hroom5⟩ := g6
  have hw6 : Mut B [133, 147, 80] w w6 := (hF.out.2.2.mono (Nat.le_refl _) (by simp)).trans ⟨m6.os, m6.tape, m6.output, m6.size, m6.block⟩
  have h0S : ∀ m, hasP ps m = true ↔ m = 0 ∨ m ∈ S := fun m => by rw [tH.out.1.tak]; simp [tH.out.2.2.2.1]
  subst hri
  cases hgrow with
  | one hs5 st5 =>
    have hpure := fun (v9 : Value) => more_one (g := 0) (c := (insKV C key l).length) h0S tH.out.1.zero hF.out.1 hs5 st5 (v9 := v9) rfl
    have hT6' : TAt w6 T p (((n + 1 : Nat) : Int) - 1) ((insKV C key l).length : Int) false := by rw [show (((n + 1 : Nat) : Int) - 1) = (n : Int) by omega]; exact hT6
    have hws := writes_any B w6 T p (n + 1) (insKV C key l).length false r ls ps5 hT6' hp6 (hpure .nilFunc).2.2.2.2.2.2 (by omega) (by have := tH.out.2.2.2.2.2.2; omega)
    have hG := Lib.hid (And.intro hpure (And.intro hT6' (And.intro hw6 hroom5)))
    clear hpure hT6' hw6 hroom5 hT6 hp6 hs5 st5 h0S
    go_wp2_with (go_at_call 43; refine hws.mono ?_; rintro e w10 ⟨rfl, v9, hp10, m10⟩)
    go_ret
    obtain ⟨hpure, hT6', hw6, hroom5⟩ := hG.out
    obtain ⟨q1, q2, q3, q4, q5, q6, _⟩ := hpure v9
    refine ⟨rfl, ⟨_, _, ⟨tH.out.1.base, hT6'.mut m10 (by decide), hp10, q1, q2, q3, .inr q4, .inr ⟨n, 0, rfl, rfl, q5⟩⟩, ?_⟩, hw6.trans (m10.mono (Nat.le_refl _) (by simp))⟩
    have := hF.out.2.1; have := hroom.out.2.1; have := hroom.out.2.2.2.2; omega

end Go.Proofs.YtpfjhehjmhkbpaaGreatDoor
