/- put, at a leaf. -/
import Derived.Test.YtpfjhehjmhkbpaaGreatDoorM11
import Derived.Test.YtpfjhehjmhkbpaaGreatDoorM12
import Derived.Test.YtpfjhehjmhkbpaaGreatDoorM14
namespace Go.Proofs.YtpfjhehjmhkbpaaGreatDoor
open Go.RowKit

/-- Changes to what there was, then changes to what is new. -/
theorem Mut.local_ {B : Nat} {L L' : List Nat} {w w1 w2 : World} (h : Mut B L w w1) (k : Mut w.heap.size L' w1 w2) : Mut B L w w2 :=
  ⟨k.os.trans h.os, k.tape.trans h.tape, k.output.trans h.output, Nat.le_trans h.size k.size, fun i o ho hc => k.block i o (h.block i o ho hc) (.inl (blk_lt ho))⟩

theorem load_sub [Mode] {B : Nat} {w : World} {T p n : Nat} {root cnt : Int} {dead : Bool} {r : PS} {ls ps : List Pg} {x : Nd} (hT : TAt w T p root cnt dead) (hp : Pgr B w p r ls ps) (hx : PgIs ps n x.bytes) (hg : x.Good) (hl : x.bytes.length ≤ 512) :
    Calls Tryz.prog 53 #[.pointer (some ⟨T, 0, none⟩), .int .i64 (n : Int)] w fun e w' => ∃ q, e = .returned (.pointer (some ⟨q, 0, none⟩)) ∧ NodeAt w.heap.size w' q x ∧ Below w.heap.size w w' := by
  obtain ⟨pg, h1, h2, h3⟩ := hx
  exact load_any B w T p n r ls ps pg x hT.c0 hp h1 h2 h3 hg.ok hl

theorem VlAt.shape {w : World} {cs : List Value} {v : Vl} (h : VlAt w cs v) : ∃ A n c bb s f, cs = [.slice A n c, .bool bb, .int .i64 s, .int .i64 f] := by
  cases v with
  | inl l => obtain ⟨u, rfl, A, c, rfl, _⟩ := h; exact ⟨_, _, _, _, _, _, rfl⟩
  | far s f => cases h; exact ⟨_, _, _, _, _, _, rfl⟩

theorem Grew.before [Mode] {ps ps1 ps' : List Pg} {S0 S : List Nat} {h n : Nat} {lo hi : Option ByteArray} {C : KV} {o : Option (ByteArray × Nat)} (hs : Stp ps S0 ps1 S) (hg : Grew ps1 S h n lo hi C ps' o) : Grew ps S0 h n lo hi C ps' o := by
  cases hg with
  | one h1 h2 => exact .one h1 (hs.trans h2)
  | two hC hlo hhi hks hkt hm h1 h2 hp => exact .two hC hlo hhi hks hkt hm h1 h2 (hs.trans hp)

theorem leaf_old_step {ps ps1 : List Pg} {n : Nat} {T1 V0 T2 V : List Nat} (hd : (n :: (T1 ++ V0 ++ T2) ++ V).Nodup) (hall : ∀ m ∈ n :: (T1 ++ V0 ++ T2) ++ V, hasP ps m = true) (st : Stp ps V0 ps1 []) :
    Stp ps (n :: (T1 ++ V0 ++ T2) ++ V) ps1 (n :: (T1 ++ V ++ T2)) ∧ (∀ m ∈ T1 ++ T2 ++ V, ∀ l, PgIs ps m l → PgIs ps1 m l) := by
  have e0 : n :: (T1 ++ V0 ++ T2) ++ V = (n :: T1) ++ V0 ++ (T2 ++ V) := by simp
  rw [e0] at hd hall ⊢
  have hf := st.frame (A := n :: T1) (B := T2 ++ V) (fun m hm => hall m (by simp only [List.mem_append] at hm ⊢; rcases hm with h | h; exact .inl (.inl h); exact .inr h)) hd
  refine ⟨hf.perm ?_, fun m hm l hl => st.keep m l hl fun hV => ?_⟩
  · have := (List.perm_append_comm (l₁ := T2) (l₂ := V)).append_left (n :: T1)
    simpa using this
  · simp only [List.nodup_append, List.mem_append] at hd hm
    rcases hm with (hm | hm) | hm
    · exact hd.1.2.2 m (by simp [hm]) m hV rfl
    · exact hd.2.2 m (.inr hV) m (.inl hm) rfl
    · exact hd.2.2 m (.inr hV) m (.inr hm) rfl

set_option maxRecDepth 4000 in
set_option maxHeartbeats 800000 in
theorem put_leaf_old [Mode] (B : Nat) (w : World) (T p n : Nat) (root cnt : Int) (dead : Bool) (r : PS) (ls ps : List Pg) (x : Nd) (lo hi : Option ByteArray) (C : KV) (Tl : List Nat) (key : ByteArray) (b : List UInt8) (vl : Vl) (cs : List Value) (V : List Nat)
    (hT : TAt w T p root cnt dead) (hp : Pgr B w p r ls ps) (hx : PgIs ps n x.bytes) (hl : x.bytes.length ≤ 512) (hg : x.Good) (hb : LeafIs ps x lo hi C Tl) (hd : (n :: Tl ++ V).Nodup) (hin : Fit key vl) (hvo : vl.Ok)
    (hva : VlAt w cs vl) (hv : VlOf ps vl b V) (hr : 1 ≤ room ps) (hB : B ≤ w.heap.size) (hk : hasKey x.keys key = true) :
    Calls Tryz.prog 44 #[.pointer (some ⟨T, 0, none⟩), .int .i64 (n : Int), .string key, .agg cs.toArray] w fun e w' => ∃ v, e = .returned v ∧ Grown_ B w.heap.size T p root cnt dead r ls ps (n :: Tl ++ V) 0 n lo hi (insKV C key b) 1 v w' ∧ Mut B [133, 147] w w' := by
  obtain ⟨da, dn, dc, db, ds, df, rfl⟩ := hva.shape
  obtain ⟨T1, V0, T2, v0, b0, hTl, hkey, hv0, hvo0, hset⟩ := hb.set hk
  have hld := fun (o : Obj) => load_sub (hT.mut ((Mut.refl 0 [] w).alloc o) (by simp)) (hp.mut ((Mut.refl 0 [] w).alloc o) (by simp) (by simp) (by simp)) hx hg hl
  have hok0 : v0.Ok := hg.ok.vals v0 (List.mem_of_getElem? hv0)
  have hfew := few512 hg.ok hl
  obtain ⟨i, hi⟩ : ∃ i, i = below x.keys key := ⟨_, rfl⟩
  rw [← hi] at hkey hv0
  have hil := (List.getElem?_eq_some_iff.1 hkey).1
  have hvl : x.vals.length = x.keys.length := (hg.ok.lf hb.leaf).1
  have hlf := hb.leaf
  have hpl := fun (W : World) (q : Nat) (h : NodeAt (w.heap.size + 1) W q x) => place_any _ W q x key h hb.rises (by omega)
  rw [← hi, hk] at hpl
  have hldH := Lib.hid hld
  have hplH := Lib.hid hpl
  have H := Lib.hid (And.intro hT (And.intro hp (And.intro hx (And.intro hg (And.intro hb (And.intro hd (And.intro hva (And.intro hv hset))))))))
  have H2 := Lib.hid (And.intro hTl (And.intro hkey (And.intro hv0 (And.intro hvo0 (And.intro hvl (And.intro hlf (And.intro hi hk)))))))
  have hl0 := Lib.hid hl
  clear hld hpl hT hp hx hg hb hd hva hv hset hTl hkey hv0 hvo0 hvl hlf hi hk hl
  have hone : ∀ u ∈ ([.slice da dn dc, .bool db, .int .i64 ds, .int .i64 df] : List Value), u.oneCell' = true := H.out.2.2.2.2.2.2.1.one
  go_enter Tryz.func44, Tryz.ntmps44
  have hivl : i < x.vals.length := by rw [H2.out.2.2.2.2.1]; exact hil
  go_wp2_with (first
    | (go_at_call 53; refine (hldH.out _).mono ?_; rintro e w1 ⟨q, rfl, n1, b1⟩; have hT1 := (H.out.1.mut ((Mut.refl 0 [] w).alloc (.cells #[.slice da dn dc, .bool db, .int .i64 ds, .int .i64 df] 86)) (by simp)).below b1; have hp1 := (H.out.2.1.mut ((Mut.refl 0 [] w).alloc (.cells #[.slice da dn dc, .bool db, .int .i64 ds, .int .i64 df] 86)) (by simp) (by simp) (by simp)).below b1; have hpb := heap_below (heap_new w (.cells #[.slice da dn dc, .bool db, .int .i64 ds, .int .i64 df] 86)) b1 (by simp); simp only [World.size_alloc] at n1; have e0 := n1.leaf0; rw [H2.out.2.2.2.2.2.1] at e0; obtain ⟨g, c, c0, c1, c2, c3, cur, hq2, hnc, hcm, hgg, hBg, hvat, k0, k1, k2, k3⟩ := n1.val H2.out.2.2.1; have hb1 := b1.size; simp only [World.size_alloc] at hb1; have hcmH := Lib.hid hcm; clear hcm; have n1H := Lib.hid n1; have hpbH := Lib.hid hpb; have hvatH := Lib.hid hvat; clear n1 hpb hvat)
    | (go_at_call 85; refine (hplH.out w1 q n1H.out).mono ?_; rintro e w' ⟨rfl, rfl⟩)
    | (go_at_call 86; refine (clear_any B w1 T p root cnt dead r ls ps v0 [c0, c1, c2, c3] b0 V0 hT1 hp1 H2.out.2.2.2.1 hok0 (by have := H.out.2.2.2.2.2.1; rw [H2.out.1] at this; simp only [List.cons_append, List.nodup_cons, List.nodup_append] at this; exact this.2.1.1.2.1) hvatH.out).mono ?_; rintro e w2 ⟨rfl, ps1, hp2, st2, rm2, m2⟩; have hq22 := mut_cell m2 (NodeAt.rows n1H.out).choose_spec.choose_spec.choose_spec.choose_spec.1 (by decide) hq2; have hg2 := m2.keepc hgg (by decide); have hpb2 := m2.keepc hpbH.out (by decide); have n2H := Lib.hid (n1H.out.mut m2 (by decide) (by decide) (by decide) (by decide) (by decide)); have j0 := (cell_of hg2 (i * 4)).trans ((cell_of hgg (i * 4)).symm.trans k0); have j1 := (cell_of hg2 (i * 4 + 1)).trans ((cell_of hgg (i * 4 + 1)).symm.trans k1); have j2 := (cell_of hg2 (i * 4 + 2)).trans ((cell_of hgg (i * 4 + 2)).symm.trans k2); have j3 := (cell_of hg2 (i * 4 + 3)).trans ((cell_of hgg (i * 4 + 3)).symm.trans k3); have f0 := unfrozen_of hg2 (i * 4); have f1 := unfrozen_of hg2 (i * 4 + 1); have f2 := unfrozen_of hg2 (i * 4 + 2); have f3 := unfrozen_of hg2 (i * 4 + 3); have p0 : w2.cell? ⟨w.heap.size, 0, none⟩ = some (.slice da dn dc) := (by rw [cell_of hpb2]; rfl); have p1 : w2.cell? ⟨w.heap.size, 1, none⟩ = some (.bool db) := (by rw [cell_of hpb2]; rfl); have p2 : w2.cell? ⟨w.heap.size, 2, none⟩ = some (.int .i64 ds) := (by rw [cell_of hpb2]; rfl); have p3 : w2.cell? ⟨w.heap.size, 3, none⟩ = some (.int .i64 df) := (by rw [cell_of hpb2]; rfl); have hpbH2 := Lib.hid hpb2; clear k0 k1 k2 k3 hgg hq2 hpb2 hg2))
  obtain ⟨n4, m4⟩ := n2H.out.setVal hivl hq22 ((H.out.2.2.2.2.2.2.1.mut ((Mut.refl 0 [] w).alloc (.cells #[.slice da dn dc, .bool db, .int .i64 ds, .int .i64 df] 86)) (by simp)).mut (.of_below b1 0 []) (by simp) |>.mut m2 (by decide))
  have s0 : (set4w w2 g (i * 4) (.slice da dn dc) (.bool db) (.int .i64 ds) (.int .i64 df)).drew.cell? ⟨q, 2, none⟩ = some (.slice (some ⟨g, 0, none⟩) x.vals.length c) := mut_cell m4.drew (NodeAt.rows n2H.out).choose_spec.choose_spec.choose_spec.choose_spec.1 (by decide) hq22
  have hpb4 := m4.keepB hpbH2.out (Nat.lt_succ_self _)
  have t0 : (set4w w2 g (i * 4) (.slice da dn dc) (.bool db) (.int .i64 ds) (.int .i64 df)).drew.cell? ⟨w.heap.size, 0, none⟩ = some (.slice da dn dc) := (cell_of hpb4 _).trans rfl
  have t1 : (set4w w2 g (i * 4) (.slice da dn dc) (.bool db) (.int .i64 ds) (.int .i64 df)).drew.cell? ⟨w.heap.size, 1, none⟩ = some (.bool db) := (cell_of hpb4 _).trans rfl
  have t2 : (set4w w2 g (i * 4) (.slice da dn dc) (.bool db) (.int .i64 ds) (.int .i64 df)).drew.cell? ⟨w.heap.size, 2, none⟩ = some (.int .i64 ds) := (cell_of hpb4 _).trans rfl
  have t3 : (set4w w2 g (i * 4) (.slice da dn dc) (.bool db) (.int .i64 ds) (.int .i64 df)).drew.cell? ⟨w.heap.size, 3, none⟩ = some (.int .i64 df) := (cell_of hpb4 _).trans rfl
  unfold set4w at s0 t0 t1 t2 t3
  have hS := Lib.hid (And.intro s0 (And.intro t0 (And.intro t1 (And.intro t2 t3))))
  have n4H := Lib.hid (And.intro n4 m4)
  clear s0 t0 t1 t2 t3 n4 m4 hpb4
  have hS0 : w2.drew.cell? ⟨q, 2, none⟩ = some (.slice (some ⟨g, 0, none⟩) x.vals.length c) ∧ w2.drew.cell? ⟨w.heap.size, 0, none⟩ = some (.slice da dn dc) ∧ w2.drew.cell? ⟨w.heap.size, 1, none⟩ = some (.bool db) ∧ w2.drew.cell? ⟨w.heap.size, 2, none⟩ = some (.int .i64 ds) ∧ w2.drew.cell? ⟨w.heap.size, 3, none⟩ = some (.int .i64 df) := ⟨hq22, p0, p1, p2, p3⟩
  have hS0H := Lib.hid hS0; clear hS0
  have mixed : Tryz.prog.follows .mixedOrders = true := by kernel_rfl
  go_region_held3 (fun W => W.cell? ⟨q, 2, none⟩ = some (.slice (some ⟨g, 0, none⟩) x.vals.length c) ∧ W.cell? ⟨w.heap.size, 0, none⟩ = some (.slice da dn dc) ∧ W.cell? ⟨w.heap.size, 1, none⟩ = some (.bool db) ∧ W.cell? ⟨w.heap.size, 2, none⟩ = some (.int .i64 ds) ∧ W.cell? ⟨w.heap.size, 3, none⟩ = some (.int .i64 df)) (first | (with_reducible exact hS0H.out) | (with_reducible exact hS.out)) (fail)
  have hT4 := ((hT1.mut m2 (by decide)).mut n4H.out.2 (by decide)).drew
  have hp4 := (hp2.mut n4H.out.2 (by decide) (by decide) (by decide)).drew
  have n5 := n4H.out.1.drew
  have m5 := n4H.out.2.drew
  unfold set4w at hT4 hp4 n5 m5
  generalize ((((w2.setCell ⟨g, i * 4, none⟩ (.slice da dn dc)).setCell ⟨g, i * 4 + 1, none⟩ (.bool db)).setCell ⟨g, i * 4 + 2, none⟩ (.int .i64 ds)).setCell ⟨g, i * 4 + 3, none⟩ (.int .i64 df)).drew = w5 at *
  have hS5 := Lib.hid (And.intro hT4 (And.intro hp4 (And.intro n5 m5)))
  clear hT4 hp4 n5 m5 j0 j1 j2 j3 f0 f1 f2 f3 p0 p1 p2 p3 hq22 n4H hS hS0H
  have hfin : ∃ C' Tl', Stp ps (n :: Tl ++ V) ps1 (n :: Tl') ∧ C' = insKV C key b ∧ Body ps1 0 (x.setVal i vl) lo hi C' Tl' ∧ hasP ps1 n = true ∧ (n :: Tl').Nodup := by
    obtain ⟨hT, hp, hx, hg, hb, hd, hva, hv, hset⟩ := H.out
    obtain ⟨hTl, hkey, hv0, hvo0, hvl, hlf, hi', hk⟩ := H2.out
    have hall : ∀ m ∈ n :: (T1 ++ V0 ++ T2) ++ V, hasP ps m = true := fun m hm => by
      rw [← hTl] at hm
      rcases List.mem_append.1 hm with hm | hm
      · rcases List.mem_cons.1 hm with rfl | hm
        · exact hx.has
        · exact hb.pages m hm
      · exact hv.pages m hm
    rw [hTl] at hd ⊢
    obtain ⟨k1, k2⟩ := leaf_old_step hd hall st2
    refine ⟨_, _, k1, rfl, ?_, (k1.tak n).2 (.inr (by simp)), k1.nd⟩
    rw [hi']
    exact hset ps1 b vl V (fun m hm => k2 m (by simp only [List.mem_append] at hm ⊢; exact .inl hm)) (hv.move fun m hm => k2 m (by simp [hm]))
  obtain ⟨C', Tl', st3, hC', hbd, hn1, hnd⟩ := hfin
  have hgd := Nd.setVal_good H.out.2.2.2.1 H2.out.2.2.2.2.2.1 hl0.out H2.out.2.1 hvo hin
  have hset3 := settles_any B _ w5 T p n q 0 root cnt dead r ls ps1 _ lo hi C' Tl' hS5.out.1 hS5.out.2.1 hS5.out.2.2.1 hgd.1 hbd hn1 hnd (by rw [if_pos (show (x.setVal i vl).leaf = true from H2.out.2.2.2.2.2.1)]; exact hgd.2) (by omega) (by have := m2.size; have := hS5.out.2.2.2.size; omega)
  have hset3H := Lib.hid hset3
  have st3H := Lib.hid (And.intro st3 hC')
  clear hset3 hbd hn1 hnd st3 hC' hgd
  go_wp2_with (go_at_call 90; refine hset3H.out.mono ?_; rintro e w6 ⟨v6, rfl, g6, m6⟩)
  go_ret
  obtain ⟨ps', o, h1, h2, h3, h4, h5⟩ := g6
  rw [st3H.out.2] at h2
  have hw2 : Mut B [133, 147] w w2 := ((Mut.refl B [133, 147] w).alloc _).trans ((Mut.of_below b1 B [133, 147]).trans m2)
  have hw5 : Mut B [133, 147] w w5 := hw2.local_ (L' := [86]) (hS5.out.2.2.2.mono (by omega) (by simp))
  refine ⟨v6, rfl, ⟨ps', o, ?_, h2.before st3H.out.1, h3, h4, by omega⟩, hw5.trans m6⟩
  have hsz : w.heap.size ≤ w5.heap.size := hw5.size
  cases o with
  | none => exact h1
  | some km => obtain ⟨rq, a1, a2, a3⟩ := h1; exact ⟨rq, a1, by omega, a3⟩
end Go.Proofs.YtpfjhehjmhkbpaaGreatDoor
