/- Put into a tree that has keys; Put, whatever the tree. read: a value's bytes. find and Get, whatever the tree. Delete out of a tree of one leaf that has two keys or more. -/
import Derived.Test.YtpfjhehjmhkbpaaGreatDoorM20
import Derived.Test.YtpfjhehjmhkbpaaGreatDoorM12
import Derived.Test.YtpfjhehjmhkbpaaGreatDoorM11
import Derived.Laws.MakeOwn
import Derived.Test.YtpfjhehjmhkbpaaGreatDoorM17
namespace Go.Proofs.YtpfjhehjmhkbpaaGreatDoor
open Go.RowKit

/-- Behind put at the first page, where it stands alone. -/
theorem more_one [Mode] {ps0 ps4 ps5 ps9 : List Pg} {S V S' : List Nat} {n g : Nat} {C : KV} {v9 : Value} {c : Nat} (h0 : ∀ m, hasP ps0 m = true ↔ m = 0 ∨ m ∈ S) (hz : 0 ∉ S) (st4 : Stp ps0 [] ps4 V) (hs : Sub ps5 g n none none C S') (st5 : Stp ps4 (S ++ V) ps5 S')
    (h9 : ps9 = ps5.set 0 ⟨true, v9, enc (n + 1) ++ enc c⟩) :
    S'.Nodup ∧ 0 ∉ S' ∧ (∀ m, hasP ps9 m = true ↔ (m = 0 ∧ ps9 ≠ []) ∨ m ∈ S') ∧ PgIs ps9 0 (enc (n + 1) ++ enc c) ∧ Sub ps9 g n none none C S' ∧ room ps9 = room ps5 ∧ hasP ps5 0 = true := by
  have h00 : hasP ps0 0 = true := (h0 0).2 (.inl rfl)
  have h04 : hasP ps4 0 = true := (st4.tak 0).2 (.inl ⟨h00, by simp⟩)
  have hzV : 0 ∉ V := fun h => by
    rcases st4.new 0 h with h' | h'
    · simp at h'
    · rw [h00] at h'; cases h'
  have hzSV : 0 ∉ S ++ V := fun h => by rcases List.mem_append.1 h with h | h; exact hz h; exact hzV h
  have hz' : 0 ∉ S' := fun h => by
    rcases st5.new 0 h with h' | h'
    · exact hzSV h'
    · rw [h04] at h'; cases h'
  have h05 : hasP ps5 0 = true := (st5.tak 0).2 (.inl ⟨h04, hzSV⟩)
  have hlt := (hasP_some h05).choose_spec.2.2
  refine ⟨st5.nd, hz', fun m => ?_, ?_, ?_, ?_, h05⟩
  · rw [h9, hasP_set hlt]
    have hne9 : ps5.set 0 ⟨true, v9, enc (n + 1) ++ enc c⟩ ≠ [] := fun h => by
      have := congrArg List.length h
      rw [List.length_set, List.length_nil] at this; omega
    by_cases e : m = 0
    · subst e; simp [hne9]
    · rw [if_neg e, st5.tak, st4.tak, h0]
      simp only [List.not_mem_nil, not_false_eq_true, and_true, List.mem_append, not_or]
      constructor
      · rintro (⟨(h | h) | h, h1, h2⟩ | h)
        · exact absurd h e
        · exact absurd h h1
        · exact absurd h h2
        · exact .inr h
      · rintro (⟨h, _⟩ | h)
        · exact absurd h e
        · exact .inr h
  · rw [h9]; exact pgIs_set_self hlt
  · rw [h9]
    refine hs.move g fun m hm l hl => pgIs_set_other hl ?_
    rintro rfl; exact hz' hm
  · rw [h9, room_set_taken h05]

/-- Behind put at the first page, where a new one has come to its right and a first node above both. -/
theorem more_two [Mode] {ps0 ps4 ps5 ps9 : List Pg} {S V S1 S2 : List Nat} {n g m2 : Nat} {k : ByteArray} {C1 C2 : KV} {v8 v9 : Value} {c : Nat} (h0 : ∀ m, hasP ps0 m = true ↔ m = 0 ∨ m ∈ S) (hz : 0 ∉ S) (st4 : Stp ps0 [] ps4 V)
    (h1 : Sub ps5 g n none (some k) C1 S1) (h2 : Sub ps5 g m2 (some k) none C2 S2) (st5 : Stp ps4 (S ++ V) ps5 (S1 ++ S2)) (hk : k.size ≤ 200) (hkt : Mode.short = true → k.size ≤ 4) (hn : n < 16384) (hm2 : m2 < 16384) (hf : ps5.length ≤ 16384) (hr : 1 ≤ room ps5)
    (h9 : ps9 = ((newPs ps5).set (newIdx ps5) ⟨true, v8, (rootNd k n m2).bytes⟩).set 0 ⟨true, v9, enc (newIdx ps5 + 1) ++ enc c⟩) :
    (newIdx ps5 :: (S1 ++ S2)).Nodup ∧ 0 ∉ newIdx ps5 :: (S1 ++ S2) ∧ (∀ m, hasP ps9 m = true ↔ (m = 0 ∧ ps9 ≠ []) ∨ m ∈ newIdx ps5 :: (S1 ++ S2)) ∧ PgIs ps9 0 (enc (newIdx ps5 + 1) ++ enc c) ∧ Sub ps9 (g + 1) (newIdx ps5) none none (C1 ++ C2) (newIdx ps5 :: (S1 ++ S2)) ∧ room ps5 = room ps9 + 1 ∧
      hasP ((newPs ps5).set (newIdx ps5) ⟨true, v8, (rootNd k n m2).bytes⟩) 0 = true := by
  have h00 : hasP ps0 0 = true := (h0 0).2 (.inl rfl)
  have h04 : hasP ps4 0 = true := (st4.tak 0).2 (.inl ⟨h00, by simp⟩)
  have hzV : 0 ∉ V := fun h => by
    rcases st4.new 0 h with h' | h'
    · simp at h'
    · rw [h00] at h'; cases h'
  have hzSV : 0 ∉ S ++ V := fun h => by rcases List.mem_append.1 h with h | h; exact hz h; exact hzV h
  have hz' : 0 ∉ S1 ++ S2 := fun h => by
    rcases st5.new 0 h with h' | h'
    · exact hzSV h'
    · rw [h04] at h'; cases h'
  have h05 : hasP ps5 0 = true := (st5.tak 0).2 (.inl ⟨h04, hzSV⟩)
  have hS : ∀ m ∈ S1 ++ S2, hasP ps5 m = true := fun m hm => (st5.tak m).2 (.inr hm)
  have p1 := Stp.new_ hS st5.nd
  have hS1 : ∀ m ∈ newIdx ps5 :: (S1 ++ S2), hasP (newPs ps5) m = true := fun m hm => (p1.tak m).2 (.inr hm)
  have p2 := Stp.put (v := v8) (l := (rootNd k n m2).bytes) hS1 p1.nd (n := newIdx ps5) (by simp)
  have hne : newIdx ps5 ≠ 0 := fun e => by have := newIdx_hasnot ps5; rw [e, h05] at this; cases this
  have hz2 : 0 ∉ newIdx ps5 :: (S1 ++ S2) := fun h => by rcases List.mem_cons.1 h with h | h; exact hne h.symm; exact hz' h
  have h06 : hasP (newPs ps5) 0 = true := by rw [newPs_has, h05]; rfl
  have h02 : hasP ((newPs ps5).set (newIdx ps5) ⟨true, v8, (rootNd k n m2).bytes⟩) 0 = true := (p2.tak 0).2 (.inl ⟨h06, hz2⟩)
  have hlt := (hasP_some h02).choose_spec.2.2
  have hl1 : newIdx ps5 < (newPs ps5).length := (hasP_some (hS1 _ (by simp))).choose_spec.2.2
  obtain ⟨q1, q2⟩ := rootNd_good hk hkt hn hm2
  have hmv : ∀ m ∈ S1 ++ S2, ∀ l, PgIs ps5 m l → PgIs ps9 m l := fun m hm l hl => by
    rw [h9]
    refine pgIs_set_other (pgIs_set_other (newPs_keep hl) ?_) ?_
    · rintro rfl; exact (List.nodup_cons.1 p1.nd).1 hm
    · rintro rfl; exact hz' hm
  refine ⟨p1.nd, hz2, fun m => ?_, ?_, ?_, ?_, h02⟩
  · rw [h9, hasP_set hlt]
    have hne9 : ((newPs ps5).set (newIdx ps5) ⟨true, v8, (rootNd k n m2).bytes⟩).set 0 ⟨true, v9, enc (newIdx ps5 + 1) ++ enc c⟩ ≠ [] := fun h => by
      have := congrArg List.length h
      rw [List.length_set, List.length_nil] at this; omega
    by_cases e : m = 0
    · subst e; simp [hne9]
    · rw [if_neg e, p2.tak, p1.tak, st5.tak, st4.tak, h0]
      simp only [List.not_mem_nil, not_false_eq_true, and_true]
      constructor
      · rintro (⟨⟨⟨(h | h) | h, hh⟩ | h, _⟩ | h, h'⟩ | h)
        · exact absurd h e
        · exact absurd (List.mem_append.2 (.inl h)) hh
        · exact absurd (List.mem_append.2 (.inr h)) hh
        · exact .inr (List.mem_cons_of_mem _ h)
        · exact absurd h h'
        · exact .inr h
      · rintro (⟨h, _⟩ | h)
        · exact absurd h e
        · exact .inr h
  · rw [h9]; exact pgIs_set_self hlt
  · refine ⟨rootNd k n m2, S1 ++ S2, rfl, ?_, q2, q1, rfl, ?_⟩
    · rw [h9]; exact pgIs_set_other (pgIs_set_self hl1) hne
    · exact ⟨n, [m2], C1, C2, S1, S2, rfl, rfl, rfl, sltO_none k, ltO_none k, h1.move g fun m hm => hmv m (by simp [hm]), m2, rfl, h2.move g fun m hm => hmv m (by simp [hm])⟩
  · rw [h9, room_set_taken h02, room_set_taken (hS1 _ (by simp))]
    have := (newPs_room hf hr).1
    omega

set_option maxRecDepth 4000 in
set_option maxHeartbeats 1000000 in
theorem tput_more [Mode] (B : Nat) (w : World) (T p n g : Nat) (r : PS) (ls ps : List Pg) (S : List Nat) (C : KV) (key : ByteArray) (v : Value) (l : List UInt8) (t : TreeAt B w T p r ls ps (n + 1) (g + 1) S C) (hsub : Sub ps g n none none C S) (hv : Byt w v l) (hk1 : 1 ≤ key.size) (hk2 : key.size ≤ 200) (hn : l.length ≤ 65536)
    (hf : manyOf key.size l.length + (g + 1) + 2 ≤ room ps) (hB : B ≤ w.heap.size) (hC : C.length ≤ 100000000) (hC2 : (insKV C key l).length ≤ 100000001) (hsh : Mode.short = true → key.size ≤ 4 ∧ l.length ≤ 60) :
    Calls Tryz.prog 13 #[.pointer (some ⟨T, 0, none⟩), .string key, v] w fun e w' => e = .returned (.int .i64 0) ∧ (∃ ps' R' h' S', TreeAt B w' T p r ls ps' R' h' S' (insKV C key l) ∧ room ps ≤ room ps' + (manyOf key.size l.length + (g + 1) + 2)) ∧ Mut B [133, 147, 80] w w' := by
  have hvH := Lib.hid hv
  obtain ⟨A, c, rfl, g1, g2, g3, g4⟩ := hv
  have hT : TAt w T p (n : Int) (C.length : Int) false := by have := t.at_; rw [show (((n + 1 : Nat) : Int) - 1) = (n : Int) by omega] at this; exact this
  have h1 := may_any w T p _ _ hT
  have h2 := isKey_yes key w hk1 hk2
  have h3 := left_any B w T p r ls ps hT.c0 t.pgr
  have h4 := Lib.hid (fun W => many_any key A l.length c W (by omega) (by omega))
  have h5 := Lib.hid (fun k => tdeep (t.mut (Mut.drewN (Mut.refl 0 [] w) k) (by simp) (by simp) (by simp) (by simp)))
  have h6 := Lib.hid (fun (W : World) (hb : Below w.heap.size w W) => gcount (t.pgr.below hb))
  have hro : room ps ≤ 40000 := by unfold room; have := nfree_le ps; have := t.pgr.few; omega
  have hfew := t.pgr.few
  have hgd : g + 1 ≤ 16384 := t.deep_le
  have hm : manyOf key.size l.length ≤ 1000 := by unfold manyOf; split <;> omega
  have hnS : n ∈ S := by obtain ⟨T', e⟩ := hsub.head; rw [e]; simp
  have hn16 : n < 16384 := by have := t.root_le; omega
  have hps : ps ≠ [] := fun h => by
    have := (t.tak n).2 (.inr hnS)
    rw [h] at this; cases this
  obtain ⟨M, hM⟩ : ∃ M, M = manyOf key.size l.length := ⟨_, rfl⟩
  obtain ⟨Rm, hRm⟩ : ∃ Rm, Rm = room ps := ⟨_, rfl⟩
  obtain ⟨nl, hnl⟩ : ∃ nl, nl = l.length := ⟨_, rfl⟩
  obtain ⟨N, hN⟩ : ∃ N, N = ps.length := ⟨_, rfl⟩
  obtain ⟨D, hD⟩ : ∃ D, D = g + 1 := ⟨_, rfl⟩
  have hl0 : ((N : Int) == 0) = false := beq_eq_false_iff_ne.2 (by have := List.length_pos_iff.2 hps; omega)
  rw [← hnl] at hM hn g1
  rw [← hnl] at h4 hf hm ⊢
  rw [← hM] at h4 hf hm ⊢
  rw [← hRm] at h3 hf hro ⊢
  rw [← hD] at h5 hf hgd ⊢
  have h6 : Hid (∀ (W : World), Below w.heap.size w W → Calls Tryz.prog 38 #[.pointer (some ⟨p, 0, none⟩)] W fun e w' => e = .returned (.tuple #[.int .i64 (N : Int), .int .i64 (nfree ps)]) ∧ ∃ k, w' = W.drewN k) := by rw [hN]; exact h6.out
  have hroom := Lib.hid (And.intro hM (And.intro hRm (And.intro hnl (And.intro hN hD))))
  have tH := Lib.hid (And.intro t (And.intro hT (And.intro hsub (And.intro hps (And.intro hnS (And.intro hC hC2))))))
  have hn0 : ¬ ((n : Int) < 0) := by omega
  clear t hT g4 g2 hM hRm hnl hN hps hsub hnS hD hC hC2
  go_enter Tryz.func13, Tryz.ntmps13
  go_wp2_with (first
    | (go_at_call 33; refine h1.mono ?_; rintro e w' ⟨rfl, rfl⟩)
    | (go_at_call 34; refine h2.mono ?_; rintro e w' ⟨rfl, rfl⟩)
    | (go_at_call 35; refine h3.mono ?_; rintro e w' ⟨rfl, kd, rfl⟩)
    | (go_at_call 36; refine (h4.out _).mono ?_; rintro e w' ⟨rfl, rfl⟩)
    | (go_at_call 37; refine (h5.out kd).mono ?_; rintro e w2 ⟨rfl, b2⟩; have b2' := bel_undrewN b2; have e02 := (tH.out.2.1.below b2').c0)
    | (go_at_call 38; refine (h6.out w2 b2').mono ?_; rintro e w' ⟨rfl, k3, rfl⟩; have hmd : Mut B [133, 147] w (w2.drewN k3) := (Mut.of_below b2' _ _).drewN k3))
  have hpd : Pgr B (w2.drewN k3) p r ls ps := (tH.out.1.pgr).mut (Mut.of_below b2' 0 [] |>.drewN k3) (by simp) (by simp) (by simp)
  clear e02 b2' b2
  obtain ⟨w3, hw3⟩ : ∃ W, W = w2.drewN k3 := ⟨_, rfl⟩
  rw [← hw3] at hmd hpd ⊢
  have hm3 := hmd
  have hp3 := hpd
  clear hw3 hmd hpd h1 h2 h3
  have hT3 : TAt w3 T p (n : Int) (C.length : Int) false := tH.out.2.1.mut hm3 (by decide)
  have hv3 : Byt w3 (.slice A nl c) l := by
    have := hvH.out
    rw [← hroom.out.2.2.1] at this
    exact this.mut hm3 (by decide)
  have hwr := write_any B w3 T p (n : Int) (C.length : Int) false r ls ps key (.slice A nl c) l hT3 hp3 hv3 hk2 (by rw [← hroom.out.2.2.1]; exact hn) (by rw [← hroom.out.2.2.1, ← hroom.out.1]; have := hroom.out.2.1; omega) (by have := hm3.size; omega) hsh
  rw [← hroom.out.2.2.1, ← hroom.out.1] at hwr
  clear hp3 hv3
  go_wp2_with (go_at_call 40; refine hwr.mono ?_; rintro e w4 ⟨vl, cs, V, ps4, rfl, hva, hvo, hin, hvof, hp4, st4, rm4, m4⟩; obtain ⟨da, dn, dc, db, ds, df, rfl⟩ := hva.shape; have hT4 := hT3.mut m4 (by decide); have e41 := (hT4.mut ((Mut.refl 0 [] w4).alloc (.cells #[.slice da dn dc, .bool db, .int .i64 ds, .int .i64 df] 86)) (by simp)).c1; have e40 := (hT4.mut ((Mut.refl 0 [] w4).alloc (.cells #[.slice da dn dc, .bool db, .int .i64 ds, .int .i64 df] 86)) (by simp)).c0)
  have hpb := heap_new w4 (.cells #[.slice da dn dc, .bool db, .int .i64 ds, .int .i64 df] 86)
  have hp5 : Pgr B (w4.alloc (.cells #[.slice da dn dc, .bool db, .int .i64 ds, .int .i64 df] 86)) p r ls ps4 := hp4.mut ((Mut.refl 0 [] w4).alloc _) (by simp) (by simp) (by simp)
  have hva5 : VlAt (w4.alloc (.cells #[.slice da dn dc, .bool db, .int .i64 ds, .int .i64 df] 86)) [.slice da dn dc, .bool db, .int .i64 ds, .int .i64 df] vl := hva.mut ((Mut.refl 0 [] w4).alloc _) (by simp)
  have hT5 : TAt (w4.alloc (.cells #[.slice da dn dc, .bool db, .int .i64 ds, .int .i64 df] 86)) T p (n : Int) (C.length : Int) false := hT4.mut ((Mut.refl 0 [] w4).alloc _) (by simp)
  have hm5 : Mut B [133, 147] w (w4.alloc (.cells #[.slice da dn dc, .bool db, .int .i64 ds, .int .i64 df] 86)) := (hm3.trans m4).alloc _
  generalize w4.alloc (.cells #[.slice da dn dc, .bool db, .int .i64 ds, .int .i64 df] 86) = w5 at *
  generalize w4.heap.size = pb at *
  have hS1 : w5.drew.cell? ⟨T, 1, none⟩ = some (.int .i64 (n : Int)) ∧ w5.drew.cell? ⟨pb, 0, none⟩ = some (.slice da dn dc) ∧ w5.drew.cell? ⟨pb, 1, none⟩ = some (.bool db) ∧ w5.drew.cell? ⟨pb, 2, none⟩ = some (.int .i64 ds) ∧ w5.drew.cell? ⟨pb, 3, none⟩ = some (.int .i64 df) :=
    ⟨hT5.c1, (cell_of hpb 0).trans rfl, (cell_of hpb 1).trans rfl, (cell_of hpb 2).trans rfl, (cell_of hpb 3).trans rfl⟩
  have hS1H := Lib.hid hS1
  have hput := put_any g B w5.drew T p n (n : Int) (C.length : Int) false r ls ps4 none none C S key l vl [.slice da dn dc, .bool db, .int .i64 ds, .int .i64 df] V hT5.drew hp5.drew
    (tH.out.2.2.1.move g fun m hm l hl => st4.keep m l hl (by simp))
    (List.nodup_append.2 ⟨tH.out.1.nd, st4.nd, fun a ha b hb e => by
      subst e
      rcases st4.new a hb with h | h
      · simp at h
      · rw [(tH.out.1.tak a).2 (.inr ha)] at h; cases h⟩) hk2 hin hvo (leO_none key) (ltO_none key) (hva5.mut (Mut.drew (Mut.refl 0 [] w5)) (by simp)) hvof (by have := hroom.out.2.1; have := hroom.out.2.2.2.2; omega) (by have := hm5.size; simp; omega) tH.out.1.base (by omega) (by have := tH.out.2.2.2.2.2.1; omega)
  rw [show ((C.length : Int) + ((insKV C key l).length - C.length : Int)) = ((insKV C key l).length : Int) by omega] at hput
  have hputH := Lib.hid hput
  have hF := Lib.hid (And.intro st4 (And.intro rm4 hm5))
  have hpbH := Lib.hid hpb
  have mixed : Tryz.prog.follows .mixedOrders = true := by kernel_rfl
  clear hvo hin hvof st4 hp4 hp5 hva5 hpb hT5 hT4 hm5 hm3 m4 hva hT3 hwr hput hS1 rm4 e40
  go_wp2_with fail
  go_region_held3 (fun W => W.cell? ⟨T, 1, none⟩ = some (.int .i64 (n : Int)) ∧ W.cell? ⟨pb, 0, none⟩ = some (.slice da dn dc) ∧ W.cell? ⟨pb, 1, none⟩ = some (.bool db) ∧ W.cell? ⟨pb, 2, none⟩ = some (.int .i64 ds) ∧ W.cell? ⟨pb, 3, none⟩ = some (.int .i64 df)) (first | (with_reducible exact hS1H.out) | (with_reducible exact hS4)) (first
    | (go_at_call 44; refine hputH.out.mono ?_; rintro e w6 ⟨v6, rfl, g6, m6⟩; have hpb6 : w6.heap[pb]? = _ := m6.keepc hpbH.out (by decide); have hS4 : w6.cell? ⟨T, 1, none⟩ = some (.int .i64 (n : Int)) ∧ w6.cell? ⟨pb, 0, none⟩ = some (.slice da dn dc) ∧ w6.cell? ⟨pb, 1, none⟩ = some (.bool db) ∧ w6.cell? ⟨pb, 2, none⟩ = some (.int .i64 ds) ∧ w6.cell? ⟨pb, 3, none⟩ = some (.int .i64 df) := ⟨g6.choose_spec.choose_spec.2.2.2.1.c1, (cell_of hpb6 0).trans rfl, (cell_of hpb6 1).trans rfl, (cell_of hpb6 2).trans rfl, (cell_of hpb6 3).trans rfl⟩))
  clear hS4 hpb6 e41
  obtain ⟨ps5, o, hri, hgrow, hp6, hT6, hroom5⟩ := g6
  have hw6 : Mut B [133, 147, 80] w w6 := (hF.out.2.2.mono (Nat.le_refl _) (by simp)).trans ⟨m6.os, m6.tape, m6.output, m6.size, m6.block⟩
  have h0S : ∀ m, hasP ps m = true ↔ m = 0 ∨ m ∈ S := fun m => by rw [tH.out.1.tak]; simp [tH.out.2.2.2.1]
  cases o with
  | none =>
    obtain rfl : v6 = .pointer none := hri
    cases hgrow with
    | one hs5 st5 =>
      have hpure := fun (v9 : Value) => more_one (c := (insKV C key l).length) h0S tH.out.1.zero hF.out.1 hs5 st5 (v9 := v9) rfl
      have hT6' : TAt w6 T p (((n + 1 : Nat) : Int) - 1) ((insKV C key l).length : Int) false := by rw [show (((n + 1 : Nat) : Int) - 1) = (n : Int) by omega]; exact hT6
      have hws := writes_any B w6 T p (n + 1) (insKV C key l).length false r ls ps5 hT6' hp6 (hpure .nilFunc).2.2.2.2.2.2 (by omega) (by have := tH.out.2.2.2.2.2.2; omega)
      have hG := Lib.hid (And.intro hpure (And.intro hT6' (And.intro hw6 hroom5)))
      clear hpure hT6' hw6 hroom5 hT6 hp6 hs5 st5 h0S
      go_wp2_with (go_at_call 43; refine hws.mono ?_; rintro e w10 ⟨rfl, v9, hp10, m10⟩)
      go_ret
      obtain ⟨hpure, hT6', hw6, hroom5⟩ := hG.out
      obtain ⟨q1, q2, q3, q4, q5, q6, _⟩ := hpure v9
      refine ⟨rfl, ⟨_, n + 1, g + 1, _, ⟨tH.out.1.base, hT6'.mut m10 (by decide), hp10, q1, q2, q3, .inr q4, .inr ⟨n, g, rfl, rfl, q5⟩⟩, ?_⟩, hw6.trans (m10.mono (Nat.le_refl _) (by simp))⟩
      have := hF.out.2.1; have := hroom.out.2.1; have := hroom.out.2.2.2.2; omega
  | some km =>
    obtain ⟨k, m2⟩ := km
    obtain ⟨rq, rfl, hrB, hrq⟩ := hri
    cases hgrow with
    | two hCC hlo hhi hks hkt hm2 hs1 hs2 st5 =>
      rename_i C1 C2 S1 S2
      have hr5 : 1 ≤ room ps5 := by have := hF.out.2.1; have := hroom.out.2.1; have := hroom.out.2.2.2.2; omega
      have hgr := grows_any B w6 T p n m2 rq k _ false r ls ps5 hT6 hp6 hrq hks hkt hn16 hm2 hr5 (by have := hw6.size; omega) tH.out.1.base
      have hpure := fun (v8 v9 : Value) => more_two (c := (insKV C key l).length) h0S tH.out.1.zero hF.out.1 hs1 hs2 st5 hks hkt hn16 hm2 hp6.few hr5 (v8 := v8) (v9 := v9) rfl
      have hni := (newPs_room hp6.few hr5).2.2.1
      have hG := Lib.hid (And.intro hpure (And.intro hw6 (And.intro hroom5 (And.intro hCC hni))))
      clear hpure hw6 hroom5 hT6 hp6 hs1 hs2 st5 h0S hrq hks hkt hm2 hlo hhi hCC hr5 hrB hni
      go_wp2_with (go_at_call 45; refine hgr.mono ?_; rintro e w8 ⟨rfl, v8, hT8, hp8, m8⟩)
      have hT8' : TAt w8 T p (((newIdx ps5 + 1 : Nat) : Int) - 1) ((insKV C key l).length : Int) false := by rw [show (((newIdx ps5 + 1 : Nat) : Int) - 1) = (newIdx ps5 : Int) by omega]; exact hT8
      have hws := writes_any B w8 T p (newIdx ps5 + 1) (insKV C key l).length false r ls _ hT8' hp8 (hG.out.1 v8 .nilFunc).2.2.2.2.2.2 (by have := hG.out.2.2.2.2; omega) (by have := tH.out.2.2.2.2.2.2; omega)
      have hT8H := Lib.hid hT8'
      clear hT8 hT8' hp8
      go_wp2_with (go_at_call 43; refine hws.mono ?_; rintro e w10 ⟨rfl, v9, hp10, m10⟩)
      go_ret
      obtain ⟨hpure, hw6, hroom5, hCC, _⟩ := hG.out
      obtain ⟨q1, q2, q3, q4, q5, q6, _⟩ := hpure v8 v9
      refine ⟨rfl, ⟨_, newIdx ps5 + 1, g + 1 + 1, _, ⟨tH.out.1.base, hT8H.out.mut m10 (by decide), hp10, q1, q2, q3, .inr q4, .inr ⟨newIdx ps5, g + 1, rfl, rfl, by have q5' := q5; rw [← hCC] at q5'; exact q5'⟩⟩, ?_⟩, (hw6.trans m8).trans (m10.mono (Nat.le_refl _) (by simp))⟩
      have := hF.out.2.1; have := hroom.out.2.1; have := hroom.out.2.2.2.2; omega

/-- A key. -/
def isKeyB (k : ByteArray) : Prop := 1 ≤ k.size ∧ k.size ≤ 200

/-- Put: it gives the key its value, or nothing has changed. -/
theorem tput [Mode] (B : Nat) (w : World) (T p : Nat) (r : PS) (ls ps : List Pg) (R h : Nat) (S : List Nat) (C : KV) (key : ByteArray) (v : Value) (l : List UInt8) (t : TreeAt B w T p r ls ps R h S C) (hv : Byt w v l) (hn : l.length ≤ 65536) (hB : B ≤ w.heap.size) (hC : C.length ≤ 100000000) (hC2 : (insKV C key l).length ≤ 100000001) (hsh : Mode.short = true → key.size ≤ 4 ∧ l.length ≤ 60) :
    Calls Tryz.prog 13 #[.pointer (some ⟨T, 0, none⟩), .string key, v] w fun e w' => Mut B [133, 147, 80] w w' ∧ ∃ (code : Int) (C' : KV), e = .returned (.int .i64 code) ∧ (∃ ps' R' h' S', TreeAt B w' T p r ls ps' R' h' S' C' ∧ room ps ≤ room ps' + (manyOf key.size l.length + h + 2)) ∧
      ((code ≠ 0 ∧ C' = C) ∨ (code = 0 ∧ isKeyB key ∧ C' = insKV C key l)) ∧ (isKeyB key → manyOf key.size l.length + h + 2 ≤ room ps → code = 0) := by
  by_cases hk : isKeyB key
  · by_cases hf : manyOf key.size l.length + h + 2 ≤ room ps
    · rcases t.tree with ⟨rfl, h1, _⟩ | ⟨n, g, rfl, rfl, hs⟩
      · refine (tput_first B w T p r ls ps h S C key v l t hv hk.1 hk.2 hn hf hB hsh).mono ?_
        rintro e w' ⟨rfl, h2, h3⟩
        obtain ⟨ps', R', S', h2, h2'⟩ := h2
        exact ⟨h3, 0, _, rfl, ⟨ps', R', 1, S', h2, h2'⟩, .inr ⟨rfl, hk, rfl⟩, fun _ _ => rfl⟩
      · refine (tput_more B w T p n g r ls ps S C key v l t hs hv hk.1 hk.2 hn hf hB hC hC2 hsh).mono ?_
        rintro e w' ⟨rfl, h2, h3⟩
        exact ⟨h3, 0, _, rfl, h2, .inr ⟨rfl, hk, rfl⟩, fun _ _ => rfl⟩
    · obtain ⟨A, c, rfl, -⟩ := hv
      refine (tput_full B w T p r ls ps R h S C key A l.length c t hk.1 hk.2 hn (by omega)).mono ?_
      rintro e w' ⟨rfl, hb⟩
      have hm : Mut B [] w w' := .of_below hb _ _
      exact ⟨hm.mono (Nat.le_refl _) (by simp), 6, C, rfl, ⟨ps, R, h, S, t.mut hm (by simp) (by simp) (by simp) (by simp), by omega⟩, .inl ⟨by decide, rfl⟩, fun _ h => absurd h hf⟩
  · refine (tput_name w T p _ _ key v t.at_ (by unfold isKeyB at hk; omega)).mono ?_
    rintro e w' ⟨rfl, rfl⟩
    exact ⟨Mut.refl _ _ _, 9, C, rfl, ⟨ps, R, h, S, t, by omega⟩, .inl ⟨by decide, rfl⟩, fun h => absurd h hk⟩
end Go.Proofs.YtpfjhehjmhkbpaaGreatDoor

namespace Go.Proofs.YtpfjhehjmhkbpaaGreatDoor
open Go.RowKit

set_option maxRecDepth 4000 in
set_option maxHeartbeats 400000 in
theorem read_inl (w : World) (T : Nat) (v : Value) (l : List UInt8) (hv : Byt w v l) (hl : l.length ≤ 65536) : Calls Tryz.prog 48 #[.pointer (some ⟨T, 0, none⟩), .agg #[v, .bool false, .int .i64 0, .int .i64 0]] w fun e w' => ∃ v', e = .returned v' ∧ w'.ownsRow w.heap.size 5 1 v' l.length (l.map u8) ∧ Below w.heap.size w w' := by
  have hcl := fun o => clone_any v l (w.alloc o) (hv.below ((Below.refl _ _).alloc (Nat.le_refl _) _)) (by omega)
  obtain ⟨A, c, rfl, g1, g2, g3, g4⟩ := hv
  have hclH := Lib.hid hcl
  clear hcl g4
  go_enter Tryz.func48, Tryz.ntmps48
  go_wp2_with (go_at_call 80; refine (hclH.out _).mono ?_; rintro e w2 ⟨v', rfl, o2, b2⟩)
  go_ret
  exact ⟨v', rfl, own_base o2 (by simp), bel_then ((Below.refl _ _).alloc (Nat.le_refl _) _) (by simp) b2⟩

def slen : Value → Nat
  | .slice _ n _ => n
  | _ => 0

theorem mk_bytes (s : Nat) (hs : s ≤ 65536) : ∃ zs : Array Value, zs.size = s ∧ ∀ W, (Instr.makeSlice 32 (.int .i64 0) (.int .i64 (s : Int))).run Tryz.prog W = .ok (.slice (some ⟨W.heap.size, 0, none⟩) 0 s) (W.alloc (.cells zs 5)) := by
  obtain ⟨i, hi, hz, h1, h2⟩ := info_parts info5
  refine ⟨madeCells (Value.int .u8 0).cells (s * i.size), ?_, fun W => ?_⟩
  · rw [h1, Nat.mul_one, size_madeCells]
  · have := run_makeSlice (P := Tryz.prog) (w := W) 32 5 i (.int .u8 0) Tryz.underlying32 hi hz .i64 .i64 0 s (Int.le_refl _) (by omega) (by rw [h1]; simp; omega) (by rw [h2]; omega) (by omega)
    simpa using this

set_option maxRecDepth 4000 in
set_option maxHeartbeats 800000 in
theorem read_far (B : Nat) (w : World) (T p s f : Nat) (root cnt : Int) (dead : Bool) (r : PS) (ls ps : List Pg) (b : List UInt8) (V : List Nat)
    (hT : TAt w T p root cnt dead) (hp : Pgr B w p r ls ps) (hv : VlOf ps (.far s f) b V) (hs : s ≤ 65536) :
    Calls Tryz.prog 48 #[.pointer (some ⟨T, 0, none⟩), .agg #[.slice none 0 0, .bool true, .int .i64 (s : Int), .int .i64 (f : Int)]] w fun e w' => ∃ v', e = .returned v' ∧ w'.ownsRow w.heap.size 5 1 v' b.length (b.map u8) ∧ Below w.heap.size w w' := by
  obtain ⟨hs1, hv1⟩ := hv.tail hp.few
  obtain ⟨zs, hzs, hmk⟩ := mk_bytes s hs
  have H := Lib.hid (And.intro hT (And.intro hp (And.intro hv1 (And.intro hs1 hzs))))
  clear hT hp hv hv1 hs1 hzs
  go_enter Tryz.func48, Tryz.ntmps48
  go_wp2_with fail
  have hb1 : Below w.heap.size w ((w.alloc (.cells #[.slice none 0 0, .bool true, .int .i64 (s : Int), .int .i64 (f : Int)] 86)).alloc (.cells zs 5)) := bel_alloc (bel_alloc (Below.refl _ _) _) _
  have hbox := heap_old (heap_new w (.cells #[.slice none 0 0, .bool true, .int .i64 (s : Int), .int .i64 (f : Int)] 86)) (.cells zs 5)
  have ho0 : ((w.alloc (.cells #[.slice none 0 0, .bool true, .int .i64 (s : Int), .int .i64 (f : Int)] 86)).alloc (.cells zs 5)).ownsRow w.heap.size 5 1 (.slice (some ⟨w.heap.size + 1, 0, none⟩) 0 s) 0 ([] : List Value) := by
    refine ⟨rfl, .inr ⟨w.heap.size + 1, s, zs, rfl, by omega, ?_, Nat.zero_le _, by simp only [maxLen]; omega, by rw [H.out.2.2.2.2, Nat.mul_one], by simp⟩⟩
    have := heap_new (w.alloc (.cells #[.slice none 0 0, .bool true, .int .i64 (s : Int), .int .i64 (f : Int)] 86)) (.cells zs 5)
    simp only [World.size_alloc] at this
    exact this
  generalize (w.alloc (.cells #[.slice none 0 0, .bool true, .int .i64 (s : Int), .int .i64 (f : Int)] 86)).alloc (.cells zs 5) = w1 at *
  have hboxH := Lib.hid (And.intro hbox hb1)
  have ho0H := Lib.hid ho0
  clear hbox hb1 ho0 hmk
  go_loopw [5, 6] (fun out page wr => ∃ (A : Option Addr) (n c : Nat) (g : Int) (l' rest : List UInt8) (V' : List Nat), out = .slice A n c ∧ page = .int .i64 g ∧ n ≤ s ∧ Hid (n = l'.length ∧ wr.ownsRow w.heap.size 5 1 (.slice A n c) n (l'.map YtpfjhehjmhkbpaaGreatDoor.u8) ∧ b = l' ++ rest ∧ Tail_ ps g rest V' ∧ Mut w.heap.size [5] w1 wr)) (fun out _ _ => s - slen out)
  case atStart => exact ⟨_, _, _, _, [], b, V, rfl, rfl, Nat.zero_le _, rfl, ho0H.out, rfl, H.out.2.2.1, .refl _ _ _⟩
  case round =>
    obtain ⟨A, n, c, g, l', rest, V', rfl, rfl, hns, hI⟩ := hrel
    obtain ⟨i1, i2, i3, i4, i5⟩ := hI.out
    have hbw : Below w.heap.size w wr := hboxH.out.2.trans (i5.below hboxH.out.2.size)
    have hbox := i5.keepc hboxH.out.1 (by decide)
    have x2 : wr.cell? ⟨w.heap.size, 2, none⟩ = some (.int .i64 (s : Int)) := by rw [cell_of hbox]; rfl
    have hbl : s = n + rest.length := by rw [H.out.2.2.2.1, i3, List.length_append, i1]
    by_cases h0 : n < s
    · obtain ⟨g1, nx, ch, b2, S2, e1, e2, e3, e4, e5, e6, e7, e8⟩ := i4.open (by omega)
      subst e1
      obtain ⟨pg, k1, k2, k3⟩ := e4
      have hM : nx < M64 := by unfold M64; omega
      have hten := enc_le10 hM
      have hcl : ch.length ≤ s := by rw [hbl, e6, List.length_append]; omega
      have hget := gget (H.out.2.1.below hbw) k1 k2 (by rw [k3, List.length_append]; omega)
      rw [k3] at hget
      have hw : IntKind.i64.wrap (nx : Int) = (nx : Int) := by rw [IntKind.wrap_i64]; omega
      have hpos : 0 < (enc nx).length := List.length_pos_iff.2 (enc_ne _)
      have htk := Lib.hid (fun (A : Option Addr) (cp : Nat) (W : World) (h : Rd 5 YtpfjhehjmhkbpaaGreatDoor.u8 W A (enc nx ++ ch)) => takeNum_any A cp nx _ ch W rfl h hM (by rw [List.length_append]; omega))
      have et := (H.out.1.below hbw).c0
      obtain ⟨L, hL⟩ : ∃ L, L = (enc nx ++ ch).length := ⟨_, rfl⟩
      obtain ⟨N, hN⟩ : ∃ N, N = (enc nx).length := ⟨_, rfl⟩
      have hLN : L = N + ch.length := by rw [hL, hN, List.length_append]
      rw [← hL] at hget htk
      rw [← hN] at htk hpos hten
      have hLNH := Lib.hid hLN
      have hNL : N < L := by omega
      have hL1 : L ≤ 70000 := by omega
      have hnch : n + ch.length ≤ s := by rw [hbl, e6, List.length_append]; omega
      have h6H := Lib.hid (And.intro e6 (And.intro e7 (And.intro e8 (And.intro e5 (And.intro hL hN)))))
      have hbwH := Lib.hid hbw
      clear hL hN hLN e6 e7 e8 e5 k1 k2 k3 hM i1 i2 i3 i4 i5 hbl hbox hbw
      go_wp2_with (first
        | (go_at_call 76; refine hget.mono ?_; rintro e w2 ⟨v1, rfl, o1, b1⟩; have hrd := (Rd.of_own o1); obtain ⟨A1, cp, hv, hcp1, hcp2, -, -, hrd⟩ := hrd; subst hv; obtain ⟨gq, cur, rfl, hgq, -, -, -⟩ := own_row o1 (by omega); have hc1 : ¬ cp = N := (by omega); have x22 := bel_cell b1 x2; have hcpH := Lib.hid hcp2; clear o1 hcp2)
        | (go_at_call 77; refine (htk.out _ cp _ hrd).mono ?_; rintro e w' ⟨rfl, rfl⟩)
        | (at_builtin; refine wpList_app rfl (.tmp 47) (.tmp 50) 32 rfl w.heap.size 5 _ 1 1 Tryz.underlying32 info5 rfl (by decide) _ _ _ rfl (own_below hI.out.2.1 b1) _ _ _ (ch.map YtpfjhehjmhkbpaaGreatDoor.u8) rfl ?_ ?_ ?_ (one_u8 _) ?_ ?_ ?_ ?_))
      · rw [List.length_map]; have := hLNH.out; omega
      · have h1 := hrd.drop (k := N) (c := cp) (by have := hLNH.out; have h2 := h6H.out.2.2.2.2.2; rw [List.length_append, ← h2]; omega) (by have := h6H.out.2.2.2.2.1; rw [← this]; exact hcp1)
        rw [if_neg hc1, h6H.out.2.2.2.2.2, List.drop_left' rfl] at h1
        have h2 := h1.at_
        rw [← h6H.out.2.2.2.2.2] at h2
        simpa [Addr.add_lit] using h2
      · intro h; cases h
      · unfold maxLen; have := hLNH.out; omega
      · have := hLNH.out; omega
      · have := hbwH.out.size; have := b1.size; omega
      · intro v3 w3 o3 m3
        obtain ⟨A3, c3, rfl, -, -, -⟩ := own_slice o3
        go_wp2
        go_roundw
        case rel =>
          obtain ⟨f6, f7, f8, f5, fL, fN⟩ := h6H.out
          obtain ⟨i1, i2, i3, i4, i5⟩ := hI.out
          have hLN := hLNH.out
          subst f6 f7
          refine ⟨A3, n + (L - N), c3, (nx : Int) - 1, l' ++ ch, b2, S2, rfl, rfl, by omega, by rw [List.length_append]; omega, ?_, by rw [i3]; simp, f8, (i5.trans (.of_below b1 _ _)).trans m3⟩
          rw [List.map_append]; exact o3
        case measure => have := hLNH.out; have := h6H.out.2.2.2.1; simp [slen]; omega
    · obtain rfl : n = s := by omega
      clear x2
      have hrest : rest = [] := List.eq_nil_of_length_eq_zero (by omega)
      subst hrest
      have hfin : wr.ownsRow w.heap.size 5 1 (.slice A n c) b.length (b.map YtpfjhehjmhkbpaaGreatDoor.u8) := by
        rw [List.append_nil] at i3
        rw [i3, ← i1]; exact i2
      have hfinH := Lib.hid (And.intro hfin hbw)
      have x2 : wr.cell? ⟨w.heap.size, 2, none⟩ = some (.int .i64 (n : Int)) := by rw [cell_of hbox]; rfl
      clear hfin i1 i2 i3 i4 i5 hbl hbox hbw
      go_wp2
      go_ret
      exact ⟨_, rfl, hfinH.out.1, hfinH.out.2⟩

theorem read_any (B : Nat) (w : World) (T p : Nat) (root cnt : Int) (dead : Bool) (r : PS) (ls ps : List Pg) (v : Vl) (cs : List Value) (b : List UInt8) (V : List Nat)
    (hT : TAt w T p root cnt dead) (hp : Pgr B w p r ls ps) (hv : VlOf ps v b V) (hok : v.Ok) (hat : VlAt w cs v) :
    Calls Tryz.prog 48 #[.pointer (some ⟨T, 0, none⟩), .agg cs.toArray] w fun e w' => ∃ v', e = .returned v' ∧ w'.ownsRow w.heap.size 5 1 v' b.length (b.map u8) ∧ Below w.heap.size w w' := by
  cases v with
  | inl l =>
    obtain ⟨u, rfl, hu⟩ := hat
    obtain ⟨rfl, _⟩ := hv
    exact read_inl w T u b hu hok
  | far s f =>
    cases hat
    exact read_far B w T p s f root cnt dead r ls ps b V hT hp hv hok.1
end Go.Proofs.YtpfjhehjmhkbpaaGreatDoor

namespace Go.Proofs.YtpfjhehjmhkbpaaGreatDoor
open Go.RowKit

set_option maxRecDepth 4000 in
set_option maxHeartbeats 400000 in
theorem find_none (w : World) (T p : Nat) (cnt : Int) (dead : Bool) (key : ByteArray) (hT : TAt w T p (-1) cnt dead) :
    Calls Tryz.prog 51 #[.pointer (some ⟨T, 0, none⟩), .string key] w fun e w' => e = .returned (.tuple #[.agg #[.slice none 0 0, .bool false, .int .i64 0, .int .i64 0], .bool false]) ∧ Below w.heap.size w w' := by
  have e1 := (hT.mut ((Mut.refl 0 [] w).alloc (.cells #[.slice none 0 0, .bool false, .int .i64 0, .int .i64 0] 86)) (by simp)).c1
  have hN := heap_new w (.cells #[.slice none 0 0, .bool false, .int .i64 0, .int .i64 0] 86)
  have k0 := unfrozen_of hN 0
  have k1 := unfrozen_of hN 1
  have k2 := unfrozen_of hN 2
  have k3 := unfrozen_of hN 3
  have hb : Below w.heap.size w (w.alloc (.cells #[.slice none 0 0, .bool false, .int .i64 0, .int .i64 0] 86)) := bel_alloc (Below.refl _ _) _
  have d0 : (w.alloc (.cells #[.slice none 0 0, .bool false, .int .i64 0, .int .i64 0] 86)).cell? ⟨w.heap.size, 0, none⟩ = some (.slice none 0 0) := by rw [cell_of hN]; rfl
  have d1 : (w.alloc (.cells #[.slice none 0 0, .bool false, .int .i64 0, .int .i64 0] 86)).cell? ⟨w.heap.size, 1, none⟩ = some (.bool false) := by rw [cell_of hN]; rfl
  have d2 : (w.alloc (.cells #[.slice none 0 0, .bool false, .int .i64 0, .int .i64 0] 86)).cell? ⟨w.heap.size, 2, none⟩ = some (.int .i64 0) := by rw [cell_of hN]; rfl
  have d3 : (w.alloc (.cells #[.slice none 0 0, .bool false, .int .i64 0, .int .i64 0] 86)).cell? ⟨w.heap.size, 3, none⟩ = some (.int .i64 0) := by rw [cell_of hN]; rfl
  have H := Lib.hid (And.intro hN hb)
  clear hN hb hT
  go_enter Tryz.func51, Tryz.ntmps51
  go_wp2_with fail
  exact bodyPost_ret (v := .tuple #[.agg #[.slice none 0 0, .bool false, .int .i64 0, .int .i64 0], .bool false]) (by simp [results, Tryz.results51, go_sem, d0, d1, d2, d3]) rfl ⟨rfl, H.out.2⟩

/-- find, whatever the tree. -/
theorem tfind [Mode] (B : Nat) (w : World) (T p : Nat) (r : PS) (ls ps : List Pg) (R h : Nat) (S : List Nat) (C : KV) (key : ByteArray) (t : TreeAt B w T p r ls ps R h S C) :
    Calls Tryz.prog 51 #[.pointer (some ⟨T, 0, none⟩), .string key] w fun e w' => (∃ (cs : List Value) (o : Option (Vl × List UInt8)), e = .returned (.tuple #[.agg cs.toArray, .bool o.isSome]) ∧ o.map (·.2) = getKV C key ∧ (∃ A n c bb s f, cs = [.slice A n c, .bool bb, .int .i64 s, .int .i64 f]) ∧ ∀ v b, o = some (v, b) → VlAt w' cs v ∧ v.Ok ∧ ∃ V, VlOf ps v b V) ∧ Below w.heap.size w w' := by
  rcases t.tree with ⟨rfl, rfl, rfl, rfl⟩ | ⟨n, g, rfl, rfl, hs⟩
  · refine (find_none w T p _ _ key (by have := t.at_; simpa using this)).mono ?_
    rintro e w' ⟨rfl, hb⟩
    exact ⟨⟨[.slice none 0 0, .bool false, .int .i64 0, .int .i64 0], none, rfl, rfl, ⟨_, _, _, _, _, _, rfl⟩, (fun v b h => by cases h)⟩, hb⟩
  · obtain ⟨z, Tz, _, g1, g2, g3, g4⟩ := hs.body
    obtain ⟨o, w1, w2⟩ := Body.way (key := key) g g4 (by simp [leO]) (by simp [ltO])
    have hT : TAt w T p (n : Int) (C.length : Int) false := by have := t.at_; rw [show (((n + 1 : Nat) : Int) - 1) = (n : Int) by omega] at this; exact this
    refine (find_way B w T p n g _ _ r ls ps z key o hT t.pgr g1 g2 g3 w1).mono ?_
    rintro e w' ⟨⟨cs, rfl, h1, h2⟩, hb⟩
    exact ⟨⟨cs, o, rfl, w2, h1, h2⟩, hb⟩

/-- What Get answers. -/
def Got (w : World) (B : Nat) (v : Value) (code : Int) : Option (List UInt8) → Prop
  | none => v = .slice none 0 0 ∧ code = 7
  | some b => code = 0 ∧ w.ownsRow B 5 1 v b.length (b.map u8)

theorem get_read [Mode] {B : Nat} {w w1 : World} {T p : Nat} {r : PS} {ls ps : List Pg} {R h : Nat} {S : List Nat} {C : KV} {key : ByteArray} {o : Option (Vl × List UInt8)} {cs : List Value} (t : TreeAt B w T p r ls ps R h S C) (hb : Below w.heap.size w w1) (ho : o.map (·.2) = getKV C key)
    (hv : ∀ v b, o = some (v, b) → VlAt w1 cs v ∧ v.Ok ∧ ∃ V, VlOf ps v b V) (hn : o.isNone = false) (ob : Obj) :
    Calls Tryz.prog 48 #[.pointer (some ⟨T, 0, none⟩), .agg cs.toArray] (w1.alloc ob) fun e w' => ∃ v, e = .returned v ∧ Got w' w.heap.size v 0 (getKV C key) ∧ Below w.heap.size w w' := by
  cases o with
  | none => cases hn
  | some q =>
    obtain ⟨v, b⟩ := q
    obtain ⟨h1, h2, V, h3⟩ := hv v b rfl
    have t1 := (t.mut (.of_below hb 0 []) (by simp) (by simp) (by simp) (by simp)).mut ((Mut.refl 0 [] w1).alloc ob) (by simp) (by simp) (by simp) (by simp)
    refine (read_any B (w1.alloc ob) T p _ _ _ r ls ps v cs b V t1.at_ t1.pgr h3 h2 (h1.mut ((Mut.refl 0 [] w1).alloc ob) (by simp))).mono ?_
    rintro e w' ⟨v', rfl, k1, k2⟩
    refine ⟨v', rfl, ?_, bel_then (hb.alloc hb.size ob) (by simp; have := hb.size; omega) k2⟩
    rw [← ho]
    exact ⟨rfl, own_base k1 (by simp; have := hb.size; omega)⟩

set_option maxRecDepth 4000 in
set_option maxHeartbeats 400000 in
theorem tget [Mode] (B : Nat) (w : World) (T p : Nat) (r : PS) (ls ps : List Pg) (R h : Nat) (S : List Nat) (C : KV) (key : ByteArray) (t : TreeAt B w T p r ls ps R h S C) (hk1 : 1 ≤ key.size) (hk2 : key.size ≤ 200) :
    Calls Tryz.prog 22 #[.pointer (some ⟨T, 0, none⟩), .string key] w fun e w' => (∃ v code, e = .returned (.tuple #[v, .int .i64 code]) ∧ Got w' w.heap.size v code (getKV C key)) ∧ Below w.heap.size w w' := by
  have h1 := Lib.hid (fun k => isKey_yes key (w.drewN k) hk1 hk2)
  have h2 := Lib.hid (fun k => tfind B (w.drewN k) T p r ls ps R h S C key (t.mut (Mut.drewN (Mut.refl 0 [] w) k) (by simp) (by simp) (by simp) (by simp)))
  have tH := Lib.hid t
  clear t
  go_enter Tryz.func22, Tryz.ntmps22
  have mixed : Tryz.prog.follows .mixedOrders = true := by kernel_rfl
  go_wp2_with (first
    | (go_at_call 34; refine (h1.out 0).mono ?_; rintro e w1 ⟨rfl, rfl⟩)
    | (go_at_call 51; refine (h2.out 0).mono ?_; rintro e w1 ⟨⟨cs, o, rfl, ho, ⟨A, n, c, bb, sz, f, rfl⟩, hv⟩, b1⟩)
    | (go_at_call 48; refine (get_read tH.out b1 ho hv (by assumption) _).mono ?_; rintro e w2 ⟨v, rfl, hg, b2⟩))
  · refine bodyPost_ret (v := .tuple #[.slice none 0 0, .int .i64 7]) (by simp [results, Tryz.results22, go_sem]) rfl ⟨⟨_, 7, rfl, ?_⟩, Below.alloc b1 b1.size _⟩
    rename_i hnn
    cases o with
    | none => rw [← ho]; exact ⟨rfl, rfl⟩
    | some q => cases hnn
  · exact bodyPost_ret (v := .tuple #[v, .int .i64 0]) (by simp [results, Tryz.results22, go_sem]) rfl ⟨⟨_, 0, rfl, hg⟩, b2⟩
end Go.Proofs.YtpfjhehjmhkbpaaGreatDoor

namespace Go.Proofs.YtpfjhehjmhkbpaaGreatDoor
open Go.RowKit

theorem getKV_mem {C : KV} {key : ByteArray} {b : List UInt8} (h : getKV C key = some b) : ∃ q ∈ C, q.1 = key := by
  unfold getKV at h
  cases hf : C.find? (fun p => decide (p.1 = key)) with
  | none => rw [hf] at h; cases h
  | some q => exact ⟨q, List.mem_of_find?_eq_some hf, by have := List.find?_some hf; simpa using this⟩

theorem has_of_mem {l : List ByteArray} (h : Rises l) {key : ByteArray} (hm : key ∈ l) : hasKey l key = true := by
  obtain ⟨j, hj, hjk⟩ := List.getElem_of_mem hm
  obtain ⟨b1, b2⟩ := below_spec h key
  have h1 : ¬ j < below l key := fun h => by have := b1 j hj h; rw [hjk, blt_irrefl] at this; cases this
  have h2 : j = below l key := by
    by_cases h3 : below l key < j
    · have := h.get_lt h3 hj
      rw [hjk] at this
      have h4 := b2 (below l key) (by omega) (Nat.le_refl _)
      rw [this] at h4; cases h4
    · omega
  unfold hasKey
  rw [← h2, List.getElem?_eq_getElem hj, hjk]
  simp

set_option maxRecDepth 4000 in
set_option maxHeartbeats 1000000 in
theorem tdel_one [Mode] (B : Nat) (w : World) (T p n : Nat) (r : PS) (ls ps : List Pg) (S : List Nat) (C : KV) (key : ByteArray) (b : List UInt8) (t : TreeAt B w T p r ls ps (n + 1) 1 S C) (hsub : Sub ps 0 n none none C S) (hk1 : 1 ≤ key.size) (hk2 : key.size ≤ 200) (hgk : getKV C key = some b) (h2c : 2 ≤ C.length) (hB : B ≤ w.heap.size) (hC : C.length ≤ 100000000) (hsm : Mode.short = false) :
    Calls Tryz.prog 19 #[.pointer (some ⟨T, 0, none⟩), .string key] w fun e w' => e = .returned (.int .i64 0) ∧ (∃ ps' S', TreeAt B w' T p r ls ps' (n + 1) 1 S' (delKV C key)) ∧ Mut B [133, 147, 80] w w' := by
  have hT : TAt w T p (n : Int) (C.length : Int) false := by have := t.at_; rw [show (((n + 1 : Nat) : Int) - 1) = (n : Int) by omega] at this; exact this
  obtain ⟨x, Tl, hS, hx0, hl0, hg0, hb0⟩ := hsub
  have hkey : hasKey x.keys key = true := by
    obtain ⟨q, hq, hqe⟩ := getKV_mem hgk
    refine has_of_mem hb0.rises ?_
    rw [hb0.keys]; exact List.mem_map.2 ⟨q, hq, hqe⟩
  have hdl : (delKV C key).length + 1 = C.length := by obtain ⟨_, _, _, _, _, _, _, _, _, _, h⟩ := hb0.gone hkey hsm; exact h
  have h1 := may_any w T p _ _ hT
  have h2 := isKey_yes key w hk1 hk2
  have h3 := tfind B w T p r ls ps _ _ S C key t
  have hdel := Lib.hid (fun (W : World) (bW : Below w.heap.size w W) => delete_leaf B W T p n (n : Int) (C.length : Int) false r ls ps x none none C Tl key (hT.below bW) (t.pgr.below bW) hx0 hl0 hg0 hb0 (by rw [← hS]; exact t.nd) (by have := bW.size; omega) t.base (by omega) (by omega) hkey hsm)
  have hn16 : n < 16384 := by have := t.root_le; omega
  have hgkH := Lib.hid hgk
  have tH := Lib.hid (And.intro t (And.intro hS (And.intro hdl h2c)))
  have hn0 : (0 : Int) ≤ (n : Int) := by omega
  have e1 := Lib.hid (fun (W : World) (bW : Below w.heap.size w W) => (hT.below bW).c1)
  clear t hT hx0 hl0 hg0 hb0 hkey hS hdl h2c hgk
  go_enter Tryz.func19, Tryz.ntmps19
  go_wp2_with (first
    | (go_at_call 33; refine h1.mono ?_; rintro e w' ⟨rfl, rfl⟩)
    | (go_at_call 34; refine h2.mono ?_; rintro e w' ⟨rfl, rfl⟩)
    | (go_at_call 51; refine h3.mono ?_; rintro e w1 ⟨⟨cs, o, rfl, ho, ⟨A, n0, c, bb, sz, f, rfl⟩, hv⟩, b1⟩; obtain ⟨q, rfl⟩ : ∃ q, o = some q := (by cases o with | none => (rw [hgkH.out] at ho; cases ho) | some q => exact ⟨q, rfl⟩); have e01 := fun ob => e1.out (w1.alloc ob) (b1.alloc b1.size ob); clear hv ho)
    | (go_at_call 52; refine (hdel.out _ (Below.alloc b1 b1.size _)).mono ?_; rintro e w2 ⟨rfl, ⟨ps1, hgr, hp2, hT2, rm2⟩, m2⟩))
  have m2w : Mut B [133, 147, 80] w w2 := ((Mut.of_below (Below.alloc b1 b1.size _) _ _)).trans m2
  obtain ⟨t, hS, hdl, h2c⟩ := tH.out
  cases hgr with
  | one hs5 st5 =>
    rename_i S'
    have h0S : ∀ m, hasP ps m = true ↔ m = 0 ∨ m ∈ S := fun m => by
      have hne : ps ≠ [] := fun h => by
        have := (t.tak n).2 (.inr (by rw [hS]; simp))
        rw [h] at this; cases this
      rw [t.tak]; simp [hne]
    rw [← hS] at st5
    have hpure := fun (v9 : Value) => more_one (ps0 := ps) (ps4 := ps) (V := []) (n := n) (c := (delKV C key).length) h0S t.zero (Stp.refl (by simp) (by simp)) hs5 (by rw [List.append_nil]; exact st5) (v9 := v9) rfl
    have hT2' : TAt w2 T p (((n + 1 : Nat) : Int) - 1) ((delKV C key).length : Int) false := by
      rw [show (((n + 1 : Nat) : Int) - 1) = (n : Int) by omega, show ((delKV C key).length : Int) = (C.length : Int) + -1 by omega]; exact hT2
    obtain ⟨x5, T5, e5, g1, g2, g3, g4⟩ := hs5
    have hws := writes_any B w2 T p (n + 1) (delKV C key).length false r ls ps1 hT2' hp2 (hpure .nilFunc).2.2.2.2.2.2 (by omega) (by omega)
    have hld := load_sub hT2' hp2 g1 g3 g2
    have hxk : 0 < x5.keys.length := by
      have h4 : LeafIs ps1 x5 none none (delKV C key) T5 := g4
      rw [h4.keys, List.length_map]; omega
    obtain ⟨K5, hK5⟩ : ∃ K5, K5 = x5.keys.length := ⟨_, rfl⟩
    have e10 := hT2'.c1
    rw [show (((n + 1 : Nat) : Int) - 1) = (n : Int) by omega] at e10
    have hldH := Lib.hid hld
    have hwsH := Lib.hid (fun (W : World) (bW : Below w2.heap.size w2 W) => writes_any B W T p (n + 1) (delKV C key).length false r ls ps1 (hT2'.below bW) (hp2.below bW) (hpure .nilFunc).2.2.2.2.2.2 (by omega) (by omega))
    have hK5H := Lib.hid hK5
    have hk0 : 0 < K5 := by omega
    have hfin := Lib.hid (And.intro hpure (And.intro hT2' (And.intro hp2 (And.intro m2w t))))
    clear hpure hT2' hT2 hp2 m2w t hS hdl h2c hws hld hK5 hxk g1 g2 g3 g4 st5 h0S e01 b1 e5 m2 rm2 h1 h2 h3
    go_wp2_with fail
    refine wp_loop_rounds 1 ?_; rw [rounds_succ]
    go_wp2_with (first
      | (go_at_call 53; refine hldH.out.mono ?_; rintro e w3 ⟨q5, rfl, n5, b3⟩; obtain ⟨A5, c5, f1, f2, f3, -, -⟩ := n5.keysRd; rw [← hK5H.out] at f1 f2; clear n5)
      | (go_at_call 43; refine (hwsH.out _ b3).mono ?_; rintro e w4 ⟨rfl, v9, hp4, m4⟩))
    go_ret
    obtain ⟨hpure, hT2, hp2, m2w, t⟩ := hfin.out
    obtain ⟨q1, q2, q3, q4, q5, q6, _⟩ := hpure v9
    exact ⟨rfl, ⟨_, _, t.base, (hT2.below b3).mut m4 (by decide), hp4, q1, q2, q3, .inr q4, .inr ⟨n, 0, rfl, rfl, q5⟩⟩, (m2w.trans (.of_below b3 _ _)).trans (m4.mono (Nat.le_refl _) (by simp))⟩
end Go.Proofs.YtpfjhehjmhkbpaaGreatDoor
