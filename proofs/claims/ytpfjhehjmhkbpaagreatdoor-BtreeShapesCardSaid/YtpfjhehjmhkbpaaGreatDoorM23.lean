/- pairs: the pairs below a page, from a key on. pairs, at every height. A loop over a function: a law of our own, where a round may know what it is handed ('X pre x W'). At the wide fence; a round always goes on. Range's function: the pairs from a key on are read, then handed over. -/
import Derived.Test.YtpfjhehjmhkbpaaGreatDoorM21
import Derived.Test.YtpfjhehjmhkbpaaGreatDoorM12
import Derived.RangeFuncWrites
import Derived.Test.YtpfjhehjmhkbpaaGreatDoorM01
namespace Go.Proofs.YtpfjhehjmhkbpaaGreatDoor
open Go.RowKit

theorem infoPV : (Tryz.prog.info? 102).map (fun i => (i.zero, i.size, i.bytes)) = some (some (.agg #[.string ⟨#[]⟩, .slice none 0 0, .bool false, .int .i64 0, .int .i64 0]), 5, 64) := by kernel_rfl

/-- A pair: key, value, the value's bytes. -/
abbrev Pr := ByteArray × Vl × List UInt8
def kvs (prs : List Pr) : KV := prs.map fun p => (p.1, p.2.2)

/-- Pairs' cells behind one another. -/
def PrsAt (w : World) : List Value → List Pr → Prop
  | cs, [] => cs = []
  | cs, p :: prs => ∃ d cs', cs = .string p.1 :: (d ++ cs') ∧ VlAt w d p.2.1 ∧ PrsAt w cs' prs

theorem PrsAt.mut {B : Nat} {L : List Nat} {w w' : World} (hm : Mut B L w w') (h5 : 5 ∉ L) : ∀ {prs : List Pr} {cs : List Value}, PrsAt w cs prs → PrsAt w' cs prs
  | [], _, h => h
  | _ :: _, _, ⟨d, cs', h1, h2, h3⟩ => ⟨d, cs', h1, h2.mut hm h5, PrsAt.mut hm h5 h3⟩

theorem PrsAt.snoc {w : World} {p : Pr} {d : List Value} (hd : VlAt w d p.2.1) : ∀ {prs : List Pr} {cs : List Value}, PrsAt w cs prs → PrsAt w (cs ++ (.string p.1 :: d)) (prs ++ [p])
  | [], cs, h => by obtain rfl : cs = [] := h; exact ⟨d, [], by simp, hd, rfl⟩
  | _ :: prs, cs, ⟨d', cs', h1, h2, h3⟩ => by subst h1; exact ⟨d', _, by simp, h2, PrsAt.snoc hd h3⟩

/-- The list that pairs fills: where its slice lies, what it holds. -/
structure Acc (B : Nat) (w : World) (ps : List Pg) (P : Nat) (prs : List Pr) : Prop where
  base : B ≤ P
  lies : ∃ v cs, w.heap[P]? = some (.cells #[v] 97 (0, 0)) ∧ w.ownsRow B 102 5 v prs.length cs ∧ PrsAt w cs prs
  vals : ∀ p ∈ prs, p.2.1.Ok ∧ ∃ V, VlOf ps p.2.1 p.2.2 V

theorem Acc.mut {B B' P : Nat} {L : List Nat} {w w' : World} {ps : List Pg} {prs : List Pr} (h : Acc B w ps P prs) (hm : Mut B' L w w') (h5 : 5 ∉ L) (h97 : 97 ∉ L) (h102 : 102 ∉ L) : Acc B w' ps P prs := by
  obtain ⟨hb, ⟨v, cs, h1, h2, h3⟩, h4⟩ := h
  exact ⟨hb, ⟨v, cs, hm.keepc h1 h97, own_mut h2 hm h102, h3.mut hm h5⟩, h4⟩

theorem Acc.below {B P : Nat} {w w' : World} {ps : List Pg} {prs : List Pr} (h : Acc B w ps P prs) (hb : Below w.heap.size w w') : Acc B w' ps P prs := h.mut (.of_below hb 0 []) (by simp) (by simp) (by simp)

/-- The key's cell of a node. -/
theorem NodeAt.key {B q : Nat} {w : World} {x : Nd} (h : NodeAt B w q x) {i : Nat} {k : ByteArray} (hk : x.keys[i]? = some k) :
    ∃ g c cur, w.cell? ⟨q, 1, none⟩ = some (.slice (some ⟨g, 0, none⟩) x.keys.length c) ∧ x.keys.length ≤ c ∧ c ≤ maxLen ∧ w.heap[g]? = some (.cells cur 9 (0, 0)) ∧ w.cell? ⟨g, i, none⟩ = some (.string k) := by
  obtain ⟨kv, vv, iv, vc, h1, h2, h4, h6, h7⟩ := h.rows
  obtain ⟨A, c, rfl, g1, g2, g3⟩ := own_slice h2
  have hi := (List.getElem?_eq_some_iff.1 hk).1
  obtain ⟨g, cur, rfl, k1, k2, k3, k4⟩ := own_row h2 (by omega)
  exact ⟨g, c, cur, by rw [cell_of h1]; rfl, g1, g2, k1, k4 _ _ (by rw [List.getElem?_map, hk]; rfl)⟩

/-- From a key on. -/
def fromKV (C : KV) (k : ByteArray) : KV := C.filter fun p => !blt p.1 k

theorem fromKV_leaf {C : KV} {k : ByteArray} (hr : Rises (C.map (·.1))) : fromKV C k = C.drop (below (C.map (·.1)) k) := by
  obtain ⟨h1, h2⟩ := below_spec hr k
  have e : C = C.take (below (C.map (·.1)) k) ++ C.drop (below (C.map (·.1)) k) := (List.take_append_drop _ _).symm
  unfold fromKV
  conv => lhs; rw [e]
  rw [List.filter_append]
  have e1 : (C.take (below (C.map (·.1)) k)).filter (fun p => !blt p.1 k) = [] := List.filter_eq_nil_iff.2 fun p hp => by
    obtain ⟨j, hj, rfl⟩ := List.getElem_of_mem hp
    simp only [List.length_take] at hj
    rw [List.getElem_take]
    have := h1 j (by simp; omega) (by omega)
    simp only [List.getElem_map] at this
    simp [this]
  have e2 : (C.drop (below (C.map (·.1)) k)).filter (fun p => !blt p.1 k) = C.drop (below (C.map (·.1)) k) := List.filter_eq_self.2 fun p hp => by
    obtain ⟨j, hj, rfl⟩ := List.getElem_of_mem hp
    simp only [List.length_drop] at hj
    rw [List.getElem_drop]
    have := h2 (below (C.map (·.1)) k + j) (by simp; omega) (by omega)
    simp only [List.getElem_map] at this
    simp [this]
  rw [e1, e2]; rfl

/-- What pairs does at a page of that height. -/
def PairsSpec [Mode] (h : Nat) : Prop := ∀ (B B0 : Nat) (w : World) (T p n P : Nat) (root cnt : Int) (dead : Bool) (r : PS) (ls ps : List Pg) (lo hi : Option ByteArray) (C : KV) (S : List Nat) (key : ByteArray) (prs : List Pr),
    TAt w T p root cnt dead → Pgr B w p r ls ps → Sub ps h n lo hi C S → Acc B0 w ps P prs → B0 ≤ w.heap.size → prs.length + C.length ≤ 1000000000 →
    Calls Tryz.prog 47 #[.pointer (some ⟨T, 0, none⟩), .int .i64 (n : Int), .string key, .pointer (some ⟨P, 0, none⟩)] w fun e w' => e = .returned (.tuple #[]) ∧ ∃ prs', kvs prs' = fromKV C key ∧ Acc B0 w' ps P (prs ++ prs') ∧ Mut B0 [97, 102] w w'

theorem one_pair (k : ByteArray) (A : Option Addr) (n c : Nat) (bb : Bool) (s f : Int) : ∀ u ∈ [Value.string k, Value.slice A n c, .bool bb, .int .i64 s, .int .i64 f], u.oneCell' = true := by
  intro u hu
  simp only [List.mem_cons, List.not_mem_nil, or_false] at hu
  rcases hu with rfl | rfl | rfl | rfl | rfl <;> rfl

theorem pairs_step [Mode] {ps : List Pg} {x : Nd} {lo hi : Option ByteArray} {C : KV} {Tl : List Nat} {s j : Nat} {key1 : ByteArray} {v1 : Vl} {prs' : List Pr} (hb : LeafIs ps x lo hi C Tl) (hg : x.Good) (hsj : s ≤ j) (hk : x.keys[j]? = some key1) (hv : x.vals[j]? = some v1)
    (h : kvs prs' = (C.take j).drop s) : ∃ b V, VlOf ps v1 b V ∧ kvs (prs' ++ [(key1, v1, b)]) = (C.take (j + 1)).drop s ∧ v1.Ok := by
  obtain ⟨b, V, g1, g2, _⟩ := hb.vals.get hv
  refine ⟨b, V, g2, ?_, hg.ok.vals v1 (List.mem_of_getElem? hv)⟩
  have hC : C[j]? = some (key1, b) := by
    rw [hb.keys, List.getElem?_map] at hk
    rw [List.getElem?_map] at g1
    cases hc : C[j]? with
    | none => rw [hc] at hk; cases hk
    | some p =>
      rw [hc] at hk g1
      simp only [Option.map_some, Option.some.injEq] at hk g1
      rw [← hk, ← g1]
  have hjl := (List.getElem?_eq_some_iff.1 hC).1
  have e : kvs (prs' ++ [(key1, v1, b)]) = kvs prs' ++ [(key1, b)] := by simp [kvs]
  rw [e, h, List.take_add_one, hC, Option.toList_some, List.drop_append_of_le_length (by rw [List.length_take]; omega)]

theorem pairs_keep {B0 B P q gk g i : Nat} {wr : World} {x : Nd} {v kk v1 v2 c0 c1 c2 c3 : Value} {ck cg : Array Value} (hn : NodeAt B wr q x) (hP : wr.heap[P]? = some (.cells #[v] 97 (0, 0))) (hgk : wr.heap[gk]? = some (.cells ck 9 (0, 0))) (hg : wr.heap[g]? = some (.cells cg 86 (0, 0)))
    (h0 : wr.cell? ⟨P, 0, none⟩ = some v) (h1 : wr.cell? ⟨q, 1, none⟩ = some v1) (h2 : wr.cell? ⟨gk, i, none⟩ = some kk) (h3 : wr.cell? ⟨q, 2, none⟩ = some v2)
    (j0 : wr.cell? ⟨g, i * 4, none⟩ = some c0) (j1 : wr.cell? ⟨g, i * 4 + 1, none⟩ = some c1) (j2 : wr.cell? ⟨g, i * 4 + 2, none⟩ = some c2) (j3 : wr.cell? ⟨g, i * 4 + 3, none⟩ = some c3) {W : World} (m : Mut B0 [102] wr W) :
    W.cell? ⟨P, 0, none⟩ = some v ∧ W.cell? ⟨q, 1, none⟩ = some v1 ∧ W.cell? ⟨gk, i, none⟩ = some kk ∧ W.cell? ⟨q, 2, none⟩ = some v2 ∧ W.cell? ⟨g, i * 4, none⟩ = some c0 ∧ W.cell? ⟨g, i * 4 + 1, none⟩ = some c1 ∧ W.cell? ⟨g, i * 4 + 2, none⟩ = some c2 ∧ W.cell? ⟨g, i * 4 + 3, none⟩ = some c3 ∧ Mut B0 [102] wr W := by
  obtain ⟨kv, vv, iv, vc, hq, -⟩ := hn.rows
  exact ⟨mut_cell m hP (by decide) h0, mut_cell m hq (by decide) h1, mut_cell m hgk (by decide) h2, mut_cell m hq (by decide) h3, mut_cell m hg (by decide) j0, mut_cell m hg (by decide) j1, mut_cell m hg (by decide) j2, mut_cell m hg (by decide) j3, m⟩

set_option maxRecDepth 4000 in
set_option maxHeartbeats 4000000 in
theorem pairs_zero [Mode] : PairsSpec 0 := by
  intro B B0 w T p n P root cnt dead r ls ps lo hi C S key prs hT hp hs ha hB hlen
  obtain ⟨x, Tl, rfl, hx, hl, hg, hb⟩ := hs
  have hld := load_sub hT hp hx hg hl
  have hfew := few512 hg.ok hl
  obtain ⟨K, hK⟩ : ∃ K, K = x.keys.length := ⟨_, rfl⟩
  obtain ⟨s, hsd⟩ : ∃ s, s = below x.keys key := ⟨_, rfl⟩
  have hvl : x.vals.length = K := by rw [(hg.ok.lf hb.leaf).1, hK]
  have hCl : C.length = K := by rw [hK, hb.keys, List.length_map]
  have hsK : s ≤ K := by rw [hsd, hK]; exact below_le _ _
  have hpl := fun (W : World) (q : Nat) (h : NodeAt w.heap.size W q x) => place_any _ W q x key h hb.rises (by omega)
  rw [← hsd] at hpl
  have hldH := Lib.hid hld
  have hplH := Lib.hid hpl
  have H := Lib.hid (And.intro hx (And.intro hg (And.intro hb (And.intro hsd (And.intro hK (And.intro hvl (And.intro hCl ha)))))))
  clear hld hpl hx hg hsd hT hp ha
  go_enter Tryz.func47, Tryz.ntmps47
  have hlf := hb.leaf
  go_wp2_with (first
    | (go_at_call 53; refine hldH.out.mono ?_; rintro e w1 ⟨q, rfl, n1, b1⟩; have e0 := n1.leaf0; rw [hlf] at e0; have n1H := Lib.hid (And.intro n1 b1); clear n1 b1)
    | (go_at_call 85; refine (hplH.out w1 q n1H.out.1).mono ?_; rintro e w' ⟨rfl, rfl⟩))
  clear hb e0
  go_loopw [9] (fun ii wr => ∃ (j : Nat) (prs' : List Pr), ii = .int .i64 (j : Int) ∧ s ≤ j ∧ j ≤ K ∧ Hid (NodeAt w.heap.size wr q x ∧ Acc B0 wr ps P (prs ++ prs') ∧ kvs prs' = (C.take j).drop s ∧ Mut B0 [97, 102] w wr)) (fun ii _ => K - (intOf ii).toNat)
  case atStart => exact ⟨s, [], rfl, Nat.le_refl _, hsK, n1H.out.1, by have := H.out.2.2.2.2.2.2.2.below n1H.out.2; simpa using this, by simp [kvs], .of_below n1H.out.2 _ _⟩
  case round =>
    obtain ⟨j, prs', rfl, hsj, hjK, hI⟩ := hrel
    obtain ⟨i1, i2, i3, i4⟩ := hI.out
    by_cases hjl : j < K
    · obtain ⟨key1, hkey⟩ : ∃ k, x.keys[j]? = some k := ⟨_, List.getElem?_eq_getElem (by omega)⟩
      obtain ⟨v1, hv1⟩ : ∃ v, x.vals[j]? = some v := ⟨_, List.getElem?_eq_getElem (by omega)⟩
      obtain ⟨gk, ck, curk, hq1, hck1, hck2, hgk, hkc⟩ := i1.key hkey
      obtain ⟨g, c, c0, c1, c2, c3, cur, hq2, hnc, hcm, hgg, hBg, hvat, j0, j1, j2, j3⟩ := i1.val hv1
      obtain ⟨da, dn, dc, db, ds, df, hcs⟩ := hvat.shape
      simp only [List.cons.injEq, and_true] at hcs
      obtain ⟨rfl, rfl, rfl, rfl⟩ := hcs
      obtain ⟨hB0P, ⟨v, cs, hP, hown, hprs⟩, hvals⟩ := i2
      obtain ⟨A1, a1, rfl, hna, hma, -⟩ := own_slice hown
      have hPc : wr.cell? ⟨P, 0, none⟩ = some (.slice A1 (prs ++ prs').length a1) := by rw [cell_of hP]; rfl
      have hlp : prs'.length = j - s := by
        have := congrArg List.length i3
        simp only [kvs, List.length_map, List.length_drop, List.length_take] at this
        omega
      obtain ⟨N, hN⟩ : ∃ N, N = (prs ++ prs').length := ⟨_, rfl⟩
      have hNb : N + 1 ≤ 1000000000 := by rw [hN, List.length_append]; omega
      rw [← hN] at hown hna hPc hP
      rw [← hK] at hq1 hck1
      rw [hvl] at hq2 hnc
      have hb1 := Lib.hid (show N + 1 ≤ maxLen by unfold maxLen; omega)
      have hb2 := Lib.hid (show (N + 1) * 64 ≤ 140737488355328 by omega)
      have hP0 := hP
      have hz : B0 ≤ wr.heap.size := Nat.le_trans hB i4.size
      have hW := Lib.hid (And.intro i1 (And.intro hP (And.intro hprs (And.intro hvals (And.intro hgk (And.intro hgg (And.intro hvat (And.intro hkey (And.intro hv1 hN)))))))))
      have hq1H := Lib.hid hq1
      have mixed : Tryz.prog.follows .mixedOrders = true := by kernel_rfl
      clear i1 i3 hP hprs hvals hgk hgg hvat hkey hv1 hck1 hck2 hna hma hcm hN
      have hra := Lib.hid (fun (W : World) (m : Mut B0 [102] wr W) => pairs_keep hW.out.1 hW.out.2.1 hW.out.2.2.2.2.1 hW.out.2.2.2.2.2.1 hPc hq1 hkc hq2 j0 j1 j2 j3 m)
      go_wp2_with fail
      refine wp_region_noPanic ?_
      refine wp_region_B (A := (fun W => W.cell? ⟨P, 0, none⟩ = some (.slice A1 N a1) ∧ W.cell? ⟨q, 1, none⟩ = some (.slice (some ⟨gk, 0, none⟩) K ck) ∧ W.cell? ⟨gk, j, none⟩ = some (.string key1) ∧ W.cell? ⟨q, 2, none⟩ = some (.slice (some ⟨g, 0, none⟩) K c) ∧ W.cell? ⟨g, j * 4, none⟩ = some (.slice da dn dc) ∧ W.cell? ⟨g, j * 4 + 1, none⟩ = some (.bool db) ∧ W.cell? ⟨g, j * 4 + 2, none⟩ = some (.int .i64 ds) ∧ W.cell? ⟨g, j * 4 + 3, none⟩ = some (.int .i64 df) ∧ Mut B0 [102] wr W)) (b := 20) (by kernel_rfl) (hra.out _ ((Mut.refl _ _ _).drew)) (fun hHeld => ?_)
      refine wpAnyB_takeY (i := 0) (v := ?_) rfl (by kernel_rfl) (by kernel_rfl) (by kernel_rfl) (by kernel_rfl) (fun _ _ _ h => h) (Or.inl ⟨by rfl, ?_⟩) hHeld ?_
      rotate_left 1
      · ((intro w hSw; clear hSw; go_simp) <;> (with_reducible rfl))
      (try simp only [Act.put, List.setIfInBounds_toArray, List.set_cons_zero, List.set_cons_succ])
      refine wpAnyB_take (i := 1) (v := ?_) rfl (by kernel_rfl) (by kernel_rfl) (by kernel_rfl) [20, 3, 2] (by kernel_rfl) (by kernel_rfl) (fun _ _ _ h => h) (Or.inl ⟨by rfl, ?_⟩) hHeld ?_
      rotate_left 1
      · ((intro w hSw; (try dsimp only at hSw); go_simp) <;> (with_reducible rfl))
      (try simp only [Act.put, List.setIfInBounds_toArray, List.set_cons_zero, List.set_cons_succ])
      refine wpAnyB_take (i := 2) (v := ?_) rfl (by kernel_rfl) (by kernel_rfl) (by kernel_rfl) [20, 3] (by kernel_rfl) (by kernel_rfl) (fun _ _ _ h => h) (Or.inl ⟨by rfl, ?_⟩) hHeld ?_
      rotate_left 1
      · ((intro w hSw; (try dsimp only at hSw); go_simp) <;> (with_reducible rfl))
      (try simp only [Act.put, List.setIfInBounds_toArray, List.set_cons_zero, List.set_cons_succ])
      refine wpAnyB_take (i := 3) (v := ?_) rfl (by kernel_rfl) (by kernel_rfl) (by kernel_rfl) [20] (by kernel_rfl) (by kernel_rfl) (fun _ _ _ h => h) (Or.inl ⟨by rfl, ?_⟩) hHeld ?_
      rotate_left 1
      · ((intro w hSw; (try dsimp only at hSw); go_simp) <;> (with_reducible rfl))
      (try simp only [Act.put, List.setIfInBounds_toArray, List.set_cons_zero, List.set_cons_succ])
      refine wpAnyB_take (i := 4) (v := ?_) rfl (by kernel_rfl) (by kernel_rfl) (by kernel_rfl) [20, 19, 18, 10, 9, 7, 6, 5] (by kernel_rfl) (by kernel_rfl) (fun _ _ _ h => h) (Or.inl ⟨by rfl, ?_⟩) hHeld ?_
      rotate_left 1
      · ((intro w hSw; (try dsimp only at hSw); go_simp) <;> (with_reducible rfl))
      (try simp only [Act.put, List.setIfInBounds_toArray, List.set_cons_zero, List.set_cons_succ])
      refine wpAnyB_take (i := 5) (v := ?_) rfl (by kernel_rfl) (by kernel_rfl) (by kernel_rfl) [20, 19, 18, 10, 9, 7, 6] (by kernel_rfl) (by kernel_rfl) (fun _ _ _ h => h) (Or.inl ⟨by rfl, ?_⟩) hHeld ?_
      rotate_left 1
      · ((intro w hSw; (try dsimp only at hSw); go_simp) <;> (with_reducible rfl))
      (try simp only [Act.put, List.setIfInBounds_toArray, List.set_cons_zero, List.set_cons_succ])
      refine wpAnyB_take (i := 6) (v := ?_) rfl (by kernel_rfl) (by kernel_rfl) (by kernel_rfl) [20, 19, 18, 10, 9, 7] (by kernel_rfl) (by kernel_rfl) (fun _ _ _ h => h) (Or.inl ⟨by rfl, ?_⟩) hHeld ?_
      rotate_left 1
      · ((intro w hSw; (try dsimp only at hSw); go_simp) <;> (with_reducible rfl))
      (try simp only [Act.put, List.setIfInBounds_toArray, List.set_cons_zero, List.set_cons_succ])
      refine wpAnyB_take (i := 7) (v := ?_) rfl (by kernel_rfl) (by kernel_rfl) (by kernel_rfl) [20, 19, 18, 10, 9] (by kernel_rfl) (by kernel_rfl) (fun _ _ _ h => h) (Or.inl ⟨by rfl, ?_⟩) hHeld ?_
      rotate_left 1
      · ((intro w hSw; (try dsimp only at hSw); go_simp) <;> (with_reducible rfl))
      (try simp only [Act.put, List.setIfInBounds_toArray, List.set_cons_zero, List.set_cons_succ])
      refine wpAnyB_take (i := 8) (v := ?_) rfl (by kernel_rfl) (by kernel_rfl) (by kernel_rfl) [20, 19, 18, 10, 9] (by kernel_rfl) (by kernel_rfl) (fun _ _ _ h => h) (Or.inl ⟨by rfl, ?_⟩) hHeld ?_
      rotate_left 1
      · ((intro w hSw; (try dsimp only at hSw); go_simp) <;> (with_reducible rfl))
      (try simp only [Act.put, List.setIfInBounds_toArray, List.set_cons_zero, List.set_cons_succ])
      refine wpAnyB_take (i := 9) (v := ?_) rfl (by kernel_rfl) (by kernel_rfl) (by kernel_rfl) [20, 19, 18, 10] (by kernel_rfl) (by kernel_rfl) (fun _ _ _ h => h) (Or.inl ⟨by rfl, ?_⟩) hHeld ?_
      rotate_left 1
      · ((intro w hSw; (try dsimp only at hSw); go_simp) <;> (with_reducible rfl))
      (try simp only [Act.put, List.setIfInBounds_toArray, List.set_cons_zero, List.set_cons_succ])
      refine wpAnyB_take (i := 10) (v := ?_) rfl (by kernel_rfl) (by kernel_rfl) (by kernel_rfl) [20, 19, 18] (by kernel_rfl) (by kernel_rfl) (fun _ _ _ h => h) (Or.inl ⟨by rfl, ?_⟩) hHeld ?_
      rotate_left 1
      · ((intro w hSw; (try dsimp only at hSw); go_simp) <;> (with_reducible rfl))
      (try simp only [Act.put, List.setIfInBounds_toArray, List.set_cons_zero, List.set_cons_succ])
      refine wpAnyB_take (i := 11) (v := ?_) rfl (by kernel_rfl) (by kernel_rfl) (by kernel_rfl) [20, 19, 18, 17, 16, 14, 13, 12] (by kernel_rfl) (by kernel_rfl) (fun _ _ _ h => h) (Or.inl ⟨by rfl, ?_⟩) hHeld ?_
      rotate_left 1
      · ((intro w hSw; (try dsimp only at hSw); go_simp) <;> (with_reducible rfl))
      (try simp only [Act.put, List.setIfInBounds_toArray, List.set_cons_zero, List.set_cons_succ])
      refine wpAnyB_take (i := 12) (v := ?_) rfl (by kernel_rfl) (by kernel_rfl) (by kernel_rfl) [20, 19, 18, 17, 16, 14, 13] (by kernel_rfl) (by kernel_rfl) (fun _ _ _ h => h) (Or.inl ⟨by rfl, ?_⟩) hHeld ?_
      rotate_left 1
      · ((intro w hSw; (try dsimp only at hSw); go_simp) <;> (with_reducible rfl))
      (try simp only [Act.put, List.setIfInBounds_toArray, List.set_cons_zero, List.set_cons_succ])
      refine wpAnyB_take (i := 13) (v := ?_) rfl (by kernel_rfl) (by kernel_rfl) (by kernel_rfl) [20, 19, 18, 17, 16, 14] (by kernel_rfl) (by kernel_rfl) (fun _ _ _ h => h) (Or.inl ⟨by rfl, ?_⟩) hHeld ?_
      rotate_left 1
      · ((intro w hSw; (try dsimp only at hSw); go_simp) <;> (with_reducible rfl))
      (try simp only [Act.put, List.setIfInBounds_toArray, List.set_cons_zero, List.set_cons_succ])
      refine wpAnyB_take (i := 14) (v := ?_) rfl (by kernel_rfl) (by kernel_rfl) (by kernel_rfl) [20, 19, 18, 17, 16] (by kernel_rfl) (by kernel_rfl) (fun _ _ _ h => h) (Or.inl ⟨by rfl, ?_⟩) hHeld ?_
      rotate_left 1
      · ((intro w hSw; (try dsimp only at hSw); go_simp) <;> (with_reducible rfl))
      (try simp only [Act.put, List.setIfInBounds_toArray, List.set_cons_zero, List.set_cons_succ])
      refine wpAnyB_take (i := 15) (v := ?_) rfl (by kernel_rfl) (by kernel_rfl) (by kernel_rfl) [20, 19, 18, 17, 16] (by kernel_rfl) (by kernel_rfl) (fun _ _ _ h => h) (Or.inl ⟨by rfl, ?_⟩) hHeld ?_
      rotate_left 1
      · ((intro w hSw; (try dsimp only at hSw); go_simp) <;> (with_reducible rfl))
      (try simp only [Act.put, List.setIfInBounds_toArray, List.set_cons_zero, List.set_cons_succ])
      refine wpAnyB_take (i := 16) (v := ?_) rfl (by kernel_rfl) (by kernel_rfl) (by kernel_rfl) [20, 19, 18, 17] (by kernel_rfl) (by kernel_rfl) (fun _ _ _ h => h) (Or.inl ⟨by rfl, ?_⟩) hHeld ?_
      rotate_left 1
      · ((intro w hSw; (try dsimp only at hSw); go_simp) <;> (with_reducible rfl))
      (try simp only [Act.put, List.setIfInBounds_toArray, List.set_cons_zero, List.set_cons_succ])
      refine wpAnyB_take (i := 17) (v := ?_) rfl (by kernel_rfl) (by kernel_rfl) (by kernel_rfl) [20, 19, 18] (by kernel_rfl) (by kernel_rfl) (fun _ _ _ h => h) (Or.inl ⟨by rfl, ?_⟩) hHeld ?_
      rotate_left 1
      · ((intro w hSw; (try dsimp only at hSw); go_simp) <;> (with_reducible rfl))
      (try simp only [Act.put, List.setIfInBounds_toArray, List.set_cons_zero, List.set_cons_succ])
      refine wpAnyB_take (i := 18) (v := ?_) rfl (by kernel_rfl) (by kernel_rfl) (by kernel_rfl) [20, 19] (by kernel_rfl) (by kernel_rfl) (fun _ _ _ h => h) (Or.inl ⟨by rfl, ?_⟩) hHeld ?_
      rotate_left 1
      · ((intro w hSw; (try dsimp only at hSw); go_simp) <;> (with_reducible rfl))
      (try simp only [Act.put, List.setIfInBounds_toArray, List.set_cons_zero, List.set_cons_succ])
      refine wpAnyB_ready (rs := [19]) (by kernel_rfl) (by simp) ?_
      refine AllReadyB.pre rfl (fun Kq hKq => ?_) ?_
      · go_simp
        refine hKq.out _ _ (hra.out _ (hHeld.2.2.2.2.2.2.2.2.alloc _)) (fun hHeld => ?_)
        clear hKq Kq
        (try simp only [Act.put, List.setIfInBounds_toArray, List.set_cons_zero, List.set_cons_succ])
        refine wpAnyB_ready (rs := [20]) (by kernel_rfl) (by simp) ?_
        refine AllReadyB.post rfl (by kernel_rfl) (fun Kq hKq => ?_) ?_
        · (refine step_app rfl (.tmp 37) (.tmp 53) 97 rfl B0 102 _ 5 64 Tryz.underlying97 infoPV rfl (by decide) _ _ _ rfl (by exact own_alloc hown _) _ 1 1 [.string key1, .slice da dn dc, .bool db, .int .i64 ds, .int .i64 df] rfl rfl (by exact at_news _ #[.string key1, .slice da dn dc, .bool db, .int .i64 ds, .int .i64 df] _) (fun h => by cases h) (one_pair _ _ _ _ _ _ _) hb1.out hb2.out (by simp; omega) ?_; intro v10 w10 o10 m10; obtain ⟨A10, c10, rfl, hc10, -, -⟩ := own_slice o10; have M10 : Mut B0 [102] wr w10 := (hHeld.2.2.2.2.2.2.2.2).trans m10; have hP10 := M10.keepc hP0 (by decide); have f10 := unfrozen_of hP10 0; have q10 : w10.cell? ⟨P, 0, none⟩ = some (.slice A1 N a1) := (by rw [cell_of hP10]; rfl))
          refine hKq.out _ _ ?_
          clear hKq Kq
          (try simp only [Act.put, List.setIfInBounds_toArray, List.set_cons_zero, List.set_cons_succ])
          refine wpAnyB_ready (rs := [21]) (by kernel_rfl) (by simp) ?_
          refine AllReadyB.post rfl (by kernel_rfl) (fun Kq hKq => ?_) ?_
          · go_simp
            refine hKq.out _ _ ?_
            clear hKq Kq
            (try simp only [Act.put, List.setIfInBounds_toArray, List.set_cons_zero, List.set_cons_succ])
            refine wpAnyB_ready (rs := [22]) (by kernel_rfl) (by simp) ?_
            refine AllReadyB.post rfl (by kernel_rfl) (fun Kq hKq => ?_) ?_
            · go_simp
              refine hKq.out _ _ ?_
              clear hKq Kq
              (try simp only [Act.put, List.setIfInBounds_toArray, List.set_cons_zero, List.set_cons_succ])
              refine wpAnyB_done (by kernel_rfl) ?_ _
              refine NoPanic.normal ?_
              have m11 : Mut B0 [97] w10 (w10.setCell ⟨P, 0, none⟩ (.slice A10 (N + 1) c10)) := (Mut.refl _ _ _).setCell (p := ⟨P, 0, none⟩) hP10 (by simp) hB0P _
              have hP11 := heap_set hP10 0 (.slice A10 (N + 1) c10)
              generalize w10.setCell ⟨P, 0, none⟩ (.slice A10 (N + 1) c10) = w11 at *
              have M11 : Mut B0 [97, 102] wr w11 := (M10.mono (Nat.le_refl _) (by simp)).trans (m11.mono (Nat.le_refl _) (by simp))
              have hI3 := hI.out.2.2.1
              have hI2v := hI.out.2.1.vals
              obtain ⟨k1, k2, k3, k4, k5, k6, k7, k8, k9, k10⟩ := hW.out
              have hstep := pairs_step (s := s) H.out.2.2.1 H.out.2.1 hsj k8 k9 hI3
              clear hra hW hI
              go_wp2_with fail
              go_round
              case rel =>
                obtain ⟨b1, V1, e1, e2, e3⟩ := hstep
                refine ⟨j + 1, prs' ++ [(key1, v1, b1)], by simp, by omega, by omega, k1.mut M11 (by decide) (by decide) (by decide) (by decide) (by decide), ⟨hB0P, ⟨_, cs ++ [.string key1, .slice da dn dc, .bool db, .int .i64 ds, .int .i64 df], hP11, ?_, ?_⟩, ?_⟩, e2, i4.trans M11⟩
                · rw [← List.append_assoc, List.length_append, ← k10]; exact own_mut o10 m11 (by decide)
                · rw [← List.append_assoc]; exact (k3.mut M11 (by decide)).snoc (p := (key1, v1, b1)) (k7.mut M11 (by decide))
                · intro u hu
                  rw [← List.append_assoc] at hu
                  rcases List.mem_append.1 hu with hu | hu
                  · exact hI2v u hu
                  · simp at hu; subst hu; exact ⟨e3, V1, e1⟩
              case measure => simp [intOf]; omega
            exact AllReadyB.nil
          exact AllReadyB.nil
        exact AllReadyB.nil
      exact AllReadyB.nil
    · obtain rfl : j = K := by omega
      have q1 := i1.rows
      obtain ⟨kv, vv, iv, vc, h1, h2, -⟩ := q1
      obtain ⟨A, c, rfl, -, -, -⟩ := own_slice h2
      have hq1 : wr.cell? ⟨q, 1, none⟩ = some (.slice A x.keys.length c) := by rw [cell_of h1]; rfl
      rw [← hK] at hq1
      have hfin : kvs prs' = fromKV C key := by
        obtain ⟨k1, k2, k3, k4, k5, k6, k7, k8⟩ := H.out
        have hr : Rises (C.map (·.1)) := by rw [← k3.keys]; exact k3.rises
        rw [fromKV_leaf hr, ← k3.keys, ← k4, i3, List.take_of_length_le (by omega)]
      clear i1 i3 h1 h2
      go_wp2_with fail
      exact bodyPost_ret (v := .tuple #[]) (by simp [results, Tryz.results47, go_sem]) rfl ⟨rfl, prs', hfin, i2, i4⟩
end Go.Proofs.YtpfjhehjmhkbpaaGreatDoor

namespace Go.Proofs.YtpfjhehjmhkbpaaGreatDoor
open Go.RowKit

theorem fromKV_nil {C : KV} {key : ByteArray} (h : ∀ p ∈ C, blt p.1 key = true) : fromKV C key = [] := List.filter_eq_nil_iff.2 fun p hp => by simp [h p hp]
theorem fromKV_append (C D : KV) (key : ByteArray) : fromKV (C ++ D) key = fromKV C key ++ fromKV D key := List.filter_append ..
theorem fromKV_len (C : KV) (key : ByteArray) : (fromKV C key).length ≤ C.length := List.length_filter_le _ _

theorem Kids.each {P : SubP} (hP : ∀ n lo hi C T, P n lo hi C T → Span lo hi C) {key : ByteArray} {ks : List ByteArray} : ∀ {lo hi ns C S}, Kids P lo ks hi ns C S → ∃ Cs : List KV, C = Cs.flatten ∧ Cs.length = ns.length ∧
    (∀ (j n : Nat), ns[j]? = some n → ∃ l r Cj Sj, Cs[j]? = some Cj ∧ P n l r Cj Sj) ∧ ∀ (j : Nat) (Cj : KV), j < kidIdx ks key → Cs[j]? = some Cj → fromKV Cj key = [] := by
  induction ks with
  | nil =>
    rintro lo hi ns C S ⟨n, rfl, h⟩
    refine ⟨[C], by simp, rfl, fun j n' hj => ?_, fun j Cj hj => by simp [kidIdx] at hj⟩
    cases j with
    | zero => simp at hj; subst hj; exact ⟨lo, hi, C, S, rfl, h⟩
    | succ j => simp at hj
  | cons k0 ks ih =>
    rintro lo hi ns C S ⟨n, ns', C1, C2, S1, S2, rfl, rfl, rfl, h1, h2, h3, h4⟩
    obtain ⟨Cs, e1, e2, e3, e4⟩ := ih h4
    refine ⟨C1 :: Cs, by rw [e1]; simp, by simp [e2], fun j n' hj => ?_, fun j Cj hj hc => ?_⟩
    · cases j with
      | zero => simp at hj; subst hj; exact ⟨lo, some k0, C1, S1, rfl, h3⟩
      | succ j => exact e3 j n' (by simpa using hj)
    · by_cases hk : blt key k0 = true
      · have e1 : kidIdx (k0 :: ks) key = 0 := by
          unfold kidIdx
          rw [List.countP_eq_zero]
          intro a ha
          rcases List.mem_cons.1 ha with rfl | ha
          · simp [hk]
          · have := (h4.keys).2.1 a ha k0 rfl
            simp [blt_trans hk this]
        omega
      · have hkf : blt key k0 = false := by simpa using hk
        have e5 : kidIdx (k0 :: ks) key = kidIdx ks key + 1 := by unfold kidIdx; rw [List.countP_cons]; simp [hkf]
        cases j with
        | zero =>
          simp at hc; subst hc
          exact fromKV_nil fun p hp => blt_of_lt_le ((hP _ _ _ _ _ h3).hi p hp k0 rfl) hkf
        | succ j => exact e4 j Cj (by omega) (by simpa using hc)

theorem flat_step {Cs : List KV} {j : Nat} {Cj : KV} (h : Cs[j]? = some Cj) : (Cs.take (j + 1)).flatten = (Cs.take j).flatten ++ Cj := by
  rw [List.take_add_one, h]; simp
theorem flat_le {Cs : List KV} {j : Nat} : (Cs.take j).flatten.length ≤ Cs.flatten.length := by
  conv => rhs; rw [← List.take_append_drop j Cs, List.flatten_append, List.length_append]
  omega
theorem flat_skip {Cs : List KV} {key : ByteArray} : ∀ {i : Nat}, (∀ (j : Nat) (Cj : KV), j < i → Cs[j]? = some Cj → fromKV Cj key = []) → fromKV (Cs.take i).flatten key = []
  | 0, _ => rfl
  | i + 1, h => by
    have h1 := flat_skip (i := i) fun j Cj hj => h j Cj (by omega)
    cases hc : Cs[i]? with
    | none => rw [List.take_of_length_le (by have := List.getElem?_eq_none_iff.1 hc; omega)]; rw [List.take_of_length_le (by have := List.getElem?_eq_none_iff.1 hc; omega)] at h1; exact h1
    | some Cj => rw [flat_step hc, fromKV_append, h1, h i Cj (by omega) hc]; rfl

set_option maxRecDepth 4000 in
set_option maxHeartbeats 4000000 in
theorem pairs_succ [Mode] (h : Nat) (ih : PairsSpec h) : PairsSpec (h + 1) := by
  intro B B0 w T p n P root cnt dead r ls ps lo hi C S key prs hT hp hs ha hB hlen
  obtain ⟨x, Tl, rfl, hx, hl, hg, hlf, hkd⟩ := hs
  obtain ⟨Cs, hC, hCl, hCs, hskip⟩ := hkd.each (fun n lo hi C T hp => hp.span h) (key := key)
  have hrise := hkd.keys.1
  have hld := load_sub hT hp hx hg hl
  have hfew := few512 hg.ok hl
  obtain ⟨K, hK⟩ : ∃ K, K = x.kids.length := ⟨_, rfl⟩
  have hkl : K = x.keys.length + 1 := by rw [hK]; exact (hg.ok.nd hlf).1
  obtain ⟨s, hsd⟩ : ∃ s, s = kidIdx x.keys key := ⟨_, rfl⟩
  have hsK : s ≤ K := by rw [hsd, hkl]; have := kidIdx_le x.keys key; omega
  have hpl := fun (W : World) (q : Nat) (h : NodeAt w.heap.size W q x) => kid_any _ W q x key h hrise (by omega)
  rw [← hsd] at hpl hskip
  have hst := flat_skip hskip
  have hldH := Lib.hid hld
  have hplH := Lib.hid hpl
  have H := Lib.hid (And.intro hT (And.intro hp (And.intro hC (And.intro hCl (And.intro hCs (And.intro hst ha))))))
  have ihH := Lib.hid ih
  clear hld hpl hx hg hsd hT hp ha hC hCl hCs hst hskip hkd hrise ih
  go_enter Tryz.func47, Tryz.ntmps47
  go_wp2_with (first
    | (go_at_call 53; refine hldH.out.mono ?_; rintro e w1 ⟨q, rfl, n1, b1⟩; have e0 := n1.leaf0; rw [hlf] at e0; have n1H := Lib.hid (And.intro n1 b1); clear n1 b1)
    | (go_at_call 91; refine (hplH.out w1 q n1H.out.1).mono ?_; rintro e w' ⟨rfl, rfl⟩))
  clear e0
  go_loopw [11] (fun ii wr => ∃ (j : Nat) (prs' : List Pr), ii = .int .i64 (j : Int) ∧ s ≤ j ∧ j ≤ K ∧ Hid (NodeAt w.heap.size wr q x ∧ Acc B0 wr ps P (prs ++ prs') ∧ kvs prs' = fromKV (Cs.take j).flatten key ∧ Mut B0 [97, 102] w wr)) (fun ii _ => K - (intOf ii).toNat)
  case atStart => exact ⟨s, [], rfl, Nat.le_refl _, hsK, n1H.out.1, by have := H.out.2.2.2.2.2.2.below n1H.out.2; simpa using this, by rw [H.out.2.2.2.2.2.1]; rfl, .of_below n1H.out.2 _ _⟩
  case round =>
    obtain ⟨j, prs', rfl, hsj, hjK, hI⟩ := hrel
    obtain ⟨i1, i2, i3, i4⟩ := hI.out
    obtain ⟨hT, hp, hC, hCl, hCs, hst, ha⟩ := H.out
    obtain ⟨kv, vv, iv, vc, hq, -, -, -, a7⟩ := i1.rows
    obtain ⟨A, c, rfl, l1, -, -⟩ := own_slice a7
    by_cases hjl : j < K
    · obtain ⟨m, hm⟩ : ∃ m, x.kids[j]? = some m := ⟨_, List.getElem?_eq_getElem (by omega)⟩
      obtain ⟨l, rr, Cj, Sj, hcj, hsub⟩ := hCs j m hm
      obtain ⟨kg, kcur, rfl, kg1, kg2, kg3, kg4⟩ := own_row a7 (by omega)
      have ek := kg4 j (.int .i64 (m : Int)) (by rw [List.getElem?_map, hm]; rfl)
      have e3 : wr.cell? ⟨q, 3, none⟩ = some (.slice (some ⟨kg, 0, none⟩) x.kids.length c) := by rw [cell_of hq]; rfl
      rw [← hK] at e3 l1
      have hfl := flat_step hcj
      have hnum : (prs ++ prs').length + Cj.length ≤ 1000000000 := by
        have h1 := congrArg List.length i3
        have h2 := fromKV_len (Cs.take j).flatten key
        have h3 : (Cs.take (j + 1)).flatten.length ≤ C.length := by rw [hC]; exact flat_le
        rw [hfl, List.length_append] at h3
        simp only [kvs, List.length_map] at h1
        rw [List.length_append]; omega
      have hcall := fun (W : World) (mW : Mut 0 [] wr W) => ihH.out B B0 W T p m P root cnt dead r ls ps l rr Cj Sj key (prs ++ prs') ((hT.mut i4 (by decide)).mut mW (by simp)) ((hp.mut i4 (by decide) (by decide) (by decide)).mut mW (by simp) (by simp) (by simp)) hsub (i2.mut mW (by simp) (by simp) (by simp)) (Nat.le_trans (Nat.le_trans hB i4.size) mW.size) hnum
      have hcallH := Lib.hid hcall
      have hW := Lib.hid (And.intro i1 (And.intro i3 (And.intro hfl (And.intro hq kg1))))
      have mixed : Tryz.prog.follows .mixedOrders = true := by kernel_rfl
      have hS1 : wr.drew.cell? ⟨q, 3, none⟩ = some (.slice (some ⟨kg, 0, none⟩) K c) ∧ wr.drew.cell? ⟨kg, j, none⟩ = some (.int .i64 (m : Int)) := ⟨e3, ek⟩
      have hS1H := Lib.hid hS1
      clear hT hp hC hCl hCs hst ha i1 i2 i3 kg1 kg2 kg3 kg4 a7 hq hfl hcall hI hsub hS1 hm hcj
      go_wp2_with (go_at_call 47; refine (hcallH.out _ (by first | exact Mut.refl 0 [] wr | exact Mut.drew (Mut.refl 0 [] wr))).mono ?_; rintro e w2 ⟨rfl, prs2, g1, g2, g3⟩)
      have hg3 : Mut B0 [97, 102] wr w2 := ⟨g3.os, g3.tape, g3.output, g3.size, g3.block⟩
      go_round
      case rel =>
        refine ⟨j + 1, prs' ++ prs2, by simp, by omega, by omega, hW.out.1.mut hg3 (by decide) (by decide) (by decide) (by decide) (by decide), by rw [← List.append_assoc]; exact g2, ?_, i4.trans hg3⟩
        rw [hW.out.2.2.1, fromKV_append, ← hW.out.2.1, ← g1]; simp [kvs]
      case measure => simp [intOf]; omega
    · obtain rfl : j = K := by omega
      have e3 : wr.cell? ⟨q, 3, none⟩ = some (.slice A x.kids.length c) := by rw [cell_of hq]; rfl
      rw [← hK] at e3
      have hfin : kvs prs' = fromKV C key := by rw [i3, List.take_of_length_le (by omega), ← hC]
      clear hT hp hC hCl hCs hst ha i1 i3 a7 hq hI
      go_wp2_with fail
      exact bodyPost_end (v := .tuple #[]) (results_none rfl _ _ _) rfl ⟨rfl, prs', hfin, i2, i4⟩

theorem pairs_any [Mode] : ∀ h, PairsSpec h
  | 0 => pairs_zero
  | h + 1 => pairs_succ h (pairs_any h)
end Go.Proofs.YtpfjhehjmhkbpaaGreatDoor

namespace Go.Proofs.YtpfjhehjmhkbpaaGreatDoor
open Go.RowKit

variable {P : Program} {α : Type}

/-- Kinds of blocks that a round may turn: rows of strings, variables that hold such, numbers. -/
def freeK : List Nat := [9, 22, 3]

/-- What lay from b on lies as it lay, but for blocks of the free kinds. -/
structure Stays (b : Nat) (w w' : World) : Prop where
  size : w.heap.size ≤ w'.heap.size
  same : ∀ k o, b ≤ k → w.heap[k]? = some o → oty o ∉ freeK → w'.heap[k]? = some o

theorem Stays.trans {b : Nat} {u v w : World} (h : Stays b u v) (k : Stays b v w) : Stays b u w :=
  ⟨Nat.le_trans h.size k.size, fun i o hb hi hk => k.same i o hb (h.same i o hb hi hk) hk⟩

theorem Stays.put {b l : Nat} {w : World} (hl : l < b) (o : Obj) : Stays b w (w.putObj l o) :=
  ⟨by simp [World.putObj], fun k o' hb hk _ => by rw [World.putObj_heap_other (by omega)]; exact hk⟩

theorem Stays.mut {B b : Nat} {L : List Nat} {w w' : World} (m : Mut B L w w') (hL : ∀ e ∈ L, e ∈ freeK) : Stays b w w' :=
  ⟨m.size, fun k o _ hk hn => m.block k o hk (.inr fun h => hn (hL _ h))⟩
theorem Stays.far {b s : Nat} {W : World} (h : s < b) (u : Value) : Stays b W (W.setCell ⟨s, 0, none⟩ u) :=
  ⟨by simp [World.setCell], fun k o hb hk _ => (Below.heap_setCell W ⟨s, 0, none⟩ u k (by show k ≠ s; omega)).trans hk⟩

/-- A function hands its rounds what X says, one by one; all of it is what S says. -/
def Gives (P : Program) (gf : Nat) (lb : Array Value) (encs : α → Array Value) (X : List α → α → World → Prop) (S : List α → Prop) (w : World) : Prop :=
  ∀ (l : Nat) (J : List α → World → Prop) (W : World), Below w.heap.size w W → (∀ s A B, J s A → Below A.heap.size A B → J s B) →
    (∀ pre x W1, J pre W1 → X pre x W1 → YieldAt Fence.wide 0 P l (encs x) W1 fun e W' => e = .returned (.bool true) ∧ J (pre ++ [x]) W' ∧ Stays W.heap.size W1 W') →
    J [] W → Calls P gf (#[.func (.yield l) #[] #[]] ++ lb) W fun e W' => (∃ v, e = .returned v) ∧ ∃ xs, S xs ∧ J xs W'

theorem below_same {A B : World} (h : Below A.heap.size A B) {k : Nat} {o : Obj} (ho : A.heap[k]? = some o) : B.heap[k]? = some o :=
  (h.block k (Array.getElem?_eq_some_iff.1 ho).1).trans ho

/-- The loop. -/
theorem over_law {g : Operand} {ps : Array Tmp} {assign body : Code} {Q : Exit → Act → World → Prop} {a : Act} {w : World} {gf : Nat} {lb : Array Value} {encs : α → Array Value} {X : List α → α → World → Prop} {S : List α → Prop}
    (hg : a.eval g = .func (.func gf) #[] lb) (eg : ∀ args w, (callFunc gf args).run P w = .ok (.enter gf args) w) (hseq : Gives P gf lb encs X S w) (hps : ∀ x, (encs x).size = ps.size)
    (I : List α → World → Prop) (hI : ∀ s A B, I s A → Below A.heap.size A B → I s B) (hI2 : ∀ s W l o o', w.heap.size ≤ l → W.heap[l]? = some o → o.isCells = false → I s W → I s (W.putObj l o'))
    (hX : ∀ pre x W l o o', W.heap[l]? = some o → o.isCells = false → X pre x W → X pre x (W.putObj l o')) (h0 : I [] w) (a₁ : α → Act)
    (hassign : ∀ (l : Nat) (x : α) (W : World) (K : Act → World → Prop), K (a₁ x) W →
      assign.wpIn (Fence.wide.inRound l) 0 P (Exit.then K (fun _ _ _ => False)) { tmps := (ps.zip (encs x)).foldl (fun t (p, v) => t.setIfInBounds p v) a.tmps, defers := [] } W)
    (hbody : ∀ (l : Nat) (pre : List α) (x : α) (W : World), I pre W → X pre x W → body.wpIn (Fence.wide.inRound l) 0 P (fun e _ W' => e = .normal ∧ Stays w.heap.size W W' ∧ I (pre ++ [x]) W') (a₁ x) W)
    (hdone : ∀ (D : Nat) (xs : List α) (W : World), w.heap.size ≤ D → S xs → I xs W → W.heap[D]? = some (.deferred (some [])) → Q .normal { a with defers := { target := .collected D, args := #[] } :: a.defers } W) :
    (Code.rangeFunc g ps assign body).wp P Q a w := by
  refine (wpIn_wide (n := 0)).1 (wpIn_rangeFunc fun fn hfn => ?_)
  obtain ⟨rec, hrec⟩ : ∃ rec : LoopState → Loop, rec = fun st => { state := st, pending := none, fn, tmps := a.tmps, params := ps, assign, body, defers := w.heap.size } := ⟨_, rfl⟩
  obtain ⟨W1, hW1⟩ : ∃ W1, (w.alloc (.deferred (some []))).alloc (.loop (rec .ready)) = W1 := ⟨_, rfl⟩
  have hz : W1.heap.size = w.heap.size + 2 := by rw [← hW1]; simp
  have hL1 : W1.heap[w.heap.size + 1]? = some (.loop (rec .ready)) := by
    rw [← hW1]; have := World.alloc_heap_new (w.alloc (.deferred (some []))) (.loop (rec .ready)); rwa [World.size_alloc] at this
  have hK1 : W1.heap[w.heap.size]? = some (.deferred (some [])) := by
    rw [← hW1]; exact (Below.heap_alloc _ _ _ (by simp)).trans (World.alloc_heap_new w _)
  have hb1 : Below w.heap.size w W1 := by
    rw [← hW1]; exact (((Below.refl _ w).alloc (Nat.le_refl _) _).alloc (by simp) _)
  refine ⟨w.heap.size + 1, [{ target := .collected w.heap.size, args := #[] }], W1, { target := .fn (.func gf) lb, args := #[.func (.yield (w.heap.size + 1)) #[] #[]] }, W1, gf,
    #[.func (.yield (w.heap.size + 1)) #[] #[]] ++ lb, W1, ?_, ?_, fun _ _ => trivial, ?_, (fun h => by simp [Fence.wide] at h), ?_⟩
  · rw [← hW1, hrec]; exact run_enterLoop_outer _ _ _ _ _
  · simp only [resolve, hg]
    simp [go_sem]
  · simp [invoke, go_sem, eg]
  · refine callsIn_wide.2 ((hseq (w.heap.size + 1) (fun pre W => I pre W ∧ W.heap[w.heap.size + 1]? = some (.loop (rec .ready)) ∧ W.heap[w.heap.size]? = some (.deferred (some []))) W1 hb1
      (fun s A B hs hb => ⟨hI s A B hs.1 hb, below_same hb hs.2.1, below_same hb hs.2.2⟩) ?_ ⟨hI [] w W1 h0 hb1, hL1, hK1⟩).mono ?_)
    · rintro pre x W ⟨hi, hl, hk⟩ hx
      have hlt : w.heap.size + 1 < W.heap.size := (Array.getElem?_eq_some_iff.1 hl).1
      have hy := run_yield (P := P) (args := encs x) hl (by rw [hrec]; exact hps x)
      rw [hrec] at hy
      refine ⟨fn, _, assign, body, hy, roundIn_of_wpIn hfn (hassign _ x W _ ⟨_, run_beginRound hl (by rw [hrec]), ?_⟩)⟩
      have hl2 : (W.putObj (w.heap.size + 1) (.loop { rec .ready with state := .busy })).heap[w.heap.size + 1]? = some (.loop { rec .ready with state := .busy }) := World.putObj_heap_same hlt
      have hk2 : (W.putObj (w.heap.size + 1) (.loop { rec .ready with state := .busy })).heap[w.heap.size]? = some (.deferred (some [])) := (World.putObj_heap_other (by omega)).trans hk
      refine wpIn_mono (hbody _ pre x _ (hI2 _ _ _ _ _ (Nat.le_succ _) hl rfl hi) (hX _ _ _ _ _ _ hl rfl hx)) ?_
      rintro e a3 W3 ⟨rfl, hs3, hi3⟩
      have hl3 := hs3.same (w.heap.size + 1) _ (by omega) hl2 (by simp [oty, freeK])
      have hk3 := hs3.same w.heap.size _ (by omega) hk2 (by simp [oty, freeK])
      have hr := run_endRound (P := P) none hl3
      have hlt3 : w.heap.size + 1 < W3.heap.size := (Array.getElem?_eq_some_iff.1 hl3).1
      refine ⟨_, _, hr, rfl, ⟨hI2 _ _ _ _ _ (Nat.le_succ _) hl3 rfl hi3, ?_, (World.putObj_heap_other (by omega)).trans hk3⟩, ?_⟩
      · rw [World.putObj_heap_same hlt3, hrec]; rfl
      · have hs4 : Stays W1.heap.size (W.putObj (w.heap.size + 1) (.loop { rec .ready with state := .busy })) W3 := ⟨hs3.size, fun k o hk' hk'' hn => hs3.same k o (by omega) hk'' hn⟩
        exact ((Stays.put (by omega) _).trans hs4).trans (Stays.put (by omega) _)
    · rintro e W2 ⟨⟨v, rfl⟩, xs, hS, hi, hl, hk⟩
      exact ⟨none, _, by have := run_endLoop (P := P) hl (by rw [hrec]; simp); rw [hrec] at this; exact this, hdone _ xs _ (Nat.le_refl _) hS (hI2 _ _ _ _ _ (Nat.le_succ _) hl rfl hi) ((World.putObj_heap_other (by omega)).trans hk)⟩
end Go.Proofs.YtpfjhehjmhkbpaaGreatDoor

namespace Go.Proofs.YtpfjhehjmhkbpaaGreatDoor
open Go.RowKit

/-- What a round is handed: key, value, the value's bytes. -/
abbrev Hd := ByteArray × Value × List UInt8
def encHd (x : Hd) : Array Value := #[.string x.1, x.2.1]
def bytHd (x : Hd) (W : World) : Prop := Byt W x.2.1 x.2.2
def kvh (xs : List Hd) : KV := xs.map fun x => (x.1, x.2.2)
/-- What a round is handed is the next of a list. -/
def stpHd (L : KV) (pre : List Hd) (x : Hd) (W : World) : Prop := Byt W x.2.1 x.2.2 ∧ kvh (pre ++ [x]) <+: L

set_option maxRecDepth 4000 in
set_option maxHeartbeats 1000000 in
/-- No tree: nothing is handed over. -/
theorem range_none (w : World) (T p b1 b2 : Nat) (cnt : Int) (dead : Bool) (key : ByteArray) (hT : TAt w T p (-1) cnt dead) (h1 : w.heap[b1]? = some (.cells #[.pointer (some ⟨T, 0, none⟩)] 28 (0, 0))) (_h2 : w.heap[b2]? = some (.cells #[.string key] 9 (0, 0))) :
    Gives Tryz.prog 46 #[.pointer (some ⟨b1, 0, none⟩), .pointer (some ⟨b2, 0, none⟩)] encHd (stpHd []) (fun xs => kvh xs = []) w := by
  intro l J W hb hJ hY h0
  have hT1 := hT.mut (.of_below hb 0 []) (by simp)
  have e1 := hT1.c1
  have k1 := heap_below h1 hb (blk_lt h1)
  have c1 : W.cell? ⟨b1, 0, none⟩ = some (.pointer (some ⟨T, 0, none⟩)) := by rw [cell_of k1]; rfl
  have h0H := Lib.hid h0
  clear hT hT1 hY h1 _h2 k1 h0
  show Calls Tryz.prog 46 #[.func (.yield l) #[] #[], .pointer (some ⟨b1, 0, none⟩), .pointer (some ⟨b2, 0, none⟩)] W _
  go_enter Tryz.func46, Tryz.ntmps46
  go_wp2_with fail
  exact bodyPost_ret (v := .tuple #[]) (by simp [results, Tryz.results46, go_sem]) rfl ⟨⟨_, rfl⟩, [], rfl, h0H.out⟩
end Go.Proofs.YtpfjhehjmhkbpaaGreatDoor
