/- Range's function over a tree that holds something. Range, whatever the tree. Len, whatever the tree, and at nil. What the tree's functions answer where there is no tree at all. reads, where there are no pages. Open over a file system with nothing: the tree that has no keys. A function whose body ranges over a function: how it is entered; what a loop's own records leave as it is. -/
import Derived.Test.YtpfjhehjmhkbpaaGreatDoorM23
import Derived.Shelf.RegionOpen
import Derived.WalkKit
import Derived.OwnWalkIn
import Derived.TacticsInMore
import Derived.Test.YtpfjhehjmhkbpaaGreatDoorM21
import Derived.RangeFuncLeaves
namespace Go.Proofs.YtpfjhehjmhkbpaaGreatDoor
open Go.RowKit

theorem infoEB : (Tryz.prog.info? 32).map (fun i => (i.zero, i.size, i.bytes)) = some (some (.slice none 0 0), 1, 24) := by kernel_rfl

theorem range_keep {W W1 W' : World} {T p b1 b2 : Nat} {root cnt : Int} {dead : Bool} {key : ByteArray} (hT : TAt W1 T p root cnt dead) (k1 : W1.heap[b1]? = some (.cells #[.pointer (some ⟨T, 0, none⟩)] 28 (0, 0))) (k2 : W1.heap[b2]? = some (.cells #[.string key] 9 (0, 0))) (m : Mut W.heap.size [97, 102] W1 W') :
    W'.cell? ⟨b1, 0, none⟩ = some (.pointer (some ⟨T, 0, none⟩)) ∧ W'.cell? ⟨b2, 0, none⟩ = some (.string key) ∧ W'.cell? ⟨T, 1, none⟩ = some (.int .i64 root) :=
  ⟨by rw [cell_of (m.keepc k1 (by decide))]; rfl, by rw [cell_of (m.keepc k2 (by decide))]; rfl, (hT.mut m (by decide)).c1⟩

theorem PrsAt.at {w : World} : ∀ {prs : List Pr} {cs : List Value}, PrsAt w cs prs → ∀ {i : Nat} {p : Pr}, prs[i]? = some p → ∃ A n c bb s f, VlAt w [.slice A n c, .bool bb, .int .i64 s, .int .i64 f] p.2.1 ∧
    cs[i * 5]? = some (.string p.1) ∧ cs[i * 5 + 1]? = some (.slice A n c) ∧ cs[i * 5 + 2]? = some (.bool bb) ∧ cs[i * 5 + 3]? = some (.int .i64 s) ∧ cs[i * 5 + 4]? = some (.int .i64 f)
  | [], cs, _, i, p, hp => by simp at hp
  | q :: prs, cs, ⟨d, cs', h1, h2, h3⟩, i, p, hp => by
    obtain ⟨A, n, c, bb, s, f, rfl⟩ := h2.shape
    subst h1
    cases i with
    | zero =>
      simp at hp; subst hp
      exact ⟨A, n, c, bb, s, f, h2, by simp⟩
    | succ i =>
      obtain ⟨A', n', c', bb', s', f', g1, g2⟩ := PrsAt.at h3 (i := i) (by simpa using hp)
      refine ⟨A', n', c', bb', s', f', g1, ?_⟩
      have e0 : (i + 1) * 5 = i * 5 + 5 := by omega
      have e : ∀ k, i * 5 + 5 + k = (i * 5 + k) + 5 := fun k => by omega
      rw [e0, e 1, e 2, e 3, e 4]
      simpa using g2

/-- Values read, side by side with the pairs. -/
def Rowed (B : Nat) (w : World) (vals : List Value) (prs : List Pr) : Prop := vals.length = prs.length ∧ ∀ (i : Nat) (v : Value) (p : Pr), vals[i]? = some v → prs[i]? = some p → w.ownsRow B 5 1 v p.2.2.length (p.2.2.map u8)

theorem Rowed.mut {B0 B : Nat} {L : List Nat} {w w' : World} {vals : List Value} {prs : List Pr} (h : Rowed B0 w vals prs) (hm : Mut B L w w') (h5 : 5 ∉ L) : Rowed B0 w' vals prs := ⟨h.1, fun i v p hv hp => own_mut (h.2 i v p hv hp) hm h5⟩
theorem Rowed.snoc {B : Nat} {w : World} {vals : List Value} {prs : List Pr} {v : Value} {p : Pr} (h : Rowed B w vals prs) (hv : w.ownsRow B 5 1 v p.2.2.length (p.2.2.map u8)) : Rowed B w (vals ++ [v]) (prs ++ [p]) := by
  refine ⟨by simp [h.1], fun i u q hu hq => ?_⟩
  rcases Nat.lt_trichotomy i vals.length with hi | hi | hi
  · rw [List.getElem?_append_left hi] at hu
    rw [List.getElem?_append_left (by have := h.1; omega)] at hq
    exact h.2 i u q hu hq
  · subst hi
    rw [List.getElem?_append_right (Nat.le_refl _)] at hu
    rw [List.getElem?_append_right (by have := h.1; omega)] at hq
    rw [h.1] at hq hu
    simp at hu hq
    subst hu
    subst hq
    exact hv
  · rw [List.getElem?_eq_none (by simp; omega)] at hu; cases hu

theorem Stays.below {b : Nat} {A B : World} (h : Below A.heap.size A B) : Stays b A B := ⟨h.size, fun _k _o _ hk _ => heap_below hk h (blk_lt hk)⟩

theorem own_stays {w w' : World} {base e sz n : Nat} {v : Value} {xs : List Value} (h : w.ownsRow base e sz v n xs) (hs : Stays base w w') (he : e ∉ freeK) : w'.ownsRow base e sz v n xs := by
  obtain ⟨h1, h2⟩ := h
  refine ⟨h1, ?_⟩
  rcases h2 with h2 | ⟨g, cap, cur, rfl, hb', hgg, r⟩
  · exact .inl h2
  · exact .inr ⟨g, cap, cur, rfl, hb', hs.same g _ hb' hgg he, r⟩

set_option maxRecDepth 4000 in
set_option maxHeartbeats 4000000 in
theorem range_some [Mode] (B : Nat) (w : World) (T p n h b1 b2 : Nat) (cnt : Int) (dead : Bool) (r : PS) (ls ps : List Pg) (lo hi : Option ByteArray) (C : KV) (S : List Nat) (key : ByteArray) (hT : TAt w T p (n : Int) cnt dead) (hp : Pgr B w p r ls ps) (hs : Sub ps h n lo hi C S) (hC : C.length ≤ 100000001)
    (h1 : w.heap[b1]? = some (.cells #[.pointer (some ⟨T, 0, none⟩)] 28 (0, 0))) (h2 : w.heap[b2]? = some (.cells #[.string key] 9 (0, 0))) :
    Gives Tryz.prog 46 #[.pointer (some ⟨b1, 0, none⟩), .pointer (some ⟨b2, 0, none⟩)] encHd (stpHd (fromKV C key)) (fun xs => kvh xs = fromKV C key) w := by
  intro l J W hb hJ hY h0
  have hT1 := hT.mut (.of_below hb 0 []) (by simp)
  have hp1 := hp.below hb
  have k1 := heap_below h1 hb (blk_lt h1)
  have k2 := heap_below h2 hb (blk_lt h2)
  have mA : Mut W.heap.size [] W (W.alloc (.cells #[.slice none 0 0] 97)) := (Mut.refl _ _ _).alloc _
  have e1 := hT1.c1
  have e1' := (hT1.mut mA (by simp)).c1
  have c1 : W.cell? ⟨b1, 0, none⟩ = some (.pointer (some ⟨T, 0, none⟩)) := by rw [cell_of k1]; rfl
  have c1' : (W.alloc (.cells #[.slice none 0 0] 97)).cell? ⟨b1, 0, none⟩ = some (.pointer (some ⟨T, 0, none⟩)) := by rw [cell_of (mA.keepc k1 (by simp))]; rfl
  have c2' : (W.alloc (.cells #[.slice none 0 0] 97)).cell? ⟨b2, 0, none⟩ = some (.string key) := by rw [cell_of (mA.keepc k2 (by simp))]; rfl
  have hn0 : ¬ ((n : Int) < 0) := by omega
  have ha : Acc W.heap.size (W.alloc (.cells #[.slice none 0 0] 97)) ps W.heap.size [] := ⟨Nat.le_refl _, ⟨.slice none 0 0, [], heap_new _ _, ⟨rfl, .inl ⟨rfl, rfl⟩⟩, rfl⟩, by simp⟩
  have hpr := fun (W' : World) (m : Mut 0 [] (W.alloc (.cells #[.slice none 0 0] 97)) W') => pairs_any h B W.heap.size W' T p n W.heap.size _ cnt dead r ls ps lo hi C S key [] ((hT1.mut mA (by simp)).mut m (by simp)) ((hp1.mut mA (by simp) (by simp) (by simp)).mut m (by simp) (by simp) (by simp)) hs (ha.mut m (by simp) (by simp) (by simp)) (Nat.le_trans (Nat.le_succ _) (by have := m.size; simpa using this)) (by simp; omega)
  have hprH := Lib.hid hpr
  have H := Lib.hid (And.intro hJ (And.intro hY (And.intro h0 (And.intro hT1 (And.intro hp1 (And.intro k1 k2))))))
  clear hpr ha hT hp hT1 hp1 hJ hY h0 h1 h2 k1 k2 mA hs
  have mixed : Tryz.prog.follows .mixedOrders = true := by kernel_rfl
  show Calls Tryz.prog 46 #[.func (.yield l) #[] #[], .pointer (some ⟨b1, 0, none⟩), .pointer (some ⟨b2, 0, none⟩)] W _
  go_enter Tryz.func46, Tryz.ntmps46
  have hkeepH := Lib.hid (fun (W' : World) (m : Mut W.heap.size [97, 102] (W.alloc (.cells #[.slice none 0 0] 97)).drew W') => range_keep (W := W) ((H.out.2.2.2.1.mut ((Mut.refl 0 [] W).alloc _) (by simp)).drew) (((Mut.refl 0 [] W).alloc _).keepc H.out.2.2.2.2.2.1 (by simp)) (((Mut.refl 0 [] W).alloc _).keepc H.out.2.2.2.2.2.2 (by simp)) m)
  go_wp2_with fail
  go_region_held3 (fun W' => W'.cell? ⟨b1, 0, none⟩ = some (.pointer (some ⟨T, 0, none⟩)) ∧ W'.cell? ⟨b2, 0, none⟩ = some (.string key) ∧ W'.cell? ⟨T, 1, none⟩ = some (.int .i64 (n : Int))) (first | (with_reducible exact hS2) | (refine hkeepH.out _ ?_; repeat (first | exact Mut.refl _ _ _ | apply Mut.drew | apply Mut.alloc))) (first
    | (go_at_call 47; refine (hprH.out _ (by first | exact Mut.drew (Mut.refl 0 [] _) | exact Mut.refl 0 [] _)).mono ?_; rintro e w1 ⟨rfl, prs, g1, g2, g3⟩; have hS2 := hkeepH.out w1 g3; obtain ⟨hbP, ⟨v, cs, hP, hown, hpa⟩, hvals⟩ := g2; obtain ⟨A1, a1, rfl, hna, hma, -⟩ := own_slice hown; have hPc : w1.cell? ⟨W.heap.size, 0, none⟩ = some (.slice A1 prs.length a1) := (by rw [cell_of hP]; rfl)))
  go_wp2_with fail
  simp only [List.nil_append] at hvals hpa hP hown hna
  have hlp : prs.length ≤ 100000001 := by
    have e1 := congrArg List.length g1
    have e2 := fromKV_len C key
    simp only [kvs, List.length_map] at e1
    omega
  have hW1 : Mut W.heap.size [97, 102] W w1 := by
    have m0 : Mut W.heap.size [97, 102] W (W.alloc (.cells #[.slice none 0 0] 97)).drew := Mut.drew ((Mut.refl _ _ _).alloc _)
    exact m0.trans g3
  have hb1s : Hid (W.heap.size < w1.heap.size) := blk_lt hP
  have HP := Lib.hid (And.intro hown (And.intro hpa (And.intro hvals (And.intro g1 hW1))))
  have hPP := Lib.hid hP
  clear hS2 hkeepH hprH hbP hvals hpa hP hown hPc g1 g3 e1 e1' c1 c1' c2' hW1
  go_loopw [5, 28] (fun u5 u28 wr => ∃ (j : Nat) (vals : List Value), u28 = .int .i64 (j : Int) ∧ j ≤ prs.length ∧ Hid (wr.ownsRow W.heap.size 32 1 u5 j vals ∧ Rowed W.heap.size wr vals (prs.take j) ∧ Mut W.heap.size [32] w1 wr)) (fun _ u28 _ => prs.length - (intOf u28).toNat)
  case atStart => exact ⟨0, [], rfl, Nat.zero_le _, ⟨rfl, .inl ⟨rfl, rfl⟩⟩, ⟨rfl, by simp⟩, .refl _ _ _⟩
  case round =>
    obtain ⟨j, vals, rfl, hj, hI⟩ := hrel
    by_cases hjl : j < prs.length
    · obtain ⟨q, hq⟩ : ∃ q, prs[j]? = some q := ⟨_, List.getElem?_eq_getElem hjl⟩
      obtain ⟨i1, i2, i3⟩ := hI.out
      obtain ⟨hown, hpa, hvals, g1, hW1⟩ := HP.out
      obtain ⟨da, dn, dc, db, ds, df, hva, x0, x1, x2, x3, x4⟩ := hpa.at hq
      obtain ⟨g, cur, rfl, y1, y2, y3, y4⟩ := own_row hown (by omega)
      have y1r := i3.keepc y1 (by decide)
      have z0 := (cell_of y1r (j * 5)).trans ((cell_of y1 (j * 5)).symm.trans (y4 _ _ x0))
      have z1 := (cell_of y1r (j * 5 + 1)).trans ((cell_of y1 (j * 5 + 1)).symm.trans (y4 _ _ x1))
      have z2 := (cell_of y1r (j * 5 + 2)).trans ((cell_of y1 (j * 5 + 2)).symm.trans (y4 _ _ x2))
      have z3 := (cell_of y1r (j * 5 + 3)).trans ((cell_of y1 (j * 5 + 3)).symm.trans (y4 _ _ x3))
      have z4 := (cell_of y1r (j * 5 + 4)).trans ((cell_of y1 (j * 5 + 4)).symm.trans (y4 _ _ x4))
      obtain ⟨hqok, Vq, hqv⟩ := hvals q (List.mem_of_getElem? hq)
      have mB : Mut W.heap.size [97, 102, 32] W (wr.alloc (.cells #[.string q.1, .slice da dn dc, .bool db, .int .i64 ds, .int .i64 df] 102)) := ((hW1.mono (Nat.le_refl _) (by simp)).trans (i3.mono (Nat.le_refl _) (by simp))).alloc _
      have mC : Mut W.heap.size [32] w1 (wr.alloc (.cells #[.string q.1, .slice da dn dc, .bool db, .int .i64 ds, .int .i64 df] 102)) := i3.alloc _
      have c1a : (wr.alloc (.cells #[.string q.1, .slice da dn dc, .bool db, .int .i64 ds, .int .i64 df] 102)).cell? ⟨b1, 0, none⟩ = some (.pointer (some ⟨T, 0, none⟩)) := by rw [cell_of (mB.keepc H.out.2.2.2.2.2.1 (by decide))]; rfl
      have hrd := read_any B _ T p _ _ _ r ls ps q.2.1 _ q.2.2 Vq (H.out.2.2.2.1.mut mB (by decide)) (H.out.2.2.2.2.1.mut mB (by decide) (by decide) (by decide)) hqv hqok (hva.mut mC (by decide))
      have hrdH := Lib.hid hrd
      have hbd1 : Hid (j + 1 ≤ maxLen) := by show _ ≤ _; unfold maxLen; omega
      have hbd2 : Hid ((j + 1) * 24 ≤ 140737488355328) := by show _ ≤ _; omega
      have hz1 : Hid (W.heap.size ≤ (wr.alloc (.cells #[.string q.1, .slice da dn dc, .bool db, .int .i64 ds, .int .i64 df] 102)).heap.size) := mB.size
      have hbel : Hid (Mut W.heap.size [32] w1 (wr.alloc (.cells #[.string q.1, .slice da dn dc, .bool db, .int .i64 ds, .int .i64 df] 102))) := mC
      have hro : (wr.alloc (.cells #[.string q.1, .slice da dn dc, .bool db, .int .i64 ds, .int .i64 df] 102)).ownsRow W.heap.size 32 1 u5 j vals := own_alloc i1 _
      have hrow : Rowed W.heap.size (wr.alloc (.cells #[.string q.1, .slice da dn dc, .bool db, .int .i64 ds, .int .i64 df] 102)) vals (prs.take j) := i2.mut ((Mut.refl 0 [] wr).alloc _) (by simp)
      have hRR := Lib.hid (And.intro hro hrow)
      have hqH := Lib.hid hq
      clear i1 i2 i3 hown hpa hvals g1 hW1 hva x0 x1 x2 x3 x4 y1 y2 y3 y4 hq hqok hqv y1r mB mC hrd hro hrow
      go_wp2_with (first
        | (go_at_call 48; refine hrdH.out.mono ?_; rintro e w2 ⟨v', rfl, o2, bb2⟩; have hby := own_base o2 hz1.out; obtain ⟨A2, a2, rfl, -, -, -⟩ := own_slice o2; clear o2; have hro2 := own_below hRR.out.1 bb2; have hsz2 := bb2.size)
        | (at_builtin; refine wpList_app rfl (.tmp 32) (.tmp 37) 100 rfl W.heap.size 32 _ 1 24 Tryz.underlying100 infoEB rfl (by decide) _ _ _ rfl (by exact own_alloc hro2 _) _ 1 1 [.slice A2 q.2.2.length a2] rfl rfl (by exact at_new _ _ _) (fun h => by cases h) (by intro u hu; simp at hu; subst hu; rfl) hbd1.out hbd2.out (by have := hz1.out; simp at this hsz2 ⊢; omega) ?_; intro v5 w5 o5 m5))
      refine ⟨⟨j + 1, vals ++ [.slice A2 q.2.2.length a2], by simp, hjl, o5, ?_, ?_⟩, by simp [intOf]; omega⟩
      · rw [List.take_add_one, hqH.out, Option.toList_some]
        have mD : Mut 0 [] w2 (w2.alloc (.cells #[.slice A2 q.2.2.length a2] 32)) := (Mut.refl _ _ _).alloc _
        exact ((((hRR.out.2.mut (.of_below bb2 0 []) (by simp)).mut mD (by simp)).mut m5 (by decide))).snoc (own_mut (own_mut hby mD (by simp)) m5 (by decide))
      · exact ((hbel.out.trans (.of_below bb2 _ _)).alloc _).trans m5
    · obtain rfl : j = prs.length := by omega
      obtain ⟨i1, i2, i3⟩ := hI.out
      obtain ⟨hown, hpa, hvals, g1, hW1⟩ := HP.out
      have hm : Mut W.heap.size [97, 102, 32] W wr := (hW1.mono (Nat.le_refl _) (by simp)).trans (i3.mono (Nat.le_refl _) (by simp))
      have hJ0 := H.out.1 [] W wr H.out.2.2.1 (hm.below (Nat.le_refl _))
      have hPr := i3.keepc hPP.out (by decide)
      have hPc : wr.cell? ⟨W.heap.size, 0, none⟩ = some (.slice A1 prs.length a1) := by rw [cell_of hPr]; rfl
      have hownr := own_mut hown i3 (by decide)
      have hpar := hpa.mut i3 (by decide)
      rw [List.take_of_length_le (Nat.le_refl _)] at i2
      have HQ := Lib.hid (And.intro i1 (And.intro i2 (And.intro hownr (And.intro hpar (And.intro hJ0 g1)))))
      clear i1 i2 i3 hown hpa hvals g1 hW1 hm hJ0 hPr hownr hpar
      obtain ⟨A5, a5, rfl, hl5, hm5, -⟩ := own_slice HQ.out.1
      go_wp2_with fail
      obtain ⟨wq, rfl⟩ : ∃ x, x = wr := ⟨_, rfl⟩
      go_loopw [42] (fun u42 w3 => ∃ (j : Nat) (xs : List Hd), u42 = .int .i64 (j : Int) ∧ j ≤ prs.length ∧ Hid (J xs w3 ∧ kvh xs = (kvs prs).take j ∧ Stays W.heap.size wq w3)) (fun u42 _ => prs.length - (intOf u42).toNat)
      case atStart => exact ⟨0, [], rfl, Nat.zero_le _, HQ.out.2.2.2.2.1, rfl, ⟨Nat.le_refl _, fun _ _ _ h _ => h⟩⟩
      case round =>
        obtain ⟨w3, rfl⟩ : ∃ x, x = wr := ⟨_, rfl⟩
        obtain ⟨j, xs, rfl, hj, hI2⟩ := hrel
        by_cases hjl : j < prs.length
        · obtain ⟨i1, i2, i3⟩ := hI2.out
          obtain ⟨o1, ro, o3, pa, -, -⟩ := HQ.out
          obtain ⟨q, hq⟩ : ∃ q, prs[j]? = some q := ⟨_, List.getElem?_eq_getElem hjl⟩
          obtain ⟨v, hv⟩ : ∃ v, vals[j]? = some v := ⟨_, List.getElem?_eq_getElem (by rw [ro.1]; exact hjl)⟩
          obtain ⟨da, dn, dc, db, ds, df, -, x0, x1, x2, x3, x4⟩ := pa.at hq
          have hvo := own_stays (ro.2 j v q hv hq) i3 (by decide)
          obtain ⟨Av, av, rfl, -, -, -⟩ := own_slice hvo
          obtain ⟨g, cur, rfl, y1, y2, y3, y4⟩ := own_row (own_stays o3 i3 (by decide)) (by omega)
          obtain ⟨g5, cur5, rfl, t1, t2, t3, t4⟩ := own_row (own_stays o1 i3 (by decide)) (by omega)
          have z0 := y4 _ _ x0
          have z1 := y4 _ _ x1
          have z2 := y4 _ _ x2
          have z3 := y4 _ _ x3
          have z4 := y4 _ _ x4
          have z5 := t4 _ _ hv
          obtain ⟨ob, hob⟩ : ∃ ob, ob = Obj.cells #[.string q.1, .slice da dn dc, .bool db, .int .i64 ds, .int .i64 df] 102 := ⟨_, rfl⟩
          have hpre : kvh (xs ++ [(q.1, Value.slice Av q.2.2.length av, q.2.2)]) <+: fromKV C key := by
            have e1 : (kvs prs)[j]? = some (q.1, q.2.2) := by simp [kvs, hq]
            have e2 : kvh (xs ++ [(q.1, Value.slice Av q.2.2.length av, q.2.2)]) = (kvs prs).take (j + 1) := by
              rw [List.take_add_one, e1, Option.toList_some, ← i2]
              simp [kvh]
            rw [e2, HQ.out.2.2.2.2.2]; exact List.take_prefix _ _
          have hY := fun (W' : World) (m : Mut 0 [] w3 W') (hb : Below w3.heap.size w3 W') => H.out.2.1 xs (q.1, .slice Av q.2.2.length av, q.2.2) W' (H.out.1 xs w3 W' i1 hb) ⟨byt_own (own_mut hvo m (by simp)), hpre⟩
          clear hpre
          have z6 : (w3.alloc (Obj.cells #[.string q.1, .slice da dn dc, .bool db, .int .i64 ds, .int .i64 df] 102)).cell? ⟨w3.heap.size, 0, none⟩ = some (.string q.1) := by rw [cell_of (heap_new w3 _)]; rfl
          have z7 : (w3.alloc (Obj.cells #[.string q.1, .slice da dn dc, .bool db, .int .i64 ds, .int .i64 df] 102)).cell? ⟨g5, j, none⟩ = some (.slice Av q.2.2.length av) := bel_cell ((Below.refl _ _).alloc (Nat.le_refl _) _) z5
          have hqH := Lib.hid hq
          clear x0 x1 x2 x3 x4 y1 y2 y3 y4 t1 t2 t3 t4 o1 ro o3 pa i1 i2 i3 hvo hq hv hob
          have hS1H := Lib.hid (And.intro z6 z7)
          have hnext : kvh (xs ++ [(q.1, .slice Av q.2.2.length av, q.2.2)]) = (kvs prs).take (j + 1) := by
            have e1 : (kvs prs)[j]? = some (q.1, q.2.2) := by simp [kvs, hqH.out]
            rw [List.take_add_one, e1, Option.toList_some, ← hI2.out.2.1]
            simp [kvh]
          have hst : Stays W.heap.size wq (w3.alloc (Obj.cells #[.string q.1, .slice da dn dc, .bool db, .int .i64 ds, .int .i64 df] 102)).drew := hI2.out.2.2.trans (Stays.below (Below.drew ((Below.refl _ _).alloc (Nat.le_refl _) _)))
          have hYH := Lib.hid hY
          clear hY
          go_wp2_with fail
          clear z0 z1 z2 z3 z4 z5 z6 z7
          have z6 := hS1H.out.1
          have z7 := hS1H.out.2
          have z6d : (w3.alloc (Obj.cells #[.string q.1, .slice da dn dc, .bool db, .int .i64 ds, .int .i64 df] 102)).drew.cell? ⟨w3.heap.size, 0, none⟩ = some (.string q.1) := z6
          have z7d : (w3.alloc (Obj.cells #[.string q.1, .slice da dn dc, .bool db, .int .i64 ds, .int .i64 df] 102)).drew.cell? ⟨g5, j, none⟩ = some (.slice Av q.2.2.length av) := z7
          obtain ⟨fn, tm, asg, bd, hy, hR⟩ := hYH.out (w3.alloc (Obj.cells #[.string q.1, .slice da dn dc, .bool db, .int .i64 ds, .int .i64 df] 102)).drew (Mut.drew ((Mut.refl _ _ _).alloc _)) (Below.drew ((Below.refl _ _).alloc (Nat.le_refl _) _))
          dsimp only [encHd] at hy
          refine (wpIn_wide (n := 0)).1 ?_
          gi_region_with_o (refine ⟨rfl, ?_⟩; refine hR.mono ?_; rintro e W' ⟨rfl, hJ', hs'⟩)
          all_goals
            have hend : ∃ (j' : Nat) (xs' : List Hd), Value.int .i64 ((j : Int) + 1) = .int .i64 (j' : Int) ∧ j' ≤ prs.length ∧ Hid (J xs' W' ∧ kvh xs' = (kvs prs).take j' ∧ Stays W.heap.size wq W') :=
              ⟨j + 1, _, by simp, hjl, hJ', hnext, hst.trans hs'⟩
            clear hYH hS1H z6 z7 z6d z7d hI2
            go_wp2_with fail
            first | exact ⟨hend, by simp [intOf]; omega⟩ | (go_round <;> first | exact hend | (simp [intOf]; omega))
        · obtain rfl : j = prs.length := by omega
          obtain ⟨i1, i2, i3⟩ := hI2.out
          have hfin : kvh xs = fromKV C key := by rw [i2, ← HQ.out.2.2.2.2.2, List.take_of_length_le (by simp [kvs])]
          clear i2 i3
          go_wp2_with fail
          exact bodyPost_end (v := .tuple #[]) (results_none rfl _ _ _) rfl ⟨⟨_, rfl⟩, xs, hfin, i1⟩
end Go.Proofs.YtpfjhehjmhkbpaaGreatDoor

namespace Go.Proofs.YtpfjhehjmhkbpaaGreatDoor
open Go.RowKit

set_option maxRecDepth 4000 in
set_option maxHeartbeats 400000 in
theorem range_make (w : World) (T : Value) (key : ByteArray) (hT : ∃ a, T = .pointer (some ⟨a, 0, none⟩)) :
    Calls Tryz.prog 14 #[T, .string key] w fun e w' => ∃ b1 b2, e = .returned (.func (.func 46) #[] #[.pointer (some ⟨b1, 0, none⟩), .pointer (some ⟨b2, 0, none⟩)]) ∧ w'.heap[b1]? = some (.cells #[T] 28 (0, 0)) ∧ w'.heap[b2]? = some (.cells #[.string key] 9 (0, 0)) ∧ Below w.heap.size w w' := by
  obtain ⟨a, rfl⟩ := hT
  go_enter Tryz.func14, Tryz.ntmps14
  go_wp2
  go_ret
  have e1 := heap_new w (.cells #[.pointer (some ⟨a, 0, none⟩)] 28)
  have e2 := heap_old e1 (.cells #[.string key] 9)
  have e3 := heap_new (w.alloc (.cells #[.pointer (some ⟨a, 0, none⟩)] 28)) (.cells #[.string key] 9)
  simp only [World.size_alloc] at e3
  exact ⟨_, _, rfl, e2, e3, bel_alloc (bel_alloc (Below.refl _ _) _) _⟩

/-- What the made function hands over, whatever the tree. -/
theorem tgives [Mode] (B : Nat) (w : World) (T p b1 b2 : Nat) (r : PS) (ls ps : List Pg) (R h : Nat) (S : List Nat) (C : KV) (key : ByteArray) (t : TreeAt B w T p r ls ps R h S C) (hC : C.length ≤ 100000001)
    (h1 : w.heap[b1]? = some (.cells #[.pointer (some ⟨T, 0, none⟩)] 28 (0, 0))) (h2 : w.heap[b2]? = some (.cells #[.string key] 9 (0, 0))) :
    Gives Tryz.prog 46 #[.pointer (some ⟨b1, 0, none⟩), .pointer (some ⟨b2, 0, none⟩)] encHd (stpHd (fromKV C key)) (fun xs => kvh xs = fromKV C key) w := by
  rcases t.tree with ⟨rfl, rfl, rfl, rfl⟩ | ⟨n, g, rfl, rfl, hs⟩
  · exact range_none w T p b1 b2 _ _ key (by have := t.at_; simpa using this) h1 h2
  · have hT : TAt w T p (n : Int) (C.length : Int) false := by have := t.at_; rw [show (((n + 1 : Nat) : Int) - 1) = (n : Int) by omega] at this; exact this
    exact range_some B w T p n g b1 b2 _ _ r ls ps _ _ C S key hT t.pgr hs hC h1 h2
end Go.Proofs.YtpfjhehjmhkbpaaGreatDoor

namespace Go.Proofs.YtpfjhehjmhkbpaaGreatDoor
open Go.RowKit

set_option maxRecDepth 4000 in
set_option maxHeartbeats 400000 in
theorem len_nil (w : World) : Calls Tryz.prog 15 #[.pointer none] w fun e w' => e = .returned (.int .i64 0) ∧ w = w' := by
  go_enter Tryz.func15, Tryz.ntmps15
  go_wp2
  go_ret
  exact ⟨rfl, rfl⟩

set_option maxRecDepth 4000 in
set_option maxHeartbeats 400000 in
theorem tlen (w : World) (T p : Nat) (root cnt : Int) (dead : Bool) (hT : TAt w T p root cnt dead) : Calls Tryz.prog 15 #[.pointer (some ⟨T, 0, none⟩)] w fun e w' => e = .returned (.int .i64 cnt) ∧ w = w' := by
  have e2 := hT.c2
  have hld := loadI64 T 2 cnt w e2
  clear hT
  go_enter Tryz.func15, Tryz.ntmps15
  go_wp2_with (go_at_call 49; refine hld.mono ?_; rintro e w' ⟨rfl, rfl⟩)
  go_ret
  exact ⟨rfl, rfl⟩
end Go.Proofs.YtpfjhehjmhkbpaaGreatDoor

namespace Go.Proofs.YtpfjhehjmhkbpaaGreatDoor
open Go.RowKit

set_option maxRecDepth 4000 in
set_option maxHeartbeats 400000 in
theorem drop_nil (w : World) : Calls Tryz.prog 24 #[.pointer none] w fun e w' => e = .returned (.tuple #[]) ∧ w = w' := by
  go_enter Tryz.func24, Tryz.ntmps24
  go_wp2
  exact bodyPost_end (v := .tuple #[]) (results_none rfl _ _ _) rfl ⟨rfl, rfl⟩

set_option maxRecDepth 4000 in
set_option maxHeartbeats 400000 in
theorem shape_nil (w : World) : Calls Tryz.prog 16 #[.pointer none] w fun e w' => e = .returned (.tuple #[.int .i64 0, .int .i64 0]) ∧ w = w' := by
  go_enter Tryz.func16, Tryz.ntmps16
  go_wp2
  exact bodyPost_ret (v := .tuple #[.int .i64 0, .int .i64 0]) (by simp [results, Tryz.results16, go_sem]) rfl ⟨rfl, rfl⟩

set_option maxRecDepth 4000 in
set_option maxHeartbeats 400000 in
theorem may_nil (w : World) : Calls Tryz.prog 33 #[.pointer none] w fun e w' => e = .returned (.int .i64 1) ∧ w = w' := by
  go_enter Tryz.func33, Tryz.ntmps33
  go_wp2
  go_ret
  exact ⟨rfl, rfl⟩

set_option maxRecDepth 4000 in
set_option maxHeartbeats 400000 in
theorem get_nil (w : World) (key : ByteArray) : Calls Tryz.prog 22 #[.pointer none, .string key] w fun e w' => e = .returned (.tuple #[.slice none 0 0, .int .i64 7]) ∧ w = w' := by
  go_enter Tryz.func22, Tryz.ntmps22
  go_wp2
  exact bodyPost_ret (v := .tuple #[.slice none 0 0, .int .i64 7]) (by simp [results, Tryz.results22, go_sem]) rfl ⟨rfl, rfl⟩

set_option maxRecDepth 4000 in
set_option maxHeartbeats 400000 in
theorem put_nil (w : World) (key : ByteArray) (v : Value) : Calls Tryz.prog 13 #[.pointer none, .string key, v] w fun e w' => e = .returned (.int .i64 1) ∧ w = w' := by
  have h1 := may_nil w
  go_enter Tryz.func13, Tryz.ntmps13
  go_wp2_with (go_at_call 33; refine h1.mono ?_; rintro e w' ⟨rfl, rfl⟩)
  go_ret
  exact ⟨rfl, rfl⟩

set_option maxRecDepth 4000 in
set_option maxHeartbeats 400000 in
theorem delete_nil (w : World) (key : ByteArray) : Calls Tryz.prog 19 #[.pointer none, .string key] w fun e w' => e = .returned (.int .i64 1) ∧ w = w' := by
  have h1 := may_nil w
  go_enter Tryz.func19, Tryz.ntmps19
  go_wp2_with (go_at_call 33; refine h1.mono ?_; rintro e w' ⟨rfl, rfl⟩)
  go_ret
  exact ⟨rfl, rfl⟩

set_option maxRecDepth 4000 in
set_option maxHeartbeats 400000 in
theorem commit_nil (w : World) : Calls Tryz.prog 18 #[.pointer none] w fun e w' => e = .returned (.int .i64 1) ∧ w = w' := by
  have h1 := may_nil w
  go_enter Tryz.func18, Tryz.ntmps18
  go_wp2_with (go_at_call 33; refine h1.mono ?_; rintro e w' ⟨rfl, rfl⟩)
  go_ret
  exact ⟨rfl, rfl⟩

set_option maxRecDepth 4000 in
set_option maxHeartbeats 400000 in
theorem range_make_nil (w : World) (key : ByteArray) :
    Calls Tryz.prog 14 #[.pointer none, .string key] w fun e w' => ∃ b1 b2, e = .returned (.func (.func 46) #[] #[.pointer (some ⟨b1, 0, none⟩), .pointer (some ⟨b2, 0, none⟩)]) ∧ w'.heap[b1]? = some (.cells #[.pointer none] 28 (0, 0)) ∧ w'.heap[b2]? = some (.cells #[.string key] 9 (0, 0)) ∧ Below w.heap.size w w' := by
  go_enter Tryz.func14, Tryz.ntmps14
  go_wp2
  go_ret
  have e1 := heap_new w (.cells #[.pointer none] 28)
  have e2 := heap_old e1 (.cells #[.string key] 9)
  have e3 := heap_new (w.alloc (.cells #[.pointer none] 28)) (.cells #[.string key] 9)
  simp only [World.size_alloc] at e3
  exact ⟨_, _, rfl, e2, e3, bel_alloc (bel_alloc (Below.refl _ _) _) _⟩

set_option maxRecDepth 4000 in
set_option maxHeartbeats 1000000 in
theorem range_nil (w : World) (b1 b2 : Nat) (h1 : w.heap[b1]? = some (.cells #[.pointer none] 28 (0, 0))) :
    Gives Tryz.prog 46 #[.pointer (some ⟨b1, 0, none⟩), .pointer (some ⟨b2, 0, none⟩)] encHd (stpHd []) (fun xs => kvh xs = []) w := by
  intro l J W hb hJ hY h0
  have k1 := heap_below h1 hb (blk_lt h1)
  have c1 : W.cell? ⟨b1, 0, none⟩ = some (.pointer none) := by rw [cell_of k1]; rfl
  have h0H := Lib.hid h0
  clear hY h1 k1 h0
  show Calls Tryz.prog 46 #[.func (.yield l) #[] #[], .pointer (some ⟨b1, 0, none⟩), .pointer (some ⟨b2, 0, none⟩)] W _
  go_enter Tryz.func46, Tryz.ntmps46
  go_wp2_with fail
  exact bodyPost_ret (v := .tuple #[]) (by simp [results, Tryz.results46, go_sem]) rfl ⟨⟨_, rfl⟩, [], rfl, h0H.out⟩

set_option maxRecDepth 4000 in
set_option maxHeartbeats 400000 in
theorem popen_nil (w : World) (nm : ByteArray) : Calls Tryz.prog 31 #[.pointer none, .string nm] w fun e w' => e = .returned (.tuple #[.pointer none, .int .i64 1]) ∧ w = w' := by
  go_enter Tryz.func31, Tryz.ntmps31
  go_wp2
  exact bodyPost_ret (v := .tuple #[.pointer none, .int .i64 1]) (by simp [results, Tryz.results31, go_sem]) rfl ⟨rfl, rfl⟩

set_option maxRecDepth 4000 in
set_option maxHeartbeats 400000 in
theorem open_nil (w : World) (nm : ByteArray) : Calls Tryz.prog 12 #[.pointer none, .string nm] w fun e w' => e = .returned (.tuple #[.pointer none, .int .i64 1]) ∧ w = w' := by
  have h1 := popen_nil w nm
  go_enter Tryz.func12, Tryz.ntmps12
  go_wp2_with (go_at_call 31; refine h1.mono ?_; rintro e w' ⟨rfl, rfl⟩)
  exact bodyPost_ret (v := .tuple #[.pointer none, .int .i64 1]) (by simp [results, Tryz.results12, go_sem]) rfl ⟨rfl, rfl⟩
end Go.Proofs.YtpfjhehjmhkbpaaGreatDoor

namespace Go.Proofs.YtpfjhehjmhkbpaaGreatDoor
open Go.RowKit

set_option maxRecDepth 4000 in
set_option maxHeartbeats 1000000 in
theorem reads_none (B : Nat) (w : World) (T p : Nat) (root cnt : Int) (dead : Bool) (r : PS) (ls ps : List Pg) (hT : TAt w T p root cnt dead) (hp : Pgr B w p r ls ps) (h0 : hasP ps 0 = false) (hBT : B ≤ T) :
    Calls Tryz.prog 32 #[.pointer (some ⟨T, 0, none⟩)] w fun e w' => e = .returned (.tuple #[]) ∧ TAt w' T p (-1) 0 dead ∧ Mut B [80] w w' := by
  have hTH := Lib.hid hT
  have m1 : Mut B [80] w (w.setCell ⟨T, 1, none⟩ (.int .i64 (-1))) := (Mut.refl B [80] w).setCell (p := ⟨T, 1, none⟩) hT (by simp) hBT _
  have hT1 := heap_set hT 1 (.int .i64 (-1))
  have m2 : Mut B [80] w ((w.setCell ⟨T, 1, none⟩ (.int .i64 (-1))).setCell ⟨T, 2, none⟩ (.int .i64 0)) := m1.setCell (p := ⟨T, 2, none⟩) hT1 (by simp) hBT _
  have hT2 := heap_set hT1 2 (.int .i64 0)
  have e1 := hT.c1
  have f1 := hT.unfrozen 1
  have c2 : (w.setCell ⟨T, 1, none⟩ (.int .i64 (-1))).cell? ⟨T, 2, none⟩ = some (.int .i64 cnt) := by rw [cell_of hT1]; rfl
  have f2 := unfrozen_of hT1 2
  have hst := storeI64 T 2 cnt 0 _ c2 f2
  have hT3 : TAt ((w.setCell ⟨T, 1, none⟩ (.int .i64 (-1))).setCell ⟨T, 2, none⟩ (.int .i64 0)) T p (-1) 0 dead := hT2
  have c0 := hT3.c0
  have hget := gget_none (hp.mut m2 (by decide) (by decide) (by decide)) h0 (by omega)
  have H := Lib.hid (And.intro m2 hT3)
  clear m1 m2 hT hT1 hT2 hT3 hp f2 c2
  go_enter Tryz.func32, Tryz.ntmps32
  go_wp2_with (first
    | (go_at_call 42; refine hst.mono ?_; rintro e w' ⟨rfl, rfl⟩)
    | (go_at_call 76; refine hget.mono ?_; rintro e w' ⟨rfl, rfl⟩))
  exact bodyPost_ret (v := .tuple #[]) (by simp [results, Tryz.results32, go_sem]) rfl ⟨rfl, H.out.2, H.out.1⟩
end Go.Proofs.YtpfjhehjmhkbpaaGreatDoor

namespace Go.Proofs.YtpfjhehjmhkbpaaGreatDoor
open Go.RowKit

theorem zs_getD (i : Nat) : zs.getD i 0 = 0 := by
  unfold zs
  rw [List.getD_eq_getElem?_getD, List.getElem?_replicate]
  split <;> rfl

theorem marks0 : Marks zs [] [] :=
  ⟨zs_length, fun i => by rw [zs_getD]; omega, fun n _ => rfl, fun n h => by unfold bit at h; rw [zs_getD] at h; simp at h⟩

/-- The pager over a file system with nothing, as its callers see it. -/
theorem pgr0 {B : Nat} {w : World} {p F : Nat} {nm : ByteArray} (h : Pager0 B w p F nm) : ∃ J, Pgr B w p { pz (.pointer (some ⟨F, 0, none⟩)) nm with journal := .pointer (some ⟨J, 0, none⟩) } [] [] := by
  obtain ⟨hB, J, hb⟩ := h
  refine ⟨J, .slice none 0 0, zs, ⟨hB, hb, ⟨World.ownsRow_nil _ _ _ _, fun x hx => by simp at hx⟩, by simp, ⟨World.ownsRow_nil _ _ _ _, fun x hx => by simp at hx⟩, fun k hk => by simp [pz, Value.ownBlock] at hk⟩, rfl, marks0⟩

set_option maxRecDepth 4000 in
set_option maxHeartbeats 1000000 in
theorem topen [Mode] (B F : Nat) (room : Int) (nm : ByteArray) (w : World) (h1 : 1 ≤ nm.size) (h100 : nm.size ≤ 100) (h : FS0 B w F room) :
    Calls Tryz.prog 12 #[.pointer (some ⟨F, 0, none⟩), .string nm] w fun e w' => ∃ T p r, e = .returned (.tuple #[.pointer (some ⟨T, 0, none⟩), .int .i64 0]) ∧ TreeAt w.heap.size w' T p r [] [] 0 0 [] [] ∧ Below w.heap.size w w' := by
  have hop := popen0 B F room nm w h1 h100 h
  clear h
  go_enter Tryz.func12, Tryz.ntmps12
  go_wp2_with (first
    | (go_at_call 31; refine hop.mono ?_; rintro e w1 ⟨p, rfl, hp0, b1⟩; obtain ⟨J, hp⟩ := pgr0 hp0; clear hp0; generalize ({ pz (.pointer (some ⟨F, 0, none⟩)) nm with journal := .pointer (some ⟨J, 0, none⟩) } : PS) = r at hp; have hpH := Lib.hid hp; clear hp)
    | (go_at_call 32; refine (reads_none w.heap.size _ _ p 0 0 false r [] [] (heap_new w1 (.cells #[.pointer (some ⟨p, 0, none⟩), .int .i64 0, .int .i64 0, .bool false] 80)) (hpH.out.below (bel_alloc (Below.refl _ _) _)) rfl b1.size).mono ?_; rintro e w2 ⟨rfl, hT, m2⟩))
  refine bodyPost_ret (v := .tuple #[.pointer (some ⟨w1.heap.size, 0, none⟩), .int .i64 0]) (by simp [results, Tryz.results12, go_sem]) rfl ⟨_, p, r, rfl, ?_, ?_⟩
  · refine ⟨b1.size, hT, (hpH.out.below (bel_alloc (Below.refl _ _) _)).mut m2 (by decide) (by decide) (by decide), by simp, by simp, fun n => by simp [hasP], .inl ⟨rfl, rfl⟩, .inl ⟨rfl, rfl, rfl, rfl⟩⟩
  · exact (b1.alloc b1.size _).trans (m2.below (by have := b1.size; simp; omega))
end Go.Proofs.YtpfjhehjmhkbpaaGreatDoor

namespace Go.Proofs.YtpfjhehjmhkbpaaGreatDoor
open Go.RowKit

theorem calls_marks {P : Program} {f : FuncId} {fn : Func} {c : Code} {args : Array Value} {w : World} {R : Ending → World → Prop} (hf : P.funcs[f]? = some fn) (hb : fn.body = some c)
    (h : c.wp P (bodyPostM Fence.wide 0 P fn R) { tmps := args ++ Array.replicate (fn.ntmps - args.size) undef, defers := [] } w) : Calls P f args w R :=
  (callsIn_wide (n := 0)).1 (callsIn_of_wp_marks hf hb trivial ((wpIn_wide (n := 0)).2 h))

theorem oty_put {o : Obj} (h : o.isCells = false) : oty o = 900000 ∨ oty o = 900001 := by
  cases o <;> simp_all [Obj.isCells, oty]

/-- A block that is no cells is turned. -/
theorem mut_put {B l : Nat} {W : World} {o : Obj} (hB : B ≤ l) (ho : W.heap[l]? = some o) (hc : o.isCells = false) (o' : Obj) : Mut B [900000, 900001] W (W.putObj l o') := by
  refine ⟨rfl, rfl, rfl, by simp [World.putObj], fun k ok hk hcase => ?_⟩
  by_cases hkl : k = l
  · subst hkl
    rw [ho] at hk
    cases hk
    rcases hcase with h | h
    · omega
    · rcases oty_put hc with e | e <;> simp [e] at h
  · rw [World.putObj_heap_other (by omega)]; exact hk

theorem bel_put {B l : Nat} {w W : World} {o : Obj} (h : Below B w W) (hB : B ≤ l) (ho : W.heap[l]? = some o) (hc : o.isCells = false) (o' : Obj) (hs : B ≤ w.heap.size) : Below B w (W.putObj l o') :=
  h.trans ((mut_put hB ho hc o').below (by have := h.size; omega))
end Go.Proofs.YtpfjhehjmhkbpaaGreatDoor
