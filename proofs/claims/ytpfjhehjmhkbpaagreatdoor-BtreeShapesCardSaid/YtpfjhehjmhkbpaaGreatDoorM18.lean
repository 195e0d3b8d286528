/- put: a key gets a value below a page. The region's walk was printed by wip/tools/mkregion.py. -/
import Derived.Test.YtpfjhehjmhkbpaaGreatDoorM16
import Derived.Test.YtpfjhehjmhkbpaaGreatDoorM17
namespace Go.Proofs.YtpfjhehjmhkbpaaGreatDoor
open Go.RowKit

/-- What put does at a page of that height. -/
def PutSpec [Mode] (h : Nat) : Prop := ∀ (B : Nat) (w : World) (T p n : Nat) (root cnt : Int) (dead : Bool) (r : PS) (ls ps : List Pg) (lo hi : Option ByteArray) (C : KV) (S : List Nat) (key : ByteArray) (b : List UInt8) (vl : Vl) (cs : List Value) (V : List Nat),
    TAt w T p root cnt dead → Pgr B w p r ls ps → Sub ps h n lo hi C S → (S ++ V).Nodup → key.size ≤ 200 → Fit key vl → vl.Ok → leO lo key → ltO key hi → VlAt w cs vl → VlOf ps vl b V → h + 1 ≤ room ps → B ≤ w.heap.size → B ≤ T → 0 ≤ cnt → cnt ≤ 1000000000 →
    Calls Tryz.prog 44 #[.pointer (some ⟨T, 0, none⟩), .int .i64 (n : Int), .string key, .agg cs.toArray] w fun e w' => ∃ v, e = .returned v ∧ Grown_ B w.heap.size T p root (cnt + ((insKV C key b).length - C.length : Int)) dead r ls ps (S ++ V) h n lo hi (insKV C key b) (h + 1) v w' ∧ Mut B [133, 147, 80] w w'

theorem put_zero [Mode] : PutSpec 0 := by
  intro B w T p n root cnt dead r ls ps lo hi C S key b vl cs V hT hp hs hd hks hin hvo hlo hhi hva hv hr hB hBT hc0 hc1
  obtain ⟨x, Tl, rfl, hx, hl, hg, hb⟩ := hs
  have hris : Rises (C.map (·.1)) := by rw [← hb.keys]; exact hb.rises
  have hcl : C.length = x.keys.length := by rw [hb.keys, List.length_map]
  have hlen : ((insKV C key b).length : Int) - C.length = if hasKey x.keys key then 0 else 1 := by
    rw [insKV_take hris, ← hb.keys, kidIdx_eq hb.rises]
    have h1 := below_le x.keys key
    have h2 : hasKey x.keys key = true → below x.keys key < x.keys.length := fun h => by
      unfold hasKey at h
      simp only [decide_eq_true_eq] at h
      exact (List.getElem?_eq_some_iff.1 h).1
    simp only [List.length_append, List.length_cons, List.length_take, List.length_drop]
    cases hk : hasKey x.keys key
    · simp; omega
    · have := h2 hk; simp; omega
  rw [hlen]
  cases hk : hasKey x.keys key
  · simp only [Bool.false_eq_true, if_false]
    exact put_leaf_new B w T p n root cnt dead r ls ps x lo hi C Tl key b vl cs V hT hp hx hl hg hb hd hks hin hvo hlo hhi hva hv (by omega) hB hBT hc0 hc1 hk
  · simp only [if_true, Int.add_zero]
    refine (put_leaf_old B w T p n root cnt dead r ls ps x lo hi C Tl key b vl cs V hT hp hx hl hg hb hd hin hvo hva hv (by omega) hB hk).mono ?_
    rintro e w' ⟨v, rfl, h1, h2⟩
    exact ⟨v, rfl, h1, h2.mono (Nat.le_refl _) (by simp)⟩

theorem insertI1 (base : Nat) (w : World) (v : Value) (n i vb : Nat) (xs news : List Value) (hown : w.ownsRow base 3 1 v n xs) (hxs : ∀ u ∈ xs, u.oneCell' = true) (hnv : w.heap[vb]? = some (.cells news.toArray 3 (0, 0))) (hnl : news.length = 1)
    (h1v : ∀ v ∈ news, v.oneCell' = true) (hne : v.ownBlock ≠ some vb) (hin : i + 1 ≤ n) (hbig : (n + 1) * 8 ≤ 140737488355328) (hbase : base ≤ w.heap.size) :
    Calls Tryz.prog 92 #[v, .int .i64 ((i : Int) + 1), .slice (some ⟨vb, 0, none⟩) 1 1] w fun e w' => ∃ v',
      e = .returned v' ∧ w'.ownsRow base 3 1 v' (n + 1) (ins xs ((i + 1) * 1) news) ∧ Mut base [3] w w' := insertI base w v n (i + 1) vb xs news hown hxs hnv hnl h1v hne hin hbig hbase

theorem ri_of {w1 : World} {q rq : Nat} {e k v i d0 d1 : Value} {B : Nat} (hq : w1.heap[q]? = some (.cells #[e, k, v, i] 92 (0, 0))) (hb : w1.heap[rq]? = some (.cells #[d0, d1] 161 (0, 0))) (W : World) (m : Mut B [9] w1 W) :
    W.cell? ⟨q, 1, none⟩ = some k ∧ W.cell? ⟨q, 3, none⟩ = some i ∧ W.cell? ⟨rq, 0, none⟩ = some d0 ∧ W.cell? ⟨rq, 1, none⟩ = some d1 ∧ Mut B [9] w1 W := by
  have h1 := m.keepc hq (by decide)
  have h2 := m.keepc hb (by decide)
  exact ⟨by rw [cell_of h1]; rfl, by rw [cell_of h1]; rfl, by rw [cell_of h2]; rfl, by rw [cell_of h2]; rfl, m⟩

set_option maxRecDepth 4000 in
set_option maxHeartbeats 4000000 in
theorem put_succ [Mode] (h : Nat) (ih : PutSpec h) : PutSpec (h + 1) := by
  intro B w T p n root cnt dead r ls ps lo hi C S key b vl cs V hT hp hs hd hks hin hvo hlo hhi hva hv hr hB hBT hc0 hc1
  obtain ⟨x, Tl, rfl, hx, hl, hg, hlf, hkd⟩ := hs
  obtain ⟨da, dn, dc, db, ds, df, rfl⟩ := hva.shape
  have hrise := hkd.keys.1
  obtain ⟨m, l, rr, Ci, Si, hm, hsub, hle, hlt, hnd, hlen, hone_, htwo⟩ := hkd.put (key := key) (b := b) (V := V) hx hl hg hlf hd hlo hhi
  have hld := fun (o : Obj) => load_sub (hT.mut ((Mut.refl 0 [] w).alloc o) (by simp)) (hp.mut ((Mut.refl 0 [] w).alloc o) (by simp) (by simp) (by simp)) hx hg hl
  have hfew := few512 hg.ok hl
  obtain ⟨i, hi'⟩ : ∃ i, i = kidIdx x.keys key := ⟨_, rfl⟩
  obtain ⟨K, hK⟩ : ∃ K, K = x.keys.length := ⟨_, rfl⟩
  have hik : i ≤ K := by rw [hi', hK]; exact kidIdx_le _ _
  have hkl : x.kids.length = K + 1 := by rw [hK]; exact (hg.ok.nd hlf).1
  have hpl := fun (W : World) (q : Nat) (h : NodeAt (w.heap.size + 1) W q x) => kid_any _ W q x key h hrise (by omega)
  rw [← hi'] at hpl hm htwo
  have hldH := Lib.hid hld
  have hplH := Lib.hid hpl
  rw [← hK] at hfew
  have hone1 := Lib.hid (one_str x.keys)
  have hone2 := Lib.hid (one_int x.kids)
  have hbd1 := Lib.hid (show (K + 1) * 16 ≤ 140737488355328 by omega)
  have hbd2 := Lib.hid (show (K + 1 + 1) * 8 ≤ 140737488355328 by omega)
  have hikH := Lib.hid hik
  have H := Lib.hid (And.intro hT (And.intro hp (And.intro hx (And.intro hg (And.intro hd (And.intro hva (And.intro hv (And.intro hi' (And.intro hK (And.intro hkl (And.intro hlf (And.intro hl (And.intro hr hm)))))))))))))
  have H0 := Lib.hid (And.intro hsub (And.intro hle (And.intro hlt (And.intro hnd (And.intro hlen (And.intro hone_ htwo))))))
  have ihH := Lib.hid ih
  clear hld hpl hT hp hx hg hd hva hv hi' hK hkl hlf hl hr hm hsub hle hlt hnd hlen hone_ htwo ih hrise hkd
  go_enter Tryz.func44, Tryz.ntmps44
  go_wp2_with (first
    | (go_at_call 53; refine (hldH.out _).mono ?_; rintro e w1 ⟨q, rfl, n1, b1⟩; have e0 := n1.leaf0; rw [H.out.2.2.2.2.2.2.2.2.2.2.1] at e0; have n1H := Lib.hid n1; clear n1)
    | (go_at_call 91; refine (hplH.out w1 q (by have := n1H.out; simpa using this)).mono ?_; rintro e w' ⟨rfl, rfl⟩))
  obtain ⟨hT, hp, hx, hg, hd, hva, hv, hi', hK, hkl, hlf, hl, hr, hm⟩ := H.out
  have hT1 := (hT.mut ((Mut.refl 0 [] w).alloc (.cells #[.slice da dn dc, .bool db, .int .i64 ds, .int .i64 df] 86)) (by simp)).below b1
  have hp1 := (hp.mut ((Mut.refl 0 [] w).alloc (.cells #[.slice da dn dc, .bool db, .int .i64 ds, .int .i64 df] 86)) (by simp) (by simp) (by simp)).below b1
  have hva1 := (hva.mut ((Mut.refl 0 [] w).alloc (.cells #[.slice da dn dc, .bool db, .int .i64 ds, .int .i64 df] 86)) (by simp)).mut (.of_below b1 0 []) (by simp)
  have hpb := heap_below (heap_new w (.cells #[.slice da dn dc, .bool db, .int .i64 ds, .int .i64 df] 86)) b1 (by simp)
  have hw1 : Below w.heap.size w w1 := bel_then ((Below.refl _ _).alloc (Nat.le_refl _) _) (by simp) b1
  have n1 := n1H.out
  simp only [World.size_alloc] at n1
  obtain ⟨hBq, kv, vv, iv, vc, hq, o1, o2v, hvals, o2⟩ := n1
  obtain ⟨A1, c1, rfl, l1, m1, -⟩ := own_slice o1
  obtain ⟨A2, c2, rfl, l2, m2', -⟩ := own_slice o2
  rw [hlf] at hq
  rw [hkl] at hq o2 l2
  rw [← hK] at hq o1 l1
  obtain ⟨kg, kcur, rfl, kg1, kg2, kg3, kg4⟩ := own_row o2 (by omega)
  have hb1 := b1.size
  simp only [World.size_alloc] at hb1
  have ek := kg4 i (.int .i64 (m : Int)) (by rw [List.getElem?_map, hm]; rfl)
  have e3 : w1.cell? ⟨q, 3, none⟩ = some (.slice (some ⟨kg, 0, none⟩) (K + 1) c2) := by rw [cell_of hq]; rfl
  have p0 : w1.cell? ⟨w.heap.size, 0, none⟩ = some (.slice da dn dc) := by rw [cell_of hpb]; rfl
  have p1 : w1.cell? ⟨w.heap.size, 1, none⟩ = some (.bool db) := by rw [cell_of hpb]; rfl
  have p2 : w1.cell? ⟨w.heap.size, 2, none⟩ = some (.int .i64 ds) := by rw [cell_of hpb]; rfl
  have p3 : w1.cell? ⟨w.heap.size, 3, none⟩ = some (.int .i64 df) := by rw [cell_of hpb]; rfl
  have hcall := fun (W : World) (hW : W = w1.drew ∨ W = w1) => ihH.out B W T p m root cnt dead r ls ps l rr Ci Si key b vl [.slice da dn dc, .bool db, .int .i64 ds, .int .i64 df] V (by rcases hW with rfl | rfl; exact hT1.drew; exact hT1) (by rcases hW with rfl | rfl; exact hp1.drew; exact hp1) H0.out.1 H0.out.2.2.2.1 hks hin hvo H0.out.2.1 H0.out.2.2.1
    (by rcases hW with rfl | rfl; exact hva1.mut (Mut.drew (Mut.refl 0 [] w1)) (by simp); exact hva1) hv (by omega) (by rcases hW with rfl | rfl <;> (have := hw1.size; simp; omega)) hBT hc0 hc1
  have hcallH := Lib.hid hcall
  have hqk := Lib.hid hq
  have hkk := Lib.hid kg1
  have hpk := Lib.hid hpb
  have ho1H := Lib.hid o1
  have hik1 : i < K + 1 := by omega
  have hik2 : (0 : Int) ≤ (i : Int) := by omega
  have hik3 : (i : Int) < (K : Int) + 1 := by omega
  have hik4 : (i : Int) < ((K + 1 : Nat) : Int) := by omega
  have mixed : Tryz.prog.follows .mixedOrders = true := by kernel_rfl
  have H1 := Lib.hid (And.intro hT1 (And.intro hp1 (And.intro hva1 (And.intro hw1 (And.intro hvals (And.intro o2v (And.intro hq (And.intro o2 l2))))))))
  clear hT hp hx hg hd hva hv hi' hK hkl hlf hl hr hm hT1 hp1 hva1 hw1 hvals o2v m1 m2' e0 hcall kg1 kg2 kg3 kg4 hpb o1 o2 hq
  have hS1 : w1.drew.cell? ⟨q, 3, none⟩ = some (.slice (some ⟨kg, 0, none⟩) (K + 1) c2) ∧ w1.drew.cell? ⟨kg, i, none⟩ = some (.int .i64 (m : Int)) ∧ w1.drew.cell? ⟨w.heap.size, 0, none⟩ = some (.slice da dn dc) ∧ w1.drew.cell? ⟨w.heap.size, 1, none⟩ = some (.bool db) ∧ w1.drew.cell? ⟨w.heap.size, 2, none⟩ = some (.int .i64 ds) ∧ w1.drew.cell? ⟨w.heap.size, 3, none⟩ = some (.int .i64 df) := ⟨e3, ek, p0, p1, p2, p3⟩
  have hS1H := Lib.hid hS1
  have hkeep : ∀ W, Mut B [133, 147, 80] w1.drew W → W.cell? ⟨q, 3, none⟩ = some (.slice (some ⟨kg, 0, none⟩) (K + 1) c2) ∧ W.cell? ⟨kg, i, none⟩ = some (.int .i64 (m : Int)) ∧ W.cell? ⟨w.heap.size, 0, none⟩ = some (.slice da dn dc) ∧ W.cell? ⟨w.heap.size, 1, none⟩ = some (.bool db) ∧ W.cell? ⟨w.heap.size, 2, none⟩ = some (.int .i64 ds) ∧ W.cell? ⟨w.heap.size, 3, none⟩ = some (.int .i64 df) := fun W hm =>
    ⟨mut_cell hm (c := _) (hqk.out : w1.drew.heap[q]? = _) (by decide) e3, mut_cell hm (hkk.out : w1.drew.heap[kg]? = _) (by decide) ek, mut_cell hm (hpk.out : w1.drew.heap[w.heap.size]? = _) (by decide) p0, mut_cell hm (hpk.out : w1.drew.heap[w.heap.size]? = _) (by decide) p1, mut_cell hm (hpk.out : w1.drew.heap[w.heap.size]? = _) (by decide) p2, mut_cell hm (hpk.out : w1.drew.heap[w.heap.size]? = _) (by decide) p3⟩
  have hkeepH := Lib.hid hkeep
  clear hS1 hkeep
  go_wp2_with fail
  go_region_held3 (fun W => W.cell? ⟨q, 3, none⟩ = some (.slice (some ⟨kg, 0, none⟩) (K + 1) c2) ∧ W.cell? ⟨kg, i, none⟩ = some (.int .i64 (m : Int)) ∧ W.cell? ⟨w.heap.size, 0, none⟩ = some (.slice da dn dc) ∧ W.cell? ⟨w.heap.size, 1, none⟩ = some (.bool db) ∧ W.cell? ⟨w.heap.size, 2, none⟩ = some (.int .i64 ds) ∧ W.cell? ⟨w.heap.size, 3, none⟩ = some (.int .i64 df)) (first | (with_reducible exact hS1H.out) | (with_reducible exact hS2)) (first
    | (go_at_call 44; refine (hcallH.out _ (.inl rfl)).mono ?_; rintro e w2 ⟨v2, rfl, g2, mm2⟩; have hS2 := hkeepH.out w2 mm2))
  clear hS2
  obtain ⟨ps1, o, hri, hgrow, hp2, hT2, hroom⟩ := g2
  have hww2 : Mut B [133, 147, 80] w w2 := (Mut.of_below H1.out.2.2.2.1 B [133, 147, 80]).trans ⟨mm2.os, mm2.tape, mm2.output, mm2.size, mm2.block⟩
  cases o with
  | none =>
    obtain rfl : v2 = .pointer none := hri
    have hfin : ∃ v, Value.pointer none = v ∧ Grown_ B w.heap.size T p root (cnt + ((insKV C key b).length - C.length : Int)) dead r ls ps (n :: Tl ++ V) (h + 1) n lo hi (insKV C key b) (h + 1 + 1) v w2 := by
      refine ⟨_, rfl, ps1, none, rfl, H0.out.2.2.2.2.2.1 ps1 hgrow, hp2, ?_, by omega⟩
      rw [H0.out.2.2.2.2.1]; exact hT2
    have hfinH := Lib.hid hfin
    clear hgrow hp2 hT2 hroom hfin
    go_wp2
    go_ret
    obtain ⟨v, rfl, hg⟩ := hfinH.out
    exact ⟨_, rfl, hg, hww2⟩
  | some km =>
    obtain ⟨k, m2⟩ := km
    obtain ⟨rq, rfl, hrB, hrq⟩ := hri
    obtain ⟨T', hst, hbd, hksz, hkt, hm2, hn1⟩ := H0.out.2.2.2.2.2.2 ps1 k m2 hgrow
    obtain ⟨hT1, hp1, hva1, hw1, hvals, o2v, hq, o2, l2'⟩ := H1.out
    have mq : Mut B [133, 147, 80] w1 w2 := ⟨mm2.os, mm2.tape, mm2.output, mm2.size, mm2.block⟩
    have hq2 := mq.keepc hq (by decide)
    have o1 := own_mut ho1H.out mq (by decide)
    have o22 := own_mut o2 mq (by decide)
    have hvals2 := hvals.mut mq (by decide)
    have o2v2 := own_mut o2v mq (by decide)
    have hsz2 : w.heap.size + 1 ≤ w2.heap.size := Nat.le_trans hb1 mq.size
    have hra := Lib.hid (ri_of (B := w.heap.size + 1) hq2 hrq)
    have honek := Lib.hid (show ∀ v ∈ [Value.string k], v.oneCell' = true from fun u hu => by simp at hu; subst hu; rfl)
    have hone4 := Lib.hid (show ∀ v ∈ [Value.int .i64 (m2 : Int)], v.oneCell' = true from fun u hu => by simp at hu; subst hu; rfl)
    have hne2 := Lib.hid (own_block_lt o22)
    have hne1 := Lib.hid (own_block_lt o1)
    have hw1' : IntKind.i64.wrap ((i : Int) + 1) = (i : Int) + 1 := by rw [IntKind.wrap_i64]; omega
    have hfin : ∀ (w17 : World) (A9 : Option Addr) (c9 : Nat) (A17 : Option Addr) (c17 : Nat), Mut (w.heap.size + 1) [9, 3] w2 w17 → w17.ownsRow (w.heap.size + 1) 9 1 (.slice A9 (K + 1) c9) (K + 1) (ins (x.keys.map .string) (i * 1) [.string k]) →
        w17.ownsRow (w.heap.size + 1) 3 1 (.slice A17 (K + 1 + 1) c17) (K + 1 + 1) (ins (x.kids.map fun k : Nat => Value.int .i64 (k : Int)) ((i + 1) * 1) [.int .i64 (m2 : Int)]) →
        Calls Tryz.prog 90 #[.pointer (some ⟨T, 0, none⟩), .int .i64 (n : Int), .pointer (some ⟨q, 0, none⟩)] ((w17.setCell ⟨q, 1, none⟩ (.slice A9 (K + 1) c9)).setCell ⟨q, 3, none⟩ (.slice A17 (K + 1 + 1) c17)) fun e w' =>
          ∃ v, e = .returned v ∧ Grown_ B w.heap.size T p root (cnt + ((insKV C key b).length - C.length : Int)) dead r ls ps (n :: Tl ++ V) (h + 1) n lo hi (insKV C key b) (h + 1 + 1) v w' ∧ Mut B [133, 147, 80] w w' := by
      intro w17 A9 c9 A17 c17 M17 o9 o17
      obtain ⟨hT, hp, hx, hg, hd, hva, hv, hi', hK, hkl, hlf, hl, hr, hm⟩ := H.out
      have hq17 := M17.keepc hq2 (by decide)
      have hm1 : Mut (w.heap.size + 1) [92] w17 (w17.setCell ⟨q, 1, none⟩ (.slice A9 (K + 1) c9)) := (Mut.refl _ _ _).setCell (p := ⟨q, 1, none⟩) hq17 (by simp) hBq _
      have hmm : Mut (w.heap.size + 1) [92] w17 ((w17.setCell ⟨q, 1, none⟩ (.slice A9 (K + 1) c9)).setCell ⟨q, 3, none⟩ (.slice A17 (K + 1 + 1) c17)) := hm1.setCell (p := ⟨q, 3, none⟩) (heap_set hq17 _ _) (by simp) hBq _
      have hq4 := heap_set (heap_set hq17 1 (.slice A9 (K + 1) c9)) 3 (.slice A17 (K + 1 + 1) c17)
      generalize (w17.setCell ⟨q, 1, none⟩ (.slice A9 (K + 1) c9)).setCell ⟨q, 3, none⟩ (.slice A17 (K + 1 + 1) c17) = w4 at *
      have M4 : Mut (w.heap.size + 1) [9, 3, 92] w2 w4 := (M17.mono (Nat.le_refl _) (by simp)).trans (hmm.mono (Nat.le_refl _) (by simp))
      have hkl2 : (x.addKid i k m2).keys.length = K + 1 := by show (ins x.keys _ _).length = _; rw [ins_length, ← hK]; rfl
      have hkd2 : (x.addKid i k m2).kids.length = K + 1 + 1 := by show (ins x.kids _ _).length = _; rw [ins_length, hkl]; rfl
      have n4 : NodeAt (w.heap.size + 1) w4 q (x.addKid i k m2) := by
        refine ⟨hBq, .slice A9 (K + 1) c9, vv, .slice A17 (K + 1 + 1) c17, vc, ?_, ?_, own_mut o2v2 M4 (by decide), hvals2.mut M4 (by decide), ?_⟩
        · rw [show (x.addKid i k m2).leaf = false from hlf]; exact hq4
        · rw [hkl2]
          have e : (x.addKid i k m2).keys.map Value.string = ins (x.keys.map .string) (i * 1) [.string k] := by
            show (ins x.keys i [k]).map _ = _
            rw [Nat.mul_one]; simp [ins, List.map_take, List.map_drop]
          rw [e]
          exact own_mut o9 hmm (by decide)
        · rw [hkd2]
          have e : ((x.addKid i k m2).kids.map fun k : Nat => Value.int .i64 (k : Int)) = ins (x.kids.map fun k : Nat => Value.int .i64 (k : Int)) ((i + 1) * 1) [.int .i64 (m2 : Int)] := by
            show (ins x.kids (i + 1) [m2]).map _ = _
            rw [Nat.mul_one]; simp [ins, List.map_take, List.map_drop]
          rw [e]
          exact own_mut o17 hmm (by decide)
      have hT4 := hT2.mut M4 (by decide)
      have hw4 : Mut B [133, 147, 80] w w4 := hww2.local_ (M4.mono (by omega) (fun _ h => h))
      have hgd := Nd.addKid_good hg hlf hl (i := i) (by omega) hksz hm2 hkt
      have hs := settles_any B _ w4 T p n q (h + 1) root _ dead r ls ps1 _ lo hi (insKV C key b) T' hT4 (hp2.mut M4 (by decide) (by decide) (by decide)) n4 hgd.1 hbd hn1 hst.nd
        (by rw [if_neg (by rw [show (x.addKid i k m2).leaf = false from hlf]; decide)]; exact hgd.2) (by omega) (by have := hw4.size; omega)
      refine hs.mono ?_
      rintro e w6 ⟨v6, rfl, ⟨ps', o, h1, h2, h3, h4, h5⟩, m6⟩
      refine ⟨v6, rfl, ⟨ps', o, ?_, h2.before hst, h3, ?_, by omega⟩, hw4.trans (m6.mono (Nat.le_refl _) (by simp))⟩
      · have hsz := hw4.size
        cases o with
        | none => exact h1
        | some km => obtain ⟨rq, a1, a2, a3⟩ := h1; exact ⟨rq, a1, by omega, a3⟩
      · rw [H0.out.2.2.2.2.1]; exact h4
    have hfinH := Lib.hid hfin
    have hqH := Lib.hid hq2
    have hrbH := Lib.hid hrB
    clear hfin hst hbd hksz hkt hm2 hn1 hT1 hp1 hva1 hw1 hvals o2v hq o2 l2' mq hvals2 o2v2 hgrow hp2 hT2 hroom hww2 mm2 e3 ek p0 p1 p2 p3 hrB
    have o2 := o22
    clear o22
    have hq := hqH.out
    have r0 : w2.cell? ⟨rq, 0, none⟩ = some (.string k) := by rw [cell_of hrq]; rfl
    clear hrq r0
    go_wp2_with fail
    refine wp_region_noPanic ?_
    refine wp_region_B (A := (fun W => W.cell? ⟨q, 1, none⟩ = some (.slice A1 K c1) ∧ W.cell? ⟨q, 3, none⟩ = some (.slice (some ⟨kg, 0, none⟩) (K + 1) c2) ∧ W.cell? ⟨rq, 0, none⟩ = some (.string k) ∧ W.cell? ⟨rq, 1, none⟩ = some (.int .i64 (m2 : Int)) ∧ Mut (w.heap.size + 1) [9] w2 W)) (b := 24) (by kernel_rfl) (hra.out _ ((Mut.refl _ _ _).drew)) (fun hHeld => ?_)
    refine wpAnyB_takeY (i := 0) (v := ?_) rfl (by kernel_rfl) (by kernel_rfl) (by kernel_rfl) (by kernel_rfl) (fun _ _ _ h => h) (Or.inl ⟨by rfl, ?_⟩) hHeld ?_
    rotate_left 1
    · ((intro w hSw; clear hSw; go_simp) <;> (with_reducible rfl))
    (try simp only [Act.put, List.setIfInBounds_toArray, List.set_cons_zero, List.set_cons_succ])
    refine wpAnyB_takeY (i := 1) (v := ?_) rfl (by kernel_rfl) (by kernel_rfl) (by kernel_rfl) (by kernel_rfl) (fun _ _ _ h => h) (Or.inl ⟨by rfl, ?_⟩) hHeld ?_
    rotate_left 1
    · ((intro w hSw; clear hSw; go_simp) <;> (with_reducible rfl))
    (try simp only [Act.put, List.setIfInBounds_toArray, List.set_cons_zero, List.set_cons_succ])
    refine wpAnyB_take (i := 2) (v := ?_) rfl (by kernel_rfl) (by kernel_rfl) (by kernel_rfl) [24, 12, 5, 4, 3] (by kernel_rfl) (by kernel_rfl) (fun _ _ _ h => h) (Or.inl ⟨by rfl, ?_⟩) hHeld ?_
    rotate_left 1
    · ((intro w hSw; (try dsimp only at hSw); go_simp) <;> (with_reducible rfl))
    (try simp only [Act.put, List.setIfInBounds_toArray, List.set_cons_zero, List.set_cons_succ])
    refine wpAnyB_take (i := 3) (v := ?_) rfl (by kernel_rfl) (by kernel_rfl) (by kernel_rfl) [24, 12, 5, 4] (by kernel_rfl) (by kernel_rfl) (fun _ _ _ h => h) (Or.inl ⟨by rfl, ?_⟩) hHeld ?_
    rotate_left 1
    · ((intro w hSw; (try dsimp only at hSw); go_simp) <;> (with_reducible rfl))
    (try simp only [Act.put, List.setIfInBounds_toArray, List.set_cons_zero, List.set_cons_succ])
    refine wpAnyB_take (i := 4) (v := ?_) rfl (by kernel_rfl) (by kernel_rfl) (by kernel_rfl) [24, 12, 5] (by kernel_rfl) (by kernel_rfl) (fun _ _ _ h => h) (Or.inl ⟨by rfl, ?_⟩) hHeld ?_
    rotate_left 1
    · ((intro w hSw; (try dsimp only at hSw); go_simp) <;> (with_reducible rfl))
    (try simp only [Act.put, List.setIfInBounds_toArray, List.set_cons_zero, List.set_cons_succ])
    refine wpAnyB_take (i := 5) (v := ?_) rfl (by kernel_rfl) (by kernel_rfl) (by kernel_rfl) [24, 12] (by kernel_rfl) (by kernel_rfl) (fun _ _ _ h => h) (Or.inl ⟨by rfl, ?_⟩) hHeld ?_
    rotate_left 1
    · ((intro w hSw; (try dsimp only at hSw); go_simp) <;> (with_reducible rfl))
    (try simp only [Act.put, List.setIfInBounds_toArray, List.set_cons_zero, List.set_cons_succ])
    refine wpAnyB_take (i := 6) (v := ?_) rfl (by kernel_rfl) (by kernel_rfl) (by kernel_rfl) [24, 12] (by kernel_rfl) (by kernel_rfl) (fun _ _ _ h => h) (Or.inl ⟨by rfl, ?_⟩) hHeld ?_
    rotate_left 1
    · ((intro w hSw; (try dsimp only at hSw); go_simp) <;> (with_reducible rfl))
    (try simp only [Act.put, List.setIfInBounds_toArray, List.set_cons_zero, List.set_cons_succ])
    refine wpAnyB_take (i := 7) (v := ?_) rfl (by kernel_rfl) (by kernel_rfl) (by kernel_rfl) [24, 12, 11, 10, 9, 8] (by kernel_rfl) (by kernel_rfl) (fun _ _ _ h => h) (Or.inl ⟨by rfl, ?_⟩) hHeld ?_
    rotate_left 1
    · ((intro w hSw; (try dsimp only at hSw); go_simp) <;> (with_reducible rfl))
    (try simp only [Act.put, List.setIfInBounds_toArray, List.set_cons_zero, List.set_cons_succ])
    refine wpAnyB_take (i := 8) (v := ?_) rfl (by kernel_rfl) (by kernel_rfl) (by kernel_rfl) [24, 12, 11, 10, 9] (by kernel_rfl) (by kernel_rfl) (fun _ _ _ h => h) (Or.inl ⟨by rfl, ?_⟩) hHeld ?_
    rotate_left 1
    · ((intro w hSw; (try dsimp only at hSw); go_simp) <;> (with_reducible rfl))
    (try simp only [Act.put, List.setIfInBounds_toArray, List.set_cons_zero, List.set_cons_succ])
    refine wpAnyB_take (i := 9) (v := ?_) rfl (by kernel_rfl) (by kernel_rfl) (by kernel_rfl) [24, 12, 11, 10] (by kernel_rfl) (by kernel_rfl) (fun _ _ _ h => h) (Or.inl ⟨by rfl, ?_⟩) hHeld ?_
    rotate_left 1
    · ((intro w hSw; (try dsimp only at hSw); go_simp) <;> (with_reducible rfl))
    (try simp only [Act.put, List.setIfInBounds_toArray, List.set_cons_zero, List.set_cons_succ])
    refine wpAnyB_take (i := 10) (v := ?_) rfl (by kernel_rfl) (by kernel_rfl) (by kernel_rfl) [24, 12, 11] (by kernel_rfl) (by kernel_rfl) (fun _ _ _ h => h) (Or.inl ⟨by rfl, ?_⟩) hHeld ?_
    rotate_left 1
    · ((intro w hSw; (try dsimp only at hSw); go_simp) <;> (with_reducible rfl))
    (try simp only [Act.put, List.setIfInBounds_toArray, List.set_cons_zero, List.set_cons_succ])
    refine wpAnyB_take (i := 13) (v := ?_) rfl (by kernel_rfl) (by kernel_rfl) (by kernel_rfl) [24, 16, 15, 14] (by kernel_rfl) (by kernel_rfl) (fun _ _ _ h => h) (Or.inl ⟨by rfl, ?_⟩) hHeld ?_
    rotate_left 1
    · ((intro w hSw; (try dsimp only at hSw); go_simp) <;> (with_reducible rfl))
    (try simp only [Act.put, List.setIfInBounds_toArray, List.set_cons_zero, List.set_cons_succ])
    refine wpAnyB_take (i := 14) (v := ?_) rfl (by kernel_rfl) (by kernel_rfl) (by kernel_rfl) [24, 16, 15] (by kernel_rfl) (by kernel_rfl) (fun _ _ _ h => h) (Or.inl ⟨by rfl, ?_⟩) hHeld ?_
    rotate_left 1
    · ((intro w hSw; (try dsimp only at hSw); go_simp) <;> (with_reducible rfl))
    (try simp only [Act.put, List.setIfInBounds_toArray, List.set_cons_zero, List.set_cons_succ])
    refine wpAnyB_take (i := 15) (v := ?_) rfl (by kernel_rfl) (by kernel_rfl) (by kernel_rfl) [24, 16] (by kernel_rfl) (by kernel_rfl) (fun _ _ _ h => h) (Or.inl ⟨by rfl, ?_⟩) hHeld ?_
    rotate_left 1
    · ((intro w hSw; (try dsimp only at hSw); go_simp) <;> (with_reducible rfl))
    (try simp only [Act.put, List.setIfInBounds_toArray, List.set_cons_zero, List.set_cons_succ])
    refine wpAnyB_take (i := 16) (v := ?_) rfl (by kernel_rfl) (by kernel_rfl) (by kernel_rfl) [24] (by kernel_rfl) (by kernel_rfl) (fun _ _ _ h => h) (Or.inl ⟨by rfl, ?_⟩) hHeld ?_
    rotate_left 1
    · ((intro w hSw; (try dsimp only at hSw); go_simp) <;> (with_reducible rfl))
    (try simp only [Act.put, List.setIfInBounds_toArray, List.set_cons_zero, List.set_cons_succ])
    refine wpAnyB_take (i := 17) (v := ?_) rfl (by kernel_rfl) (by kernel_rfl) (by kernel_rfl) [24, 18] (by kernel_rfl) (by kernel_rfl) (fun _ _ _ h => h) (Or.inl ⟨by rfl, ?_⟩) hHeld ?_
    rotate_left 1
    · ((intro w hSw; (try dsimp only at hSw); go_simp) <;> (with_reducible rfl))
    (try simp only [Act.put, List.setIfInBounds_toArray, List.set_cons_zero, List.set_cons_succ])
    refine wpAnyB_take (i := 18) (v := ?_) rfl (by kernel_rfl) (by kernel_rfl) (by kernel_rfl) [24] (by kernel_rfl) (by kernel_rfl) (fun _ _ _ h => h) (Or.inl ⟨by rfl, ?_⟩) hHeld ?_
    rotate_left 1
    · ((intro w hSw; (try dsimp only at hSw); go_simp) <;> (with_reducible rfl))
    (try simp only [Act.put, List.setIfInBounds_toArray, List.set_cons_zero, List.set_cons_succ])
    refine wpAnyB_take (i := 19) (v := ?_) rfl (by kernel_rfl) (by kernel_rfl) (by kernel_rfl) [24, 23, 22, 21, 20] (by kernel_rfl) (by kernel_rfl) (fun _ _ _ h => h) (Or.inl ⟨by rfl, ?_⟩) hHeld ?_
    rotate_left 1
    · ((intro w hSw; (try dsimp only at hSw); go_simp) <;> (with_reducible rfl))
    (try simp only [Act.put, List.setIfInBounds_toArray, List.set_cons_zero, List.set_cons_succ])
    refine wpAnyB_take (i := 20) (v := ?_) rfl (by kernel_rfl) (by kernel_rfl) (by kernel_rfl) [24, 23, 22, 21] (by kernel_rfl) (by kernel_rfl) (fun _ _ _ h => h) (Or.inl ⟨by rfl, ?_⟩) hHeld ?_
    rotate_left 1
    · ((intro w hSw; (try dsimp only at hSw); go_simp) <;> (with_reducible rfl))
    (try simp only [Act.put, List.setIfInBounds_toArray, List.set_cons_zero, List.set_cons_succ])
    refine wpAnyB_take (i := 21) (v := ?_) rfl (by kernel_rfl) (by kernel_rfl) (by kernel_rfl) [24, 23, 22] (by kernel_rfl) (by kernel_rfl) (fun _ _ _ h => h) (Or.inl ⟨by rfl, ?_⟩) hHeld ?_
    rotate_left 1
    · ((intro w hSw; (try dsimp only at hSw); go_simp) <;> (with_reducible rfl))
    (try simp only [Act.put, List.setIfInBounds_toArray, List.set_cons_zero, List.set_cons_succ])
    refine wpAnyB_take (i := 22) (v := ?_) rfl (by kernel_rfl) (by kernel_rfl) (by kernel_rfl) [24, 23] (by kernel_rfl) (by kernel_rfl) (fun _ _ _ h => h) (Or.inl ⟨by rfl, ?_⟩) hHeld ?_
    rotate_left 1
    · ((intro w hSw; (try dsimp only at hSw); go_simp) <;> (with_reducible rfl))
    (try simp only [Act.put, List.setIfInBounds_toArray, List.set_cons_zero, List.set_cons_succ])
    refine wpAnyB_ready (rs := [11, 23]) (by kernel_rfl) (by simp) ?_
    refine AllReadyB.pre rfl (fun Kq hKq => ?_) ?_
    · go_simp
      refine hKq.out _ _ (hra.out _ (hHeld.2.2.2.2.alloc _)) (fun hHeld => ?_)
      clear hKq Kq
      (try simp only [Act.put, List.setIfInBounds_toArray, List.set_cons_zero, List.set_cons_succ])
      refine wpAnyB_ready (rs := [12, 23]) (by kernel_rfl) (by simp) ?_
      refine AllReadyB.pre rfl (fun Kq hKq => ?_) ?_
      · go_simp
        (go_at_call 87; refine (insertS (w.heap.size + 1) _ (.slice A1 K c1) K i _ _ [.string k] (by first | exact own_alloc (own_alloc o1 _) _ | exact own_alloc o1 _) hone1.out (by first | exact heap_at _ trivial (by simp) | exact heap_old (heap_at _ trivial (by simp)) _) rfl honek.out (hne1.out _ (by simp)) hikH.out hbd1.out (by simp; omega)).mono ?_; rintro e w9 ⟨v9, rfl, o9, m9⟩; obtain ⟨A9, c9, rfl, hc9, -, -⟩ := own_slice o9)
        (try go_wp2_with fail)
        refine hKq.out _ _ (hra.out _ (hHeld.2.2.2.2.trans m9)) (fun hHeld => ?_)
        clear hKq Kq
        (try simp only [Act.put, List.setIfInBounds_toArray, List.set_cons_zero, List.set_cons_succ])
        refine wpAnyB_ready (rs := [23]) (by kernel_rfl) (by simp) ?_
        refine AllReadyB.pre rfl (fun Kq hKq => ?_) ?_
        · go_simp
          refine hKq.out _ _ (hra.out _ (hHeld.2.2.2.2.alloc _)) (fun hHeld => ?_)
          clear hKq Kq
          (try simp only [Act.put, List.setIfInBounds_toArray, List.set_cons_zero, List.set_cons_succ])
          refine wpAnyB_ready (rs := [24]) (by kernel_rfl) (by simp) ?_
          refine AllReadyB.post rfl (by kernel_rfl) (fun Kq hKq => ?_) ?_
          · go_simp
            (go_at_call 92; refine (insertI1 (w.heap.size + 1) _ (.slice (some ⟨kg, 0, none⟩) (K + 1) c2) (K + 1) i _ _ [.int .i64 (m2 : Int)] (by exact own_mut o2 hHeld.2.2.2.2 (by decide)) hone2.out (by first | exact heap_at _ trivial (by simp) | exact m9.keepc (heap_at _ trivial (by simp)) (by decide) | exact m9.keepc (heap_old (heap_at _ trivial (by simp)) _) (by decide)) rfl hone4.out (hne2.out _ (by first | (have := m9.size; simp at this ⊢; omega) | (simp; omega) | simp)) (Nat.succ_le_succ hikH.out) hbd2.out (by have := (hHeld.2.2.2.2).size; omega)).mono ?_; rintro e w17 ⟨v17, rfl, o17, m17⟩; obtain ⟨A17, c17, rfl, hc17, -, -⟩ := own_slice o17; have M17 : Mut (w.heap.size + 1) [9, 3] w2 w17 := ((hHeld.2.2.2.2).mono (Nat.le_refl _) (by simp)).trans (m17.mono (Nat.le_refl _) (by simp)); have hq17 := M17.keepc hq (by decide); have y1 : w17.cell? ⟨q, 1, none⟩ = some (.slice A1 K c1) := (by rw [cell_of hq17]; rfl); have y2 : w17.cell? ⟨q, 3, none⟩ = some (.slice (some ⟨kg, 0, none⟩) (K + 1) c2) := (by rw [cell_of hq17]; rfl); have z1 := unfrozen_of hq17 1; have z2 := unfrozen_of hq17 3; have o99 : w17.ownsRow (w.heap.size + 1) 9 1 (.slice A9 (K + 1) c9) (K + 1) (ins (x.keys.map .string) (i * 1) [.string k]) := (by first | exact own_mut o9 m17 (by decide) | exact own_mut (own_alloc o9 _) m17 (by decide)))
            (try go_wp2_with fail)
            refine hKq.out _ _ ?_
            clear hKq Kq
            (try simp only [Act.put, List.setIfInBounds_toArray, List.set_cons_zero, List.set_cons_succ])
            refine wpAnyB_ready (rs := [25]) (by kernel_rfl) (by simp) ?_
            refine AllReadyB.post rfl (by kernel_rfl) (fun Kq hKq => ?_) ?_
            · go_simp
              refine hKq.out _ _ ?_
              clear hKq Kq
              (try simp only [Act.put, List.setIfInBounds_toArray, List.set_cons_zero, List.set_cons_succ])
              refine wpAnyB_ready (rs := [26]) (by kernel_rfl) (by simp) ?_
              refine AllReadyB.post rfl (by kernel_rfl) (fun Kq hKq => ?_) ?_
              · go_simp
                refine hKq.out _ _ ?_
                clear hKq Kq
                (try simp only [Act.put, List.setIfInBounds_toArray, List.set_cons_zero, List.set_cons_succ])
                refine wpAnyB_ready (rs := [27]) (by kernel_rfl) (by simp) ?_
                refine AllReadyB.post rfl (by kernel_rfl) (fun Kq hKq => ?_) ?_
                · go_simp
                  refine hKq.out _ _ ?_
                  clear hKq Kq
                  (try simp only [Act.put, List.setIfInBounds_toArray, List.set_cons_zero, List.set_cons_succ])
                  refine wpAnyB_ready (rs := [28]) (by kernel_rfl) (by simp) ?_
                  refine AllReadyB.post rfl (by kernel_rfl) (fun Kq hKq => ?_) ?_
                  · go_simp
                    refine hKq.out _ _ ?_
                    clear hKq Kq
                    (try simp only [Act.put, List.setIfInBounds_toArray, List.set_cons_zero, List.set_cons_succ])
                    refine wpAnyB_ready (rs := [29]) (by kernel_rfl) (by simp) ?_
                    refine AllReadyB.post rfl (by kernel_rfl) (fun Kq hKq => ?_) ?_
                    · go_simp
                      refine hKq.out _ _ ?_
                      clear hKq Kq
                      (try simp only [Act.put, List.setIfInBounds_toArray, List.set_cons_zero, List.set_cons_succ])
                      refine wpAnyB_ready (rs := [30]) (by kernel_rfl) (by simp) ?_
                      refine AllReadyB.post rfl (by kernel_rfl) (fun Kq hKq => ?_) ?_
                      · go_simp
                        refine hKq.out _ _ ?_
                        clear hKq Kq
                        (try simp only [Act.put, List.setIfInBounds_toArray, List.set_cons_zero, List.set_cons_succ])
                        refine wpAnyB_done (by kernel_rfl) ?_ _
                        refine NoPanic.normal ?_
                        have t3 := hfinH.out _ _ _ _ _ M17 o99 o17
                        go_wp2_with (go_at_call 90; refine t3.mono ?_; rintro e w6 ⟨v6, rfl, g6, m6⟩)
                        go_ret
                        exact ⟨v6, rfl, g6, m6⟩
                      exact AllReadyB.nil
                    exact AllReadyB.nil
                  exact AllReadyB.nil
                exact AllReadyB.nil
              exact AllReadyB.nil
            exact AllReadyB.nil
          exact AllReadyB.nil
        exact AllReadyB.nil
      refine AllReadyB.pre rfl (fun Kq hKq => ?_) ?_
      · go_simp
        refine hKq.out _ _ (hra.out _ (hHeld.2.2.2.2.alloc _)) (fun hHeld => ?_)
        clear hKq Kq
        (try simp only [Act.put, List.setIfInBounds_toArray, List.set_cons_zero, List.set_cons_succ])
        refine wpAnyB_ready (rs := [12]) (by kernel_rfl) (by simp) ?_
        refine AllReadyB.pre rfl (fun Kq hKq => ?_) ?_
        · go_simp
          (go_at_call 87; refine (insertS (w.heap.size + 1) _ (.slice A1 K c1) K i _ _ [.string k] (by first | exact own_alloc (own_alloc o1 _) _ | exact own_alloc o1 _) hone1.out (by first | exact heap_at _ trivial (by simp) | exact heap_old (heap_at _ trivial (by simp)) _) rfl honek.out (hne1.out _ (by simp)) hikH.out hbd1.out (by simp; omega)).mono ?_; rintro e w9 ⟨v9, rfl, o9, m9⟩; obtain ⟨A9, c9, rfl, hc9, -, -⟩ := own_slice o9)
          (try go_wp2_with fail)
          refine hKq.out _ _ (hra.out _ (hHeld.2.2.2.2.trans m9)) (fun hHeld => ?_)
          clear hKq Kq
          (try simp only [Act.put, List.setIfInBounds_toArray, List.set_cons_zero, List.set_cons_succ])
          refine wpAnyB_ready (rs := [24]) (by kernel_rfl) (by simp) ?_
          refine AllReadyB.post rfl (by kernel_rfl) (fun Kq hKq => ?_) ?_
          · go_simp
            (go_at_call 92; refine (insertI1 (w.heap.size + 1) _ (.slice (some ⟨kg, 0, none⟩) (K + 1) c2) (K + 1) i _ _ [.int .i64 (m2 : Int)] (by exact own_mut o2 hHeld.2.2.2.2 (by decide)) hone2.out (by first | exact heap_at _ trivial (by simp) | exact m9.keepc (heap_at _ trivial (by simp)) (by decide) | exact m9.keepc (heap_old (heap_at _ trivial (by simp)) _) (by decide)) rfl hone4.out (hne2.out _ (by first | (have := m9.size; simp at this ⊢; omega) | (simp; omega) | simp)) (Nat.succ_le_succ hikH.out) hbd2.out (by have := (hHeld.2.2.2.2).size; omega)).mono ?_; rintro e w17 ⟨v17, rfl, o17, m17⟩; obtain ⟨A17, c17, rfl, hc17, -, -⟩ := own_slice o17; have M17 : Mut (w.heap.size + 1) [9, 3] w2 w17 := ((hHeld.2.2.2.2).mono (Nat.le_refl _) (by simp)).trans (m17.mono (Nat.le_refl _) (by simp)); have hq17 := M17.keepc hq (by decide); have y1 : w17.cell? ⟨q, 1, none⟩ = some (.slice A1 K c1) := (by rw [cell_of hq17]; rfl); have y2 : w17.cell? ⟨q, 3, none⟩ = some (.slice (some ⟨kg, 0, none⟩) (K + 1) c2) := (by rw [cell_of hq17]; rfl); have z1 := unfrozen_of hq17 1; have z2 := unfrozen_of hq17 3; have o99 : w17.ownsRow (w.heap.size + 1) 9 1 (.slice A9 (K + 1) c9) (K + 1) (ins (x.keys.map .string) (i * 1) [.string k]) := (by first | exact own_mut o9 m17 (by decide) | exact own_mut (own_alloc o9 _) m17 (by decide)))
            (try go_wp2_with fail)
            refine hKq.out _ _ ?_
            clear hKq Kq
            (try simp only [Act.put, List.setIfInBounds_toArray, List.set_cons_zero, List.set_cons_succ])
            refine wpAnyB_ready (rs := [25]) (by kernel_rfl) (by simp) ?_
            refine AllReadyB.post rfl (by kernel_rfl) (fun Kq hKq => ?_) ?_
            · go_simp
              refine hKq.out _ _ ?_
              clear hKq Kq
              (try simp only [Act.put, List.setIfInBounds_toArray, List.set_cons_zero, List.set_cons_succ])
              refine wpAnyB_ready (rs := [26]) (by kernel_rfl) (by simp) ?_
              refine AllReadyB.post rfl (by kernel_rfl) (fun Kq hKq => ?_) ?_
              · go_simp
                refine hKq.out _ _ ?_
                clear hKq Kq
                (try simp only [Act.put, List.setIfInBounds_toArray, List.set_cons_zero, List.set_cons_succ])
                refine wpAnyB_ready (rs := [27]) (by kernel_rfl) (by simp) ?_
                refine AllReadyB.post rfl (by kernel_rfl) (fun Kq hKq => ?_) ?_
                · go_simp
                  refine hKq.out _ _ ?_
                  clear hKq Kq
                  (try simp only [Act.put, List.setIfInBounds_toArray, List.set_cons_zero, List.set_cons_succ])
                  refine wpAnyB_ready (rs := [28]) (by kernel_rfl) (by simp) ?_
                  refine AllReadyB.post rfl (by kernel_rfl) (fun Kq hKq => ?_) ?_
                  · go_simp
                    refine hKq.out _ _ ?_
                    clear hKq Kq
                    (try simp only [Act.put, List.setIfInBounds_toArray, List.set_cons_zero, List.set_cons_succ])
                    refine wpAnyB_ready (rs := [29]) (by kernel_rfl) (by simp) ?_
                    refine AllReadyB.post rfl (by kernel_rfl) (fun Kq hKq => ?_) ?_
                    · go_simp
                      refine hKq.out _ _ ?_
                      clear hKq Kq
                      (try simp only [Act.put, List.setIfInBounds_toArray, List.set_cons_zero, List.set_cons_succ])
                      refine wpAnyB_ready (rs := [30]) (by kernel_rfl) (by simp) ?_
                      refine AllReadyB.post rfl (by kernel_rfl) (fun Kq hKq => ?_) ?_
                      · go_simp
                        refine hKq.out _ _ ?_
                        clear hKq Kq
                        (try simp only [Act.put, List.setIfInBounds_toArray, List.set_cons_zero, List.set_cons_succ])
                        refine wpAnyB_done (by kernel_rfl) ?_ _
                        refine NoPanic.normal ?_
                        have t3 := hfinH.out _ _ _ _ _ M17 o99 o17
                        go_wp2_with (go_at_call 90; refine t3.mono ?_; rintro e w6 ⟨v6, rfl, g6, m6⟩)
                        go_ret
                        exact ⟨v6, rfl, g6, m6⟩
                      exact AllReadyB.nil
                    exact AllReadyB.nil
                  exact AllReadyB.nil
                exact AllReadyB.nil
              exact AllReadyB.nil
            exact AllReadyB.nil
          exact AllReadyB.nil
        exact AllReadyB.nil
      exact AllReadyB.nil
    refine AllReadyB.pre rfl (fun Kq hKq => ?_) ?_
    · go_simp
      refine hKq.out _ _ (hra.out _ (hHeld.2.2.2.2.alloc _)) (fun hHeld => ?_)
      clear hKq Kq
      (try simp only [Act.put, List.setIfInBounds_toArray, List.set_cons_zero, List.set_cons_succ])
      refine wpAnyB_ready (rs := [11]) (by kernel_rfl) (by simp) ?_
      refine AllReadyB.pre rfl (fun Kq hKq => ?_) ?_
      · go_simp
        refine hKq.out _ _ (hra.out _ (hHeld.2.2.2.2.alloc _)) (fun hHeld => ?_)
        clear hKq Kq
        (try simp only [Act.put, List.setIfInBounds_toArray, List.set_cons_zero, List.set_cons_succ])
        refine wpAnyB_ready (rs := [12]) (by kernel_rfl) (by simp) ?_
        refine AllReadyB.pre rfl (fun Kq hKq => ?_) ?_
        · go_simp
          (go_at_call 87; refine (insertS (w.heap.size + 1) _ (.slice A1 K c1) K i _ _ [.string k] (by first | exact own_alloc (own_alloc o1 _) _ | exact own_alloc o1 _) hone1.out (by first | exact heap_at _ trivial (by simp) | exact heap_old (heap_at _ trivial (by simp)) _) rfl honek.out (hne1.out _ (by simp)) hikH.out hbd1.out (by simp; omega)).mono ?_; rintro e w9 ⟨v9, rfl, o9, m9⟩; obtain ⟨A9, c9, rfl, hc9, -, -⟩ := own_slice o9)
          (try go_wp2_with fail)
          refine hKq.out _ _ (hra.out _ (hHeld.2.2.2.2.trans m9)) (fun hHeld => ?_)
          clear hKq Kq
          (try simp only [Act.put, List.setIfInBounds_toArray, List.set_cons_zero, List.set_cons_succ])
          refine wpAnyB_ready (rs := [24]) (by kernel_rfl) (by simp) ?_
          refine AllReadyB.post rfl (by kernel_rfl) (fun Kq hKq => ?_) ?_
          · go_simp
            (go_at_call 92; refine (insertI1 (w.heap.size + 1) _ (.slice (some ⟨kg, 0, none⟩) (K + 1) c2) (K + 1) i _ _ [.int .i64 (m2 : Int)] (by exact own_mut o2 hHeld.2.2.2.2 (by decide)) hone2.out (by first | exact heap_at _ trivial (by simp) | exact m9.keepc (heap_at _ trivial (by simp)) (by decide) | exact m9.keepc (heap_old (heap_at _ trivial (by simp)) _) (by decide)) rfl hone4.out (hne2.out _ (by first | (have := m9.size; simp at this ⊢; omega) | (simp; omega) | simp)) (Nat.succ_le_succ hikH.out) hbd2.out (by have := (hHeld.2.2.2.2).size; omega)).mono ?_; rintro e w17 ⟨v17, rfl, o17, m17⟩; obtain ⟨A17, c17, rfl, hc17, -, -⟩ := own_slice o17; have M17 : Mut (w.heap.size + 1) [9, 3] w2 w17 := ((hHeld.2.2.2.2).mono (Nat.le_refl _) (by simp)).trans (m17.mono (Nat.le_refl _) (by simp)); have hq17 := M17.keepc hq (by decide); have y1 : w17.cell? ⟨q, 1, none⟩ = some (.slice A1 K c1) := (by rw [cell_of hq17]; rfl); have y2 : w17.cell? ⟨q, 3, none⟩ = some (.slice (some ⟨kg, 0, none⟩) (K + 1) c2) := (by rw [cell_of hq17]; rfl); have z1 := unfrozen_of hq17 1; have z2 := unfrozen_of hq17 3; have o99 : w17.ownsRow (w.heap.size + 1) 9 1 (.slice A9 (K + 1) c9) (K + 1) (ins (x.keys.map .string) (i * 1) [.string k]) := (by first | exact own_mut o9 m17 (by decide) | exact own_mut (own_alloc o9 _) m17 (by decide)))
            (try go_wp2_with fail)
            refine hKq.out _ _ ?_
            clear hKq Kq
            (try simp only [Act.put, List.setIfInBounds_toArray, List.set_cons_zero, List.set_cons_succ])
            refine wpAnyB_ready (rs := [25]) (by kernel_rfl) (by simp) ?_
            refine AllReadyB.post rfl (by kernel_rfl) (fun Kq hKq => ?_) ?_
            · go_simp
              refine hKq.out _ _ ?_
              clear hKq Kq
              (try simp only [Act.put, List.setIfInBounds_toArray, List.set_cons_zero, List.set_cons_succ])
              refine wpAnyB_ready (rs := [26]) (by kernel_rfl) (by simp) ?_
              refine AllReadyB.post rfl (by kernel_rfl) (fun Kq hKq => ?_) ?_
              · go_simp
                refine hKq.out _ _ ?_
                clear hKq Kq
                (try simp only [Act.put, List.setIfInBounds_toArray, List.set_cons_zero, List.set_cons_succ])
                refine wpAnyB_ready (rs := [27]) (by kernel_rfl) (by simp) ?_
                refine AllReadyB.post rfl (by kernel_rfl) (fun Kq hKq => ?_) ?_
                · go_simp
                  refine hKq.out _ _ ?_
                  clear hKq Kq
                  (try simp only [Act.put, List.setIfInBounds_toArray, List.set_cons_zero, List.set_cons_succ])
                  refine wpAnyB_ready (rs := [28]) (by kernel_rfl) (by simp) ?_
                  refine AllReadyB.post rfl (by kernel_rfl) (fun Kq hKq => ?_) ?_
                  · go_simp
                    refine hKq.out _ _ ?_
                    clear hKq Kq
                    (try simp only [Act.put, List.setIfInBounds_toArray, List.set_cons_zero, List.set_cons_succ])
                    refine wpAnyB_ready (rs := [29]) (by kernel_rfl) (by simp) ?_
                    refine AllReadyB.post rfl (by kernel_rfl) (fun Kq hKq => ?_) ?_
                    · go_simp
                      refine hKq.out _ _ ?_
                      clear hKq Kq
                      (try simp only [Act.put, List.setIfInBounds_toArray, List.set_cons_zero, List.set_cons_succ])
                      refine wpAnyB_ready (rs := [30]) (by kernel_rfl) (by simp) ?_
                      refine AllReadyB.post rfl (by kernel_rfl) (fun Kq hKq => ?_) ?_
                      · go_simp
                        refine hKq.out _ _ ?_
                        clear hKq Kq
                        (try simp only [Act.put, List.setIfInBounds_toArray, List.set_cons_zero, List.set_cons_succ])
                        refine wpAnyB_done (by kernel_rfl) ?_ _
                        refine NoPanic.normal ?_
                        have t3 := hfinH.out _ _ _ _ _ M17 o99 o17
                        go_wp2_with (go_at_call 90; refine t3.mono ?_; rintro e w6 ⟨v6, rfl, g6, m6⟩)
                        go_ret
                        exact ⟨v6, rfl, g6, m6⟩
                      exact AllReadyB.nil
                    exact AllReadyB.nil
                  exact AllReadyB.nil
                exact AllReadyB.nil
              exact AllReadyB.nil
            exact AllReadyB.nil
          exact AllReadyB.nil
        exact AllReadyB.nil
      exact AllReadyB.nil
    exact AllReadyB.nil

theorem put_any [Mode] : ∀ h, PutSpec h
  | 0 => put_zero
  | h + 1 => put_succ h (put_any h)
end Go.Proofs.YtpfjhehjmhkbpaaGreatDoor
