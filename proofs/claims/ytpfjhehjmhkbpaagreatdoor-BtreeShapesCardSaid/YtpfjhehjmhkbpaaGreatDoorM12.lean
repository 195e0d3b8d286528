/- clear: a value's pages are given up. load's two closures: number and text. A region that draws its order, whose stores all stand behind one of its operations: cells that they write may be read ahead of it as if nobody wrote them. The kit's law on held cells (Derived/OrdersHeld), turned: the condition on the world holds till the barrier has come up. -/
import Derived.Test.YtpfjhehjmhkbpaaGreatDoorM10
import Derived.Test.YtpfjhehjmhkbpaaGreatDoorM08
import Derived.OrdersHeld
import Derived.Deep.RegionHeld
namespace Go.Proofs.YtpfjhehjmhkbpaaGreatDoor
open Go.RowKit

/-- What is left of a long value: where it goes on, the bytes, the pages. -/
def Tail_ (ps : List Pg) (f : Int) (b : List UInt8) (S : List Nat) : Prop := (b = [] ∧ S = []) ∨ ∃ g : Nat, f = (g : Int) ∧ g < 16384 ∧ Chain ps g b S

theorem Tail_.open {ps : List Pg} {f : Int} {b : List UInt8} {S : List Nat} (h : Tail_ ps f b S) (hb : 0 < b.length) :
    ∃ (g nx : Nat) (c b' : List UInt8) (S' : List Nat), f = (g : Int) ∧ g < 16384 ∧ nx ≤ 16384 ∧ PgIs ps g (enc nx ++ c) ∧ 0 < c.length ∧ b = c ++ b' ∧ S = g :: S' ∧ Tail_ ps ((nx : Int) - 1) b' S' := by
  rcases h with ⟨rfl, _⟩ | ⟨g, rfl, hg, hc⟩
  · simp at hb
  · cases hc with
    | last h hc hn => exact ⟨g, _, _, [], [], rfl, hg, hn, h, List.length_pos_iff.2 hc, by simp, rfl, .inl ⟨rfl, rfl⟩⟩
    | more h hc hg' hr => exact ⟨g, _, _, _, _, rfl, hg, Nat.succ_le_of_lt hg', h, List.length_pos_iff.2 hc, rfl, rfl, .inr ⟨_, by simp, hg', hr⟩⟩

theorem Tail_.move {ps ps' : List Pg} {f : Int} {b : List UInt8} {S : List Nat} (h : Tail_ ps f b S) (hk : ∀ n ∈ S, ∀ l, PgIs ps n l → PgIs ps' n l) : Tail_ ps' f b S := by
  rcases h with h | ⟨g, h1, h2, h3⟩
  · exact .inl h
  · exact .inr ⟨g, h1, h2, h3.move hk⟩
theorem Tail_.pages {ps : List Pg} {f : Int} {b : List UInt8} {S : List Nat} (h : Tail_ ps f b S) : ∀ n ∈ S, hasP ps n = true := by
  rcases h with ⟨_, rfl⟩ | ⟨g, h1, h2, h3⟩
  · simp
  · exact h3.pages
theorem VlOf.tail {ps : List Pg} {s f : Nat} {b : List UInt8} {S : List Nat} (h : VlOf ps (.far s f) b S) (hl : ps.length ≤ 16384) : s = b.length ∧ Tail_ ps (f : Int) b S := by
  refine ⟨h.1, .inr ⟨f, rfl, ?_, h.2.2⟩⟩
  have : f < ps.length := by
    have h1 : Chain ps f b S := h.2.2
    clear h
    cases h1 with
    | last h hc hn => exact PgIs.lt h
    | more h hc hg hr => exact PgIs.lt h
  omega

set_option maxRecDepth 4000 in
set_option maxHeartbeats 400000 in
theorem clear_inl (w : World) (T : Nat) (v : Value) : Calls Tryz.prog 86 #[.pointer (some ⟨T, 0, none⟩), .agg #[v, .bool false, .int .i64 0, .int .i64 0]] w fun e w' => e = .returned (.tuple #[]) ∧ Below w.heap.size w w' := by
  go_enter Tryz.func86, Tryz.ntmps86
  go_wp2
  refine bodyPost_ret (v := .tuple #[]) (by simp [results, go_sem]) rfl ⟨rfl, ?_⟩
  exact (Below.refl _ _).alloc (Nat.le_refl _) _

set_option maxRecDepth 4000 in
set_option maxHeartbeats 800000 in
theorem clear_far (B : Nat) (w : World) (T p s f : Nat) (root cnt : Int) (dead : Bool) (r : PS) (ls ps : List Pg) (b : List UInt8) (V : List Nat)
    (hT : TAt w T p root cnt dead) (hp : Pgr B w p r ls ps) (hv : VlOf ps (.far s f) b V) (hd : V.Nodup) (hs : s ≤ 65536) :
    Calls Tryz.prog 86 #[.pointer (some ⟨T, 0, none⟩), .agg #[.slice none 0 0, .bool true, .int .i64 (s : Int), .int .i64 (f : Int)]] w fun e w' => e = .returned (.tuple #[]) ∧
      ∃ ps', Pgr B w' p r ls ps' ∧ Stp ps V ps' [] ∧ room ps ≤ room ps' ∧ Mut B [133, 147] w w' := by
  obtain ⟨hs1, hv1⟩ := hv.tail hp.few
  have hs0 : Hid (Stp ps V ps V) := Stp.refl hv.pages hd
  have H := Lib.hid (And.intro hT (And.intro hp (And.intro hv1 (And.intro hd hs1))))
  clear hT hp hv hv1 hd hs1
  go_enter Tryz.func86, Tryz.ntmps86
  go_wp2_with fail
  go_loopw [4, 5] (fun left page wr => ∃ (n : Nat) (g : Int) (ps' : List Pg) (b' : List UInt8) (V' : List Nat), left = .int .i64 (n : Int) ∧ page = .int .i64 g ∧ n ≤ 65536 ∧ Hid (n = b'.length ∧ Tail_ ps' g b' V' ∧ Pgr B wr p r ls ps' ∧ Stp ps V ps' V' ∧ room ps ≤ room ps' ∧ Mut B [133, 147] w wr)) (fun left _ _ => (intOf left).toNat)
  case atStart =>
    obtain ⟨hT, hp, hv1, hd, hs1⟩ := H.out
    exact ⟨s, f, ps, b, V, rfl, rfl, hs, hs1, hv1, hp.mut ((Mut.refl 0 [] w).alloc _) (by simp) (by simp) (by simp), hs0, Nat.le_refl _, (Mut.refl _ _ _).alloc _⟩
  case round =>
    obtain ⟨n, g, ps', b', V', rfl, rfl, hn, hI⟩ := hrel
    by_cases h0 : 0 < n
    · obtain ⟨g1, nx, c, b2, S2, e1, e2, e3, e4, e5, e6, e7, e8⟩ := hI.out.2.1.open (by rw [← hI.out.1]; exact h0)
      subst e1
      obtain ⟨pg, k1, k2, k3⟩ := e4
      have hget := gget hI.out.2.2.1 k1 k2 (by rw [k3, List.length_append]; have := enc_le10 (n := nx) (by unfold M64; omega); have h1 := congrArg List.length e6; rw [List.length_append, ← hI.out.1] at h1; omega)
      rw [k3] at hget
      have hM : nx < M64 := by unfold M64; omega
      have hhas : hasP ps' g1 = true := by unfold hasP; rw [k1]; exact k2
      have hw : IntKind.i64.wrap (nx : Int) = (nx : Int) := by rw [IntKind.wrap_i64]; omega
      have hpos : 0 < (enc nx).length := List.length_pos_iff.2 (enc_ne _)
      have hten := enc_le10 hM
      have hbl : c.length ≤ n := by rw [hI.out.1, e6, List.length_append]; omega
      have htk := Lib.hid (fun (A : Option Addr) (cp : Nat) (W : World) (h : Rd 5 YtpfjhehjmhkbpaaGreatDoor.u8 W A (enc nx ++ c)) => takeNum_any A cp nx _ c W rfl h hM (by rw [List.length_append]; omega))
      have hT' := hI.out.2.2.2.2.2
      have e0 := ((H.out.1.mut hT' (by decide))).c0
      obtain ⟨L, hL⟩ : ∃ L, L = (enc nx ++ c).length := ⟨_, rfl⟩
      obtain ⟨N, hN⟩ : ∃ N, N = (enc nx).length := ⟨_, rfl⟩
      have hLN : L = N + c.length := by rw [hL, hN, List.length_append]
      rw [← hL] at hget htk
      rw [← hN] at htk hpos hten
      have hLNH := Lib.hid hLN
      have hN1 : N ≤ L := by omega
      have hL1 : L ≤ 70000 := by omega
      have h6H := Lib.hid (And.intro e6 (And.intro e7 (And.intro e8 (And.intro e5 hhas))))
      clear hL hN hLN e6 e7 e8 e5 k1 k2 k3 hM hT' hhas
      go_wp2_with (first
        | (go_at_call 76; refine hget.mono ?_; rintro e w1 ⟨v1, rfl, o1, b1⟩; obtain ⟨A, cp, hv, -, -, -, -, hrd⟩ := Rd.of_own o1; subst hv; have e01 := bel_cell b1 e0; clear o1)
        | (go_at_call 77; refine (htk.out A cp _ hrd).mono ?_; rintro e w' ⟨rfl, rfl⟩)
        | (go_at_call 54; refine (gfree (n := g1) (hI.out.2.2.1.below b1) h6H.out.2.2.2.2).mono ?_; rintro e w2 ⟨rfl, hp2, m2⟩))
      go_roundw
      case rel =>
        obtain ⟨f6, f7, f8, f5, fh⟩ := h6H.out
        obtain ⟨i1, i2, i3, i4, i5, i6⟩ := hI.out
        subst f6 f7
        have hst := Stp.free (S := S2) (fun m hm => i2.pages m (by simp [hm])) i4.nd fh
        refine ⟨n - c.length, (nx : Int) - 1, _, b2, S2, ?_, rfl, by omega, ?_, f8.move fun m hm l hl => pgIs_set_other hl ?_, hp2, i4.trans hst, ?_, (i6.trans (.of_below b1 _ _)).trans m2⟩
        · have := hLNH.out
          congr 1
          omega
        · rw [i1, List.length_append]; omega
        · rintro rfl
          exact (List.nodup_cons.1 i4.nd).1 hm
        · rw [room_free fh]; omega
      case measure =>
        obtain ⟨f6, f7, f8, f5, fh⟩ := h6H.out
        have := hLNH.out
        simp [intOf]; omega
    · obtain rfl : n = 0 := by omega
      go_wp2
      go_end0
      obtain ⟨i1, i2, i3, i4, i5, i6⟩ := hI.out
      have hV : V' = [] := by
        rcases i2 with ⟨_, h⟩ | ⟨g', _, _, hc⟩
        · exact h
        · have : b' = [] := List.eq_nil_of_length_eq_zero i1.symm
          subst this
          generalize hb : ([] : List UInt8) = bb at hc
          cases hc with
          | last h hc hn => exact absurd hb.symm hc
          | more h hc hg hr => have := congrArg List.length hb; rw [List.length_append] at this; have := List.length_pos_iff.2 hc; simp at *; omega
      subst hV
      exact ⟨rfl, ps', i3, i4, i5, i6⟩

theorem clear_any (B : Nat) (w : World) (T p : Nat) (root cnt : Int) (dead : Bool) (r : PS) (ls ps : List Pg) (v : Vl) (cs : List Value) (b : List UInt8) (V : List Nat)
    (hT : TAt w T p root cnt dead) (hp : Pgr B w p r ls ps) (hv : VlOf ps v b V) (hok : v.Ok) (hd : V.Nodup) (hat : VlAt w cs v) :
    Calls Tryz.prog 86 #[.pointer (some ⟨T, 0, none⟩), .agg cs.toArray] w fun e w' => e = .returned (.tuple #[]) ∧
      ∃ ps', Pgr B w' p r ls ps' ∧ Stp ps V ps' [] ∧ room ps ≤ room ps' ∧ Mut B [133, 147] w w' := by
  cases v with
  | inl l =>
    obtain ⟨u, rfl, _⟩ := hat
    obtain ⟨_, rfl⟩ := hv
    refine (clear_inl w T u).mono ?_
    rintro e w' ⟨rfl, hb⟩
    exact ⟨rfl, ps, hp.below hb, Stp.refl (by simp) (by simp), Nat.le_refl _, .of_below hb _ _⟩
  | far s f =>
    cases hat
    exact clear_far B w T p s f root cnt dead r ls ps b V hT hp hv hd hok.1
end Go.Proofs.YtpfjhehjmhkbpaaGreatDoor

namespace Go.Proofs.YtpfjhehjmhkbpaaGreatDoor
open Go.RowKit

/-- A variable that holds the bytes that are left. -/
def Cur (w : World) (pb : Nat) (l : List UInt8) : Prop := ∃ v, w.heap[pb]? = some (.cells #[v] 32 (0, 0)) ∧ Byt w v l

/-- The bytes behind a place. -/
theorem byt_cut {w : World} {A : Option Addr} {c k : Nat} {p rest : List UInt8} (h : Rd 5 u8 w A (p ++ rest)) (hk : k = p.length) (hc : k + rest.length ≤ c) (hm : c ≤ maxLen) (hA : A = none → c = 0) :
    (c = k → Byt w (.slice A rest.length 0) rest) ∧ (¬ c = k → Byt w (.slice (Option.map (fun x => x.add k) A) rest.length (c - k)) rest) := by
  have hl : (p ++ rest).length = k + rest.length := by rw [List.length_append, hk]
  have hd := h.drop (k := k) (c := c) (by omega) (by omega)
  rw [List.drop_left' hk.symm] at hd
  refine ⟨fun e => ?_, fun e => ?_⟩
  · rw [if_pos e] at hd
    exact ⟨A, 0, rfl, by omega, Nat.zero_le _, fun _ => rfl, hd⟩
  · rw [if_neg e] at hd
    refine ⟨_, _, rfl, by omega, Nat.le_trans (Nat.sub_le _ _) hm, fun hn => ?_, hd⟩
    cases A with
    | none => have := hA rfl; omega
    | some a => cases hn

theorem cur_set {w : World} {B pb : Nat} {v v' : Value} {l : List UInt8} (hg : w.heap[pb]? = some (.cells #[v] 32 (0, 0))) (hB : B ≤ pb) (h : Byt w v' l) : Cur (w.setCell ⟨pb, 0, none⟩ v') pb l ∧ Mut B [32] w (w.setCell ⟨pb, 0, none⟩ v') := by
  have hm : Mut B [32] w (w.setCell ⟨pb, 0, none⟩ v') := (Mut.refl B [32] w).setCell (p := ⟨pb, 0, none⟩) hg (by simp) hB v'
  exact ⟨⟨v', by rw [heap_set hg]; rfl, h.mut hm (by decide)⟩, hm⟩

set_option maxRecDepth 4000 in
set_option maxHeartbeats 1000000 in
theorem number_any (B pb n : Nat) (rest : List UInt8) (w : World) (h : Cur w pb (enc n ++ rest)) (hB : B ≤ pb) (hn : n < 9223372036854775808) (hl : (enc n ++ rest).length ≤ 1000000000) :
    Calls Tryz.prog 100 #[.pointer (some ⟨pb, 0, none⟩)] w fun e w' => e = .returned (.int .i64 (n : Int)) ∧ Cur w' pb rest ∧ Mut B [32] w w' := by
  obtain ⟨v, hg, A, c, rfl, hlc, hcm, hA0, hrd⟩ := h
  have hM : n < M64 := by unfold M64; omega
  have e0 : w.cell? ⟨pb, 0, none⟩ = some (.slice A (enc n ++ rest).length c) := by rw [cell_of hg]; rfl
  have f0 := unfrozen_of hg 0
  have htk := takeNum_any A c n _ rest w rfl hrd hM hl
  have h10 := enc_le10 hM
  have hp : 0 < (enc n).length := List.length_pos_iff.2 (enc_ne n)
  obtain ⟨k, hk⟩ : ∃ k, k = (enc n).length := ⟨_, rfl⟩
  rw [← hk] at htk h10 hp
  have hLl : (enc n ++ rest).length = k + rest.length := by rw [List.length_append, hk]
  rw [hLl] at e0 hlc htk
  have hw : IntKind.i64.wrap (n : Int) = (n : Int) := by rw [IntKind.wrap_i64]; omega
  have hcH := Lib.hid hcm; clear hcm
  have hgH := Lib.hid hg; clear hg
  have hrH := Lib.hid hrd; clear hrd
  have hkH := Lib.hid hk; clear hk
  have hLH := Lib.hid hLl; clear hLl
  have hlH := Lib.hid hl; clear hl
  clear hM
  go_enter Tryz.func100, Tryz.ntmps100
  go_wp2_with (go_at_call 77; refine htk.mono ?_; rintro e w' ⟨rfl, rfl⟩)
  · obtain ⟨h1, h2⟩ := cur_set hgH.out hB ((byt_cut hrH.out hkH.out hlc (by rw [‹c = k›]; exact (by have := hcH.out; rwa [‹c = k›] at this)) hA0).1 ‹c = k›)
    go_ret
    exact ⟨rfl, h1, h2⟩
  · obtain ⟨h1, h2⟩ := cur_set hgH.out hB ((byt_cut hrH.out hkH.out hlc hcH.out hA0).2 ‹¬ c = k›)
    go_ret
    exact ⟨rfl, h1, h2⟩

set_option maxRecDepth 4000 in
set_option maxHeartbeats 1000000 in
theorem text_any (B pb nb : Nat) (t rest : List UInt8) (w : World) (h : Cur w pb (enc t.length ++ (t ++ rest))) (hf : w.cell? ⟨nb, 0, none⟩ = some (.func (.func 100) #[] #[.pointer (some ⟨pb, 0, none⟩)])) (hB : B ≤ pb) (hl : (enc t.length ++ (t ++ rest)).length ≤ 1000000000) :
    Calls Tryz.prog 101 #[.pointer (some ⟨nb, 0, none⟩), .pointer (some ⟨pb, 0, none⟩)] w fun e w' => ∃ v, e = .returned v ∧ Byt w' v t ∧ Cur w' pb rest ∧ Mut B [32] w w' := by
  have hn : t.length < 9223372036854775808 := by simp only [List.length_append] at hl; omega
  have hnum := number_any B pb t.length (t ++ rest) w h hB hn hl
  have htl : t.length ≤ 1000000000 := by simp only [List.length_append] at hl; omega
  have hrl : rest.length ≤ 1000000000 := by simp only [List.length_append] at hl; omega
  have hl2 := Lib.hid hl; clear hl h hn
  go_enter Tryz.func101, Tryz.ntmps101
  go_wp2_with (go_at_call 100; refine hnum.mono ?_; rintro e w1 ⟨rfl, ⟨v, hg, A, c, rfl, hlc, hcm, hA0, hrd⟩, hm⟩; rw [List.length_append] at hg hlc; have e0 : w1.cell? ⟨pb, 0, none⟩ = some (.slice A (t.length + rest.length) c) := (by rw [cell_of hg]; rfl); have f0 := unfrozen_of hg 0; have hcH := Lib.hid hcm; clear hcm; have hgH := Lib.hid hg; clear hg; have hrH := Lib.hid hrd; clear hrd)
  · obtain ⟨h1, h2⟩ := cur_set hgH.out hB ((byt_cut hrH.out rfl hlc (by have := hcH.out; rwa [‹c = t.length›] at this ⊢) hA0).1 ‹c = t.length›)
    have hb : Byt w1 (.slice A t.length t.length) t := ⟨A, _, rfl, Nat.le_refl _, by have := hcH.out; rwa [‹c = t.length›] at this, by rw [← ‹c = t.length›]; exact hA0, by have := hrH.out.take t.length; rwa [List.take_left' rfl] at this⟩
    go_ret
    exact ⟨_, rfl, hb.mut h2 (by decide), h1, hm.trans h2⟩
  · obtain ⟨h1, h2⟩ := cur_set hgH.out hB ((byt_cut hrH.out rfl hlc hcH.out hA0).2 ‹¬ c = t.length›)
    have hb : Byt w1 (.slice A t.length c) t := ⟨A, _, rfl, by omega, hcH.out, hA0, by have := hrH.out.take t.length; rwa [List.take_left' rfl] at this⟩
    go_ret
    exact ⟨_, rfl, hb.mut h2 (by decide), h1, hm.trans h2⟩
  · obtain rfl : t = [] := List.eq_nil_of_length_eq_zero (by omega)
    have hb0 : Byt w1 (.slice A (([] : List UInt8).length + rest.length) c) rest := ⟨A, c, by simp, by simpa using hlc, hcH.out, hA0, hrH.out⟩
    obtain ⟨h1, h2⟩ := cur_set hgH.out hB hb0
    have hb : Byt w1 (.slice A 0 c) [] := ⟨A, _, rfl, Nat.zero_le _, hcH.out, hA0, .nil _ _ _ _⟩
    go_ret
    exact ⟨_, rfl, hb.mut h2 (by decide), h1, hm.trans h2⟩
end Go.Proofs.YtpfjhehjmhkbpaaGreatDoor

namespace Go.Proofs.YtpfjhehjmhkbpaaGreatDoor
open Go

section
variable {P : Program} {ops : Array Oper} {Q : Exit → Act → World → Prop} {md : Region.Mode} {A : World → Prop} {b : Nat}

/-- Does operation d wait, at once, for one of the list? -/
def waits (md : Region.Mode) (ops : Array Oper) (d : Nat) (l : List Nat) : Bool := ((ops[d]?).map (fun o => o.after.any fun e => Region.binds md e && l.contains e.on)).getD false

theorem waits_spec {d : Nat} {l : List Nat} (h : waits md ops d l = true) : ∃ ob, ops[d]? = some ob ∧ ∃ e ∈ ob.after, Region.binds md e = true ∧ e.on ∈ l := by
  unfold waits at h
  cases ho : ops[d]? with
  | none => rw [ho] at h; cases h
  | some ob =>
    rw [ho] at h
    simp only [Option.map_some, Option.getD_some, Array.any_eq_true', Bool.and_eq_true, List.contains_iff_mem] at h
    obtain ⟨e, h1, h2, h3⟩ := h
    exact ⟨ob, rfl, e, h1, h2, h3⟩

/-- The operations D, the barrier among them, come up behind number i alone. -/
def behind (md : Region.Mode) (ops : Array Oper) (b i : Nat) (D : List Nat) : Bool := D.contains b && D.all fun d => !(d == i) && waits md ops d (i :: D)

/-- Whatever order is picked from here on, AND A holds behind every operation that is carried out ahead of number b. -/
def wpAnyB (P : Program) (md : Region.Mode) (ops : Array Oper) (Q : Exit → Act → World → Prop) (A : World → Prop) (b : Nat) : Nat → Array Bool → Act → World → Prop
  | 0, listed, a, w => Region.ready md ops listed = [] ∧ Q .normal a w
  | fuel + 1, listed, a, w =>
    (Region.ready md ops listed = [] → Q .normal a w) ∧
    ∀ i ∈ Region.ready md ops listed, wpOp P ops Q i (fun a' w' => ((listed.setIfInBounds i true).getD b true = false → A w') ∧ wpAnyB P md ops Q A b fuel (listed.setIfInBounds i true) a' w') a w

theorem wpAny_of_B : ∀ (fuel : Nat) (listed : Array Bool) (a : Act) (w : World), wpAnyB P md ops Q A b fuel listed a w → wpAny P md ops Q fuel listed a w
  | 0, _, _, _, h => h
  | fuel + 1, _, _, _, h => ⟨h.1, fun i hi => wpOp_mono (fun a' w' h' => wpAny_of_B fuel _ a' w' h'.2) (h.2 i hi)⟩

theorem wpAnyB_first {i : Nat} {oi : Oper} {v : Value} (hi : ops[i]? = some oi) (hsel : ∀ (j : Nat) (o : Oper) cs b, ops[j]? = some o → o.op ≠ .select cs b)
    (hQ : ∀ c a w, Q (.panic c) (a.put oi.dst v) w → Q (.panic c) a w) {D : List Nat} (hD : behind md ops b i D = true) :
    ∀ (fuel : Nat) (listed : Array Bool) (a : Act) (w : World),
      (∀ j oj, ops[j]? = some oj → j ≠ i → listed.getD j true = false → (∀ e ∈ oj.after, Region.binds md e = true → e.on ≠ i) → oi.apart ops oj = true) →
      i ∈ Region.ready md ops listed → (∀ d ∈ D, listed.getD d true = false) → YieldsIf P ops A oi v a → A w →
      wpAnyB P md ops Q A b fuel (listed.setIfInBounds i true) (a.put oi.dst v) w → wpAnyB P md ops Q A b (fuel + 1) listed a w := by
  unfold behind at hD
  simp only [Bool.and_eq_true, List.contains_iff_mem, List.all_eq_true, Bool.not_eq_true', beq_eq_false_iff_ne] at hD
  obtain ⟨hbD, hall⟩ := hD
  have hib : i ≠ b := fun e => (hall b hbD).1 e.symm
  intro fuel
  induction fuel with
  | zero =>
    intro listed a w _ hr hlb hy hS H
    refine ⟨fun h => (by rw [h] at hr; cases hr), fun j hj => ?_⟩
    by_cases hji : j = i
    · subst hji; exact hy.wpOp hi hS ⟨fun _ => hS, H⟩
    · have := ready_mono hj hji
      rw [H.1] at this
      cases this
  | succ fuel ih =>
    intro listed a w hfree hr hlb hy hS H
    refine ⟨fun h => (by rw [h] at hr; cases hr), fun j hj => ?_⟩
    by_cases hji : j = i
    · subst hji; exact hy.wpOp hi hS ⟨fun _ => hS, H⟩
    · have h1 := H.2 j (ready_mono hj hji)
      obtain ⟨hjun, oj, hoj, hallj⟩ := mem_ready.1 hj
      have hnot : ∀ e ∈ oj.after, Region.binds md e = true → e.on ≠ i := fun e he hb heq => by
        have h1 := hallj e he hb
        have h0 := (mem_ready.1 hr).1
        rw [heq] at h1
        rcases Nat.lt_or_ge i listed.size with h' | h'
        · simp [h'] at h0 h1; rw [h0] at h1; cases h1
        · simp [Array.getElem?_eq_none h'] at h1
      have hjD : j ∉ D := fun hjD => by
        obtain ⟨ob, hob, eb, heb, hbinds, hon⟩ := waits_spec (hall j hjD).2
        rw [hob] at hoj
        cases hoj
        rcases List.mem_cons.1 hon with hon | hon
        · exact hnot eb heb hbinds hon
        · have g1 := hallj eb heb hbinds
          have g0 := hlb _ hon
          rcases Nat.lt_or_ge eb.on listed.size with h' | h'
          · simp [h'] at g0 g1; rw [g0] at g1; cases g1
          · simp [Array.getElem?_eq_none h'] at g1
      have hjb : j ≠ b := fun e => hjD (e ▸ hbD)
      have h2 := wpOp_putIf hoj (hfree j oj hoj hji hjun hnot) (fun cs b => hsel i oi cs b hi) (fun cs b => hsel j oj cs b hoj) hQ hy h1
      have hfree' : ∀ k ok, ops[k]? = some ok → k ≠ i → (listed.setIfInBounds j true).getD k true = false →
          (∀ e ∈ ok.after, Region.binds md e = true → e.on ≠ i) → oi.apart ops ok = true := fun k ok hk hki hun hno => by
        refine hfree k ok hk hki ?_ hno
        by_cases hjk : j = k
        · subst hjk; exact hjun
        · rw [getD_set_ne true hjk] at hun; exact hun
      have e1 : ∀ d ∈ D, (listed.setIfInBounds j true).getD d true = false := fun d hd => by
        have hne : j ≠ d := fun e => hjD (by rw [e]; exact hd)
        rw [getD_set_ne true hne]; exact hlb d hd
      have e2 : ((listed.setIfInBounds i true).setIfInBounds j true).getD b true = false := by rw [getD_set_ne true hjb, getD_set_ne true hib]; exact hlb b hbD
      refine wpOp_mono (fun a' w' h3 => ⟨fun _ => h3.2.1 e2, ih (listed.setIfInBounds j true) a' w' hfree' (ready_mono hr (Ne.symm hji)) e1 h3.1 (h3.2.1 e2) ?_⟩) h2
      rw [Array.setIfInBounds_comm _ _ hji]
      exact h3.2.2

/-- Take number i first. -/
theorem wpAnyB_take {i : Nat} {oi : Oper} {v : Value} {fuel : Nat} {listed : Array Bool} {a : Act} {w : World} (hi : ops.toList[i]? = some oi)
    (hs : Region.noSelect ops = true) (hf : Region.free md ops listed i = true) (hr : (Region.ready md ops listed).contains i = true) (D : List Nat) (hb : (D.all fun d => !(listed.getD d true)) = true) (hw : behind md ops b i D = true)
    (hQ : ∀ c a w, Q (.panic c) (a.put oi.dst v) w → Q (.panic c) a w) (hy : YieldsIf P ops A oi v a) (hS : A w)
    (h : wpAnyB P md ops Q A b fuel (listed.setIfInBounds i true) (a.put oi.dst v) w) : wpAnyB P md ops Q A b (fuel + 1) listed a w :=
  have hi : ops[i]? = some oi := by rw [← Array.getElem?_toList]; exact hi
  wpAnyB_first hi (Region.noSelect_spec hs) hQ hw fuel listed a w (Region.free_spec hi hf) (by simpa using hr) (fun d hd => by simpa using List.all_eq_true.1 hb d hd) hy hS h

theorem wpAnyB_firstY {i : Nat} {oi : Oper} {v : Value} (hi : ops[i]? = some oi) (hsel : ∀ (j : Nat) (o : Oper) cs b, ops[j]? = some o → o.op ≠ .select cs b)
    (hQ : ∀ c a w, Q (.panic c) (a.put oi.dst v) w → Q (.panic c) a w) (hib : i ≠ b) :
    ∀ (fuel : Nat) (listed : Array Bool) (a : Act) (w : World),
      (∀ j oj, ops[j]? = some oj → j ≠ i → listed.getD j true = false → (∀ e ∈ oj.after, Region.binds md e = true → e.on ≠ i) → oi.apart ops oj = true) →
      i ∈ Region.ready md ops listed → YieldsIf P ops (fun _ => True) oi v a → (listed.getD b true = false → A w) →
      wpAnyB P md ops Q A b fuel (listed.setIfInBounds i true) (a.put oi.dst v) w → wpAnyB P md ops Q A b (fuel + 1) listed a w := by
  intro fuel
  induction fuel with
  | zero =>
    intro listed a w _ hr hy hS H
    refine ⟨fun h => (by rw [h] at hr; cases hr), fun j hj => ?_⟩
    by_cases hji : j = i
    · subst hji; exact hy.wpOp hi trivial ⟨fun h => hS (by rw [getD_set_ne true hib] at h; exact h), H⟩
    · have := ready_mono hj hji
      rw [H.1] at this
      cases this
  | succ fuel ih =>
    intro listed a w hfree hr hy hS H
    refine ⟨fun h => (by rw [h] at hr; cases hr), fun j hj => ?_⟩
    by_cases hji : j = i
    · subst hji; exact hy.wpOp hi trivial ⟨fun h => hS (by rw [getD_set_ne true hib] at h; exact h), H⟩
    · have h1 := H.2 j (ready_mono hj hji)
      obtain ⟨hjun, oj, hoj, hallj⟩ := mem_ready.1 hj
      have hnot : ∀ e ∈ oj.after, Region.binds md e = true → e.on ≠ i := fun e he hb heq => by
        have h1 := hallj e he hb
        have h0 := (mem_ready.1 hr).1
        rw [heq] at h1
        rcases Nat.lt_or_ge i listed.size with h' | h'
        · simp [h'] at h0 h1; rw [h0] at h1; cases h1
        · simp [Array.getElem?_eq_none h'] at h1
      have h2 := wpOp_putIf hoj (hfree j oj hoj hji hjun hnot) (fun cs b => hsel i oi cs b hi) (fun cs b => hsel j oj cs b hoj) hQ hy h1
      have hfree' : ∀ k ok, ops[k]? = some ok → k ≠ i → (listed.setIfInBounds j true).getD k true = false →
          (∀ e ∈ ok.after, Region.binds md e = true → e.on ≠ i) → oi.apart ops ok = true := fun k ok hk hki hun hno => by
        refine hfree k ok hk hki ?_ hno
        by_cases hjk : j = k
        · subst hjk; exact hjun
        · rw [getD_set_ne true hjk] at hun; exact hun
      have e2 : ((listed.setIfInBounds i true).setIfInBounds j true).getD b true = (listed.setIfInBounds j true).getD b true := by
        rw [Array.setIfInBounds_comm _ _ (Ne.symm hji), getD_set_ne true hib]
      refine wpOp_mono (fun a' w' h3 => ⟨fun h => h3.2.1 (by rw [e2]; exact h), ih (listed.setIfInBounds j true) a' w' hfree' (ready_mono hr (Ne.symm hji)) h3.1 (fun h => h3.2.1 (by rw [e2]; exact h)) ?_⟩) h2
      rw [Array.setIfInBounds_comm _ _ hji]
      exact h3.2.2

/-- Take number i first, which yields in whatever world. -/
theorem wpAnyB_takeY {i : Nat} {oi : Oper} {v : Value} {fuel : Nat} {listed : Array Bool} {a : Act} {w : World} (hi : ops.toList[i]? = some oi)
    (hs : Region.noSelect ops = true) (hf : Region.free md ops listed i = true) (hr : (Region.ready md ops listed).contains i = true) (hib : (i == b) = false)
    (hQ : ∀ c a w, Q (.panic c) (a.put oi.dst v) w → Q (.panic c) a w) (hy : YieldsIf P ops (fun _ => True) oi v a) (hS : A w)
    (h : wpAnyB P md ops Q A b fuel (listed.setIfInBounds i true) (a.put oi.dst v) w) : wpAnyB P md ops Q A b (fuel + 1) listed a w :=
  have hi : ops[i]? = some oi := by rw [← Array.getElem?_toList]; exact hi
  wpAnyB_firstY hi (Region.noSelect_spec hs) hQ (by simpa using hib) fuel listed a w (Region.free_spec hi hf) (by simpa using hr) hy (fun _ => hS) h

theorem wpAnyB_done {listed : Array Bool} {a : Act} {w : World} (hr : Region.ready md ops listed = []) (h : Q .normal a w) :
    ∀ fuel, wpAnyB P md ops Q A b fuel listed a w
  | 0 => ⟨hr, h⟩
  | _ + 1 => ⟨fun _ => h, by rw [hr]; simp⟩

theorem wp_region_B {id : Nat} {a : Act} {w : World} (hm : P.follows .mixedOrders = true) (hA : A w.drew)
    (h : A w.drew → wpAnyB P .any ops Q A b ops.size (Array.replicate ops.size false) a w.drew) : (Code.region id ops true).wp P Q a w :=
  wp_region_any hm (wpAny_of_B _ _ _ _ (h hA))

/-- Each of the operations rs comes up next. -/
def AllReadyB (P : Program) (md : Region.Mode) (ops : Array Oper) (Q : Exit → Act → World → Prop) (A : World → Prop) (b fuel : Nat) (listed : Array Bool) (a : Act) (w : World) (rs : List Nat) : Prop :=
  ∀ i ∈ rs, wpOp P ops Q i (fun a' w' => ((listed.setIfInBounds i true).getD b true = false → A w') ∧ wpAnyB P md ops Q A b fuel (listed.setIfInBounds i true) a' w') a w

theorem AllReadyB.nil {fuel : Nat} {listed : Array Bool} {a : Act} {w : World} : AllReadyB P md ops Q A b fuel listed a w [] := fun _ h => by cases h

theorem AllReadyB.pre {fuel : Nat} {listed : Array Bool} {a : Act} {w : World} {i : Nat} {o : Oper} {rs : List Nat} (ho : ops.toList[i]? = some o)
    (h : ∀ K' : Act → World → Prop, Shut (∀ a w, A w → (A w → wpAnyB P md ops Q A b fuel (listed.setIfInBounds i true) a w) → K' a w) → if Region.wanted o (yielded ops a.tmps) = true then Oper.wp P o a w K' Q else K' (a.put o.dst undef) w)
    (hs : AllReadyB P md ops Q A b fuel listed a w rs) : AllReadyB P md ops Q A b fuel listed a w (i :: rs) := fun j hj => by
  rcases List.mem_cons.1 hj with rfl | hj
  · exact wpOp_step (by rw [← Array.getElem?_toList]; exact ho) (fun K' hK => h K' (fun a w hS hW => hK a w ⟨fun _ => hS, hW hS⟩))
  · exact hs j hj

theorem AllReadyB.post {fuel : Nat} {listed : Array Bool} {a : Act} {w : World} {i : Nat} {o : Oper} {rs : List Nat} (ho : ops.toList[i]? = some o) (hb : (listed.setIfInBounds i true).getD b true = true)
    (h : ∀ K' : Act → World → Prop, Shut (∀ a w, wpAnyB P md ops Q A b fuel (listed.setIfInBounds i true) a w → K' a w) → if Region.wanted o (yielded ops a.tmps) = true then Oper.wp P o a w K' Q else K' (a.put o.dst undef) w)
    (hs : AllReadyB P md ops Q A b fuel listed a w rs) : AllReadyB P md ops Q A b fuel listed a w (i :: rs) := fun j hj => by
  rcases List.mem_cons.1 hj with rfl | hj
  · exact wpOp_step (by rw [← Array.getElem?_toList]; exact ho) (fun K' hK => h K' (fun a w hW => hK a w ⟨fun h => (by rw [hb] at h; cases h), hW⟩))
  · exact hs j hj

theorem wpAnyB_ready {rs : List Nat} {fuel : Nat} {listed : Array Bool} {a : Act} {w : World} (hr : Region.ready md ops listed = rs) (hne : rs ≠ [])
    (h : AllReadyB P md ops Q A b fuel listed a w rs) : wpAnyB P md ops Q A b (fuel + 1) listed a w := ⟨fun h0 => absurd (hr ▸ h0) hne, hr ▸ h⟩
end
end Go.Proofs.YtpfjhehjmhkbpaaGreatDoor
