/- bytes.Clone; the pager's has, Count, Get, Put. The pager's Put, New, Free. The pager as its callers see it: its pages, and those that last; what is marked as changed is all that differs. Contracts of Get, Put, New, Free, Count in these words. A node as a plain thing, its bytes, and how it lies. -/
import Derived.Test.YtpfjhehjmhkbpaaGreatDoorM05
import Derived.Laws.Bits64b
import Derived.Test.YtpfjhehjmhkbpaaGreatDoorM02
import Derived.Test.YtpfjhehjmhkbpaaGreatDoorM03
import Derived.Test.YtpfjhehjmhkbpaaGreatDoorM04
namespace Go.Proofs.YtpfjhehjmhkbpaaGreatDoor
open Go.RowKit

theorem own_empty (w : World) (e : Nat) : (w.alloc (.cells #[] e)).ownsRow w.heap.size e 1 (.slice (some ⟨w.heap.size, 0, none⟩) 0 0) 0 [] :=
  ⟨rfl, .inr ⟨w.heap.size, 0, #[], rfl, Nat.le_refl _, heap_new _ _, Nat.le_refl _, by simp [maxLen], rfl, rfl⟩⟩

theorem u8_one (l : List UInt8) : ∀ u ∈ l.map u8, u.oneCell' = true := by
  intro u hu
  obtain ⟨_, _, rfl⟩ := List.mem_map.1 hu
  rfl

set_option maxRecDepth 4000 in
set_option maxHeartbeats 400000 in
/-- bytes.Clone: new memory with the same bytes; nil of nil. -/
theorem clone_any (v : Value) (l : List UInt8) (w : World) (h : Byt w v l) (hl : l.length ≤ 1000000000000) :
    Calls Tryz.prog 80 #[v] w fun e w' => ∃ v', e = .returned v' ∧ w'.ownsRow w.heap.size 5 1 v' l.length (l.map u8) ∧ Below w.heap.size w w' := by
  obtain ⟨A, c, rfl, hc, hm, h0, hr⟩ := h
  cases A with
  | none =>
    have hl0 : l = [] := hr.elim id (fun ⟨b, off, cells, fr, h, _⟩ => by cases h)
    subst hl0
    obtain rfl := h0 rfl
    have e1 := Lib.run_eql_slice_nil (P := Tryz.prog) (w := w) 32 5 none 0 0 0 0 Tryz.underlying32
    simp only [List.length_nil] at *
    go_enter Tryz.func80, Tryz.ntmps80
    go_wp2
    go_ret
    exact ⟨_, rfl, World.ownsRow_nil _ _ _ _, Below.refl _ _⟩
  | some ad =>
    have e1 := Lib.run_eql_slice_nil (P := Tryz.prog) (w := w) 32 5 (some ad) l.length c 0 0 Tryz.underlying32
    have HL := Lib.hid (And.intro hl (And.intro hc hm)); clear hl hc hm h0
    go_enter Tryz.func80, Tryz.ntmps80
    go_wp2_with (at_builtin; refine wpList_app rfl (.tmp 5) (.tmp 6) 32 rfl w.heap.size 5 _ 1 1 Tryz.underlying32 info5 rfl (by decide) _ _ _ rfl (own_empty w 5) _ _ _ (l.map u8) rfl ?_ (hr.alloc _).at_ ?_ (u8_one l) ?_ ?_ ?_ ?_)
    · simp
    · intro h; cases h
    · have := HL.out.1; simp only [maxLen]; omega
    · have := HL.out.1; omega
    · simp
    · intro v1 w1 hown hm1
      go_wp2
      go_ret
      refine ⟨v1, rfl, by simpa using hown, ?_⟩
      exact ((Mut.of_below (bel_alloc (Below.refl w.heap.size w) _) w.heap.size [5]).trans hm1).fresh
/-- Is page n taken? -/
def hasP (ps : List Pg) (n : Nat) : Bool := match ps[n]? with | some x => x.taken | none => false

set_option maxRecDepth 4000 in
set_option maxHeartbeats 400000 in
theorem has_any (B p n : Nat) (g : PS) (ls ps : List Pg) (w : World) (h : PagerAt B w p g ls ps) (hn : n ≤ 1000000000000) :
    Calls Tryz.prog 102 #[.pointer (some ⟨p, 0, none⟩), .int .i64 n] w fun e w' => e = .returned (.bool (hasP ps n)) ∧ w = w' := by
  have c4 := (h.blk.cell 260).trans (PS.get_pages h.blk.2)
  have hfew := h.few
  by_cases hlt : n < ps.length
  · obtain ⟨b, cap, cur, hv, hbB, hbh, hcur⟩ := h.pages.open_ (by omega)
    rw [hv] at c4
    have b0 := (cell_of hbh (n * 2)).trans ((hcur _ (by omega)).trans (pgc_get0 hlt))
    have hr : hasP ps n = ps[n].taken := by simp [hasP, hlt]
    generalize ps[n].taken = t at b0 hr
    have HR := Lib.hid hr; clear hr
    have hlt' : (n : Int) < (ps.length : Int) := by omega
    clear hv hbB hbh hcur h
    cases t
    all_goals
      go_enter Tryz.func102, Tryz.ntmps102
      go_wp2
      go_ret
      exact ⟨by rw [HR.out]; rfl, rfl⟩
  · obtain ⟨A, c, hv, _, _⟩ := h.pages.slice_
    rw [hv] at c4
    have hr : hasP ps n = false := by simp [hasP, hlt]
    have HR := Lib.hid hr; clear hr hv
    have hlt' : ¬ (n : Int) < (ps.length : Int) := by omega
    clear h
    go_enter Tryz.func102, Tryz.ntmps102
    go_wp2
    go_ret
    exact ⟨by rw [HR.out]; rfl, rfl⟩

set_option maxRecDepth 4000 in
theorem count_any (B p : Nat) (g : PS) (ls ps : List Pg) (w : World) (h : PagerAt B w p g ls ps) :
    Calls Tryz.prog 38 #[.pointer (some ⟨p, 0, none⟩)] w fun e w' => e = .returned (.tuple #[.int .i64 ps.length, .int .i64 g.free]) ∧ ∃ k, w' = w.drewN k := by
  have c4 := (h.blk.cell 260).trans (PS.get_pages h.blk.2)
  have c5 := (h.blk.cell 261).trans (PS.get_free h.blk.2)
  obtain ⟨A, c, hv, _, _⟩ := h.pages.slice_
  rw [hv] at c4
  clear hv h
  go_enter Tryz.func38, Tryz.ntmps38
  go_wp2
  go_quiet (fail)
  go_wp2
  go_ret2
  exact ⟨rfl, _, rfl⟩

theorem count_nil (w : World) : Calls Tryz.prog 38 #[.pointer none] w fun e w' => e = .returned (.tuple #[.int .i64 0, .int .i64 0]) ∧ w = w' := by
  go_enter Tryz.func38, Tryz.ntmps38
  go_wp2
  go_ret2
  exact ⟨rfl, rfl⟩

theorem pmay_any (B p : Nat) (g : PS) (ls ps : List Pg) (w : World) (h : PagerAt B w p g ls ps) (hd : g.dead = false) :
    Calls Tryz.prog 78 #[.pointer (some ⟨p, 0, none⟩)] w fun e w' => e = .returned (.int .i64 0) ∧ w = w' := by
  have c4 := (h.blk.cell 775).trans (PS.get_dead h.blk.2)
  rw [hd] at c4
  clear h hd
  go_enter Tryz.func78, Tryz.ntmps78
  go_wp2
  go_ret
  exact ⟨rfl, rfl⟩

set_option maxRecDepth 4000 in
set_option maxHeartbeats 400000 in
/-- Get of a page that is taken. -/
theorem pget_any (B p n : Nat) (g : PS) (ls ps : List Pg) (x : Pg) (w : World) (h : PagerAt B w p g ls ps) (hx : ps[n]? = some x) (ht : x.taken = true) (hl : x.data.length ≤ 1000000) :
    Calls Tryz.prog 76 #[.pointer (some ⟨p, 0, none⟩), .int .i64 n] w fun e w' => ∃ v', e = .returned (.tuple #[v', .int .i64 0]) ∧ w'.ownsRow w.heap.size 5 1 v' x.data.length (x.data.map u8) ∧ Below w.heap.size w w' := by
  obtain ⟨hlt, hxe⟩ := List.getElem?_eq_some_iff.1 hx
  have c4 := (h.blk.cell 260).trans (PS.get_pages h.blk.2)
  have hfew := h.few
  obtain ⟨b, cap, cur, hv, hbB, hbh, hcur⟩ := h.pages.open_ (by omega)
  rw [hv] at c4
  have b1 := (cell_of hbh (n * 2 + 1)).trans ((hcur _ (by omega)).trans (pgc_get1 hlt))
  rw [hxe] at b1
  have hby := h.pages.2 x (hxe ▸ List.getElem_mem hlt)
  have hh : hasP ps n = true := by simp [hasP, hx, ht]
  have HA := has_any B p n g ls ps w h (by omega)
  rw [hh] at HA
  have HA := Lib.hid HA
  have HB := Lib.hid hby
  have hlt' : (n : Int) < (ps.length : Int) := by omega
  clear hv hbB hbh hcur h hby hh hx hxe ht hlt
  go_enter Tryz.func76, Tryz.ntmps76
  go_wp2_with (first | (go_at_call 102; refine HA.out.mono ?_; rintro e w' ⟨rfl, rfl⟩) | (go_at_call 80; refine (clone_any _ _ _ HB.out (by omega)).mono ?_; rintro e w' ⟨v', rfl, hown, hb⟩))
  go_ret2
  exact ⟨v', rfl, hown, hb⟩
/-- Get of a page that is not. -/
theorem pget_none (B p n : Nat) (g : PS) (ls ps : List Pg) (w : World) (h : PagerAt B w p g ls ps) (hh : hasP ps n = false) (hn : n ≤ 1000000000000) :
    Calls Tryz.prog 76 #[.pointer (some ⟨p, 0, none⟩), .int .i64 n] w fun e w' => e = .returned (.tuple #[.slice none 0 0, .int .i64 7]) ∧ w = w' := by
  have HA := has_any B p n g ls ps w h hn
  rw [hh] at HA
  have HA := Lib.hid HA
  clear hh h
  go_enter Tryz.func76, Tryz.ntmps76
  go_wp2_with (go_at_call 102; refine HA.out.mono ?_; rintro e w' ⟨rfl, rfl⟩)
  go_ret2
  exact ⟨rfl, rfl⟩
end Go.Proofs.YtpfjhehjmhkbpaaGreatDoor

namespace Go.Proofs.YtpfjhehjmhkbpaaGreatDoor
open Go.RowKit

set_option maxRecDepth 4000 in
set_option maxHeartbeats 400000 in
theorem pput_any (B p n : Nat) (g : PS) (ls ps : List Pg) (v : Value) (l : List UInt8) (w : World) (h : PagerAt B w p g ls ps) (hd : g.dead = false) (hh : hasP ps n = true) (hv : Byt w v l) (hl : l.length ≤ 512) :
    Calls Tryz.prog 81 #[.pointer (some ⟨p, 0, none⟩), .int .i64 n, v] w fun e w' => ∃ v', e = .returned (.int .i64 0) ∧ PagerAt B w' p { g with dirty := mark g.dirty n } ls (ps.set n ⟨true, v', l⟩) ∧ Mut B [133, 147] w w' := by
  have hlt : n < ps.length := by
    unfold hasP at hh
    split at hh
    · rename_i x hx; exact (List.getElem?_eq_some_iff.1 hx).1
    · cases hh
  have hfew := h.few
  have HM := Lib.hid (pmay_any B p g ls ps w h hd)
  have HA := has_any B p n g ls ps w h (by omega)
  rw [hh] at HA
  have HA := Lib.hid HA
  have HV := Lib.hid hv
  obtain ⟨A, c, rfl, h1, h2, h3, h4⟩ := hv
  have HH := Lib.hid h
  have hl' : ¬ (512 : Int) < (l.length : Int) := by omega
  clear hd hh h h1 h2 h3 h4
  go_enter Tryz.func81, Tryz.ntmps81
  go_wp2_with (first | (go_at_call 78; refine HM.out.mono ?_; rintro e w' ⟨rfl, rfl⟩) | (go_at_call 102; refine HA.out.mono ?_; rintro e w' ⟨rfl, rfl⟩) | (go_at_call 80; refine (clone_any _ _ _ HV.out (by omega)).mono ?_; rintro e w1 ⟨v1, rfl, hown, hb⟩; obtain ⟨A1, c1, rfl, hc1, hc2, hc3, -, hr1⟩ := Rd.of_own hown; have H1 := Lib.hid (And.intro hb (And.intro hc1 (And.intro hc2 (And.intro hc3 hr1)))); clear hown hb hc1 hc2 hc3 hr1) | (go_at_call 79; refine (lay_any B p g ls ps n true _ _ l _ (HH.out.below H1.out.1) hlt ⟨_, _, rfl, H1.out.2.1, H1.out.2.2.1, H1.out.2.2.2.1, H1.out.2.2.2.2⟩).mono ?_; rintro e w2 ⟨rfl, hp2, hm2⟩))
  go_ret
  exact ⟨_, rfl, hp2, (Mut.of_below H1.out.1 B [133, 147]).trans hm2⟩
theorem run_bs147 (w : World) (x y : Value) : (Instr.buildSlice 127 1 #[(0, .agg #[x, y])]).run Tryz.prog w = .ok (.slice (some ⟨w.heap.size, 0, none⟩) 1 1) (w.alloc (.cells #[x, y] 147)) := by kernel_rfl

/-- How many pages are free. -/
def nfree (ps : List Pg) : Nat := ps.countP (fun x => !x.taken)
/-- The first free page, or the one behind the last. -/
def newIdx (ps : List Pg) : Nat := ps.findIdx (fun x => !x.taken)
def freshPg : Pg := ⟨true, .slice none 0 0, []⟩
def emptyPg : Pg := ⟨false, .slice none 0 0, []⟩
/-- The pages with one taken anew. -/
def newPs (ps : List Pg) : List Pg := if newIdx ps < ps.length then ps.set (newIdx ps) freshPg else ps ++ [freshPg]

theorem newIdx_lt {ps : List Pg} : newIdx ps < ps.length ↔ 0 < nfree ps := by
  unfold newIdx nfree
  rw [List.findIdx_lt_length, List.countP_pos_iff]
theorem newIdx_free {ps : List Pg} (h : newIdx ps < ps.length) : ps[newIdx ps].taken = false := by
  have h2 : (!(ps[newIdx ps]).taken) = true := List.findIdx_getElem (p := fun x : Pg => !x.taken) (w := h)
  simpa using h2
theorem newIdx_taken {ps : List Pg} {k : Nat} (h : k < newIdx ps) (hk : k < ps.length) : ps[k].taken = true := by
  have := List.not_of_lt_findIdx h
  simpa using this

theorem pages_snoc {B : Nat} {w w' : World} {v v' : Value} {ps : List Pg} (x : Pg) (h : Pages B w v ps) (hown : w'.ownsRow B 147 2 v' (ps.length + 1) (pgc ps ++ [.bool x.taken, x.v])) (hm : Mut B [147] w w') (hx : Byt w' x.v x.data) : Pages B w' v' (ps ++ [x]) :=
  ⟨by rw [List.length_append, pgc_append]; exact hown, fun y hy => by
    rcases List.mem_append.1 hy with hy | hy
    · exact (h.2 y hy).mut hm (by simp)
    · rw [List.mem_singleton.1 hy]; exact hx⟩

set_option maxRecDepth 4000 in
set_option maxHeartbeats 1000000 in
theorem pnew_free (B p : Nat) (g : PS) (ls ps : List Pg) (w : World) (h : PagerAt B w p g ls ps) (hd : g.dead = false) (hf : g.free = (nfree ps : Nat)) (hlt : newIdx ps < ps.length) :
    Calls Tryz.prog 39 #[.pointer (some ⟨p, 0, none⟩)] w fun e w' => e = .returned (.tuple #[.int .i64 (newIdx ps), .int .i64 0]) ∧ PagerAt B w' p { g with free := (nfree ps : Int) - 1, dirty := mark g.dirty (newIdx ps) } ls (ps.set (newIdx ps) freshPg) ∧ Mut B [133, 147] w w' := by
  have hpos := newIdx_lt.1 hlt
  have hfew := h.few
  have HM := Lib.hid (pmay_any B p g ls ps w h hd)
  have c4 := (h.blk.cell 260).trans (PS.get_pages h.blk.2)
  have c5 := (h.blk.cell 261).trans (PS.get_free h.blk.2)
  have f5 := h.blk.unfrozen 261
  rw [hf] at c5
  obtain ⟨b, cap, cur, hv, hbB, hbh, hcur⟩ := h.pages.open_ (by omega)
  rw [hv] at c4
  have hnf : nfree ps ≤ ps.length := List.countP_le_length
  have HC : Hid (∀ k (hk : k < ps.length), w.cell? ⟨b, k * 2, none⟩ = some (.bool ps[k].taken)) := fun k hk => (cell_of hbh (k * 2)).trans ((hcur _ (by omega)).trans (pgc_get0 hk))
  have HH := Lib.hid h
  have hp' : (0 : Int) < (nfree ps : Int) := by omega
  clear h hd hv hbh hcur hf
  go_enter Tryz.func39, Tryz.ntmps39
  go_wp2_with (go_at_call 78; refine HM.out.mono ?_; rintro e w' ⟨rfl, rfl⟩)
  go_loop [5] (fun i => ∃ k : Nat, k ≤ newIdx ps ∧ i = .int .i64 k) (fun i => newIdx ps - (intOf i).toNat)
  case atStart => exact ⟨0, by omega, rfl⟩
  case round =>
    obtain ⟨k, hk, rfl⟩ := hrel
    have hkl : k < ps.length := by omega
    have hkl' : (k : Int) < (ps.length : Int) := by omega
    have ck := HC.out k hkl
    by_cases hlast : k < newIdx ps
    · rw [newIdx_taken hlast hkl] at ck
      go_wp2
      go_round
      case rel => exact ⟨k + 1, by omega, by go_num⟩
      case measure => simp [intOf]; omega
    · obtain rfl : k = newIdx ps := by omega
      rw [newIdx_free hlt] at ck
      have hp2 := HH.out.blk.set_free ((nfree ps : Int) - 1)
      have hm2 := HH.out.blk.mutL (L := [133, 147]) HH.out.base (by simp) 261 (.int .i64 ((nfree ps : Int) - 1))
      have hat : PagerAt B (w.setCell ⟨p, 261, none⟩ (.int .i64 ((nfree ps : Int) - 1))) p { g with free := (nfree ps : Int) - 1 } ls ps :=
        ⟨HH.out.base, hp2, HH.out.pages.mut (HH.out.blk.mutSet HH.out.base 261 _) (by simp) (by simp), HH.out.few, HH.out.lasts.mut (HH.out.blk.mutSet HH.out.base 261 _) (by simp) (by simp), HH.out.apart⟩
      have HT := Lib.hid (And.intro hat hm2)
      clear hat hp2 hm2
      go_wp2_with (go_at_call 79; refine (lay_any B p _ ls ps _ true none 0 [] _ HT.out.1 hlt (Byt.nil _)).mono ?_; rintro e w2 ⟨rfl, hp3, hm3⟩)
      go_ret2
      exact ⟨rfl, hp3, HT.out.2.trans hm3⟩
set_option maxRecDepth 4000 in
set_option maxHeartbeats 1000000 in
theorem pnew_more (B p : Nat) (g : PS) (ls ps : List Pg) (w : World) (h : PagerAt B w p g ls ps) (hd : g.dead = false) (hf : g.free = (nfree ps : Nat)) (hlt : ¬ newIdx ps < ps.length) (hl : ps.length < 16384) (hB : B ≤ w.heap.size) :
    Calls Tryz.prog 39 #[.pointer (some ⟨p, 0, none⟩)] w fun e w' => ∃ v, e = .returned (.tuple #[.int .i64 ps.length, .int .i64 0]) ∧ PagerAt B w' p { g with pages := v, dirty := mark g.dirty ps.length } ls (ps ++ [freshPg]) ∧ Mut B [133, 147] w w' := by
  have hpos : nfree ps = 0 := by have := newIdx_lt (ps := ps); omega
  have HM := Lib.hid (pmay_any B p g ls ps w h hd)
  have c4 := (h.blk.cell 260).trans (PS.get_pages h.blk.2)
  have c5 : w.cell? ⟨p, 261, none⟩ = some (.int .i64 0) := by rw [h.blk.cell, PS.get_free h.blk.2, hf, hpos]; rfl
  obtain ⟨A, c, hv, hc1, hc2⟩ := h.pages.slice_
  have hown := h.pages.1
  rw [hv] at c4 hown
  have HO := Lib.hid (own_below hown (bel_alloc (Below.refl w.heap.size w) (.cells #[.bool false, .slice none 0 0] 147)))
  have HH := Lib.hid h
  have HV := Lib.hid hv
  clear h hd hf hpos hown hv hlt hc1 hc2
  have HL : Hid (ps.length < 16384 ∧ B ≤ w.heap.size) := ⟨hl, hB⟩
  have hl' : decide ((16384 : Int) ≤ (ps.length : Int)) = false := by rw [decide_eq_false_iff_not]; omega
  clear hl hB
  have hbs := run_bs147 w (.bool false) (.slice none 0 0)
  go_enter Tryz.func39, Tryz.ntmps39
  go_wp2_with (first | (go_at_call 78; refine HM.out.mono ?_; rintro e w' ⟨rfl, rfl⟩) | (at_builtin; refine wpList_appAt rfl (.tmp 44) (.tmp 46) 127 rfl B 147 _ 2 32 Tryz.underlying127 info147 rfl (by decide) _ _ _ rfl HO.out _ _ _ [.bool false, .slice none 0 0] rfl rfl (at_news _ _ _) ?_ ?_ ?_ ?_ ?_ ?_))
  · intro h; cases h
  · intro u hu; simp at hu; rcases hu with rfl | rfl <;> rfl
  · have := HL.out; simp only [maxLen]; omega
  · have := HL.out; omega
  · have := HL.out; simp; omega
  · intro v1 w1 hown1 hm1 hg1 hat1
    have hmw : Mut B [147] w w1 := (Mut.of_below (bel_alloc (Below.refl w.heap.size w) _) B [147]).trans hm1
    have hp1 := HH.out.blk.mut hmw (by simp)
    have c6 := (hp1.cell 260).trans (PS.get_pages hp1.2)
    have f6 := hp1.unfrozen 260
    have hp2 := hp1.set_pages v1
    have hm2 := hp1.mutL (L := [133, 147]) HH.out.base (by simp) 260 v1
    have hpg : Pages B (w1.setCell ⟨p, 260, none⟩ v1) v1 (ps ++ [emptyPg]) :=
      (pages_snoc emptyPg HH.out.pages hown1 hmw (Byt.nil _)).mut (hp1.mutSet HH.out.base 260 v1) (by simp) (by simp)
    have hls : Pages B w1 g.lasts ls := by
      refine Pages.step HH.out.lasts (fun k hk o ho => ?_) (fun y hy => (HH.out.lasts.2 y hy).mut hmw (by simp))
      have hne : some k ≠ (Value.slice A ps.length c).ownBlock := fun e => HH.out.apart k hk (by rw [HV.out]; exact e.symm)
      exact (hg1.block k (by have := blk_lt ho; simp; omega) hne).trans (heap_old ho _)
    have hap : ∀ k, g.lasts.ownBlock = some k → v1.ownBlock ≠ some k := by
      intro k hk e
      rcases hat1 with h1 | h1
      · exact HH.out.apart k hk (by rw [HV.out, ← h1]; exact e)
      · obtain ⟨_, cc, hcc⟩ := Pages.kind HH.out.lasts hk
        have := blk_lt hcc
        rw [h1] at e
        simp at e
        omega
    have hat : PagerAt B (w1.setCell ⟨p, 260, none⟩ v1) p { g with pages := v1 } ls (ps ++ [emptyPg]) := ⟨HH.out.base, hp2, hpg, by have := HL.out; simp; omega, hls.mut (hp1.mutSet HH.out.base 260 v1) (by simp) (by simp), hap⟩
    have HT := Lib.hid (And.intro hat ((hmw.mono (L' := [133, 147]) (Nat.le_refl _) (by simp)).trans hm2))
    obtain ⟨A', c', rfl, _, _, _⟩ := own_slice hown1
    clear hmw hp1 hp2 hm2 hpg hat hown1 hm1 hg1 hat1 hls hap
    go_wp2_with (go_at_call 79; refine (lay_any B p _ ls _ _ true none 0 [] _ HT.out.1 (by simp) (Byt.nil _)).mono ?_; rintro e w2 ⟨rfl, hp3, hm3⟩)
    go_ret2
    refine ⟨.slice A' (ps.length + 1) c', rfl, ?_, HT.out.2.trans hm3⟩
    have e : (ps ++ [emptyPg]).set ps.length freshPg = ps ++ [freshPg] := by simp
    rw [← e]
    exact hp3
set_option maxRecDepth 4000 in
set_option maxHeartbeats 400000 in
theorem pfree_any (B p n : Nat) (g : PS) (ls ps : List Pg) (w : World) (h : PagerAt B w p g ls ps) (hd : g.dead = false) (hh : hasP ps n = true) (hf0 : 0 ≤ g.free) (hf1 : g.free ≤ 100000) :
    Calls Tryz.prog 54 #[.pointer (some ⟨p, 0, none⟩), .int .i64 n] w fun e w' => e = .returned (.int .i64 0) ∧ PagerAt B w' p { g with free := g.free + 1, dirty := mark g.dirty n } ls (ps.set n emptyPg) ∧ Mut B [133, 147] w w' := by
  have hlt : n < ps.length := by
    unfold hasP at hh
    split at hh
    · rename_i x hx; exact (List.getElem?_eq_some_iff.1 hx).1
    · cases hh
  have hfew := h.few
  have HM := Lib.hid (pmay_any B p g ls ps w h hd)
  have HA := has_any B p n g ls ps w h (by omega)
  rw [hh] at HA
  have HA := Lib.hid HA
  have HH := Lib.hid h
  have HL := Lib.hid (And.intro hlt hfew)
  clear hd hh h hlt hfew
  go_enter Tryz.func54, Tryz.ntmps54
  go_wp2_with (first | (go_at_call 78; refine HM.out.mono ?_; rintro e w' ⟨rfl, rfl⟩) | (go_at_call 102; refine HA.out.mono ?_; rintro e w' ⟨rfl, rfl⟩) | (go_at_call 79; refine (lay_any B p g ls ps n false none 0 [] _ HH.out HL.out.1 (Byt.nil _)).mono ?_; rintro e w2 ⟨rfl, hp2, hm2⟩; have c5 := (hp2.blk.cell 261).trans (PS.get_free hp2.blk.2); have f5 := hp2.blk.unfrozen 261; have H2 := Lib.hid (And.intro hp2 hm2); clear hp2 hm2))
  go_ret
  obtain ⟨hp2, hm2⟩ := H2.out
  refine ⟨rfl, ⟨hp2.base, hp2.blk.set_free _, hp2.pages.mut (hp2.blk.mutSet hp2.base 261 _) (by simp) (by simp), hp2.few, hp2.lasts.mut (hp2.blk.mutSet hp2.base 261 _) (by simp) (by simp), hp2.apart⟩, hm2.trans (hp2.blk.mutL (L := [133, 147]) hp2.base (by simp) 261 _)⟩
end Go.Proofs.YtpfjhehjmhkbpaaGreatDoor

namespace Go.Proofs.YtpfjhehjmhkbpaaGreatDoor
open Go.RowKit

/-- Is page n marked? -/
def bit (d : List Int) (n : Nat) : Bool := (d.getD (n / 64) 0).toNat.testBit (n % 64)

/-- Two pages alike. -/
def alike (x y : Option Pg) : Prop := x.map (fun x => (x.taken, x.data)) = y.map (fun x => (x.taken, x.data))

/-- The marks: 256 words; what is not marked is as it lasts; what is marked is a page. -/
structure Marks (d : List Int) (ls ps : List Pg) : Prop where
  len : d.length = 256
  word : ∀ i, 0 ≤ d.getD i 0 ∧ d.getD i 0 < 18446744073709551616
  clean : ∀ n, bit d n = false → alike ps[n]? ls[n]?
  there : ∀ n, bit d n = true → n < ps.length

theorem wrap_pow {k : Nat} (hk : k < 64) : IntKind.u64.wrap ((2 : Int) ^ k) = ((2 ^ k : Nat) : Int) := by
  have h : 2 ^ k < 18446744073709551616 := by
    have := Nat.pow_lt_pow_right (a := 2) (by omega) hk
    simpa using this
  rw [show ((2 : Int) ^ k) = ((2 ^ k : Nat) : Int) by simp]
  generalize (2 ^ k : Nat) = m at h ⊢
  rw [IntKind.wrap_u64]
  omega

theorem mark_get (d : List Int) (n i : Nat) (hd : d.length = 256) (hn : n < 16384) (hw : ∀ i, 0 ≤ d.getD i 0 ∧ d.getD i 0 < 18446744073709551616) :
    (mark d n).getD i 0 = if i = n / 64 then (((d.getD i 0).toNat ||| 2 ^ (n % 64) : Nat) : Int) else d.getD i 0 := by
  have hk : n % 64 < 64 := Nat.mod_lt _ (by omega)
  unfold mark
  rw [List.getD_eq_getElem?_getD, List.getElem?_set]
  by_cases h : n / 64 = i
  · subst h
    rw [if_pos rfl, if_pos rfl, if_pos (by omega)]
    simp only [Option.getD_some]
    obtain ⟨h0, h1⟩ := hw (n / 64)
    obtain ⟨x, hx⟩ := Int.eq_ofNat_of_zero_le h0
    rw [wrap_pow hk, hx, bits_or_u64_nat x (2 ^ (n % 64)) (by omega) (by have := Nat.pow_lt_pow_right (a := 2) (by omega) hk; simpa using this)]
    simp
  · rw [if_neg h, if_neg (fun e => h e.symm), List.getD_eq_getElem?_getD]

theorem mark_bit (d : List Int) (n m : Nat) (hd : d.length = 256) (hn : n < 16384) (hw : ∀ i, 0 ≤ d.getD i 0 ∧ d.getD i 0 < 18446744073709551616) :
    bit (mark d n) m = (bit d m || decide (m = n)) := by
  unfold bit
  rw [mark_get d n _ hd hn hw]
  by_cases h : m / 64 = n / 64
  · rw [if_pos h]
    simp only [Int.toNat_natCast, Nat.testBit_or, Nat.testBit_two_pow]
    congr 1
    by_cases e : m = n
    · subst e; simp
    · simp only [e, decide_false, decide_eq_false_iff_not]
      omega
  · rw [if_neg h]
    have : m ≠ n := fun e => h (by rw [e])
    simp [this]

theorem mark_word (d : List Int) (n : Nat) (hd : d.length = 256) (hn : n < 16384) (hw : ∀ i, 0 ≤ d.getD i 0 ∧ d.getD i 0 < 18446744073709551616) : ∀ i, 0 ≤ (mark d n).getD i 0 ∧ (mark d n).getD i 0 < 18446744073709551616 := by
  intro i
  rw [mark_get d n i hd hn hw]
  by_cases h : i = n / 64
  · rw [if_pos h]
    have hk : n % 64 < 64 := Nat.mod_lt _ (by omega)
    have h2 : 2 ^ (n % 64) < 2 ^ 64 := Nat.pow_lt_pow_right (by omega) hk
    obtain ⟨h0, h1⟩ := hw i
    have h3 : (d.getD i 0).toNat < 2 ^ 64 := by omega
    have := Nat.or_lt_two_pow h3 h2
    omega
  · rw [if_neg h]; exact hw i

/-- A page is laid anew and marked. -/
theorem Marks.lay {d : List Int} {ls ps ps' : List Pg} {n : Nat} (h : Marks d ls ps) (hn : n < ps'.length) (hle : ps.length ≤ ps'.length) (hf : ps'.length ≤ 16384) (hsame : ∀ m, m ≠ n → alike ps'[m]? ps[m]?) : Marks (mark d n) ls ps' := by
  have hn' : n < 16384 := by omega
  refine ⟨by simp [mark, h.len], mark_word d n h.len hn' h.word, fun m hm => ?_, fun m hm => ?_⟩
  · rw [mark_bit d n m h.len hn' h.word] at hm
    simp only [Bool.or_eq_false_iff, decide_eq_false_iff_not] at hm
    exact (hsame m hm.2).trans (h.clean m hm.1)
  · rw [mark_bit d n m h.len hn' h.word] at hm
    simp only [Bool.or_eq_true, decide_eq_true_eq] at hm
    rcases hm with hm | rfl
    · have := h.there m hm; omega
    · exact hn
/-- The pager as its callers see it. r: what Put, New and Free leave alone. -/
def Pgr (B : Nat) (w : World) (p : Nat) (r : PS) (ls ps : List Pg) : Prop :=
  ∃ v d, PagerAt B w p { r with pages := v, free := (nfree ps : Int), dirty := d } ls ps ∧ r.dead = false ∧ Marks d ls ps

section
variable {B B' p : Nat} {L : List Nat} {w w' : World} {r : PS} {ls ps : List Pg}
theorem Pgr.mut (h : Pgr B w p r ls ps) (hm : Mut B' L w w') (h0 : 133 ∉ L) (h1 : 147 ∉ L) (h2 : 5 ∉ L) : Pgr B w' p r ls ps := by
  obtain ⟨v, d, h3, h4, h5⟩ := h
  exact ⟨v, d, h3.mut hm h0 h1 h2, h4, h5⟩
theorem Pgr.below (h : Pgr B w p r ls ps) (hb : Below w.heap.size w w') : Pgr B w' p r ls ps := h.mut (.of_below hb 0 []) (by simp) (by simp) (by simp)
theorem Pgr.few (h : Pgr B w p r ls ps) : ps.length ≤ 16384 := by obtain ⟨v, d, h3, _⟩ := h; exact h3.few
theorem Pgr.base (h : Pgr B w p r ls ps) : B ≤ p := by obtain ⟨v, d, h3, _⟩ := h; exact h3.base
theorem Pgr.blk (h : Pgr B w p r ls ps) : ∃ g, PBlk w p g := by obtain ⟨v, d, h3, _⟩ := h; exact ⟨_, h3.blk⟩
theorem Pgr.lt (h : Pgr B w p r ls ps) : p < w.heap.size := by obtain ⟨g, hg⟩ := h.blk; exact hg.lt

theorem hasP_some {n : Nat} (h : hasP ps n = true) : ∃ x, ps[n]? = some x ∧ x.taken = true ∧ n < ps.length := by
  unfold hasP at h
  split at h
  · rename_i x hx; exact ⟨x, hx, h, (List.getElem?_eq_some_iff.1 hx).1⟩
  · cases h
theorem nfree_set {n : Nat} {x : Pg} (hn : n < ps.length) (t : Bool) (ht : ps[n].taken = t) : (nfree (ps.set n x) : Int) = nfree ps - (if t then 0 else 1) + (if x.taken then 0 else 1) := by
  have h1 : ps[n].taken = false → 0 < nfree ps := fun h => by
    unfold nfree
    rw [List.countP_pos_iff]
    exact ⟨ps[n], List.getElem_mem hn, by simpa using h⟩
  have h2 : nfree (ps.set n x) = nfree ps - (if (!ps[n].taken) = true then 1 else 0) + (if (!x.taken) = true then 1 else 0) := by
    unfold nfree
    rw [List.countP_set hn]
  rw [h2]
  subst ht
  cases hx : x.taken <;> cases hy : ps[n].taken
  · have := h1 hy; simp; omega
  · simp
  · have := h1 hy; simp; omega
  · simp
theorem nfree_le (ps : List Pg) : nfree ps ≤ ps.length := List.countP_le_length

theorem alike_set {n : Nat} {x : Pg} : ∀ m, m ≠ n → alike (ps.set n x)[m]? ps[m]? := fun m hm => by
  rw [List.getElem?_set_ne (fun e => hm e.symm)]; rfl

theorem gcount (h : Pgr B w p r ls ps) : Calls Tryz.prog 38 #[.pointer (some ⟨p, 0, none⟩)] w fun e w' => e = .returned (.tuple #[.int .i64 ps.length, .int .i64 (nfree ps)]) ∧ ∃ k, w' = w.drewN k := by
  obtain ⟨v, d, h3, h4, h5⟩ := h
  exact count_any B p _ ls ps w h3

theorem gget {n : Nat} {x : Pg} (h : Pgr B w p r ls ps) (hx : ps[n]? = some x) (ht : x.taken = true) (hl : x.data.length ≤ 1000000) :
    Calls Tryz.prog 76 #[.pointer (some ⟨p, 0, none⟩), .int .i64 n] w fun e w' => ∃ v', e = .returned (.tuple #[v', .int .i64 0]) ∧ w'.ownsRow w.heap.size 5 1 v' x.data.length (x.data.map u8) ∧ Below w.heap.size w w' := by
  obtain ⟨v, d, h3, h4, h5⟩ := h
  exact pget_any B p n _ ls ps x w h3 hx ht hl

theorem gget_none {n : Nat} (h : Pgr B w p r ls ps) (hh : hasP ps n = false) (hn : n ≤ 1000000000000) :
    Calls Tryz.prog 76 #[.pointer (some ⟨p, 0, none⟩), .int .i64 n] w fun e w' => e = .returned (.tuple #[.slice none 0 0, .int .i64 7]) ∧ w = w' := by
  obtain ⟨v, d, h3, h4, h5⟩ := h
  exact pget_none B p n _ ls ps w h3 hh hn

theorem gput {n : Nat} {v : Value} {l : List UInt8} (h : Pgr B w p r ls ps) (hh : hasP ps n = true) (hv : Byt w v l) (hl : l.length ≤ 512) :
    Calls Tryz.prog 81 #[.pointer (some ⟨p, 0, none⟩), .int .i64 n, v] w fun e w' => ∃ v', e = .returned (.int .i64 0) ∧ Pgr B w' p r ls (ps.set n ⟨true, v', l⟩) ∧ Mut B [133, 147] w w' := by
  obtain ⟨u, d, h3, h4, h5⟩ := h
  obtain ⟨x, hx, hxt, hn⟩ := hasP_some hh
  have hxe : ps[n].taken = true := by
    have := (List.getElem?_eq_some_iff.1 hx).2
    rw [this]; exact hxt
  refine (pput_any B p n _ ls ps v l w h3 h4 hh hv hl).mono ?_
  rintro e w' ⟨v', rfl, h6, h7⟩
  refine ⟨v', rfl, ⟨u, mark d n, ?_, h4, h5.lay (by simpa using hn) (by simp) (by simpa using h3.few) alike_set⟩, h7⟩
  have e := nfree_set (x := ⟨true, v', l⟩) hn true hxe
  simp only [if_true] at e
  rw [show ((nfree (ps.set n ⟨true, v', l⟩) : Nat) : Int) = (nfree ps : Int) by omega]
  exact h6

theorem gfree {n : Nat} (h : Pgr B w p r ls ps) (hh : hasP ps n = true) :
    Calls Tryz.prog 54 #[.pointer (some ⟨p, 0, none⟩), .int .i64 n] w fun e w' => e = .returned (.int .i64 0) ∧ Pgr B w' p r ls (ps.set n emptyPg) ∧ Mut B [133, 147] w w' := by
  obtain ⟨u, d, h3, h4, h5⟩ := h
  obtain ⟨x, hx, hxt, hn⟩ := hasP_some hh
  have hxe : ps[n].taken = true := by
    have := (List.getElem?_eq_some_iff.1 hx).2
    rw [this]; exact hxt
  have hfl := nfree_le ps
  have hfew := h3.few
  refine (pfree_any B p n _ ls ps w h3 h4 hh (by simp) (by simp; omega)).mono ?_
  rintro e w' ⟨rfl, h6, h7⟩
  refine ⟨rfl, ⟨u, mark d n, ?_, h4, h5.lay (by simpa using hn) (by simp) (by simpa using h3.few) alike_set⟩, h7⟩
  have e := nfree_set (x := emptyPg) hn true hxe
  simp only [if_true, emptyPg, Bool.false_eq_true, if_false] at e
  rw [show ((nfree (ps.set n emptyPg) : Nat) : Int) = (nfree ps : Int) + 1 by simp only [emptyPg]; omega]
  exact h6

theorem newPs_length : (newPs ps).length = if newIdx ps < ps.length then ps.length else ps.length + 1 := by
  unfold newPs; split <;> simp
theorem newIdx_eq (h : ¬ newIdx ps < ps.length) : newIdx ps = ps.length := by
  have : newIdx ps ≤ ps.length := List.findIdx_le_length
  omega

theorem gnew (h : Pgr B w p r ls ps) (hroom : ps.length < 16384 ∨ 0 < nfree ps) (hB : B ≤ w.heap.size) :
    Calls Tryz.prog 39 #[.pointer (some ⟨p, 0, none⟩)] w fun e w' => e = .returned (.tuple #[.int .i64 (newIdx ps), .int .i64 0]) ∧ Pgr B w' p r ls (newPs ps) ∧ Mut B [133, 147] w w' := by
  obtain ⟨u, d, h3, h4, h5⟩ := h
  by_cases hlt : newIdx ps < ps.length
  · refine (pnew_free B p _ ls ps w h3 h4 rfl hlt).mono ?_
    rintro e w' ⟨rfl, h6, h7⟩
    have e1 : newPs ps = ps.set (newIdx ps) freshPg := by unfold newPs; rw [if_pos hlt]
    refine ⟨rfl, ⟨u, mark d (newIdx ps), ?_, h4, ?_⟩, h7⟩
    · rw [e1]
      have e := nfree_set (x := freshPg) hlt false (newIdx_free hlt)
      simp only [freshPg, if_true, Bool.false_eq_true, if_false] at e
      rw [show ((nfree (ps.set (newIdx ps) freshPg) : Nat) : Int) = (nfree ps : Int) - 1 by simp only [freshPg]; omega]
      exact h6
    · rw [e1]
      exact h5.lay (by simpa using hlt) (by simp) (by simpa using h3.few) alike_set
  · have h0 : nfree ps = 0 := by have := newIdx_lt (ps := ps); omega
    refine (pnew_more B p _ ls ps w h3 h4 rfl hlt (by omega) hB).mono ?_
    rintro e w' ⟨v, rfl, h6, h7⟩
    have e1 : newPs ps = ps ++ [freshPg] := by unfold newPs; rw [if_neg hlt]
    rw [newIdx_eq hlt]
    refine ⟨rfl, ⟨v, mark d ps.length, ?_, h4, ?_⟩, h7⟩
    · rw [e1, show nfree (ps ++ [freshPg]) = nfree ps by simp [nfree, freshPg]]
      exact h6
    · rw [e1]
      refine h5.lay (by simp) (by simp) (by simp; omega) (fun m hm => ?_)
      by_cases hm' : m < ps.length
      · rw [List.getElem?_append_left hm']; rfl
      · rw [List.getElem?_eq_none (by simp; omega), List.getElem?_eq_none (by omega)]; rfl
end
end Go.Proofs.YtpfjhehjmhkbpaaGreatDoor

namespace Go.Proofs.YtpfjhehjmhkbpaaGreatDoor
open Go.RowKit

/-- A value of a node: in it, or in pages of its own. -/
inductive Vl where
  | inl (b : List UInt8)
  | far (size first : Nat)

/-- A node. -/
structure Nd where
  leaf : Bool
  keys : List ByteArray
  vals : List Vl
  kids : List Nat

def Vl.bytes : Vl → List UInt8
  | .inl b => 0 :: (enc b.length ++ b)
  | .far s f => 1 :: (enc s ++ enc f)

def keyBytes (k : ByteArray) : List UInt8 := enc k.size ++ k.data.toList

/-- The bytes of a node's keys, each with its value. -/
def Nd.entries (x : Nd) : List (List UInt8) := if x.leaf then List.zipWith (fun k v => keyBytes k ++ v.bytes) x.keys x.vals else x.keys.map keyBytes

def Nd.head (x : Nd) : List UInt8 := (if x.leaf then 1 else 2) :: enc x.keys.length

def Nd.bytes (x : Nd) : List UInt8 := x.head ++ x.entries.flatten ++ (x.kids.map enc).flatten

/-- Numbers that lie in bounds. -/
def Vl.Ok : Vl → Prop
  | .inl b => b.length ≤ 65536
  | .far s f => s ≤ 65536 ∧ f ≤ 65536

structure Nd.Ok (x : Nd) : Prop where
  few : x.keys.length ≤ 2000
  keys : ∀ k ∈ x.keys, k.size ≤ 200
  vals : ∀ v ∈ x.vals, v.Ok
  kids : ∀ k ∈ x.kids, k ≤ 65536
  lf : x.leaf = true → x.vals.length = x.keys.length ∧ x.kids = []
  nd : x.leaf = false → x.kids.length = x.keys.length + 1 ∧ x.vals = []

/-- A value's four cells. -/
def VlAt (w : World) (cs : List Value) : Vl → Prop
  | .inl b => ∃ v, cs = [v, .bool false, .int .i64 0, .int .i64 0] ∧ Byt w v b
  | .far s f => cs = [.slice none 0 0, .bool true, .int .i64 (s : Int), .int .i64 (f : Int)]

/-- Values behind one another. -/
def ValsAt (w : World) (cs : List Value) (vs : List Vl) : Prop := ∃ css : List (List Value), cs = css.flatten ∧ css.length = vs.length ∧ ∀ (i : Nat) (c : List Value) (v : Vl), css[i]? = some c → vs[i]? = some v → VlAt w c v

structure NodeAt (B : Nat) (w : World) (q : Nat) (x : Nd) : Prop where
  base : B ≤ q
  rows : ∃ kv vv iv vc, w.heap[q]? = some (.cells #[.bool x.leaf, kv, vv, iv] 92 (0, 0)) ∧ w.ownsRow B 9 1 kv x.keys.length (x.keys.map .string) ∧
    w.ownsRow B 86 4 vv x.vals.length vc ∧ ValsAt w vc x.vals ∧ w.ownsRow B 3 1 iv x.kids.length (x.kids.map fun k : Nat => .int .i64 (k : Int))

section
variable {w w' : World} {B : Nat} {L : List Nat}

theorem VlAt.len {cs : List Value} {v : Vl} (h : VlAt w cs v) : cs.length = 4 := by
  cases v with
  | inl b => obtain ⟨u, rfl, _⟩ := h; rfl
  | far s f => cases h; rfl

theorem VlAt.one {cs : List Value} {v : Vl} (h : VlAt w cs v) : ∀ u ∈ cs, u.oneCell' = true := by
  cases v with
  | inl b =>
    obtain ⟨u, rfl, A, c, rfl, _⟩ := h
    intro x hx
    simp at hx
    rcases hx with rfl | rfl | rfl | rfl <;> rfl
  | far s f =>
    cases h
    intro x hx
    simp at hx
    rcases hx with rfl | rfl | rfl | rfl <;> rfl

theorem VlAt.mut {cs : List Value} {v : Vl} (h : VlAt w cs v) (hm : Mut B L w w') (h5 : 5 ∉ L) : VlAt w' cs v := by
  cases v with
  | inl b => obtain ⟨u, h1, h2⟩ := h; exact ⟨u, h1, h2.mut hm h5⟩
  | far s f => exact h

theorem ValsAt.mut {cs : List Value} {vs : List Vl} (h : ValsAt w cs vs) (hm : Mut B L w w') (h5 : 5 ∉ L) : ValsAt w' cs vs := by
  obtain ⟨css, h1, h2, h3⟩ := h
  exact ⟨css, h1, h2, fun i c v hc hv => (h3 i c v hc hv).mut hm h5⟩

theorem NodeAt.mut {C : Nat} {q : Nat} {x : Nd} (h : NodeAt B w q x) (hm : Mut C L w w') (h92 : 92 ∉ L) (h9 : 9 ∉ L) (h86 : 86 ∉ L) (h3 : 3 ∉ L) (h5 : 5 ∉ L) : NodeAt B w' q x := by
  obtain ⟨h0, kv, vv, iv, vc, h1, h2, h4, h6, h7⟩ := h
  exact ⟨h0, kv, vv, iv, vc, hm.keepc h1 h92, own_mut h2 hm h9, own_mut h4 hm h86, h6.mut hm h5, own_mut h7 hm h3⟩

theorem NodeAt.below {q : Nat} {x : Nd} (h : NodeAt B w q x) (hb : Below w.heap.size w w') : NodeAt B w' q x := h.mut (.of_below hb 0 []) (by simp) (by simp) (by simp) (by simp) (by simp)

theorem flat_len (css : List (List Value)) (h : ∀ c ∈ css, c.length = 4) : css.flatten.length = css.length * 4 := by
  induction css with
  | nil => rfl
  | cons c cs ih =>
    rw [List.flatten_cons, List.length_append, h c (by simp), ih (fun d hd => h d (by simp [hd])), List.length_cons]; omega

theorem flat_take (css : List (List Value)) (h : ∀ c ∈ css, c.length = 4) (p : Nat) : css.flatten.take (p * 4) = (css.take p).flatten := by
  induction css generalizing p with
  | nil => simp
  | cons c cs ih =>
    cases p with
    | zero => simp
    | succ p =>
      have hc := h c (by simp)
      rw [List.flatten_cons, List.take_succ_cons, List.flatten_cons, show (p + 1) * 4 = c.length + p * 4 by omega, List.take_length_add_append, ih (fun d hd => h d (by simp [hd]))]

theorem flat_drop (css : List (List Value)) (h : ∀ c ∈ css, c.length = 4) (p : Nat) : css.flatten.drop (p * 4) = (css.drop p).flatten := by
  induction css generalizing p with
  | nil => simp
  | cons c cs ih =>
    cases p with
    | zero => simp
    | succ p =>
      have hc := h c (by simp)
      rw [List.flatten_cons, List.drop_succ_cons, show (p + 1) * 4 = c.length + p * 4 by omega, List.drop_length_add_append, ih (fun d hd => h d (by simp [hd]))]

theorem ValsAt.css {cs : List Value} {vs : List Vl} (h : ValsAt w cs vs) : ∃ css : List (List Value), cs = css.flatten ∧ css.length = vs.length ∧ (∀ (i : Nat) (c : List Value) (v : Vl), css[i]? = some c → vs[i]? = some v → VlAt w c v) ∧ ∀ c ∈ css, c.length = 4 := by
  obtain ⟨css, h1, h2, h3⟩ := h
  refine ⟨css, h1, h2, h3, fun c hc => ?_⟩
  obtain ⟨i, hi, rfl⟩ := List.getElem_of_mem hc
  exact (h3 i _ _ (List.getElem?_eq_getElem hi) (List.getElem?_eq_getElem (by omega))).len

theorem ValsAt.len {cs : List Value} {vs : List Vl} (h : ValsAt w cs vs) : cs.length = vs.length * 4 := by
  obtain ⟨css, rfl, h2, h3, h4⟩ := h.css
  rw [flat_len _ h4, h2]

theorem ValsAt.one {cs : List Value} {vs : List Vl} (h : ValsAt w cs vs) : ∀ u ∈ cs, u.oneCell' = true := by
  obtain ⟨css, rfl, h2, h3, h4⟩ := h.css
  intro u hu
  obtain ⟨c, hc, hu⟩ := List.mem_flatten.1 hu
  obtain ⟨i, hi, rfl⟩ := List.getElem_of_mem hc
  exact (h3 i _ _ (List.getElem?_eq_getElem hi) (List.getElem?_eq_getElem (by omega))).one u hu

/-- One value of them. -/
theorem ValsAt.at_ {cs : List Value} {vs : List Vl} (h : ValsAt w cs vs) {i : Nat} {v : Vl} (hv : vs[i]? = some v) : VlAt w ((cs.drop (i * 4)).take 4) v := by
  obtain ⟨css, rfl, h2, h3, h4⟩ := h.css
  have hi := (List.getElem?_eq_some_iff.1 hv).1
  have h5 : css[i]? = some css[i] := List.getElem?_eq_getElem (by omega)
  have h6 : (css.drop i) = css[i] :: css.drop (i + 1) := List.drop_eq_getElem_cons (by omega)
  rw [flat_drop _ h4, h6, List.flatten_cons, List.take_left' (h4 _ (List.getElem_mem _))]
  exact h3 i _ _ h5 hv

theorem ValsAt.nil : ValsAt w [] [] := ⟨[], rfl, rfl, fun i c v hc => by simp at hc⟩

theorem ValsAt.snoc {cs c : List Value} {vs : List Vl} {v : Vl} (h : ValsAt w cs vs) (hc : VlAt w c v) : ValsAt w (cs ++ c) (vs ++ [v]) := by
  obtain ⟨css, rfl, h2, h3, h4⟩ := h.css
  refine ⟨css ++ [c], by simp, by simp [h2], fun i c' v' h5 h6 => ?_⟩
  by_cases hi : i < css.length
  · rw [List.getElem?_append_left hi] at h5
    rw [List.getElem?_append_left (by omega)] at h6
    exact h3 i c' v' h5 h6
  · by_cases hi2 : i = css.length
    · subst hi2
      simp at h5
      rw [h2] at h6
      simp at h6
      subst h5; subst h6; exact hc
    · rw [List.getElem?_eq_none (by simp; omega)] at h5; cases h5

theorem ValsAt.append {cs cs' : List Value} {vs vs' : List Vl} (h : ValsAt w cs vs) (h' : ValsAt w cs' vs') : ValsAt w (cs ++ cs') (vs ++ vs') := by
  obtain ⟨css, rfl, h2, h3, h4⟩ := h.css
  obtain ⟨css', rfl, h2', h3', h4'⟩ := h'.css
  refine ⟨css ++ css', by simp, by simp [h2, h2'], fun i c' v' h5 h6 => ?_⟩
  by_cases hi : i < css.length
  · rw [List.getElem?_append_left hi] at h5
    rw [List.getElem?_append_left (by omega)] at h6
    exact h3 i c' v' h5 h6
  · rw [List.getElem?_append_right (by omega)] at h5
    rw [List.getElem?_append_right (by omega)] at h6
    rw [h2] at h5
    exact h3' _ c' v' h5 h6

theorem ValsAt.take {cs : List Value} {vs : List Vl} (h : ValsAt w cs vs) (p : Nat) : ValsAt w (cs.take (p * 4)) (vs.take p) := by
  obtain ⟨css, rfl, h2, h3, h4⟩ := h.css
  refine ⟨css.take p, flat_take _ h4 _, by simp [h2], fun i c v h5 h6 => ?_⟩
  rw [List.getElem?_take] at h5 h6
  split at h5
  · rename_i hi; rw [if_pos hi] at h6; exact h3 i c v h5 h6
  · cases h5

theorem ValsAt.drop {cs : List Value} {vs : List Vl} (h : ValsAt w cs vs) (p : Nat) : ValsAt w (cs.drop (p * 4)) (vs.drop p) := by
  obtain ⟨css, rfl, h2, h3, h4⟩ := h.css
  refine ⟨css.drop p, flat_drop _ h4 _, by simp [h2], fun i c v h5 h6 => ?_⟩
  rw [List.getElem?_drop] at h5 h6
  exact h3 _ c v h5 h6

theorem ValsAt.one_ {c : List Value} {v : Vl} (hc : VlAt w c v) : ValsAt w c [v] := by
  have := ValsAt.snoc (ValsAt.nil (w := w)) hc
  simpa using this

theorem ValsAt.ins {cs c : List Value} {vs : List Vl} {v : Vl} (h : ValsAt w cs vs) (hc : VlAt w c v) (p : Nat) : ValsAt w (YtpfjhehjmhkbpaaGreatDoor.ins cs (p * 4) c) (YtpfjhehjmhkbpaaGreatDoor.ins vs p [v]) := by
  unfold YtpfjhehjmhkbpaaGreatDoor.ins
  exact (h.take p).append ((ValsAt.one_ hc).append (h.drop p))

theorem ValsAt.del {cs : List Value} {vs : List Vl} (h : ValsAt w cs vs) (p : Nat) : ValsAt w (YtpfjhehjmhkbpaaGreatDoor.del cs (p * 4) 4) (YtpfjhehjmhkbpaaGreatDoor.del vs p 1) := by
  unfold YtpfjhehjmhkbpaaGreatDoor.del
  rw [show p * 4 + 4 = (p + 1) * 4 by omega]
  exact (h.take p).append (h.drop (p + 1))

theorem ValsAt.set {cs c : List Value} {vs : List Vl} {v : Vl} (h : ValsAt w cs vs) (hc : VlAt w c v) {p : Nat} (hp : p < vs.length) : ValsAt w (cs.take (p * 4) ++ (c ++ cs.drop ((p + 1) * 4))) (vs.set p v) := by
  rw [List.set_eq_take_append_cons_drop, if_pos hp, List.append_cons, List.append_assoc]
  exact (h.take p).append ((ValsAt.one_ hc).append (h.drop (p + 1)))
end
end Go.Proofs.YtpfjhehjmhkbpaaGreatDoor
