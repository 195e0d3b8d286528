/- A region that draws its order, whose stores all stand behind one of its operations: cells that they write may be read ahead of it as if nobody wrote them. The kit's law on held cells (Derived/OrdersHeld), turned: the condition on the world holds till the barrier has come up. -/
import Derived.OrdersHeld
import Derived.Deep.RegionHeld
namespace Go.Proofs.YtpfjhehjmhkbpaaGreatDoor
open Go

section
variable {P : Program} {ops : Array Oper} {Q : Exit → Act → World → Prop} {md : Region.Mode} {A : World → Prop} {b : Nat}

/-- Does operation d wait, at once, for one of the list? -/
def waits (md : Region.Mode) (ops : Array Oper) (d : Nat) (l : List Nat) : Bool := ((ops[d]?).map (fun o => o.after.any fun e => Region.binds md e && l.contains e.on)).getD false

theorem waits_spec {d : Nat} {l : List Nat} (h : waits md ops d l = true) : ∃ ob, ops[d]? = some ob ∧ ∃ e ∈ ob.after, Region.binds md e = true ∧ e.on ∈ l := by
  unfold waits at h
  cases ho : ops[d]? with
  | none => rw [ho] at h; cases h
  | some ob =>
    rw [ho] at h
    simp only [Option.map_some, Option.getD_some, Array.any_eq_true', Bool.and_eq_true, List.contains_iff_mem] at h
    obtain ⟨e, h1, h2, h3⟩ := h
    exact ⟨ob, rfl, e, h1, h2, h3⟩

/-- The operations D, the barrier among them, come up behind number i alone. -/
def behind (md : Region.Mode) (ops : Array Oper) (b i : Nat) (D : List Nat) : Bool := D.contains b && D.all fun d => !(d == i) && waits md ops d (i :: D)

/-- Whatever order is picked from here on, AND A holds behind every operation that is carried out ahead of number b. -/
def wpAnyB (P : Program) (md : Region.Mode) (ops : Array Oper) (Q : Exit → Act → World → Prop) (A : World → Prop) (b : Nat) : Nat → Array Bool → Act → World → Prop
  | 0, listed, a, w => Region.ready md ops listed = [] ∧ Q .normal a w
  | fuel + 1, listed, a, w =>
    (Region.ready md ops listed = [] → Q .normal a w) ∧
    ∀ i ∈ Region.ready md ops listed, wpOp P ops Q i (fun a' w' => ((listed.setIfInBounds i true).getD b true = false → A w') ∧ wpAnyB P md ops Q A b fuel (listed.setIfInBounds i true) a' w') a w

theorem wpAny_of_B : ∀ (fuel : Nat) (listed : Array Bool) (a : Act) (w : World), wpAnyB P md ops Q A b fuel listed a w → wpAny P md ops Q fuel listed a w
  | 0, _, _, _, h => h
  | fuel + 1, _, _, _, h => ⟨h.1, fun i hi => wpOp_mono (fun a' w' h' => wpAny_of_B fuel _ a' w' h'.2) (h.2 i hi)⟩

theorem wpAnyB_first {i : Nat} {oi : Oper} {v : Value} (hi : ops[i]? = some oi) (hsel : ∀ (j : Nat) (o : Oper) cs b, ops[j]? = some o → o.op ≠ .select cs b)
    (hQ : ∀ c a w, Q (.panic c) (a.put oi.dst v) w → Q (.panic c) a w) {D : List Nat} (hD : behind md ops b i D = true) :
    ∀ (fuel : Nat) (listed : Array Bool) (a : Act) (w : World),
      (∀ j oj, ops[j]? = some oj → j ≠ i → listed.getD j true = false → (∀ e ∈ oj.after, Region.binds md e = true → e.on ≠ i) → oi.apart ops oj = true) →
      i ∈ Region.ready md ops listed → (∀ d ∈ D, listed.getD d true = false) → YieldsIf P ops A oi v a → A w →
      wpAnyB P md ops Q A b fuel (listed.setIfInBounds i true) (a.put oi.dst v) w → wpAnyB P md ops Q A b (fuel + 1) listed a w := by
  unfold behind at hD
  simp only [Bool.and_eq_true, List.contains_iff_mem, List.all_eq_true, Bool.not_eq_true', beq_eq_false_iff_ne] at hD
  obtain ⟨hbD, hall⟩ := hD
  have hib : i ≠ b := fun e => (hall b hbD).1 e.symm
  intro fuel
  induction fuel with
  | zero =>
    intro listed a w _ hr hlb hy hS H
    refine ⟨fun h => (by rw [h] at hr; cases hr), fun j hj => ?_⟩
    by_cases hji : j = i
    · subst hji; exact hy.wpOp hi hS ⟨fun _ => hS, H⟩
    · have := ready_mono hj hji
      rw [H.1] at this
      cases this
  | succ fuel ih =>
    intro listed a w hfree hr hlb hy hS H
    refine ⟨fun h => (by rw [h] at hr; cases hr), fun j hj => ?_⟩
    by_cases hji : j = i
    · subst hji; exact hy.wpOp hi hS ⟨fun _ => hS, H⟩
    · have h1 := H.2 j (ready_mono hj hji)
      obtain ⟨hjun, oj, hoj, hallj⟩ := mem_ready.1 hj
      have hnot : ∀ e ∈ oj.after, Region.binds md e = true → e.on ≠ i := fun e he hb heq => by
        have h1 := hallj e he hb
        have h0 := (mem_ready.1 hr).1
        rw [heq] at h1
        rcases Nat.lt_or_ge i listed.size with h' | h'
        · simp [h'] at h0 h1; rw [h0] at h1; cases h1
        · simp [Array.getElem?_eq_none h'] at h1
      have hjD : j ∉ D := fun hjD => by
        obtain ⟨ob, hob, eb, heb, hbinds, hon⟩ := waits_spec (hall j hjD).2
        rw [hob] at hoj
        cases hoj
        rcases List.mem_cons.1 hon with hon | hon
        · exact hnot eb heb hbinds hon
        · have g1 := hallj eb heb hbinds
          have g0 := hlb _ hon
          rcases Nat.lt_or_ge eb.on listed.size with h' | h'
          · simp [h'] at g0 g1; rw [g0] at g1; cases g1
          · simp [Array.getElem?_eq_none h'] at g1
      have hjb : j ≠ b := fun e => hjD (e ▸ hbD)
      have h2 := wpOp_putIf hoj (hfree j oj hoj hji hjun hnot) (fun cs b => hsel i oi cs b hi) (fun cs b => hsel j oj cs b hoj) hQ hy h1
      have hfree' : ∀ k ok, ops[k]? = some ok → k ≠ i → (listed.setIfInBounds j true).getD k true = false →
          (∀ e ∈ ok.after, Region.binds md e = true → e.on ≠ i) → oi.apart ops ok = true := fun k ok hk hki hun hno => by
        refine hfree k ok hk hki ?_ hno
        by_cases hjk : j = k
        · subst hjk; exact hjun
        · rw [getD_set_ne true hjk] at hun; exact hun
      have e1 : ∀ d ∈ D, (listed.setIfInBounds j true).getD d true = false := fun d hd => by
        have hne : j ≠ d := fun e => hjD (by rw [e]; exact hd)
        rw [getD_set_ne true hne]; exact hlb d hd
      have e2 : ((listed.setIfInBounds i true).setIfInBounds j true).getD b true = false := by rw [getD_set_ne true hjb, getD_set_ne true hib]; exact hlb b hbD
      refine wpOp_mono (fun a' w' h3 => ⟨fun _ => h3.2.1 e2, ih (listed.setIfInBounds j true) a' w' hfree' (ready_mono hr (Ne.symm hji)) e1 h3.1 (h3.2.1 e2) ?_⟩) h2
      rw [Array.setIfInBounds_comm _ _ hji]
      exact h3.2.2

/-- Take number i first. -/
theorem wpAnyB_take {i : Nat} {oi : Oper} {v : Value} {fuel : Nat} {listed : Array Bool} {a : Act} {w : World} (hi : ops.toList[i]? = some oi)
    (hs : Region.noSelect ops = true) (hf : Region.free md ops listed i = true) (hr : (Region.ready md ops listed).contains i = true) (D : List Nat) (hb : (D.all fun d => !(listed.getD d true)) = true) (hw : behind md ops b i D = true)
    (hQ : ∀ c a w, Q (.panic c) (a.put oi.dst v) w → Q (.panic c) a w) (hy : YieldsIf P ops A oi v a) (hS : A w)
    (h : wpAnyB P md ops Q A b fuel (listed.setIfInBounds i true) (a.put oi.dst v) w) : wpAnyB P md ops Q A b (fuel + 1) listed a w :=
  have hi : ops[i]? = some oi := by rw [← Array.getElem?_toList]; exact hi
  wpAnyB_first hi (Region.noSelect_spec hs) hQ hw fuel listed a w (Region.free_spec hi hf) (by simpa using hr) (fun d hd => by simpa using List.all_eq_true.1 hb d hd) hy hS h

theorem wpAnyB_firstY {i : Nat} {oi : Oper} {v : Value} (hi : ops[i]? = some oi) (hsel : ∀ (j : Nat) (o : Oper) cs b, ops[j]? = some o → o.op ≠ .select cs b)
    (hQ : ∀ c a w, Q (.panic c) (a.put oi.dst v) w → Q (.panic c) a w) (hib : i ≠ b) :
    ∀ (fuel : Nat) (listed : Array Bool) (a : Act) (w : World),
      (∀ j oj, ops[j]? = some oj → j ≠ i → listed.getD j true = false → (∀ e ∈ oj.after, Region.binds md e = true → e.on ≠ i) → oi.apart ops oj = true) →
      i ∈ Region.ready md ops listed → YieldsIf P ops (fun _ => True) oi v a → (listed.getD b true = false → A w) →
      wpAnyB P md ops Q A b fuel (listed.setIfInBounds i true) (a.put oi.dst v) w → wpAnyB P md ops Q A b (fuel + 1) listed a w := by
  intro fuel
  induction fuel with
  | zero =>
    intro listed a w _ hr hy hS H
    refine ⟨fun h => (by rw [h] at hr; cases hr), fun j hj => ?_⟩
    by_cases hji : j = i
    · subst hji; exact hy.wpOp hi trivial ⟨fun h => hS (by rw [getD_set_ne true hib] at h; exact h), H⟩
    · have := ready_mono hj hji
      rw [H.1] at this
      cases this
  | succ fuel ih =>
    intro listed a w hfree hr hy hS H
    refine ⟨fun h => (by rw [h] at hr; cases hr), fun j hj => ?_⟩
    by_cases hji : j = i
    · subst hji; exact hy.wpOp hi trivial ⟨fun h => hS (by rw [getD_set_ne true hib] at h; exact h), H⟩
    · have h1 := H.2 j (ready_mono hj hji)
      obtain ⟨hjun, oj, hoj, hallj⟩ := mem_ready.1 hj
      have hnot : ∀ e ∈ oj.after, Region.binds md e = true → e.on ≠ i := fun e he hb heq => by
        have h1 := hallj e he hb
        have h0 := (mem_ready.1 hr).1
        rw [heq] at h1
        rcases Nat.lt_or_ge i listed.size with h' | h'
        · simp [h'] at h0 h1; rw [h0] at h1; cases h1
        · simp [Array.getElem?_eq_none h'] at h1
      have h2 := wpOp_putIf hoj (hfree j oj hoj hji hjun hnot) (fun cs b => hsel i oi cs b hi) (fun cs b => hsel j oj cs b hoj) hQ hy h1
      have hfree' : ∀ k ok, ops[k]? = some ok → k ≠ i → (listed.setIfInBounds j true).getD k true = false →
          (∀ e ∈ ok.after, Region.binds md e = true → e.on ≠ i) → oi.apart ops ok = true := fun k ok hk hki hun hno => by
        refine hfree k ok hk hki ?_ hno
        by_cases hjk : j = k
        · subst hjk; exact hjun
        · rw [getD_set_ne true hjk] at hun; exact hun
      have e2 : ((listed.setIfInBounds i true).setIfInBounds j true).getD b true = (listed.setIfInBounds j true).getD b true := by
        rw [Array.setIfInBounds_comm _ _ (Ne.symm hji), getD_set_ne true hib]
      refine wpOp_mono (fun a' w' h3 => ⟨fun h => h3.2.1 (by rw [e2]; exact h), ih (listed.setIfInBounds j true) a' w' hfree' (ready_mono hr (Ne.symm hji)) h3.1 (fun h => h3.2.1 (by rw [e2]; exact h)) ?_⟩) h2
      rw [Array.setIfInBounds_comm _ _ hji]
      exact h3.2.2

/-- Take number i first, which yields in whatever world. -/
theorem wpAnyB_takeY {i : Nat} {oi : Oper} {v : Value} {fuel : Nat} {listed : Array Bool} {a : Act} {w : World} (hi : ops.toList[i]? = some oi)
    (hs : Region.noSelect ops = true) (hf : Region.free md ops listed i = true) (hr : (Region.ready md ops listed).contains i = true) (hib : (i == b) = false)
    (hQ : ∀ c a w, Q (.panic c) (a.put oi.dst v) w → Q (.panic c) a w) (hy : YieldsIf P ops (fun _ => True) oi v a) (hS : A w)
    (h : wpAnyB P md ops Q A b fuel (listed.setIfInBounds i true) (a.put oi.dst v) w) : wpAnyB P md ops Q A b (fuel + 1) listed a w :=
  have hi : ops[i]? = some oi := by rw [← Array.getElem?_toList]; exact hi
  wpAnyB_firstY hi (Region.noSelect_spec hs) hQ (by simpa using hib) fuel listed a w (Region.free_spec hi hf) (by simpa using hr) hy (fun _ => hS) h

theorem wpAnyB_done {listed : Array Bool} {a : Act} {w : World} (hr : Region.ready md ops listed = []) (h : Q .normal a w) :
    ∀ fuel, wpAnyB P md ops Q A b fuel listed a w
  | 0 => ⟨hr, h⟩
  | _ + 1 => ⟨fun _ => h, by rw [hr]; simp⟩

theorem wp_region_B {id : Nat} {a : Act} {w : World} (hm : P.follows .mixedOrders = true) (hA : A w.drew)
    (h : A w.drew → wpAnyB P .any ops Q A b ops.size (Array.replicate ops.size false) a w.drew) : (Code.region id ops true).wp P Q a w :=
  wp_region_any hm (wpAny_of_B _ _ _ _ (h hA))

/-- Each of the operations rs comes up next. -/
def AllReadyB (P : Program) (md : Region.Mode) (ops : Array Oper) (Q : Exit → Act → World → Prop) (A : World → Prop) (b fuel : Nat) (listed : Array Bool) (a : Act) (w : World) (rs : List Nat) : Prop :=
  ∀ i ∈ rs, wpOp P ops Q i (fun a' w' => ((listed.setIfInBounds i true).getD b true = false → A w') ∧ wpAnyB P md ops Q A b fuel (listed.setIfInBounds i true) a' w') a w

theorem AllReadyB.nil {fuel : Nat} {listed : Array Bool} {a : Act} {w : World} : AllReadyB P md ops Q A b fuel listed a w [] := fun _ h => by cases h

theorem AllReadyB.pre {fuel : Nat} {listed : Array Bool} {a : Act} {w : World} {i : Nat} {o : Oper} {rs : List Nat} (ho : ops.toList[i]? = some o)
    (h : ∀ K' : Act → World → Prop, Shut (∀ a w, A w → (A w → wpAnyB P md ops Q A b fuel (listed.setIfInBounds i true) a w) → K' a w) → if Region.wanted o (yielded ops a.tmps) = true then Oper.wp P o a w K' Q else K' (a.put o.dst undef) w)
    (hs : AllReadyB P md ops Q A b fuel listed a w rs) : AllReadyB P md ops Q A b fuel listed a w (i :: rs) := fun j hj => by
  rcases List.mem_cons.1 hj with rfl | hj
  · exact wpOp_step (by rw [← Array.getElem?_toList]; exact ho) (fun K' hK => h K' (fun a w hS hW => hK a w ⟨fun _ => hS, hW hS⟩))
  · exact hs j hj

theorem AllReadyB.post {fuel : Nat} {listed : Array Bool} {a : Act} {w : World} {i : Nat} {o : Oper} {rs : List Nat} (ho : ops.toList[i]? = some o) (hb : (listed.setIfInBounds i true).getD b true = true)
    (h : ∀ K' : Act → World → Prop, Shut (∀ a w, wpAnyB P md ops Q A b fuel (listed.setIfInBounds i true) a w → K' a w) → if Region.wanted o (yielded ops a.tmps) = true then Oper.wp P o a w K' Q else K' (a.put o.dst undef) w)
    (hs : AllReadyB P md ops Q A b fuel listed a w rs) : AllReadyB P md ops Q A b fuel listed a w (i :: rs) := fun j hj => by
  rcases List.mem_cons.1 hj with rfl | hj
  · exact wpOp_step (by rw [← Array.getElem?_toList]; exact ho) (fun K' hK => h K' (fun a w hW => hK a w ⟨fun h => (by rw [hb] at h; cases h), hW⟩))
  · exact hs j hj

theorem wpAnyB_ready {rs : List Nat} {fuel : Nat} {listed : Array Bool} {a : Act} {w : World} (hr : Region.ready md ops listed = rs) (hne : rs ≠ [])
    (h : AllReadyB P md ops Q A b fuel listed a w rs) : wpAnyB P md ops Q A b (fuel + 1) listed a w := ⟨fun h0 => absurd (hr ▸ h0) hne, hr ▸ h⟩
end
end Go.Proofs.YtpfjhehjmhkbpaaGreatDoor
