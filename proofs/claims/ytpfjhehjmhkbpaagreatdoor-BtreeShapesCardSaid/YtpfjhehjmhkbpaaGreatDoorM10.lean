/- One page that is laid, taken or given up: what becomes of the pages; no walk in sight. A key is put into a node: what becomes of what stands there; no walk in sight. A key is taken out of a leaf: what becomes of what stands there; no walk in sight. -/
import Derived.Test.YtpfjhehjmhkbpaaGreatDoorM09
namespace Go.Proofs.YtpfjhehjmhkbpaaGreatDoor

theorem Stp.perm {ps ps' : List Pg} {S S' S'' : List Nat} (h : Stp ps S ps' S') (hp : S'.Perm S'') : Stp ps S ps' S'' :=
  ⟨h.keep, fun n => by rw [h.tak, hp.mem_iff], fun n hn => h.new n (hp.mem_iff.2 hn), hp.nodup_iff.1 h.nd⟩
theorem Stp.perm0 {ps ps' : List Pg} {S S' S0 : List Nat} (h : Stp ps S ps' S') (hp : S.Perm S0) : Stp ps S0 ps' S' :=
  ⟨fun n l hl hn => h.keep n l hl (fun h => hn (hp.mem_iff.1 h)), fun n => by rw [h.tak, hp.mem_iff], fun n hn => by rw [← hp.mem_iff]; exact h.new n hn, h.nd⟩

theorem hasP_set {ps : List Pg} {n m : Nat} {x : Pg} (hn : n < ps.length) : hasP (ps.set n x) m = if m = n then x.taken else hasP ps m := by
  unfold hasP
  rw [List.getElem?_set]
  by_cases h : n = m
  · subst h; rw [if_pos rfl, if_pos rfl, if_pos hn]
  · rw [if_neg h, if_neg (fun e => h e.symm)]
theorem pgIs_set_self {ps : List Pg} {n : Nat} {v : Value} {l : List UInt8} (hn : n < ps.length) : PgIs (ps.set n ⟨true, v, l⟩) n l := ⟨⟨true, v, l⟩, by rw [List.getElem?_set, if_pos rfl, if_pos hn], rfl, rfl⟩
theorem pgIs_set_other {ps : List Pg} {n m : Nat} {x : Pg} {l : List UInt8} (h : PgIs ps m l) (hm : m ≠ n) : PgIs (ps.set n x) m l := by
  obtain ⟨pg, h1, h2, h3⟩ := h
  exact ⟨pg, by rw [List.getElem?_set_ne (fun e => hm e.symm)]; exact h1, h2, h3⟩

theorem room_set_taken {ps : List Pg} {n : Nat} {v : Value} {l : List UInt8} (h : hasP ps n = true) : room (ps.set n ⟨true, v, l⟩) = room ps := by
  obtain ⟨x, hx, hxt, hn⟩ := hasP_some h
  have hxe : ps[n].taken = true := by rw [(List.getElem?_eq_some_iff.1 hx).2]; exact hxt
  have e := nfree_set (x := ⟨true, v, l⟩) hn true hxe
  simp only [if_true] at e
  unfold room
  rw [List.length_set]
  omega

/-- A page is laid anew. -/
theorem Stp.put {ps : List Pg} {S : List Nat} {n : Nat} {v : Value} {l : List UInt8} (hS : ∀ m ∈ S, hasP ps m = true) (hd : S.Nodup) (hn : n ∈ S) : Stp ps S (ps.set n ⟨true, v, l⟩) S := by
  obtain ⟨x, hx, hxt, hlt⟩ := hasP_some (hS n hn)
  refine ⟨fun m l' h hm => pgIs_set_other h (fun e => hm (e ▸ hn)), fun m => ?_, fun m h => .inl h, hd⟩
  rw [hasP_set hlt]
  by_cases e : m = n
  · subst e; simp [hn]
  · rw [if_neg e]
    constructor
    · intro h
      by_cases hm : m ∈ S
      · exact .inr hm
      · exact .inl ⟨h, hm⟩
    · rintro (⟨h, _⟩ | h)
      · exact h
      · exact hS m h

theorem newIdx_hasnot (ps : List Pg) : hasP ps (newIdx ps) = false := by
  unfold hasP
  by_cases h : newIdx ps < ps.length
  · rw [List.getElem?_eq_getElem h]; exact newIdx_free h
  · rw [List.getElem?_eq_none (by omega)]
theorem newPs_get (ps : List Pg) (m : Nat) : (newPs ps)[m]? = if m = newIdx ps then some freshPg else ps[m]? := by
  unfold newPs
  by_cases h : newIdx ps < ps.length
  · rw [if_pos h, List.getElem?_set]
    by_cases e : newIdx ps = m
    · subst e; simp [h]
    · rw [if_neg e, if_neg (fun h => e h.symm)]
  · rw [if_neg h, newIdx_eq h]
    by_cases e : m = ps.length
    · subst e; simp
    · rw [if_neg e]
      by_cases hm : m < ps.length
      · rw [List.getElem?_append_left hm]
      · rw [List.getElem?_eq_none (by simp; omega), List.getElem?_eq_none (by omega)]
theorem newPs_has (ps : List Pg) (m : Nat) : hasP (newPs ps) m = (hasP ps m || decide (m = newIdx ps)) := by
  unfold hasP
  rw [newPs_get]
  by_cases e : m = newIdx ps
  · simp [e, freshPg]
  · simp [e]
theorem newPs_keep {ps : List Pg} {m : Nat} {l : List UInt8} (h : PgIs ps m l) : PgIs (newPs ps) m l := by
  obtain ⟨pg, h1, h2, h3⟩ := h
  refine ⟨pg, ?_, h2, h3⟩
  rw [newPs_get, if_neg]
  · exact h1
  · rintro rfl
    have := newIdx_hasnot ps
    unfold hasP at this
    simp [h1, h2] at this
theorem newPs_room {ps : List Pg} (hf : ps.length ≤ 16384) (h : 1 ≤ room ps) : room (newPs ps) + 1 = room ps ∧ (ps.length < 16384 ∨ 0 < nfree ps) ∧ newIdx ps < 16384 ∧ (newPs ps).length ≤ 16384 := by
  have hle := nfree_le ps
  unfold room at *
  by_cases hlt : newIdx ps < ps.length
  · have h0 := newIdx_lt.1 hlt
    have e1 : newPs ps = ps.set (newIdx ps) freshPg := by unfold newPs; rw [if_pos hlt]
    have e := nfree_set (x := freshPg) hlt false (newIdx_free hlt)
    simp only [freshPg, if_true, Bool.false_eq_true, if_false] at e
    rw [e1, List.length_set]
    have e2 : nfree (ps.set (newIdx ps) freshPg) = nfree (ps.set (newIdx ps) ⟨true, .slice none 0 0, []⟩) := rfl
    omega
  · have h0 : nfree ps = 0 := by have := newIdx_lt (ps := ps); omega
    have e1 : newPs ps = ps ++ [freshPg] := by unfold newPs; rw [if_neg hlt]
    have e2 : nfree (ps ++ [freshPg]) = nfree ps := by simp [nfree, freshPg]
    rw [newIdx_eq hlt, e1, List.length_append, e2]
    simp only [List.length_cons, List.length_nil]
    omega

/-- A page is taken. -/
theorem Stp.new_ {ps : List Pg} {S : List Nat} (hS : ∀ m ∈ S, hasP ps m = true) (hd : S.Nodup) : Stp ps S (newPs ps) (newIdx ps :: S) := by
  have hn : newIdx ps ∉ S := fun h => by have := hS _ h; rw [newIdx_hasnot] at this; cases this
  refine ⟨fun m l h _ => newPs_keep h, fun m => ?_, fun m h => ?_, List.nodup_cons.2 ⟨hn, hd⟩⟩
  · rw [newPs_has]
    simp only [Bool.or_eq_true, decide_eq_true_eq, List.mem_cons]
    constructor
    · rintro (h | h)
      · by_cases hm : m ∈ S
        · exact .inr (.inr hm)
        · exact .inl ⟨h, hm⟩
      · exact .inr (.inl h)
    · rintro (⟨h, _⟩ | (h | h))
      · exact .inl h
      · exact .inr h
      · exact .inl (hS m h)
  · rcases List.mem_cons.1 h with rfl | h
    · exact .inr (newIdx_hasnot ps)
    · exact .inl h

/-- A page is given up. -/
theorem Stp.free {ps : List Pg} {S : List Nat} {n : Nat} (hS : ∀ m ∈ S, hasP ps m = true) (hd : (n :: S).Nodup) (hn : hasP ps n = true) : Stp ps (n :: S) (ps.set n emptyPg) S := by
  obtain ⟨x, hx, hxt, hlt⟩ := hasP_some hn
  obtain ⟨h1, h2⟩ := List.nodup_cons.1 hd
  refine ⟨fun m l h hm => pgIs_set_other h (fun e => hm (by simp [e])), fun m => ?_, fun m h => .inl (by simp [h]), h2⟩
  rw [hasP_set hlt]
  by_cases e : m = n
  · subst e; simp [emptyPg, h1]
  · rw [if_neg e]
    constructor
    · intro h
      by_cases hm : m ∈ S
      · exact .inr hm
      · exact .inl ⟨h, by simp [e, hm]⟩
    · rintro (⟨h, _⟩ | h)
      · exact h
      · exact hS m h
theorem room_free {ps : List Pg} {n : Nat} (h : hasP ps n = true) : room (ps.set n emptyPg) = room ps + 1 := by
  obtain ⟨x, hx, hxt, hn⟩ := hasP_some h
  have hxe : ps[n].taken = true := by rw [(List.getElem?_eq_some_iff.1 hx).2]; exact hxt
  have e := nfree_set (x := emptyPg) hn true hxe
  simp only [emptyPg, if_true, Bool.false_eq_true, if_false] at e
  unfold room
  rw [List.length_set]
  have e2 : nfree (ps.set n emptyPg) = nfree (ps.set n ⟨false, .slice none 0 0, []⟩) := rfl
  omega

/-! ### a node is settled -/
/-- Behind a change below a page of that height: it stands there alone, or with a new page to its right. -/
inductive Grew [Mode] (ps : List Pg) (S : List Nat) (h n : Nat) (lo hi : Option ByteArray) (C : KV) (ps' : List Pg) : Option (ByteArray × Nat) → Prop
  | one {S' : List Nat} (hs : Sub ps' h n lo hi C S') (hp : Stp ps S ps' S') : Grew ps S h n lo hi C ps' none
  | two {k : ByteArray} {m : Nat} {C1 C2 : KV} {S1 S2 : List Nat} (hC : C = C1 ++ C2) (hlo : sltO lo k) (hhi : ltO k hi) (hks : k.size ≤ 200) (hkt : Mode.short = true → k.size ≤ 4) (hm : m < 16384)
      (h1 : Sub ps' h n lo (some k) C1 S1) (h2 : Sub ps' h m (some k) hi C2 S2) (hp : Stp ps S ps' (S1 ++ S2)) : Grew ps S h n lo hi C ps' (some (k, m))

/-- One page has room for the node. -/
theorem grew_one [Mode] {ps : List Pg} {h n : Nat} {x : Nd} {lo hi : Option ByteArray} {C : KV} {T : List Nat} {v : Value} (hb : Body ps h x lo hi C T) (hg : x.Good) (hl : x.bytes.length ≤ 512) (hn : hasP ps n = true) (hd : (n :: T).Nodup) :
    Grew ps (n :: T) h n lo hi C (ps.set n ⟨true, v, x.bytes⟩) none := by
  have hS : ∀ m ∈ n :: T, hasP ps m = true := fun m hm => by
    rcases List.mem_cons.1 hm with rfl | hm
    · exact hn
    · exact hb.pages m hm
  have hlt := (hasP_some hn).choose_spec.2.2
  refine .one (S' := n :: T) (Body.sub (hb.move fun m hm l h => pgIs_set_other h ?_) (pgIs_set_self hlt) hl hg) (Stp.put hS hd (by simp))
  rintro rfl
  exact (List.nodup_cons.1 hd).1 hm

/-- Two pages for the node's two parts. -/
theorem grew_two [Mode] {ps : List Pg} {h n i : Nat} {x : Nd} {k : ByteArray} {lo hi : Option ByteArray} {C : KV} {T : List Nat} {v v' : Value} (hb : Body ps h x lo hi C T) (hg : x.Good) (hi1 : 1 ≤ i) (hk : x.keys[i]? = some k) (hc : x.cost i ≤ 512)
    (hn : hasP ps n = true) (hd : (n :: T).Nodup) (hf : ps.length ≤ 16384) (hr : 1 ≤ room ps) (hs : Mode.short = true → if x.leaf then 2 ≤ i ∧ i + 2 ≤ x.keys.length else i + 1 < x.keys.length) :
    Grew ps (n :: T) h n lo hi C (((newPs ps).set n ⟨true, v, (x.lo_ i).bytes⟩).set (newIdx ps) ⟨true, v', (x.hi_ i).bytes⟩) (some (k, newIdx ps)) := by
  have hS : ∀ m ∈ n :: T, hasP ps m = true := fun m hm => by
    rcases List.mem_cons.1 hm with rfl | hm
    · exact hn
    · exact hb.pages m hm
  have hil := (List.getElem?_eq_some_iff.1 hk).1
  have hlt := (hasP_some hn).choose_spec.2.2
  obtain ⟨r1, r2, r3, r4⟩ := newPs_room hf hr
  have p1 := Stp.new_ hS hd
  have hS1 : ∀ m ∈ newIdx ps :: n :: T, hasP (newPs ps) m = true := fun m hm => (p1.tak m).2 (.inr hm)
  have p2 := Stp.put (v := v) (l := (x.lo_ i).bytes) hS1 p1.nd (n := n) (by simp)
  have hS2 : ∀ m ∈ newIdx ps :: n :: T, hasP ((newPs ps).set n ⟨true, v, (x.lo_ i).bytes⟩) m = true := fun m hm => (p2.tak m).2 (.inr hm)
  have p3 := Stp.put (v := v') (l := (x.hi_ i).bytes) hS2 p2.nd (n := newIdx ps) (by simp)
  have hnm : newIdx ps ∉ n :: T := (List.nodup_cons.1 p1.nd).1
  have hne : n ≠ newIdx ps := fun e => hnm (by simp [← e])
  obtain ⟨C1, C2, T1, T2, rfl, rfl, g1, g2, g3, g4⟩ := hb.half hi1 hk (fun h1 h2 => by have := hs h1; rwa [if_pos h2] at this)
  have hmv : ∀ m ∈ T1 ++ T2, ∀ l, PgIs ps m l → PgIs (((newPs ps).set n ⟨true, v, (x.lo_ i).bytes⟩).set (newIdx ps) ⟨true, v', (x.hi_ i).bytes⟩) m l := fun m hm l hl => by
    refine pgIs_set_other (pgIs_set_other (newPs_keep hl) ?_) ?_
    · rintro rfl; exact (List.nodup_cons.1 hd).1 hm
    · rintro rfl; exact hnm (List.mem_cons_of_mem _ hm)
  have hl1 : n < (newPs ps).length := (hasP_some (hS1 n (by simp))).choose_spec.2.2
  have hl2 : newIdx ps < ((newPs ps).set n ⟨true, v, (x.lo_ i).bytes⟩).length := (hasP_some (hS2 (newIdx ps) (by simp))).choose_spec.2.2
  have c1 : (x.lo_ i).bytes.length ≤ 512 := by unfold Nd.cost at hc; omega
  have c2 : (x.hi_ i).bytes.length ≤ 512 := by unfold Nd.cost at hc; omega
  refine .two (S1 := n :: T1) (S2 := newIdx ps :: T2) rfl g1 g2 (hg.ok.keys k (List.mem_of_getElem? hk)) (fun h => (hg.tiny h).1 k (List.mem_of_getElem? hk)) r3 (Body.sub (g3.move fun m hm => hmv m (by simp [hm])) ?_ c1 (Nd.lo_good hg hi1 (by omega))) (Body.sub (g4.move fun m hm => hmv m (by simp [hm])) (pgIs_set_self hl2) c2 (Nd.hi_good hg hil (fun h1 h2 => by have := hs h1; rwa [if_neg (by simp [h2])] at this))) ?_
  · exact pgIs_set_other (pgIs_set_self hl1) hne
  · refine ((p1.trans p2).trans p3).perm ?_
    have := (List.perm_middle (a := newIdx ps) (l₁ := n :: T1) (l₂ := T2)).symm
    simpa using this
end Go.Proofs.YtpfjhehjmhkbpaaGreatDoor

namespace Go.Proofs.YtpfjhehjmhkbpaaGreatDoor

/-- The list with a key put. -/
def insKV (C : KV) (key : ByteArray) (b : List UInt8) : KV := C.filter (fun p => blt p.1 key) ++ (key, b) :: C.filter (fun p => blt key p.1)

theorem insKV_mid {Ca Ci Cb : KV} {key : ByteArray} {b : List UInt8} (ha : ∀ p ∈ Ca, blt p.1 key = true) (hb : ∀ p ∈ Cb, blt key p.1 = true) : insKV (Ca ++ Ci ++ Cb) key b = Ca ++ insKV Ci key b ++ Cb := by
  unfold insKV
  have e1 : Ca.filter (fun p => blt p.1 key) = Ca := List.filter_eq_self.2 ha
  have e2 : Ca.filter (fun p => blt key p.1) = [] := List.filter_eq_nil_iff.2 fun p hp => by simp [blt_asymm (ha p hp)]
  have e3 : Cb.filter (fun p => blt key p.1) = Cb := List.filter_eq_self.2 hb
  have e4 : Cb.filter (fun p => blt p.1 key) = [] := List.filter_eq_nil_iff.2 fun p hp => by simp [blt_asymm (hb p hp)]
  simp [List.filter_append, e1, e2, e3, e4]

theorem filter_below {C : KV} (h : Rises (C.map (·.1))) (key : ByteArray) : C.filter (fun p => blt p.1 key) = C.take (below (C.map (·.1)) key) ∧ C.filter (fun p => blt key p.1) = C.drop (kidIdx (C.map (·.1)) key) := by
  induction C with
  | nil => exact ⟨rfl, rfl⟩
  | cons p C ih =>
    have hr := List.pairwise_cons.1 h
    obtain ⟨h1, h2⟩ := ih hr.2
    by_cases hk : blt p.1 key = true
    · have e1 : below ((p :: C).map (·.1)) key = below (C.map (·.1)) key + 1 := by unfold below; rw [List.map_cons, List.countP_cons_of_pos]; exact hk
      have e2 : kidIdx ((p :: C).map (·.1)) key = kidIdx (C.map (·.1)) key + 1 := by unfold kidIdx; rw [List.map_cons, List.countP_cons_of_pos]; simpa using blt_asymm hk
      rw [e1, e2]
      refine ⟨?_, ?_⟩
      · rw [List.filter_cons_of_pos (by exact hk), h1]; rfl
      · rw [List.filter_cons_of_neg (by simpa using blt_asymm hk), h2]; rfl
    · have hk' : blt p.1 key = false := by simpa using hk
      have hall : ∀ q ∈ C, blt key q.1 = true := fun q hq => blt_of_le_lt hk' (hr.1 q.1 (List.mem_map.2 ⟨q, hq, rfl⟩))
      have e1 : below ((p :: C).map (·.1)) key = 0 := by
        unfold below
        rw [List.countP_eq_zero]
        intro a ha
        rcases List.mem_cons.1 ha with rfl | ha
        · simpa using hk'
        · obtain ⟨q, hq, rfl⟩ := List.mem_map.1 ha
          simpa using blt_asymm (hall q hq)
      have f1 : (p :: C).filter (fun p => blt p.1 key) = [] := List.filter_eq_nil_iff.2 fun q hq => by
        rcases List.mem_cons.1 hq with rfl | hq
        · simpa using hk'
        · simpa using blt_asymm (hall q hq)
      have f2 : C.filter (fun p => blt key p.1) = C := List.filter_eq_self.2 hall
      have e3 : kidIdx (C.map (·.1)) key = 0 := by
        unfold kidIdx
        rw [List.countP_eq_zero]
        intro a ha
        obtain ⟨q, hq, rfl⟩ := List.mem_map.1 ha
        simpa using hall q hq
      refine ⟨by rw [e1, f1]; rfl, ?_⟩
      by_cases hpk : p.1 = key
      · have e2 : kidIdx ((p :: C).map (·.1)) key = 1 := by
          unfold kidIdx at e3 ⊢
          rw [List.map_cons, List.countP_cons_of_pos (by simp [hpk, blt_irrefl]), e3]
        rw [e2, List.filter_cons_of_neg (by simp [hpk, blt_irrefl]), f2]; rfl
      · have hlt : blt key p.1 = true := blt_of_not hk' hpk
        have e2 : kidIdx ((p :: C).map (·.1)) key = 0 := by
          unfold kidIdx at e3 ⊢
          rw [List.map_cons, List.countP_cons_of_neg (by simp [hlt]), e3]
        rw [e2, List.filter_cons_of_pos (by exact hlt), f2]; rfl

theorem insKV_take {C : KV} (h : Rises (C.map (·.1))) (key : ByteArray) (b : List UInt8) : insKV C key b = C.take (below (C.map (·.1)) key) ++ (key, b) :: C.drop (kidIdx (C.map (·.1)) key) := by
  obtain ⟨h1, h2⟩ := filter_below h key
  unfold insKV
  rw [h1, h2]

theorem below_spec {l : List ByteArray} (h : Rises l) (key : ByteArray) : (∀ j (hj : j < l.length), j < below l key → blt l[j] key = true) ∧ (∀ j (hj : j < l.length), below l key ≤ j → blt l[j] key = false) := by
  induction l with
  | nil => exact ⟨fun j hj => by simp at hj, fun j hj => by simp at hj⟩
  | cons a l ih =>
    have hr := List.pairwise_cons.1 h
    obtain ⟨h1, h2⟩ := ih hr.2
    by_cases hk : blt a key = true
    · have e1 : below (a :: l) key = below l key + 1 := by unfold below; rw [List.countP_cons_of_pos]; exact hk
      rw [e1]
      refine ⟨fun j hj hlt => ?_, fun j hj hle => ?_⟩
      · cases j with
        | zero => exact hk
        | succ j => exact h1 j (by simpa using hj) (by omega)
      · cases j with
        | zero => omega
        | succ j => exact h2 j (by simpa using hj) (by omega)
    · have hk' : blt a key = false := by simpa using hk
      have e1 : below (a :: l) key = 0 := by
        unfold below
        rw [List.countP_eq_zero]
        intro b hb
        rcases List.mem_cons.1 hb with rfl | hb
        · simpa using hk'
        · simpa using blt_asymm (blt_of_le_lt hk' (hr.1 b hb))
      rw [e1]
      refine ⟨fun j hj hlt => by omega, fun j hj hle => ?_⟩
      cases j with
      | zero => exact hk'
      | succ j => exact blt_asymm (blt_of_le_lt hk' (hr.1 _ (List.getElem_mem _)))

theorem get_ins {α : Type} {l : List α} {i : Nat} {x u : α} {j : Nat} (hi : i ≤ l.length) (h : (ins l i [x])[j]? = some u) : (j < i ∧ l[j]? = some u) ∨ (j = i ∧ u = x) ∨ (i < j ∧ l[j - 1]? = some u) := by
  unfold ins at h
  by_cases h1 : j < i
  · rw [List.getElem?_append_left (by simp; omega), List.getElem?_take, if_pos h1] at h
    exact .inl ⟨h1, h⟩
  · rw [List.getElem?_append_right (by simp; omega)] at h
    have e : (l.take i).length = i := by simp; omega
    rw [e] at h
    by_cases h2 : j = i
    · subst h2
      simp at h
      exact .inr (.inl ⟨rfl, h.symm⟩)
    · right; right
      refine ⟨by omega, ?_⟩
      rw [show j - i = (j - i - 1) + 1 by omega] at h
      simp only [List.cons_append, List.nil_append, List.getElem?_cons_succ, List.getElem?_drop] at h
      rw [← h]
      congr 1
      omega
theorem mem_ins {α : Type} {l : List α} {i : Nat} {x u : α} (h : u ∈ ins l i [x]) : u = x ∨ u ∈ l := by
  unfold ins at h
  simp only [List.mem_append, List.mem_cons, List.not_mem_nil, or_false] at h
  rcases h with h | h | h
  · exact .inr (List.mem_of_mem_take h)
  · exact .inl h
  · exact .inr (List.mem_of_mem_drop h)

theorem Rises.ins {l : List ByteArray} (h : Rises l) {key : ByteArray} (hk : hasKey l key = false) : Rises (ins l (below l key) [key]) := by
  obtain ⟨h1, h2⟩ := below_spec h key
  have hle := below_le l key
  unfold YtpfjhehjmhkbpaaGreatDoor.ins Rises
  rw [List.pairwise_append]
  refine ⟨List.Pairwise.sublist (List.take_sublist _ _) h, ?_, fun a ha b hb => ?_⟩
  · rw [List.singleton_append, List.pairwise_cons]
    refine ⟨fun b hb => ?_, List.Pairwise.sublist (List.drop_sublist _ _) h⟩
    obtain ⟨j, hj, rfl⟩ := List.getElem_of_mem hb
    simp only [List.length_drop] at hj
    rw [List.getElem_drop]
    refine blt_of_not (h2 _ (by omega) (by omega)) (fun e => ?_)
    by_cases hj0 : j = 0
    · subst hj0
      unfold hasKey at hk
      rw [List.getElem?_eq_getElem (by omega)] at hk
      simp only [decide_eq_false_iff_not] at hk
      exact hk (congrArg some e)
    · have e1 := h.get_lt (i := below l key) (j := below l key + j) (by omega) (by omega)
      rw [e] at e1
      have e2 := h2 (below l key) (by omega) (Nat.le_refl _)
      rw [e1] at e2; cases e2
  · obtain ⟨j, hj, rfl⟩ := List.getElem_of_mem ha
    simp only [List.length_take] at hj
    rw [List.getElem_take]
    have e1 := h1 j (by omega) (by omega)
    rcases List.mem_append.1 hb with hb | hb
    · simp at hb; subst hb; exact e1
    · obtain ⟨j', hj', rfl⟩ := List.getElem_of_mem hb
      simp only [List.length_drop] at hj'
      rw [List.getElem_drop]
      exact h.get_lt (by omega) (by omega)

/-! ### a leaf -/
/-- The leaf with a new key. -/
def Nd.addKey (x : Nd) (key : ByteArray) (v : Vl) : Nd := { x with keys := ins x.keys (below x.keys key) [key], vals := ins x.vals (below x.keys key) [v] }
/-- The leaf with another value for a key. -/
def Nd.setVal (x : Nd) (i : Nat) (v : Vl) : Nd := { x with vals := x.vals.set i v }

theorem few512 {x : Nd} (h : x.Ok) (hl : x.bytes.length ≤ 512) : x.keys.length ≤ 512 := by
  have h1 := x.bytes_len
  have h2 : x.entries.length ≤ sumLen x.entries := by
    have hpos : ∀ u ∈ x.entries, 1 ≤ u.length := by
      intro u hu
      unfold Nd.entries at hu
      have hkb : ∀ k : ByteArray, 1 ≤ (keyBytes k).length := fun k => by
        have := List.length_pos_iff.2 (enc_ne k.size)
        simp only [keyBytes, List.length_append]; omega
      split at hu
      · obtain ⟨i, hi, rfl⟩ := List.getElem_of_mem hu
        rw [List.getElem_zipWith, List.length_append]
        have := hkb (x.keys[i]'(by simp at hi; omega))
        omega
      · obtain ⟨k, hk, rfl⟩ := List.mem_map.1 hu
        exact hkb k
    generalize x.entries = E at hpos ⊢
    induction E with
    | nil => simp [sumLen]
    | cons a E ih =>
      have := ih fun u hu => hpos u (by simp [hu])
      have h3 := hpos a (by simp)
      simp only [sumLen, List.flatten_cons, List.length_append, List.length_cons] at this ⊢
      omega
  rw [Nd.entries_len h] at h2
  omega

theorem sumLen_ins (l : List (List UInt8)) (i : Nat) (u : List UInt8) : sumLen (ins l i [u]) = sumLen l + u.length := by
  unfold ins
  have := sumLen_cut l i
  rw [sumLen_append, sumLen_append]
  simp only [sumLen, List.flatten_cons, List.flatten_nil, List.append_nil] at this ⊢
  omega

theorem zip_ins {α β γ : Type} (f : α → β → γ) (l : List α) (m : List β) (i : Nat) (a : α) (b : β) (h : l.length = m.length) : List.zipWith f (ins l i [a]) (ins m i [b]) = ins (List.zipWith f l m) i [f a b] := by
  unfold ins
  rw [List.zipWith_append (by simp [h]), List.take_zipWith, List.drop_zipWith]
  rfl

theorem Nd.addKey_good [Mode] {x : Nd} (h : x.Good) (hl : x.leaf = true) (hb : x.bytes.length ≤ 512) {key : ByteArray} {v : Vl} (hk : key.size ≤ 200) (hv : v.Ok) (hin : Fit key v) :
    (x.addKey key v).Good ∧ (x.addKey key v).bytes.length ≤ 740 := by
  have hle := below_le x.keys key
  have hvl := (h.ok.lf hl).1
  have hk0 := (h.ok.lf hl).2
  have hf := few512 h.ok hb
  have hgood : (x.addKey key v).Good := by
    refine ⟨⟨?_, fun k hk' => ?_, fun u hu => ?_, h.ok.kids, fun _ => ⟨?_, hk0⟩, fun h' => by rw [show (x.addKey key v).leaf = x.leaf from rfl, hl] at h'; cases h'⟩, fun i k u h1 h2 => ?_, fun hs => ⟨fun k hk' => ?_, fun u hu => ?_⟩, fun _ h' => by rw [show (x.addKey key v).leaf = x.leaf from rfl, hl] at h'; cases h'⟩
    · show (ins x.keys _ _).length ≤ _
      rw [ins_length]; simp only [List.length_cons, List.length_nil]; omega
    · rcases mem_ins hk' with rfl | h'
      · exact hk
      · exact h.ok.keys k h'
    · rcases mem_ins hu with rfl | h'
      · exact hv
      · exact h.ok.vals u h'
    · show (ins x.vals _ _).length = (ins x.keys _ _).length
      rw [ins_length, ins_length, hvl]; rfl
    · rcases get_ins hle h1 with ⟨a1, a2⟩ | ⟨a1, a2⟩ | ⟨a1, a2⟩
      · rcases get_ins (by omega) h2 with ⟨b1, b2⟩ | ⟨b1, b2⟩ | ⟨b1, b2⟩
        · exact h.room i k u a2 b2
        · omega
        · omega
      · rcases get_ins (by omega) h2 with ⟨b1, b2⟩ | ⟨b1, b2⟩ | ⟨b1, b2⟩
        · omega
        · subst a2 b2; exact hin.1
        · omega
      · rcases get_ins (by omega) h2 with ⟨b1, b2⟩ | ⟨b1, b2⟩ | ⟨b1, b2⟩
        · omega
        · omega
        · exact h.room _ k u a2 b2
    · rcases mem_ins hk' with rfl | h'
      · exact (hin.2 hs).1
      · exact (h.tiny hs).1 k h'
    · rcases mem_ins hu with rfl | h'
      · exact (hin.2 hs).2
      · exact (h.tiny hs).2 u h'
  refine ⟨hgood, ?_⟩
  have e1 : (x.addKey key v).entries = ins x.entries (below x.keys key) [keyBytes key ++ v.bytes] := by
    unfold Nd.entries
    rw [if_pos (show (x.addKey key v).leaf = true from hl), if_pos hl]
    exact zip_ins _ _ _ _ _ _ hvl.symm
  have e2 := Nd.entry_le hgood (keyBytes key ++ v.bytes) (by rw [e1]; simp [ins])
  have e3 := Nd.bytes_len (x.addKey key v)
  have e4 := x.bytes_len
  have e5 := enc_two hgood.ok.few
  rw [e1, sumLen_ins] at e3
  have e6 : (x.addKey key v).kids = x.kids := rfl
  rw [e6] at e3
  have e7 : 0 < (enc x.keys.length).length := List.length_pos_iff.2 (enc_ne _)
  omega

theorem Nd.setVal_good [Mode] {x : Nd} (h : x.Good) (hl : x.leaf = true) (hb : x.bytes.length ≤ 512) {i : Nat} {key : ByteArray} {v : Vl} (hk : x.keys[i]? = some key) (hv : v.Ok) (hin : Fit key v) :
    (x.setVal i v).Good ∧ (x.setVal i v).bytes.length ≤ 740 := by
  have hvl := (h.ok.lf hl).1
  have hk0 := (h.ok.lf hl).2
  have hil := (List.getElem?_eq_some_iff.1 hk).1
  have hgood : (x.setVal i v).Good := by
    refine ⟨⟨h.ok.few, h.ok.keys, fun u hu => ?_, h.ok.kids, fun _ => ⟨?_, hk0⟩, fun h' => by rw [show (x.setVal i v).leaf = x.leaf from rfl, hl] at h'; cases h'⟩, fun j k u h1 h2 => ?_, fun hs => ⟨(h.tiny hs).1, fun u hu => ?_⟩, fun _ h' => by rw [show (x.setVal i v).leaf = x.leaf from rfl, hl] at h'; cases h'⟩
    · rcases List.mem_or_eq_of_mem_set hu with h' | rfl
      · exact h.ok.vals u h'
      · exact hv
    · show (x.vals.set i v).length = x.keys.length
      rw [List.length_set]; exact hvl
    · have h2' : (x.vals.set i v)[j]? = some u := h2
      rw [List.getElem?_set] at h2'
      by_cases e : i = j
      · subst e
        rw [if_pos rfl, if_pos (by omega)] at h2'
        cases h2'
        have h1' : x.keys[i]? = some k := h1
        rw [hk] at h1'; cases h1'
        exact hin.1
      · rw [if_neg e] at h2'
        exact h.room j k u h1 h2'
    · rcases List.mem_or_eq_of_mem_set hu with h' | rfl
      · exact (h.tiny hs).2 u h'
      · exact (hin.2 hs).2
  refine ⟨hgood, ?_⟩
  have e1 : (x.setVal i v).entries = x.entries.set i (keyBytes key ++ v.bytes) := by
    unfold Nd.entries
    rw [if_pos (show (x.setVal i v).leaf = true from hl), if_pos hl]
    apply List.ext_getElem?
    intro j
    rw [List.getElem?_set]
    simp only [Nd.setVal, List.getElem?_zipWith, List.getElem?_set]
    by_cases e : i = j
    · subst e
      rw [if_pos rfl, if_pos (by omega), if_pos rfl, hk, if_pos (by rw [List.length_zipWith]; omega)]
    · rw [if_neg e, if_neg e]
  have e2 := Nd.entry_le hgood (keyBytes key ++ v.bytes) (by rw [e1]; exact List.mem_set (by rw [Nd.entries_len h.ok]; exact hil) _)
  have e3 := Nd.bytes_len (x.setVal i v)
  have e4 := x.bytes_len
  have e8 : sumLen (x.entries.set i (keyBytes key ++ v.bytes)) ≤ sumLen x.entries + (keyBytes key ++ v.bytes).length := by
    rw [List.set_eq_take_append_cons_drop, if_pos (by rw [Nd.entries_len h.ok]; exact hil)]
    have c1 := sumLen_cut x.entries i
    have c2 := sumLen_cut (x.entries.drop i) 1
    rw [List.drop_drop] at c2
    rw [sumLen_append]
    have c3 : sumLen ((keyBytes key ++ v.bytes) :: x.entries.drop (i + 1)) = (keyBytes key ++ v.bytes).length + sumLen (x.entries.drop (i + 1)) := by simp only [sumLen, List.flatten_cons, List.length_append]
    omega
  rw [e1] at e3
  have e6 : (x.setVal i v).kids = x.kids := rfl
  have e9 : (x.setVal i v).keys = x.keys := rfl
  rw [e6, e9] at e3
  omega

/-- A new key in a leaf. -/
theorem LeafIs.add [Mode] {ps : List Pg} {x : Nd} {lo hi : Option ByteArray} {C : KV} {T : List Nat} (h : LeafIs ps x lo hi C T) {key : ByteArray} {b : List UInt8} {v : Vl} {V : List Nat} (hk : hasKey x.keys key = false) (hlo : leO lo key) (hhi : ltO key hi) (hv : VlOf ps v b V) :
    ∃ T1 T2, T = T1 ++ T2 ∧ LeafIs ps (x.addKey key v) lo hi (insKV C key b) (T1 ++ V ++ T2) := by
  obtain ⟨T1, T2, rfl, h1, h2⟩ := h.vals.cut (below x.keys key)
  have hr : Rises (C.map (·.1)) := by rw [← h.keys]; exact h.rises
  have hki : kidIdx x.keys key = below x.keys key := by rw [kidIdx_eq h.rises, hk]; simp
  have hC : insKV C key b = C.take (below x.keys key) ++ (key, b) :: C.drop (below x.keys key) := by
    rw [insKV_take hr, ← h.keys, hki]
  refine ⟨T1, T2, rfl, ⟨h.leaf, ?_, ?_, h.rises.ins hk, fun k hk' => ?_, fun k hk' => ?_, fun hs => ?_⟩⟩
  · rw [hC]
    show ins x.keys _ _ = _
    conv => lhs; rw [h.keys]
    simp [ins, List.map_take, List.map_drop, ← h.keys]
  · rw [hC]
    show Vals ps (ins x.vals _ _) _ _
    have e : (C.take (below x.keys key) ++ (key, b) :: C.drop (below x.keys key)).map (·.2) = (C.map (·.2)).take (below x.keys key) ++ ([b] ++ (C.map (·.2)).drop (below x.keys key)) := by simp [List.map_take, List.map_drop]
    rw [e]
    unfold ins
    rw [List.append_assoc]
    exact h1.append (Vals.append (vs := [v]) ⟨b, [], V, [], rfl, by simp, hv, rfl, rfl⟩ h2)
  · rcases mem_ins hk' with rfl | h'
    · exact hlo
    · exact h.lo k h'
  · rcases mem_ins hk' with rfl | h'
    · exact hhi
    · exact h.hi k h'
  · rcases h.two hs with h' | h'
    · left
      show 2 ≤ (ins x.keys _ _).length
      rw [ins_length]; omega
    · exact .inr h'

/-- Another value for a key of a leaf. -/
theorem LeafIs.set [Mode] {ps : List Pg} {x : Nd} {lo hi : Option ByteArray} {C : KV} {T : List Nat} (h : LeafIs ps x lo hi C T) {key : ByteArray} (hk : hasKey x.keys key = true) :
    ∃ T1 V0 T2 v0 b0, T = T1 ++ V0 ++ T2 ∧ x.keys[below x.keys key]? = some key ∧ x.vals[below x.keys key]? = some v0 ∧ VlOf ps v0 b0 V0 ∧
      ∀ ps' b v V, (∀ m ∈ T1 ++ T2, ∀ l, PgIs ps m l → PgIs ps' m l) → VlOf ps' v b V → LeafIs ps' (x.setVal (below x.keys key) v) lo hi (insKV C key b) (T1 ++ V ++ T2) := by
  obtain ⟨T1, T', rfl, h1, h2⟩ := h.vals.cut (below x.keys key)
  have hr : Rises (C.map (·.1)) := by rw [← h.keys]; exact h.rises
  have hki : kidIdx x.keys key = below x.keys key + 1 := by rw [kidIdx_eq h.rises, hk]; simp
  have hkey : x.keys[below x.keys key]? = some key := by unfold hasKey at hk; simpa using hk
  have hil := (List.getElem?_eq_some_iff.1 hkey).1
  have hvl : x.vals.length = x.keys.length := by rw [h.vals.len, h.keys, List.length_map, List.length_map]
  have hcl : C.length = x.keys.length := by rw [h.keys, List.length_map]
  obtain ⟨v0, hv0⟩ : ∃ v0, x.vals[below x.keys key]? = some v0 := ⟨_, List.getElem?_eq_getElem (by omega)⟩
  have hd : x.vals.drop (below x.keys key) = v0 :: x.vals.drop (below x.keys key + 1) := by
    rw [List.drop_eq_getElem_cons (by omega), (List.getElem?_eq_some_iff.1 hv0).2]
  rw [hd] at h2
  obtain ⟨b0, bs', V0, T2, hb, rfl, h3, h4⟩ := h2
  refine ⟨T1, V0, T2, v0, b0, by simp, hkey, hv0, h3, fun ps' b v V hmv hv => ?_⟩
  have hC : insKV C key b = C.take (below x.keys key) ++ (key, b) :: C.drop (below x.keys key + 1) := by
    rw [insKV_take hr, ← h.keys, hki]
  have hbs : bs' = (C.map (·.2)).drop (below x.keys key + 1) := by
    have := congrArg List.tail hb
    simpa using this.symm
  refine ⟨h.leaf, ?_, ?_, h.rises, h.lo, h.hi, h.two⟩
  · rw [hC]
    show x.keys = _
    have e1 : x.keys = x.keys.take (below x.keys key) ++ key :: x.keys.drop (below x.keys key + 1) := by
      conv => lhs; rw [← List.take_append_drop (below x.keys key) x.keys]
      rw [List.drop_eq_getElem_cons hil, (List.getElem?_eq_some_iff.1 hkey).2]
    conv => lhs; rw [e1]
    rw [List.map_append, List.map_cons, List.map_take, List.map_drop, ← h.keys]
  · rw [hC]
    show Vals ps' (x.vals.set _ v) _ _
    rw [List.set_eq_take_append_cons_drop, if_pos (by omega)]
    have e : (C.take (below x.keys key) ++ (key, b) :: C.drop (below x.keys key + 1)).map (·.2) = (C.map (·.2)).take (below x.keys key) ++ ([b] ++ (C.map (·.2)).drop (below x.keys key + 1)) := by simp [List.map_take, List.map_drop]
    rw [e, List.append_assoc]
    refine (h1.move fun n hn => hmv n (by simp [hn])).append ?_
    rw [hbs] at h4
    exact Vals.append (vs := [v]) (S := V) ⟨b, [], V, [], rfl, by simp, hv, rfl, rfl⟩ (h4.move fun n hn => hmv n (by simp [hn]))
end Go.Proofs.YtpfjhehjmhkbpaaGreatDoor

namespace Go.Proofs.YtpfjhehjmhkbpaaGreatDoor

/-- The list with a key taken away. -/
def delKV (C : KV) (key : ByteArray) : KV := C.filter (fun p => blt p.1 key) ++ C.filter (fun p => blt key p.1)

theorem delKV_mid {Ca Ci Cb : KV} {key : ByteArray} (ha : ∀ p ∈ Ca, blt p.1 key = true) (hb : ∀ p ∈ Cb, blt key p.1 = true) : delKV (Ca ++ Ci ++ Cb) key = Ca ++ delKV Ci key ++ Cb := by
  unfold delKV
  have e1 : Ca.filter (fun p => blt p.1 key) = Ca := List.filter_eq_self.2 ha
  have e2 : Ca.filter (fun p => blt key p.1) = [] := List.filter_eq_nil_iff.2 fun p hp => by simp [blt_asymm (ha p hp)]
  have e3 : Cb.filter (fun p => blt key p.1) = Cb := List.filter_eq_self.2 hb
  have e4 : Cb.filter (fun p => blt p.1 key) = [] := List.filter_eq_nil_iff.2 fun p hp => by simp [blt_asymm (hb p hp)]
  simp [List.filter_append, e1, e2, e3, e4]

theorem delKV_take {C : KV} (h : Rises (C.map (·.1))) (key : ByteArray) : delKV C key = C.take (below (C.map (·.1)) key) ++ C.drop (kidIdx (C.map (·.1)) key) := by
  obtain ⟨h1, h2⟩ := filter_below h key
  unfold delKV
  rw [h1, h2]

/-- The leaf without one of its keys. -/
def Nd.dropKey (x : Nd) (i : Nat) : Nd := { x with keys := del x.keys i 1, vals := del x.vals i 1 }

theorem enc_mono : ∀ m n, n ≤ m → (enc n).length ≤ (enc m).length := by
  intro m
  induction m using Nat.strongRecOn with
  | _ m ih =>
    intro n hn
    by_cases hm : m < 128
    · rw [enc_small hm, enc_small (by omega)]; simp
    · by_cases hn' : n < 128
      · rw [enc_small hn', enc_big hm]; simp
      · rw [enc_big hm, enc_big hn']
        have := ih (m / 128) (by omega) (n / 128) (by omega)
        simp only [List.length_cons]; omega

theorem mem_del {α : Type} {l : List α} {i s : Nat} {u : α} (h : u ∈ del l i s) : u ∈ l := by
  unfold del at h
  rcases List.mem_append.1 h with h | h
  · exact List.mem_of_mem_take h
  · exact List.mem_of_mem_drop h

theorem get_del {α : Type} {l : List α} {i j : Nat} {u : α} (hi : i < l.length) (h : (del l i 1)[j]? = some u) : l[if j < i then j else j + 1]? = some u := by
  unfold del at h
  by_cases h1 : j < i
  · rw [if_pos h1]
    rw [List.getElem?_append_left (by simp; omega), List.getElem?_take, if_pos h1] at h
    exact h
  · rw [if_neg h1]
    rw [List.getElem?_append_right (by simp; omega), List.getElem?_drop] at h
    rw [← h]
    congr 1
    simp; omega

theorem sumLen_del (l : List (List UInt8)) (i : Nat) : sumLen (del l i 1) ≤ sumLen l := by
  unfold del
  have h1 := sumLen_cut l i
  have h2 := sumLen_cut (l.drop i) 1
  rw [List.drop_drop] at h2
  rw [sumLen_append]
  omega

theorem zip_del {α β γ : Type} (f : α → β → γ) (l : List α) (m : List β) (i : Nat) (h : l.length = m.length) : List.zipWith f (del l i 1) (del m i 1) = del (List.zipWith f l m) i 1 := by
  unfold del
  rw [List.zipWith_append (by simp [h]), List.take_zipWith, List.drop_zipWith]

theorem Nd.dropKey_good [Mode] {x : Nd} (h : x.Good) (hl : x.leaf = true) (hb : x.bytes.length ≤ 512) {i : Nat} (hi : i < x.keys.length) : (x.dropKey i).Good ∧ (x.dropKey i).bytes.length ≤ 512 := by
  have hvl := (h.ok.lf hl).1
  have hk0 := (h.ok.lf hl).2
  have hgood : (x.dropKey i).Good := by
    refine ⟨⟨?_, fun k hk => h.ok.keys k (mem_del hk), fun v hv => h.ok.vals v (mem_del hv), h.ok.kids, fun _ => ⟨?_, hk0⟩, fun h' => by rw [show (x.dropKey i).leaf = x.leaf from rfl, hl] at h'; cases h'⟩, fun j k u h1 h2 => ?_, fun hs => ⟨fun k hk => (h.tiny hs).1 k (mem_del hk), fun v hv => (h.tiny hs).2 v (mem_del hv)⟩, fun _ h' => by rw [show (x.dropKey i).leaf = x.leaf from rfl, hl] at h'; cases h'⟩
    · show (del x.keys i 1).length ≤ _
      rw [del_length _ _ _ (by omega)]; have := h.ok.few; omega
    · show (del x.vals i 1).length = (del x.keys i 1).length
      rw [del_length _ _ _ (by omega), del_length _ _ _ (by omega), hvl]
    · have a1 := get_del hi h1
      have a2 := get_del (by omega) h2
      exact h.room _ k u a1 a2
  refine ⟨hgood, ?_⟩
  have e1 : (x.dropKey i).entries = del x.entries i 1 := by
    unfold Nd.entries
    rw [if_pos (show (x.dropKey i).leaf = true from hl), if_pos hl]
    exact zip_del _ _ _ _ hvl.symm
  have e3 := Nd.bytes_len (x.dropKey i)
  have e4 := x.bytes_len
  have e5 := sumLen_del x.entries i
  have e6 : (x.dropKey i).kids = x.kids := rfl
  have e7 : (x.dropKey i).keys.length = x.keys.length - 1 := del_length _ _ _ (by omega)
  have e8 := enc_mono x.keys.length (x.keys.length - 1) (by omega)
  rw [e1, e6, e7] at e3
  omega

theorem Rises.del {l : List ByteArray} (h : Rises l) (i s : Nat) : Rises (del l i s) := by
  unfold Rises YtpfjhehjmhkbpaaGreatDoor.del
  rw [List.pairwise_append]
  refine ⟨List.Pairwise.sublist (List.take_sublist _ _) h, List.Pairwise.sublist (List.drop_sublist _ _) h, fun a ha b hb => ?_⟩
  obtain ⟨j, hj, rfl⟩ := List.getElem_of_mem ha
  obtain ⟨j', hj', rfl⟩ := List.getElem_of_mem hb
  simp only [List.length_take] at hj
  simp only [List.length_drop] at hj'
  rw [List.getElem_take, List.getElem_drop]
  exact h.get_lt (by omega) (by omega)

/-- A key taken out of a leaf. -/
theorem LeafIs.gone [Mode] {ps : List Pg} {x : Nd} {lo hi : Option ByteArray} {C : KV} {T : List Nat} (h : LeafIs ps x lo hi C T) {key : ByteArray} (hk : hasKey x.keys key = true) (hm : Mode.short = false) :
    ∃ T1 V0 T2 v0 b0, T = T1 ++ V0 ++ T2 ∧ x.keys[below x.keys key]? = some key ∧ x.vals[below x.keys key]? = some v0 ∧ VlOf ps v0 b0 V0 ∧
      (∀ ps', (∀ m ∈ T1 ++ T2, ∀ l, PgIs ps m l → PgIs ps' m l) → LeafIs ps' (x.dropKey (below x.keys key)) lo hi (delKV C key) (T1 ++ T2)) ∧ (delKV C key).length + 1 = C.length := by
  obtain ⟨T1, T', rfl, h1, h2⟩ := h.vals.cut (below x.keys key)
  have hr : Rises (C.map (·.1)) := by rw [← h.keys]; exact h.rises
  have hki : kidIdx x.keys key = below x.keys key + 1 := by rw [kidIdx_eq h.rises, hk]; simp
  have hkey : x.keys[below x.keys key]? = some key := by unfold hasKey at hk; simpa using hk
  have hil := (List.getElem?_eq_some_iff.1 hkey).1
  have hvl : x.vals.length = x.keys.length := by rw [h.vals.len, h.keys, List.length_map, List.length_map]
  have hcl : C.length = x.keys.length := by rw [h.keys, List.length_map]
  obtain ⟨v0, hv0⟩ : ∃ v0, x.vals[below x.keys key]? = some v0 := ⟨_, List.getElem?_eq_getElem (by omega)⟩
  have hd : x.vals.drop (below x.keys key) = v0 :: x.vals.drop (below x.keys key + 1) := by
    rw [List.drop_eq_getElem_cons (by omega), (List.getElem?_eq_some_iff.1 hv0).2]
  rw [hd] at h2
  obtain ⟨b0, bs', V0, T2, hb, rfl, h3, h4⟩ := h2
  have hC : delKV C key = C.take (below x.keys key) ++ C.drop (below x.keys key + 1) := by
    rw [delKV_take hr, ← h.keys, hki]
  refine ⟨T1, V0, T2, v0, b0, by simp, hkey, hv0, h3, fun ps' hmv => ?_, ?_⟩
  · have hbs : bs' = (C.map (·.2)).drop (below x.keys key + 1) := by
      have := congrArg List.tail hb
      simpa using this.symm
    refine ⟨h.leaf, ?_, ?_, h.rises.del _ _, fun k hk => h.lo k (mem_del hk), fun k hk => h.hi k (mem_del hk), fun hs => by rw [hm] at hs; cases hs⟩
    · rw [hC]
      show del x.keys _ _ = _
      conv => lhs; rw [h.keys]
      simp [del, List.map_take, List.map_drop, ← h.keys]
    · rw [hC]
      show Vals ps' (del x.vals _ _) _ _
      have e : (C.take (below x.keys key) ++ C.drop (below x.keys key + 1)).map (·.2) = (C.map (·.2)).take (below x.keys key) ++ (C.map (·.2)).drop (below x.keys key + 1) := by simp [List.map_take, List.map_drop]
      rw [e]
      unfold del
      rw [hbs] at h4
      exact (h1.move fun n hn => hmv n (by simp [hn])).append (h4.move fun n hn => hmv n (by simp [hn]))
  · rw [hC, List.length_append, List.length_take, List.length_drop]; omega
end Go.Proofs.YtpfjhehjmhkbpaaGreatDoor
