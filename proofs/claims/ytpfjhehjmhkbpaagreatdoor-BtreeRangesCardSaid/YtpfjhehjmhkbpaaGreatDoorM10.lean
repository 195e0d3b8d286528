/- A key is put into a node: what becomes of what stands there; no walk in sight. A key is taken out of a leaf: what becomes of what stands there; no walk in sight. A node's value in memory: where it lies; another one laid there. -/
import Derived.Test.YtpfjhehjmhkbpaaGreatDoorM09
namespace Go.Proofs.YtpfjhehjmhkbpaaGreatDoor

/-- The list with a key put. -/
def insKV (C : KV) (key : ByteArray) (b : List UInt8) : KV := C.filter (fun p => blt p.1 key) ++ (key, b) :: C.filter (fun p => blt key p.1)

theorem insKV_mid {Ca Ci Cb : KV} {key : ByteArray} {b : List UInt8} (ha : ∀ p ∈ Ca, blt p.1 key = true) (hb : ∀ p ∈ Cb, blt key p.1 = true) : insKV (Ca ++ Ci ++ Cb) key b = Ca ++ insKV Ci key b ++ Cb := by
  unfold insKV
  have e1 : Ca.filter (fun p => blt p.1 key) = Ca := List.filter_eq_self.2 ha
  have e2 : Ca.filter (fun p => blt key p.1) = [] := List.filter_eq_nil_iff.2 fun p hp => by simp [blt_asymm (ha p hp)]
  have e3 : Cb.filter (fun p => blt key p.1) = Cb := List.filter_eq_self.2 hb
  have e4 : Cb.filter (fun p => blt p.1 key) = [] := List.filter_eq_nil_iff.2 fun p hp => by simp [blt_asymm (hb p hp)]
  simp [List.filter_append, e1, e2, e3, e4]

theorem filter_below {C : KV} (h : Rises (C.map (·.1))) (key : ByteArray) : C.filter (fun p => blt p.1 key) = C.take (below (C.map (·.1)) key) ∧ C.filter (fun p => blt key p.1) = C.drop (kidIdx (C.map (·.1)) key) := by
  induction C with
  | nil => exact ⟨rfl, rfl⟩
  | cons p C ih =>
    have hr := List.pairwise_cons.1 h
    obtain ⟨h1, h2⟩ := ih hr.2
    by_cases hk : blt p.1 key = true
    · have e1 : below ((p :: C).map (·.1)) key = below (C.map (·.1)) key + 1 := by unfold below; rw [List.map_cons, List.countP_cons_of_pos]; exact hk
      have e2 : kidIdx ((p :: C).map (·.1)) key = kidIdx (C.map (·.1)) key + 1 := by unfold kidIdx; rw [List.map_cons, List.countP_cons_of_pos]; simpa using blt_asymm hk
      rw [e1, e2]
      refine ⟨?_, ?_⟩
      · rw [List.filter_cons_of_pos (by exact hk), h1]; rfl
      · rw [List.filter_cons_of_neg (by simpa using blt_asymm hk), h2]; rfl
    · have hk' : blt p.1 key = false := by simpa using hk
      have hall : ∀ q ∈ C, blt key q.1 = true := fun q hq => blt_of_le_lt hk' (hr.1 q.1 (List.mem_map.2 ⟨q, hq, rfl⟩))
      have e1 : below ((p :: C).map (·.1)) key = 0 := by
        unfold below
        rw [List.countP_eq_zero]
        intro a ha
        rcases List.mem_cons.1 ha with rfl | ha
        · simpa using hk'
        · obtain ⟨q, hq, rfl⟩ := List.mem_map.1 ha
          simpa using blt_asymm (hall q hq)
      have f1 : (p :: C).filter (fun p => blt p.1 key) = [] := List.filter_eq_nil_iff.2 fun q hq => by
        rcases List.mem_cons.1 hq with rfl | hq
        · simpa using hk'
        · simpa using blt_asymm (hall q hq)
      have f2 : C.filter (fun p => blt key p.1) = C := List.filter_eq_self.2 hall
      have e3 : kidIdx (C.map (·.1)) key = 0 := by
        unfold kidIdx
        rw [List.countP_eq_zero]
        intro a ha
        obtain ⟨q, hq, rfl⟩ := List.mem_map.1 ha
        simpa using hall q hq
      refine ⟨by rw [e1, f1]; rfl, ?_⟩
      by_cases hpk : p.1 = key
      · have e2 : kidIdx ((p :: C).map (·.1)) key = 1 := by
          unfold kidIdx at e3 ⊢
          rw [List.map_cons, List.countP_cons_of_pos (by simp [hpk, blt_irrefl]), e3]
        rw [e2, List.filter_cons_of_neg (by simp [hpk, blt_irrefl]), f2]; rfl
      · have hlt : blt key p.1 = true := blt_of_not hk' hpk
        have e2 : kidIdx ((p :: C).map (·.1)) key = 0 := by
          unfold kidIdx at e3 ⊢
          rw [List.map_cons, List.countP_cons_of_neg (by simp [hlt]), e3]
        rw [e2, List.filter_cons_of_pos (by exact hlt), f2]; rfl

theorem insKV_take {C : KV} (h : Rises (C.map (·.1))) (key : ByteArray) (b : List UInt8) : insKV C key b = C.take (below (C.map (·.1)) key) ++ (key, b) :: C.drop (kidIdx (C.map (·.1)) key) := by
  obtain ⟨h1, h2⟩ := filter_below h key
  unfold insKV
  rw [h1, h2]

theorem below_spec {l : List ByteArray} (h : Rises l) (key : ByteArray) : (∀ j (hj : j < l.length), j < below l key → blt l[j] key = true) ∧ (∀ j (hj : j < l.length), below l key ≤ j → blt l[j] key = false) := by
  induction l with
  | nil => exact ⟨fun j hj => by simp at hj, fun j hj => by simp at hj⟩
  | cons a l ih =>
    have hr := List.pairwise_cons.1 h
    obtain ⟨h1, h2⟩ := ih hr.2
    by_cases hk : blt a key = true
    · have e1 : below (a :: l) key = below l key + 1 := by unfold below; rw [List.countP_cons_of_pos]; exact hk
      rw [e1]
      refine ⟨fun j hj hlt => ?_, fun j hj hle => ?_⟩
      · cases j with
        | zero => exact hk
        | succ j => exact h1 j (by simpa using hj) (by omega)
      · cases j with
        | zero => omega
        | succ j => exact h2 j (by simpa using hj) (by omega)
    · have hk' : blt a key = false := by simpa using hk
      have e1 : below (a :: l) key = 0 := by
        unfold below
        rw [List.countP_eq_zero]
        intro b hb
        rcases List.mem_cons.1 hb with rfl | hb
        · simpa using hk'
        · simpa using blt_asymm (blt_of_le_lt hk' (hr.1 b hb))
      rw [e1]
      refine ⟨fun j hj hlt => by omega, fun j hj hle => ?_⟩
      cases j with
      | zero => exact hk'
      | succ j => exact blt_asymm (blt_of_le_lt hk' (hr.1 _ (List.getElem_mem _)))

theorem get_ins {α : Type} {l : List α} {i : Nat} {x u : α} {j : Nat} (hi : i ≤ l.length) (h : (ins l i [x])[j]? = some u) : (j < i ∧ l[j]? = some u) ∨ (j = i ∧ u = x) ∨ (i < j ∧ l[j - 1]? = some u) := by
  unfold ins at h
  by_cases h1 : j < i
  · rw [List.getElem?_append_left (by simp; omega), List.getElem?_take, if_pos h1] at h
    exact .inl ⟨h1, h⟩
  · rw [List.getElem?_append_right (by simp; omega)] at h
    have e : (l.take i).length = i := by simp; omega
    rw [e] at h
    by_cases h2 : j = i
    · subst h2
      simp at h
      exact .inr (.inl ⟨rfl, h.symm⟩)
    · right; right
      refine ⟨by omega, ?_⟩
      rw [show j - i = (j - i - 1) + 1 by omega] at h
      simp only [List.cons_append, List.nil_append, List.getElem?_cons_succ, List.getElem?_drop] at h
      rw [← h]
      congr 1
      omega
theorem mem_ins {α : Type} {l : List α} {i : Nat} {x u : α} (h : u ∈ ins l i [x]) : u = x ∨ u ∈ l := by
  unfold ins at h
  simp only [List.mem_append, List.mem_cons, List.not_mem_nil, or_false] at h
  rcases h with h | h | h
  · exact .inr (List.mem_of_mem_take h)
  · exact .inl h
  · exact .inr (List.mem_of_mem_drop h)

theorem Rises.ins {l : List ByteArray} (h : Rises l) {key : ByteArray} (hk : hasKey l key = false) : Rises (ins l (below l key) [key]) := by
  obtain ⟨h1, h2⟩ := below_spec h key
  have hle := below_le l key
  unfold YtpfjhehjmhkbpaaGreatDoor.ins Rises
  rw [List.pairwise_append]
  refine ⟨List.Pairwise.sublist (List.take_sublist _ _) h, ?_, fun a ha b hb => ?_⟩
  · rw [List.singleton_append, List.pairwise_cons]
    refine ⟨fun b hb => ?_, List.Pairwise.sublist (List.drop_sublist _ _) h⟩
    obtain ⟨j, hj, rfl⟩ := List.getElem_of_mem hb
    simp only [List.length_drop] at hj
    rw [List.getElem_drop]
    refine blt_of_not (h2 _ (by omega) (by omega)) (fun e => ?_)
    by_cases hj0 : j = 0
    · subst hj0
      unfold hasKey at hk
      rw [List.getElem?_eq_getElem (by omega)] at hk
      simp only [decide_eq_false_iff_not] at hk
      exact hk (congrArg some e)
    · have e1 := h.get_lt (i := below l key) (j := below l key + j) (by omega) (by omega)
      rw [e] at e1
      have e2 := h2 (below l key) (by omega) (Nat.le_refl _)
      rw [e1] at e2; cases e2
  · obtain ⟨j, hj, rfl⟩ := List.getElem_of_mem ha
    simp only [List.length_take] at hj
    rw [List.getElem_take]
    have e1 := h1 j (by omega) (by omega)
    rcases List.mem_append.1 hb with hb | hb
    · simp at hb; subst hb; exact e1
    · obtain ⟨j', hj', rfl⟩ := List.getElem_of_mem hb
      simp only [List.length_drop] at hj'
      rw [List.getElem_drop]
      exact h.get_lt (by omega) (by omega)

/-! ### a leaf -/
/-- The leaf with a new key. -/
def Nd.addKey (x : Nd) (key : ByteArray) (v : Vl) : Nd := { x with keys := ins x.keys (below x.keys key) [key], vals := ins x.vals (below x.keys key) [v] }
/-- The leaf with another value for a key. -/
def Nd.setVal (x : Nd) (i : Nat) (v : Vl) : Nd := { x with vals := x.vals.set i v }

theorem few512 {x : Nd} (h : x.Ok) (hl : x.bytes.length ≤ 512) : x.keys.length ≤ 512 := by
  have h1 := x.bytes_len
  have h2 : x.entries.length ≤ sumLen x.entries := by
    have hpos : ∀ u ∈ x.entries, 1 ≤ u.length := by
      intro u hu
      unfold Nd.entries at hu
      have hkb : ∀ k : ByteArray, 1 ≤ (keyBytes k).length := fun k => by
        have := List.length_pos_iff.2 (enc_ne k.size)
        simp only [keyBytes, List.length_append]; omega
      split at hu
      · obtain ⟨i, hi, rfl⟩ := List.getElem_of_mem hu
        rw [List.getElem_zipWith, List.length_append]
        have := hkb (x.keys[i]'(by simp at hi; omega))
        omega
      · obtain ⟨k, hk, rfl⟩ := List.mem_map.1 hu
        exact hkb k
    generalize x.entries = E at hpos ⊢
    induction E with
    | nil => simp [sumLen]
    | cons a E ih =>
      have := ih fun u hu => hpos u (by simp [hu])
      have h3 := hpos a (by simp)
      simp only [sumLen, List.flatten_cons, List.length_append, List.length_cons] at this ⊢
      omega
  rw [Nd.entries_len h] at h2
  omega

theorem sumLen_ins (l : List (List UInt8)) (i : Nat) (u : List UInt8) : sumLen (ins l i [u]) = sumLen l + u.length := by
  unfold ins
  have := sumLen_cut l i
  rw [sumLen_append, sumLen_append]
  simp only [sumLen, List.flatten_cons, List.flatten_nil, List.append_nil] at this ⊢
  omega

theorem zip_ins {α β γ : Type} (f : α → β → γ) (l : List α) (m : List β) (i : Nat) (a : α) (b : β) (h : l.length = m.length) : List.zipWith f (ins l i [a]) (ins m i [b]) = ins (List.zipWith f l m) i [f a b] := by
  unfold ins
  rw [List.zipWith_append (by simp [h]), List.take_zipWith, List.drop_zipWith]
  rfl

theorem Nd.addKey_good {x : Nd} (h : x.Good) (hl : x.leaf = true) (hb : x.bytes.length ≤ 512) {key : ByteArray} {v : Vl} (hk : key.size ≤ 200) (hv : v.Ok) (hin : key.size + v.inlen ≤ 200) :
    (x.addKey key v).Good ∧ (x.addKey key v).bytes.length ≤ 740 := by
  have hle := below_le x.keys key
  have hvl := (h.ok.lf hl).1
  have hk0 := (h.ok.lf hl).2
  have hf := few512 h.ok hb
  have hgood : (x.addKey key v).Good := by
    refine ⟨⟨?_, fun k hk' => ?_, fun u hu => ?_, h.ok.kids, fun _ => ⟨?_, hk0⟩, fun h' => by rw [show (x.addKey key v).leaf = x.leaf from rfl, hl] at h'; cases h'⟩, fun i k u h1 h2 => ?_⟩
    · show (ins x.keys _ _).length ≤ _
      rw [ins_length]; simp only [List.length_cons, List.length_nil]; omega
    · rcases mem_ins hk' with rfl | h'
      · exact hk
      · exact h.ok.keys k h'
    · rcases mem_ins hu with rfl | h'
      · exact hv
      · exact h.ok.vals u h'
    · show (ins x.vals _ _).length = (ins x.keys _ _).length
      rw [ins_length, ins_length, hvl]; rfl
    · rcases get_ins hle h1 with ⟨a1, a2⟩ | ⟨a1, a2⟩ | ⟨a1, a2⟩
      · rcases get_ins (by omega) h2 with ⟨b1, b2⟩ | ⟨b1, b2⟩ | ⟨b1, b2⟩
        · exact h.room i k u a2 b2
        · omega
        · omega
      · rcases get_ins (by omega) h2 with ⟨b1, b2⟩ | ⟨b1, b2⟩ | ⟨b1, b2⟩
        · omega
        · subst a2 b2; exact hin
        · omega
      · rcases get_ins (by omega) h2 with ⟨b1, b2⟩ | ⟨b1, b2⟩ | ⟨b1, b2⟩
        · omega
        · omega
        · exact h.room _ k u a2 b2
  refine ⟨hgood, ?_⟩
  have e1 : (x.addKey key v).entries = ins x.entries (below x.keys key) [keyBytes key ++ v.bytes] := by
    unfold Nd.entries
    rw [if_pos (show (x.addKey key v).leaf = true from hl), if_pos hl]
    exact zip_ins _ _ _ _ _ _ hvl.symm
  have e2 := Nd.entry_le hgood (keyBytes key ++ v.bytes) (by rw [e1]; simp [ins])
  have e3 := Nd.bytes_len (x.addKey key v)
  have e4 := x.bytes_len
  have e5 := enc_two hgood.ok.few
  rw [e1, sumLen_ins] at e3
  have e6 : (x.addKey key v).kids = x.kids := rfl
  rw [e6] at e3
  have e7 : 0 < (enc x.keys.length).length := List.length_pos_iff.2 (enc_ne _)
  omega

theorem Nd.setVal_good {x : Nd} (h : x.Good) (hl : x.leaf = true) (hb : x.bytes.length ≤ 512) {i : Nat} {key : ByteArray} {v : Vl} (hk : x.keys[i]? = some key) (hv : v.Ok) (hin : key.size + v.inlen ≤ 200) :
    (x.setVal i v).Good ∧ (x.setVal i v).bytes.length ≤ 740 := by
  have hvl := (h.ok.lf hl).1
  have hk0 := (h.ok.lf hl).2
  have hil := (List.getElem?_eq_some_iff.1 hk).1
  have hgood : (x.setVal i v).Good := by
    refine ⟨⟨h.ok.few, h.ok.keys, fun u hu => ?_, h.ok.kids, fun _ => ⟨?_, hk0⟩, fun h' => by rw [show (x.setVal i v).leaf = x.leaf from rfl, hl] at h'; cases h'⟩, fun j k u h1 h2 => ?_⟩
    · rcases List.mem_or_eq_of_mem_set hu with h' | rfl
      · exact h.ok.vals u h'
      · exact hv
    · show (x.vals.set i v).length = x.keys.length
      rw [List.length_set]; exact hvl
    · have h2' : (x.vals.set i v)[j]? = some u := h2
      rw [List.getElem?_set] at h2'
      by_cases e : i = j
      · subst e
        rw [if_pos rfl, if_pos (by omega)] at h2'
        cases h2'
        have h1' : x.keys[i]? = some k := h1
        rw [hk] at h1'; cases h1'
        exact hin
      · rw [if_neg e] at h2'
        exact h.room j k u h1 h2'
  refine ⟨hgood, ?_⟩
  have e1 : (x.setVal i v).entries = x.entries.set i (keyBytes key ++ v.bytes) := by
    unfold Nd.entries
    rw [if_pos (show (x.setVal i v).leaf = true from hl), if_pos hl]
    apply List.ext_getElem?
    intro j
    rw [List.getElem?_set]
    simp only [Nd.setVal, List.getElem?_zipWith, List.getElem?_set]
    by_cases e : i = j
    · subst e
      rw [if_pos rfl, if_pos (by omega), if_pos rfl, hk, if_pos (by rw [List.length_zipWith]; omega)]
    · rw [if_neg e, if_neg e]
  have e2 := Nd.entry_le hgood (keyBytes key ++ v.bytes) (by rw [e1]; exact List.mem_set (by rw [Nd.entries_len h.ok]; exact hil) _)
  have e3 := Nd.bytes_len (x.setVal i v)
  have e4 := x.bytes_len
  have e8 : sumLen (x.entries.set i (keyBytes key ++ v.bytes)) ≤ sumLen x.entries + (keyBytes key ++ v.bytes).length := by
    rw [List.set_eq_take_append_cons_drop, if_pos (by rw [Nd.entries_len h.ok]; exact hil)]
    have c1 := sumLen_cut x.entries i
    have c2 := sumLen_cut (x.entries.drop i) 1
    rw [List.drop_drop] at c2
    rw [sumLen_append]
    have c3 : sumLen ((keyBytes key ++ v.bytes) :: x.entries.drop (i + 1)) = (keyBytes key ++ v.bytes).length + sumLen (x.entries.drop (i + 1)) := by simp only [sumLen, List.flatten_cons, List.length_append]
    omega
  rw [e1] at e3
  have e6 : (x.setVal i v).kids = x.kids := rfl
  have e9 : (x.setVal i v).keys = x.keys := rfl
  rw [e6, e9] at e3
  omega

/-- A new key in a leaf. -/
theorem LeafIs.add {ps : List Pg} {x : Nd} {lo hi : Option ByteArray} {C : KV} {T : List Nat} (h : LeafIs ps x lo hi C T) {key : ByteArray} {b : List UInt8} {v : Vl} {V : List Nat} (hk : hasKey x.keys key = false) (hlo : leO lo key) (hhi : ltO key hi) (hv : VlOf ps v b V) :
    ∃ T1 T2, T = T1 ++ T2 ∧ LeafIs ps (x.addKey key v) lo hi (insKV C key b) (T1 ++ V ++ T2) := by
  obtain ⟨T1, T2, rfl, h1, h2⟩ := h.vals.cut (below x.keys key)
  have hr : Rises (C.map (·.1)) := by rw [← h.keys]; exact h.rises
  have hki : kidIdx x.keys key = below x.keys key := by rw [kidIdx_eq h.rises, hk]; simp
  have hC : insKV C key b = C.take (below x.keys key) ++ (key, b) :: C.drop (below x.keys key) := by
    rw [insKV_take hr, ← h.keys, hki]
  refine ⟨T1, T2, rfl, ⟨h.leaf, ?_, ?_, h.rises.ins hk, fun k hk' => ?_, fun k hk' => ?_⟩⟩
  · rw [hC]
    show ins x.keys _ _ = _
    conv => lhs; rw [h.keys]
    simp [ins, List.map_take, List.map_drop, ← h.keys]
  · rw [hC]
    show Vals ps (ins x.vals _ _) _ _
    have e : (C.take (below x.keys key) ++ (key, b) :: C.drop (below x.keys key)).map (·.2) = (C.map (·.2)).take (below x.keys key) ++ ([b] ++ (C.map (·.2)).drop (below x.keys key)) := by simp [List.map_take, List.map_drop]
    rw [e]
    unfold ins
    rw [List.append_assoc]
    exact h1.append (Vals.append (vs := [v]) ⟨b, [], V, [], rfl, by simp, hv, rfl, rfl⟩ h2)
  · rcases mem_ins hk' with rfl | h'
    · exact hlo
    · exact h.lo k h'
  · rcases mem_ins hk' with rfl | h'
    · exact hhi
    · exact h.hi k h'

/-- Another value for a key of a leaf. -/
theorem LeafIs.set {ps : List Pg} {x : Nd} {lo hi : Option ByteArray} {C : KV} {T : List Nat} (h : LeafIs ps x lo hi C T) {key : ByteArray} (hk : hasKey x.keys key = true) :
    ∃ T1 V0 T2 v0 b0, T = T1 ++ V0 ++ T2 ∧ x.keys[below x.keys key]? = some key ∧ x.vals[below x.keys key]? = some v0 ∧ VlOf ps v0 b0 V0 ∧
      ∀ ps' b v V, (∀ m ∈ T1 ++ T2, ∀ l, PgIs ps m l → PgIs ps' m l) → VlOf ps' v b V → LeafIs ps' (x.setVal (below x.keys key) v) lo hi (insKV C key b) (T1 ++ V ++ T2) := by
  obtain ⟨T1, T', rfl, h1, h2⟩ := h.vals.cut (below x.keys key)
  have hr : Rises (C.map (·.1)) := by rw [← h.keys]; exact h.rises
  have hki : kidIdx x.keys key = below x.keys key + 1 := by rw [kidIdx_eq h.rises, hk]; simp
  have hkey : x.keys[below x.keys key]? = some key := by unfold hasKey at hk; simpa using hk
  have hil := (List.getElem?_eq_some_iff.1 hkey).1
  have hvl : x.vals.length = x.keys.length := by rw [h.vals.len, h.keys, List.length_map, List.length_map]
  have hcl : C.length = x.keys.length := by rw [h.keys, List.length_map]
  obtain ⟨v0, hv0⟩ : ∃ v0, x.vals[below x.keys key]? = some v0 := ⟨_, List.getElem?_eq_getElem (by omega)⟩
  have hd : x.vals.drop (below x.keys key) = v0 :: x.vals.drop (below x.keys key + 1) := by
    rw [List.drop_eq_getElem_cons (by omega), (List.getElem?_eq_some_iff.1 hv0).2]
  rw [hd] at h2
  obtain ⟨b0, bs', V0, T2, hb, rfl, h3, h4⟩ := h2
  refine ⟨T1, V0, T2, v0, b0, by simp, hkey, hv0, h3, fun ps' b v V hmv hv => ?_⟩
  have hC : insKV C key b = C.take (below x.keys key) ++ (key, b) :: C.drop (below x.keys key + 1) := by
    rw [insKV_take hr, ← h.keys, hki]
  have hbs : bs' = (C.map (·.2)).drop (below x.keys key + 1) := by
    have := congrArg List.tail hb
    simpa using this.symm
  refine ⟨h.leaf, ?_, ?_, h.rises, h.lo, h.hi⟩
  · rw [hC]
    show x.keys = _
    have e1 : x.keys = x.keys.take (below x.keys key) ++ key :: x.keys.drop (below x.keys key + 1) := by
      conv => lhs; rw [← List.take_append_drop (below x.keys key) x.keys]
      rw [List.drop_eq_getElem_cons hil, (List.getElem?_eq_some_iff.1 hkey).2]
    conv => lhs; rw [e1]
    rw [List.map_append, List.map_cons, List.map_take, List.map_drop, ← h.keys]
  · rw [hC]
    show Vals ps' (x.vals.set _ v) _ _
    rw [List.set_eq_take_append_cons_drop, if_pos (by omega)]
    have e : (C.take (below x.keys key) ++ (key, b) :: C.drop (below x.keys key + 1)).map (·.2) = (C.map (·.2)).take (below x.keys key) ++ ([b] ++ (C.map (·.2)).drop (below x.keys key + 1)) := by simp [List.map_take, List.map_drop]
    rw [e, List.append_assoc]
    refine (h1.move fun n hn => hmv n (by simp [hn])).append ?_
    rw [hbs] at h4
    exact Vals.append (vs := [v]) (S := V) ⟨b, [], V, [], rfl, by simp, hv, rfl, rfl⟩ (h4.move fun n hn => hmv n (by simp [hn]))
end Go.Proofs.YtpfjhehjmhkbpaaGreatDoor

namespace Go.Proofs.YtpfjhehjmhkbpaaGreatDoor

/-- The list with a key taken away. -/
def delKV (C : KV) (key : ByteArray) : KV := C.filter (fun p => blt p.1 key) ++ C.filter (fun p => blt key p.1)

theorem delKV_mid {Ca Ci Cb : KV} {key : ByteArray} (ha : ∀ p ∈ Ca, blt p.1 key = true) (hb : ∀ p ∈ Cb, blt key p.1 = true) : delKV (Ca ++ Ci ++ Cb) key = Ca ++ delKV Ci key ++ Cb := by
  unfold delKV
  have e1 : Ca.filter (fun p => blt p.1 key) = Ca := List.filter_eq_self.2 ha
  have e2 : Ca.filter (fun p => blt key p.1) = [] := List.filter_eq_nil_iff.2 fun p hp => by simp [blt_asymm (ha p hp)]
  have e3 : Cb.filter (fun p => blt key p.1) = Cb := List.filter_eq_self.2 hb
  have e4 : Cb.filter (fun p => blt p.1 key) = [] := List.filter_eq_nil_iff.2 fun p hp => by simp [blt_asymm (hb p hp)]
  simp [List.filter_append, e1, e2, e3, e4]

theorem delKV_take {C : KV} (h : Rises (C.map (·.1))) (key : ByteArray) : delKV C key = C.take (below (C.map (·.1)) key) ++ C.drop (kidIdx (C.map (·.1)) key) := by
  obtain ⟨h1, h2⟩ := filter_below h key
  unfold delKV
  rw [h1, h2]

/-- The leaf without one of its keys. -/
def Nd.dropKey (x : Nd) (i : Nat) : Nd := { x with keys := del x.keys i 1, vals := del x.vals i 1 }

theorem enc_mono : ∀ m n, n ≤ m → (enc n).length ≤ (enc m).length := by
  intro m
  induction m using Nat.strongRecOn with
  | _ m ih =>
    intro n hn
    by_cases hm : m < 128
    · rw [enc_small hm, enc_small (by omega)]; simp
    · by_cases hn' : n < 128
      · rw [enc_small hn', enc_big hm]; simp
      · rw [enc_big hm, enc_big hn']
        have := ih (m / 128) (by omega) (n / 128) (by omega)
        simp only [List.length_cons]; omega

theorem mem_del {α : Type} {l : List α} {i s : Nat} {u : α} (h : u ∈ del l i s) : u ∈ l := by
  unfold del at h
  rcases List.mem_append.1 h with h | h
  · exact List.mem_of_mem_take h
  · exact List.mem_of_mem_drop h

theorem get_del {α : Type} {l : List α} {i j : Nat} {u : α} (hi : i < l.length) (h : (del l i 1)[j]? = some u) : l[if j < i then j else j + 1]? = some u := by
  unfold del at h
  by_cases h1 : j < i
  · rw [if_pos h1]
    rw [List.getElem?_append_left (by simp; omega), List.getElem?_take, if_pos h1] at h
    exact h
  · rw [if_neg h1]
    rw [List.getElem?_append_right (by simp; omega), List.getElem?_drop] at h
    rw [← h]
    congr 1
    simp; omega

theorem sumLen_del (l : List (List UInt8)) (i : Nat) : sumLen (del l i 1) ≤ sumLen l := by
  unfold del
  have h1 := sumLen_cut l i
  have h2 := sumLen_cut (l.drop i) 1
  rw [List.drop_drop] at h2
  rw [sumLen_append]
  omega

theorem zip_del {α β γ : Type} (f : α → β → γ) (l : List α) (m : List β) (i : Nat) (h : l.length = m.length) : List.zipWith f (del l i 1) (del m i 1) = del (List.zipWith f l m) i 1 := by
  unfold del
  rw [List.zipWith_append (by simp [h]), List.take_zipWith, List.drop_zipWith]

theorem Nd.dropKey_good {x : Nd} (h : x.Good) (hl : x.leaf = true) (hb : x.bytes.length ≤ 512) {i : Nat} (hi : i < x.keys.length) : (x.dropKey i).Good ∧ (x.dropKey i).bytes.length ≤ 512 := by
  have hvl := (h.ok.lf hl).1
  have hk0 := (h.ok.lf hl).2
  have hgood : (x.dropKey i).Good := by
    refine ⟨⟨?_, fun k hk => h.ok.keys k (mem_del hk), fun v hv => h.ok.vals v (mem_del hv), h.ok.kids, fun _ => ⟨?_, hk0⟩, fun h' => by rw [show (x.dropKey i).leaf = x.leaf from rfl, hl] at h'; cases h'⟩, fun j k u h1 h2 => ?_⟩
    · show (del x.keys i 1).length ≤ _
      rw [del_length _ _ _ (by omega)]; have := h.ok.few; omega
    · show (del x.vals i 1).length = (del x.keys i 1).length
      rw [del_length _ _ _ (by omega), del_length _ _ _ (by omega), hvl]
    · have a1 := get_del hi h1
      have a2 := get_del (by omega) h2
      exact h.room _ k u a1 a2
  refine ⟨hgood, ?_⟩
  have e1 : (x.dropKey i).entries = del x.entries i 1 := by
    unfold Nd.entries
    rw [if_pos (show (x.dropKey i).leaf = true from hl), if_pos hl]
    exact zip_del _ _ _ _ hvl.symm
  have e3 := Nd.bytes_len (x.dropKey i)
  have e4 := x.bytes_len
  have e5 := sumLen_del x.entries i
  have e6 : (x.dropKey i).kids = x.kids := rfl
  have e7 : (x.dropKey i).keys.length = x.keys.length - 1 := del_length _ _ _ (by omega)
  have e8 := enc_mono x.keys.length (x.keys.length - 1) (by omega)
  rw [e1, e6, e7] at e3
  omega

theorem Rises.del {l : List ByteArray} (h : Rises l) (i s : Nat) : Rises (del l i s) := by
  unfold Rises YtpfjhehjmhkbpaaGreatDoor.del
  rw [List.pairwise_append]
  refine ⟨List.Pairwise.sublist (List.take_sublist _ _) h, List.Pairwise.sublist (List.drop_sublist _ _) h, fun a ha b hb => ?_⟩
  obtain ⟨j, hj, rfl⟩ := List.getElem_of_mem ha
  obtain ⟨j', hj', rfl⟩ := List.getElem_of_mem hb
  simp only [List.length_take] at hj
  simp only [List.length_drop] at hj'
  rw [List.getElem_take, List.getElem_drop]
  exact h.get_lt (by omega) (by omega)

/-- A key taken out of a leaf. -/
theorem LeafIs.gone {ps : List Pg} {x : Nd} {lo hi : Option ByteArray} {C : KV} {T : List Nat} (h : LeafIs ps x lo hi C T) {key : ByteArray} (hk : hasKey x.keys key = true) :
    ∃ T1 V0 T2 v0 b0, T = T1 ++ V0 ++ T2 ∧ x.keys[below x.keys key]? = some key ∧ x.vals[below x.keys key]? = some v0 ∧ VlOf ps v0 b0 V0 ∧
      (∀ ps', (∀ m ∈ T1 ++ T2, ∀ l, PgIs ps m l → PgIs ps' m l) → LeafIs ps' (x.dropKey (below x.keys key)) lo hi (delKV C key) (T1 ++ T2)) ∧ (delKV C key).length + 1 = C.length := by
  obtain ⟨T1, T', rfl, h1, h2⟩ := h.vals.cut (below x.keys key)
  have hr : Rises (C.map (·.1)) := by rw [← h.keys]; exact h.rises
  have hki : kidIdx x.keys key = below x.keys key + 1 := by rw [kidIdx_eq h.rises, hk]; simp
  have hkey : x.keys[below x.keys key]? = some key := by unfold hasKey at hk; simpa using hk
  have hil := (List.getElem?_eq_some_iff.1 hkey).1
  have hvl : x.vals.length = x.keys.length := by rw [h.vals.len, h.keys, List.length_map, List.length_map]
  have hcl : C.length = x.keys.length := by rw [h.keys, List.length_map]
  obtain ⟨v0, hv0⟩ : ∃ v0, x.vals[below x.keys key]? = some v0 := ⟨_, List.getElem?_eq_getElem (by omega)⟩
  have hd : x.vals.drop (below x.keys key) = v0 :: x.vals.drop (below x.keys key + 1) := by
    rw [List.drop_eq_getElem_cons (by omega), (List.getElem?_eq_some_iff.1 hv0).2]
  rw [hd] at h2
  obtain ⟨b0, bs', V0, T2, hb, rfl, h3, h4⟩ := h2
  have hC : delKV C key = C.take (below x.keys key) ++ C.drop (below x.keys key + 1) := by
    rw [delKV_take hr, ← h.keys, hki]
  refine ⟨T1, V0, T2, v0, b0, by simp, hkey, hv0, h3, fun ps' hmv => ?_, ?_⟩
  · have hbs : bs' = (C.map (·.2)).drop (below x.keys key + 1) := by
      have := congrArg List.tail hb
      simpa using this.symm
    refine ⟨h.leaf, ?_, ?_, h.rises.del _ _, fun k hk => h.lo k (mem_del hk), fun k hk => h.hi k (mem_del hk)⟩
    · rw [hC]
      show del x.keys _ _ = _
      conv => lhs; rw [h.keys]
      simp [del, List.map_take, List.map_drop, ← h.keys]
    · rw [hC]
      show Vals ps' (del x.vals _ _) _ _
      have e : (C.take (below x.keys key) ++ C.drop (below x.keys key + 1)).map (·.2) = (C.map (·.2)).take (below x.keys key) ++ (C.map (·.2)).drop (below x.keys key + 1) := by simp [List.map_take, List.map_drop]
      rw [e]
      unfold del
      rw [hbs] at h4
      exact (h1.move fun n hn => hmv n (by simp [hn])).append (h4.move fun n hn => hmv n (by simp [hn]))
  · rw [hC, List.length_append, List.length_take, List.length_drop]; omega
end Go.Proofs.YtpfjhehjmhkbpaaGreatDoor

namespace Go.Proofs.YtpfjhehjmhkbpaaGreatDoor
open Go.RowKit

theorem VlAt.four {w : World} {cs : List Value} {v : Vl} (h : VlAt w cs v) : ∃ a b c d, cs = [a, b, c, d] := by
  cases v with
  | inl l => obtain ⟨u, rfl, _⟩ := h; exact ⟨_, _, _, _, rfl⟩
  | far s f => cases h; exact ⟨_, _, _, _, rfl⟩

theorem NodeAt.val {B q : Nat} {w : World} {x : Nd} (h : NodeAt B w q x) {i : Nat} {v : Vl} (hv : x.vals[i]? = some v) :
    ∃ g c c0 c1 c2 c3 cur, w.cell? ⟨q, 2, none⟩ = some (.slice (some ⟨g, 0, none⟩) x.vals.length c) ∧ x.vals.length ≤ c ∧ c ≤ maxLen ∧ w.heap[g]? = some (.cells cur 86 (0, 0)) ∧ B ≤ g ∧ VlAt w [c0, c1, c2, c3] v ∧
      w.cell? ⟨g, i * 4, none⟩ = some c0 ∧ w.cell? ⟨g, i * 4 + 1, none⟩ = some c1 ∧ w.cell? ⟨g, i * 4 + 2, none⟩ = some c2 ∧ w.cell? ⟨g, i * 4 + 3, none⟩ = some c3 := by
  obtain ⟨h0, kv, vv, iv, vc, h1, h2, h4, h6, h7⟩ := h
  obtain ⟨A, c, rfl, g1, g2, g3⟩ := own_slice h4
  have hi := (List.getElem?_eq_some_iff.1 hv).1
  obtain ⟨g, cur, rfl, k1, k2, k3, k4⟩ := own_row h4 (by omega)
  have hat := h6.at_ hv
  obtain ⟨c0, c1, c2, c3, hcs⟩ := hat.four
  rw [hcs] at hat
  have hget : ∀ j, j < 4 → vc[i * 4 + j]? = [c0, c1, c2, c3][j]? := fun j hj => by
    rw [← hcs, List.getElem?_take, if_pos hj, List.getElem?_drop]
  exact ⟨g, c, c0, c1, c2, c3, cur, by rw [cell_of h1]; rfl, g1, g2, k1, k2, hat, k4 _ _ (by have := hget 0 (by omega); simpa using this), k4 _ _ (by have := hget 1 (by omega); simpa using this), k4 _ _ (by have := hget 2 (by omega); simpa using this), k4 _ _ (by have := hget 3 (by omega); simpa using this)⟩

theorem set4 {α : Type} (l : List α) (a m : Nat) (d0 d1 d2 d3 : α) (ha : a + 4 ≤ m) (hm : m ≤ l.length) :
    ((((l.set a d0).set (a + 1) d1).set (a + 2) d2).set (a + 3) d3).take m = (l.take m).take a ++ ([d0, d1, d2, d3] ++ (l.take m).drop (a + 4)) := by
  apply List.ext_getElem?
  intro j
  rw [List.getElem?_take]
  by_cases hj : j < m
  · rw [if_pos hj]
    by_cases h1 : j < a
    · rw [List.getElem?_append_left (by simp; omega), List.getElem?_set_ne (by omega), List.getElem?_set_ne (by omega), List.getElem?_set_ne (by omega), List.getElem?_set_ne (by omega), List.getElem?_take, if_pos h1, List.getElem?_take, if_pos hj]
    · have e1 : ((l.take m).take a).length = a := by simp; omega
      rw [List.getElem?_append_right (by omega), e1]
      by_cases h2 : j < a + 4
      · rw [List.getElem?_append_left (by simp; omega)]
        simp only [List.getElem?_set, List.length_set]
        obtain ⟨k, rfl⟩ : ∃ k, j = a + k := ⟨j - a, by omega⟩
        have hk : k < 4 := by omega
        have e2 : a + k - a = k := by omega
        rw [e2]
        match k, hk with
        | 0, _ => simp (disch := omega) only [Nat.add_zero]; simp; omega
        | 1, _ => simp; omega
        | 2, _ => simp; omega
        | 3, _ => simp; omega
      · rw [List.getElem?_append_right (by simp; omega), List.getElem?_set_ne (by omega), List.getElem?_set_ne (by omega), List.getElem?_set_ne (by omega), List.getElem?_set_ne (by omega), List.getElem?_drop]
        simp only [List.length_cons, List.length_nil]
        rw [List.getElem?_take, if_pos (by omega)]
        congr 1
        omega
  · rw [if_neg hj]
    symm
    rw [List.getElem?_eq_none]
    simp
    omega

/-- Four cells laid in a row. -/
def set4w (w : World) (g o : Nat) (d0 d1 d2 d3 : Value) : World := (((w.setCell ⟨g, o, none⟩ d0).setCell ⟨g, o + 1, none⟩ d1).setCell ⟨g, o + 2, none⟩ d2).setCell ⟨g, o + 3, none⟩ d3

theorem NodeAt.setVal {B q : Nat} {w : World} {x : Nd} (h : NodeAt B w q x) {i g c : Nat} {v : Vl} (hi : i < x.vals.length) (hq : w.cell? ⟨q, 2, none⟩ = some (.slice (some ⟨g, 0, none⟩) x.vals.length c)) {d0 d1 d2 d3 : Value} (hd : VlAt w [d0, d1, d2, d3] v) :
    NodeAt B (set4w w g (i * 4) d0 d1 d2 d3) q (x.setVal i v) ∧ Mut B [86] w (set4w w g (i * 4) d0 d1 d2 d3) := by
  obtain ⟨h0, kv, vv, iv, vc, h1, h2, h4, h6, h7⟩ := h
  have hvv : vv = .slice (some ⟨g, 0, none⟩) x.vals.length c := by
    rw [cell_of h1] at hq
    simpa using hq
  subst hvv
  obtain ⟨hl, h4'⟩ := h4
  rcases h4' with ⟨h4', _⟩ | ⟨g', cap, cur, hv', hBg, hg, hn, hcm, hcs, ht⟩
  · cases h4'
  · simp only [Value.slice.injEq, Option.some.injEq, Addr.mk.injEq] at hv'
    obtain ⟨⟨rfl, _, _⟩, _, rfl⟩ := hv'
    have hm : Mut B [86] w (set4w w g (i * 4) d0 d1 d2 d3) :=
      ((((Mut.refl B [86] w).setCell (p := ⟨g, i * 4, none⟩) hg (by simp) hBg d0).setCell (p := ⟨g, i * 4 + 1, none⟩) (heap_set hg _ _) (by simp) hBg d1).setCell (p := ⟨g, i * 4 + 2, none⟩) (heap_set (heap_set hg _ _) _ _) (by simp) hBg d2).setCell (p := ⟨g, i * 4 + 3, none⟩) (heap_set (heap_set (heap_set hg _ _) _ _) _ _) (by simp) hBg d3
    have hg4 := heap_set (heap_set (heap_set (heap_set hg (i * 4) d0) (i * 4 + 1) d1) (i * 4 + 2) d2) (i * 4 + 3) d3
    refine ⟨⟨h0, kv, _, iv, vc.take (i * 4) ++ ([d0, d1, d2, d3] ++ vc.drop ((i + 1) * 4)), hm.keepc h1 (by decide), own_mut h2 hm (by decide), ?_, ?_, own_mut h7 hm (by decide)⟩, hm⟩
    · have hlen : (x.setVal i v).vals.length = x.vals.length := List.length_set ..
      have e4 : cur.toList.length = c * 4 := by rw [Array.length_toList]; exact hcs
      rw [hlen]
      refine ⟨?_, .inr ⟨g, c, _, rfl, hBg, hg4, hn, hcm, by simpa using hcs, ?_⟩⟩
      · simp only [List.length_append, List.length_take, List.length_drop, List.length_cons, List.length_nil]; omega
      · simp only [Array.toList_setIfInBounds]
        rw [set4 _ _ _ _ _ _ _ (by omega) (by omega), ht, show i * 4 + 4 = (i + 1) * 4 by omega]
    · exact (h6.mut hm (by decide)).set (hd.mut hm (by decide)) hi
end Go.Proofs.YtpfjhehjmhkbpaaGreatDoor
