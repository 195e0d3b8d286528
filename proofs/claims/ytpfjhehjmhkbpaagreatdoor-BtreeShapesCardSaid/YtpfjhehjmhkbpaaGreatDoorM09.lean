/- A node as two: where it may be parted so that both have room in a page; no walk in sight. slices.Clone at []string, []value, []int: new memory with the same elements. Printed by wip/tools/mkclone.py. place, kid, fits, store, isKey, many, left: each by its contract. -/
import Derived.Test.YtpfjhehjmhkbpaaGreatDoorM07
import Derived.Test.YtpfjhehjmhkbpaaGreatDoorM08
import Derived.Test.YtpfjhehjmhkbpaaGreatDoorM02
import Derived.Test.YtpfjhehjmhkbpaaGreatDoorM03
import Derived.Test.YtpfjhehjmhkbpaaGreatDoorM04
import Derived.Test.YtpfjhehjmhkbpaaGreatDoorM06
import Derived.Deep.QuietTactic
import Derived.BigQuiet
namespace Go.Proofs.YtpfjhehjmhkbpaaGreatDoor

/-- The node of some keys of one. -/
def Nd.cut (x : Nd) (a b : Nat) : Nd :=
  if x.leaf then ⟨true, (x.keys.take b).drop a, (x.vals.take b).drop a, []⟩ else ⟨false, (x.keys.take b).drop a, [], (x.kids.take (b + 1)).drop a⟩
def Nd.lo_ (x : Nd) (i : Nat) : Nd := x.cut 0 i
def Nd.hi_ (x : Nd) (i : Nat) : Nd := if x.leaf then x.cut i x.keys.length else x.cut (i + 1) x.keys.length
def Nd.cost (x : Nd) (i : Nat) : Nat := max (x.lo_ i).bytes.length (x.hi_ i).bytes.length

theorem cut_leaf {x : Nd} (h : x.leaf = true) (a b : Nat) : x.cut a b = ⟨true, (x.keys.take b).drop a, (x.vals.take b).drop a, []⟩ := by simp [Nd.cut, h]
theorem cut_in {x : Nd} (h : x.leaf = false) (a b : Nat) : x.cut a b = ⟨false, (x.keys.take b).drop a, [], (x.kids.take (b + 1)).drop a⟩ := by simp [Nd.cut, h]

theorem mem_cut {α : Type} {l : List α} {a b : Nat} {u : α} (h : u ∈ (l.take b).drop a) : u ∈ l := List.mem_of_mem_take (List.mem_of_mem_drop h)

theorem Nd.cut_ok {x : Nd} (h : x.Ok) {a b : Nat} (hab : a ≤ b) (hb : b ≤ x.keys.length) : (x.cut a b).Ok := by
  have hf := h.few
  cases hl : x.leaf with
  | true =>
    rw [cut_leaf hl]
    have hv := (h.lf hl).1
    exact ⟨by simp only [List.length_drop, List.length_take]; omega, fun k hk => h.keys k (mem_cut hk), fun v hv => h.vals v (mem_cut hv), by simp, fun _ => ⟨by simp only [List.length_drop, List.length_take]; omega, rfl⟩, (fun h => by cases h)⟩
  | false =>
    rw [cut_in hl]
    have hv := (h.nd hl).1
    exact ⟨by simp only [List.length_drop, List.length_take]; omega, fun k hk => h.keys k (mem_cut hk), by simp, fun k hk => h.kids k (mem_cut hk), (fun h => by cases h), fun _ => ⟨by simp only [List.length_drop, List.length_take]; omega, rfl⟩⟩

theorem get_cut {α : Type} {l : List α} {a b i : Nat} {u : α} (h : ((l.take b).drop a)[i]? = some u) : l[a + i]? = some u := by
  rw [List.getElem?_drop, List.getElem?_take] at h
  split at h
  · exact h
  · cases h

theorem cut_keys (x : Nd) (a b : Nat) : (x.cut a b).keys = (x.keys.take b).drop a := by
  cases hl : x.leaf with
  | true => rw [cut_leaf hl]
  | false => rw [cut_in hl]
theorem cut_lf (x : Nd) (a b : Nat) : (x.cut a b).leaf = x.leaf := by
  cases hl : x.leaf with
  | true => rw [cut_leaf hl]
  | false => rw [cut_in hl]
theorem cut_vals (x : Nd) (a b : Nat) : ∀ v ∈ (x.cut a b).vals, v ∈ x.vals := by
  cases hl : x.leaf with
  | true => rw [cut_leaf hl]; exact fun v hv => mem_cut hv
  | false => rw [cut_in hl]; simp

theorem Nd.cut_good [Mode] {x : Nd} (h : x.Good) {a b : Nat} (hab : a ≤ b) (hb : b ≤ x.keys.length) (hf : Mode.short = true → x.leaf = false → a + 1 ≤ b) : (x.cut a b).Good := by
  refine ⟨Nd.cut_ok h.ok hab hb, fun i k v hk hv => ?_, fun hs => ⟨fun k hk => (h.tiny hs).1 k (by rw [cut_keys] at hk; exact mem_cut hk), fun v hv => (h.tiny hs).2 v (cut_vals x a b v hv)⟩, fun hs hl => ?_⟩
  · cases hl : x.leaf with
    | true =>
      rw [cut_leaf hl] at hk hv
      exact h.room (a + i) k v (get_cut hk) (get_cut hv)
    | false =>
      rw [cut_in hl] at hv
      simp at hv
  · rw [cut_lf] at hl
    have := hf hs hl
    rw [cut_keys, List.length_drop, List.length_take]; omega

theorem Nd.lo_ok {x : Nd} (h : x.Ok) {i : Nat} (hi : i ≤ x.keys.length) : (x.lo_ i).Ok := Nd.cut_ok h (Nat.zero_le _) hi
theorem Nd.hi_ok {x : Nd} (h : x.Ok) {i : Nat} (hi : i < x.keys.length) : (x.hi_ i).Ok := by
  unfold Nd.hi_
  split
  · exact Nd.cut_ok h (by omega) (Nat.le_refl _)
  · exact Nd.cut_ok h (by omega) (Nat.le_refl _)
theorem Nd.lo_good [Mode] {x : Nd} (h : x.Good) {i : Nat} (hi1 : 1 ≤ i) (hi : i ≤ x.keys.length) : (x.lo_ i).Good := Nd.cut_good h (Nat.zero_le _) hi (fun _ _ => by omega)
theorem Nd.hi_good [Mode] {x : Nd} (h : x.Good) {i : Nat} (hi : i < x.keys.length) (hs : Mode.short = true → x.leaf = false → i + 1 < x.keys.length) : (x.hi_ i).Good := by
  unfold Nd.hi_
  split
  · rename_i hl
    exact Nd.cut_good h (by omega) (Nat.le_refl _) (fun _ h => by rw [hl] at h; cases h)
  · exact Nd.cut_good h (by omega) (Nat.le_refl _) (fun h1 h2 => by have := hs h1 h2; omega)

/-! ### sizes -/
def sumLen (l : List (List UInt8)) : Nat := l.flatten.length
theorem sumLen_append (a b : List (List UInt8)) : sumLen (a ++ b) = sumLen a + sumLen b := by simp [sumLen]
theorem sumLen_cut (l : List (List UInt8)) (i : Nat) : sumLen (l.take i) + sumLen (l.drop i) = sumLen l := by rw [← sumLen_append, List.take_append_drop]
theorem sumLen_succ (l : List (List UInt8)) (i m : Nat) (h : ∀ u ∈ l, u.length ≤ m) : sumLen (l.take (i + 1)) ≤ sumLen (l.take i) + m := by
  rw [List.take_add_one, sumLen_append]
  cases hi : l[i]? with
  | none => simp [sumLen]
  | some u =>
    have := h u (List.mem_of_getElem? hi)
    simp [sumLen]; omega

theorem Nd.bytes_len (x : Nd) : x.bytes.length = 1 + (enc x.keys.length).length + sumLen x.entries + sumLen (x.kids.map enc) := by
  simp only [Nd.bytes, Nd.head, List.length_append, List.length_cons, sumLen]; omega

theorem enc_two {n : Nat} (h : n ≤ 2000) : (enc n).length ≤ 2 := enc_le 1 n (by omega)
theorem enc_three {n : Nat} (h : n ≤ 65536) : (enc n).length ≤ 3 := enc_le 2 n (by omega)

theorem climb (F : Nat → Nat) (T : Nat) : ∀ n, F 0 ≤ T → T < F n → ∃ i, i < n ∧ F i ≤ T ∧ T < F (i + 1)
  | 0, h0, hn => by omega
  | n + 1, h0, hn => by
    by_cases h : T < F n
    · obtain ⟨i, h1, h2, h3⟩ := climb F T n h0 h
      exact ⟨i, by omega, h2, h3⟩
    · exact ⟨n, by omega, by omega, hn⟩

theorem Nd.entry_le [Mode] {x : Nd} (h : x.Good) : ∀ u ∈ x.entries, u.length ≤ 210 := by
  intro u hu
  unfold Nd.entries at hu
  split at hu
  · obtain ⟨i, hi, rfl⟩ := List.getElem_of_mem hu
    rw [List.getElem_zipWith]
    simp only [List.length_zipWith] at hi
    have hk : x.keys[i]? = some (x.keys[i]'(by omega)) := List.getElem?_eq_getElem _
    have hv : x.vals[i]? = some (x.vals[i]'(by omega)) := List.getElem?_eq_getElem _
    have h1 := h.room i _ _ hk hv
    have h2 := h.ok.keys _ (List.mem_of_getElem? hk)
    have h3 := h.ok.vals _ (List.mem_of_getElem? hv)
    generalize x.keys[i]'(by omega) = k at *
    generalize x.vals[i]'(by omega) = v at *
    have h4 : (enc k.size).length ≤ 2 := enc_two (by omega)
    have h5 : k.data.toList.length = k.size := Array.length_toList
    simp only [keyBytes, List.length_append, h5]
    cases v with
    | inl b =>
      simp only [Vl.inlen] at h1
      have h6 : (enc b.length).length ≤ 2 := enc_two (by omega)
      simp only [Vl.bytes, List.length_cons, List.length_append]; omega
    | far s f =>
      obtain ⟨h7, h8⟩ := h3
      have h9 := enc_three h7
      have h10 := enc_three h8
      simp only [Vl.bytes, List.length_cons, List.length_append]; omega
  · obtain ⟨k, hk, rfl⟩ := List.mem_map.1 hu
    have h2 := h.ok.keys k hk
    have h4 : (enc k.size).length ≤ 2 := enc_two (by omega)
    have h5 : k.data.toList.length = k.size := Array.length_toList
    simp only [keyBytes, List.length_append, h5]; omega

theorem Nd.kid_le {x : Nd} (h : x.Ok) : ∀ u ∈ x.kids.map enc, u.length ≤ 3 := by
  intro u hu
  obtain ⟨k, hk, rfl⟩ := List.mem_map.1 hu
  exact enc_three (h.kids k hk)

theorem cut_zip {α β γ : Type} (f : α → β → γ) (a b : Nat) (l : List α) (m : List β) : List.zipWith f ((l.take b).drop a) ((m.take b).drop a) = ((List.zipWith f l m).take b).drop a := by
  rw [List.take_zipWith, List.drop_zipWith]

theorem Nd.cut_entries {x : Nd} (a b : Nat) : (x.cut a b).entries = (x.entries.take b).drop a := by
  cases hl : x.leaf with
  | true => rw [cut_leaf hl]; simp only [Nd.entries, hl, if_true]; exact cut_zip _ _ _ _ _
  | false => rw [cut_in hl]; simp [Nd.entries, hl, List.map_take, List.map_drop]

/-- Too great for a page, but not by much: it can be parted. -/
theorem Nd.parts [Mode] {x : Nd} (h : x.Good) (hbig : 512 < x.bytes.length) (hle : x.bytes.length ≤ if x.leaf then 740 else 900) :
    2 ≤ x.keys.length ∧ ∃ i, 1 ≤ i ∧ i < x.keys.length ∧ x.cost i ≤ 512 := by
  have hel := Nd.entry_le h
  have hkl := Nd.kid_le h.ok
  have hen := Nd.entries_len h.ok
  have hlen := x.bytes_len
  have hfew := h.ok.few
  have h2 := enc_two hfew
  suffices hs : ∃ i, 1 ≤ i ∧ i < x.keys.length ∧ x.cost i ≤ 512 by
    obtain ⟨i, h3, h4, h5⟩ := hs
    exact ⟨by omega, i, h3, h4, h5⟩
  cases hl : x.leaf with
  | true =>
    rw [if_pos hl] at hle
    have hk0 : x.kids = [] := (h.ok.lf hl).2
    have hz : sumLen (x.kids.map enc) = 0 := by rw [hk0]; rfl
    obtain ⟨i, h3, h4, h5⟩ := climb (fun i => sumLen (x.entries.take i)) 250 x.keys.length (by simp [sumLen]) (by rw [← hen, List.take_length]; omega)
    have h6 := sumLen_succ x.entries i 210 hel
    have h7 := sumLen_cut x.entries (i + 1)
    have hlt : i + 1 < x.keys.length := by
      by_cases e : i + 1 < x.keys.length
      · exact e
      · have : x.entries.drop (i + 1) = [] := List.drop_eq_nil_of_le (by omega)
        rw [this, show sumLen [] = 0 from rfl] at h7
        omega
    refine ⟨i + 1, by omega, hlt, ?_⟩
    have e1 : (x.lo_ (i + 1)).bytes.length ≤ 512 := by
      rw [Nd.bytes_len]
      have a1 : (x.lo_ (i + 1)).entries = x.entries.take (i + 1) := by unfold Nd.lo_; rw [Nd.cut_entries, List.drop_zero]
      have a2 : (x.lo_ (i + 1)).kids = [] := by unfold Nd.lo_; rw [cut_leaf hl]
      have a3 := enc_two (Nd.lo_ok h.ok (i := i + 1) (by omega)).few
      rw [a1, a2]
      simp only [List.map_nil]
      have : sumLen [] = 0 := rfl
      omega
    have e2 : (x.hi_ (i + 1)).bytes.length ≤ 512 := by
      rw [Nd.bytes_len]
      have a1 : (x.hi_ (i + 1)).entries = x.entries.drop (i + 1) := by unfold Nd.hi_; rw [if_pos hl, Nd.cut_entries, ← hen, List.take_length]
      have a2 : (x.hi_ (i + 1)).kids = [] := by unfold Nd.hi_; rw [if_pos hl, cut_leaf hl]
      have a3 := enc_two (Nd.hi_ok h.ok (i := i + 1) (by omega)).few
      rw [a1, a2]
      simp only [List.map_nil]
      have : sumLen [] = 0 := rfl
      omega
    unfold Nd.cost
    omega
  | false =>
    rw [if_neg (by simp [hl])] at hle
    have hkn : x.kids.length = x.keys.length + 1 := (h.ok.nd hl).1
    have hml : (x.kids.map enc).length = x.keys.length + 1 := by rw [List.length_map]; exact hkn
    obtain ⟨i, h3, h4, h5⟩ := climb (fun i => sumLen (x.entries.take i) + sumLen ((x.kids.map enc).take (i + 1))) 400 x.keys.length
      (by have := sumLen_succ (x.kids.map enc) 0 3 hkl; simp [sumLen] at this ⊢; omega)
      (by rw [List.take_of_length_le (by omega), List.take_of_length_le (by omega)]; omega)
    have h6 := sumLen_succ x.entries i 210 hel
    have h7 := sumLen_cut x.entries (i + 1)
    have h8 := sumLen_succ (x.kids.map enc) (i + 1) 3 hkl
    have h9 := sumLen_cut (x.kids.map enc) (i + 1)
    have hi1 : 1 ≤ i := by
      cases i with
      | zero =>
        have g1 := sumLen_succ (x.kids.map enc) 0 3 hkl
        simp [sumLen] at g1 h6 h8 h5
        omega
      | succ i => omega
    refine ⟨i, hi1, h3, ?_⟩
    have e1 : (x.lo_ i).bytes.length ≤ 512 := by
      rw [Nd.bytes_len]
      have a1 : (x.lo_ i).entries = x.entries.take i := by unfold Nd.lo_; rw [Nd.cut_entries, List.drop_zero]
      have a2 : (x.lo_ i).kids.map enc = (x.kids.map enc).take (i + 1) := by unfold Nd.lo_; rw [cut_in hl]; simp [List.map_take]
      have a3 := enc_two (Nd.lo_ok h.ok (i := i) (by omega)).few
      rw [a1, a2]
      omega
    have e2 : (x.hi_ i).bytes.length ≤ 512 := by
      rw [Nd.bytes_len]
      have a1 : (x.hi_ i).entries = x.entries.drop (i + 1) := by unfold Nd.hi_; rw [if_neg (by simp [hl]), Nd.cut_entries, ← hen, List.take_length]
      have a2 : (x.hi_ i).kids.map enc = (x.kids.map enc).drop (i + 1) := by unfold Nd.hi_; rw [if_neg (by simp [hl]), cut_in hl]; simp only [List.map_drop]; rw [← hkn, List.take_length]
      have a3 := enc_two (Nd.hi_ok h.ok (i := i) (by omega)).few
      rw [a1, a2]
      omega
    unfold Nd.cost
    omega

/-- An entry of a short node. -/
theorem Nd.entry_tiny {x : Nd} (h : x.Tiny) : ∀ u ∈ x.entries, u.length ≤ if x.leaf then 69 else 6 := by
  intro u hu
  unfold Nd.entries at hu
  split at hu
  · rename_i hl
    rw [if_pos hl]
    obtain ⟨i, hi, rfl⟩ := List.getElem_of_mem hu
    rw [List.getElem_zipWith]
    simp only [List.length_zipWith] at hi
    have h2 := h.1 (x.keys[i]'(by omega)) (List.getElem_mem _)
    obtain ⟨l, h3, h7⟩ := h.2 (x.vals[i]'(by omega)) (List.getElem_mem _)
    rw [h3]
    generalize x.keys[i]'(by omega) = k at *
    have h4 : (enc k.size).length ≤ 2 := enc_two (by omega)
    have h5 : k.data.toList.length = k.size := Array.length_toList
    have h6 : (enc l.length).length ≤ 2 := enc_two (by omega)
    simp only [keyBytes, List.length_append, h5, Vl.bytes, List.length_cons]; omega
  · rename_i hl
    rw [if_neg hl]
    obtain ⟨k, hk, rfl⟩ := List.mem_map.1 hu
    have h2 := h.1 k hk
    have h4 : (enc k.size).length ≤ 2 := enc_two (by omega)
    have h5 : k.data.toList.length = k.size := Array.length_toList
    simp only [keyBytes, List.length_append, h5]; omega

/-- Where a short node is parted best, neither part is small. -/
theorem Nd.parts_short [Mode] {x : Nd} (h : x.Good) (hs : Mode.short = true) (hbig : 512 < x.bytes.length) {i : Nat} (hi1 : 1 ≤ i) (hil : i < x.keys.length) (hbest : ∀ j, 1 ≤ j → j < x.keys.length → x.cost i ≤ x.cost j) :
    if x.leaf then 2 ≤ i ∧ i + 2 ≤ x.keys.length else i + 1 < x.keys.length := by
  have het := Nd.entry_tiny (h.tiny hs)
  have hkl := Nd.kid_le h.ok
  have hen := Nd.entries_len h.ok
  have hlen := x.bytes_len
  have hfew := h.ok.few
  have h2 := enc_two hfew
  cases hl : x.leaf with
  | true =>
    rw [if_pos rfl]
    have hel : ∀ u ∈ x.entries, u.length ≤ 69 := fun u hu => by have := het u hu; rwa [if_pos hl] at this
    have hk0 : x.kids = [] := (h.ok.lf hl).2
    have hz : sumLen (x.kids.map enc) = 0 := by rw [hk0]; rfl
    have hE : 510 ≤ sumLen x.entries := by omega
    have lo : ∀ i, i ≤ x.keys.length → (x.lo_ i).bytes.length ≤ 3 + sumLen (x.entries.take i) ∧ sumLen (x.entries.take i) ≤ (x.lo_ i).bytes.length := fun i hi => by
      rw [Nd.bytes_len]
      have a1 : (x.lo_ i).entries = x.entries.take i := by unfold Nd.lo_; rw [Nd.cut_entries, List.drop_zero]
      have a2 : (x.lo_ i).kids = [] := by unfold Nd.lo_; rw [cut_leaf hl]
      have a3 := enc_two (Nd.lo_ok h.ok hi).few
      rw [a1, a2]
      simp only [List.map_nil]
      have : sumLen [] = 0 := rfl
      omega
    have hi_ : ∀ i, i < x.keys.length → (x.hi_ i).bytes.length ≤ 3 + sumLen (x.entries.drop i) ∧ sumLen (x.entries.drop i) ≤ (x.hi_ i).bytes.length := fun i hi => by
      rw [Nd.bytes_len]
      have a1 : (x.hi_ i).entries = x.entries.drop i := by unfold Nd.hi_; rw [if_pos hl, Nd.cut_entries, ← hen, List.take_length]
      have a2 : (x.hi_ i).kids = [] := by unfold Nd.hi_; rw [if_pos hl, cut_leaf hl]
      have a3 := enc_two (Nd.hi_ok h.ok hi).few
      rw [a1, a2]
      simp only [List.map_nil]
      have : sumLen [] = 0 := rfl
      omega
    obtain ⟨j, h3, h4, h5⟩ := climb (fun i => sumLen (x.entries.take i)) (sumLen x.entries / 2) x.keys.length (by simp [sumLen]) (by rw [← hen, List.take_length]; omega)
    have h6 := sumLen_succ x.entries j 69 hel
    have h7 := sumLen_cut x.entries (j + 1)
    have hlt : j + 1 < x.keys.length := by
      by_cases e : j + 1 < x.keys.length
      · exact e
      · have : x.entries.drop (j + 1) = [] := List.drop_eq_nil_of_le (by omega)
        rw [this, show sumLen [] = 0 from rfl] at h7
        omega
    have hb := hbest (j + 1) (by omega) hlt
    obtain ⟨p1, p2⟩ := lo (j + 1) (by omega)
    obtain ⟨p3, p4⟩ := hi_ (j + 1) hlt
    obtain ⟨p5, p6⟩ := lo i (by omega)
    obtain ⟨p7, p8⟩ := hi_ i hil
    have h8 := sumLen_cut x.entries i
    have q1 := sumLen_succ x.entries 0 69 hel
    have q2 := sumLen_succ x.entries i 69 hel
    have h9 := sumLen_cut x.entries (i + 1)
    have q3 : sumLen (x.entries.take 0) = 0 := by simp [sumLen]
    unfold Nd.cost at hb
    refine ⟨?_, ?_⟩
    · by_cases e : 2 ≤ i
      · exact e
      · obtain rfl : i = 1 := by omega
        rw [Nat.zero_add] at q1
        omega
    · by_cases e : i + 2 ≤ x.keys.length
      · exact e
      · have : x.entries.drop (i + 1) = [] := List.drop_eq_nil_of_le (by omega)
        rw [this, show sumLen [] = 0 from rfl] at h9
        omega
  | false =>
    rw [if_neg (by decide)]
    have hel : ∀ u ∈ x.entries, u.length ≤ 6 := fun u hu => by have := het u hu; rwa [if_neg (by simp [hl])] at this
    have hkn : x.kids.length = x.keys.length + 1 := (h.ok.nd hl).1
    have hml : (x.kids.map enc).length = x.keys.length + 1 := by rw [List.length_map]; exact hkn
    have lo : ∀ i, i ≤ x.keys.length → (x.lo_ i).bytes.length ≤ 3 + (sumLen (x.entries.take i) + sumLen ((x.kids.map enc).take (i + 1))) ∧ sumLen (x.entries.take i) + sumLen ((x.kids.map enc).take (i + 1)) ≤ (x.lo_ i).bytes.length := fun i hi => by
      rw [Nd.bytes_len]
      have a1 : (x.lo_ i).entries = x.entries.take i := by unfold Nd.lo_; rw [Nd.cut_entries, List.drop_zero]
      have a2 : (x.lo_ i).kids.map enc = (x.kids.map enc).take (i + 1) := by unfold Nd.lo_; rw [cut_in hl]; simp [List.map_take]
      have a3 := enc_two (Nd.lo_ok h.ok hi).few
      rw [a1, a2]
      omega
    have hi_ : ∀ i, i < x.keys.length → (x.hi_ i).bytes.length ≤ 3 + (sumLen (x.entries.drop (i + 1)) + sumLen ((x.kids.map enc).drop (i + 1))) := fun i hi => by
      rw [Nd.bytes_len]
      have a1 : (x.hi_ i).entries = x.entries.drop (i + 1) := by unfold Nd.hi_; rw [if_neg (by simp [hl]), Nd.cut_entries, ← hen, List.take_length]
      have a2 : (x.hi_ i).kids.map enc = (x.kids.map enc).drop (i + 1) := by unfold Nd.hi_; rw [if_neg (by simp [hl]), cut_in hl]; simp only [List.map_drop]; rw [← hkn, List.take_length]
      have a3 := enc_two (Nd.hi_ok h.ok hi).few
      rw [a1, a2]
      omega
    obtain ⟨N, hN⟩ : ∃ N, N = sumLen x.entries + sumLen (x.kids.map enc) := ⟨_, rfl⟩
    obtain ⟨j, h3, h4, h5⟩ := climb (fun i => sumLen (x.entries.take i) + sumLen ((x.kids.map enc).take (i + 1))) (N / 2) x.keys.length
      (by have := sumLen_succ (x.kids.map enc) 0 3 hkl; simp [sumLen] at this ⊢; omega)
      (by rw [List.take_of_length_le (by omega), List.take_of_length_le (by omega)]; omega)
    have h6 := sumLen_succ x.entries j 6 hel
    have h7 := sumLen_cut x.entries (j + 1)
    have h8 := sumLen_succ (x.kids.map enc) (j + 1) 3 hkl
    have h9 := sumLen_cut (x.kids.map enc) (j + 1)
    have hj1 : 1 ≤ j := by
      cases j with
      | zero =>
        have g1 := sumLen_succ (x.kids.map enc) 0 3 hkl
        have g2 : sumLen (x.entries.take 0) = 0 := by simp [sumLen]
        have g3 : sumLen ((x.kids.map enc).take 0) = 0 := by simp [sumLen]
        simp only [Nat.zero_add] at *
        omega
      | succ j => omega
    have hb := hbest j hj1 h3
    obtain ⟨p1, p2⟩ := lo j (by omega)
    have p3 := hi_ j h3
    obtain ⟨p5, p6⟩ := lo i (by omega)
    by_cases e : i + 1 < x.keys.length
    · exact e
    · have h10 := sumLen_succ x.entries i 6 hel
      have h11 := sumLen_cut x.entries (i + 1)
      have h12 := sumLen_succ (x.kids.map enc) (i + 1) 3 hkl
      have h13 := sumLen_cut (x.kids.map enc) (i + 1 + 1)
      have e1 : x.entries.drop (i + 1) = [] := List.drop_eq_nil_of_le (by omega)
      have e2 : (x.kids.map enc).drop (i + 1 + 1) = [] := List.drop_eq_nil_of_le (by omega)
      rw [e1, show sumLen [] = 0 from rfl] at h11
      rw [e2, show sumLen [] = 0 from rfl] at h13
      unfold Nd.cost at hb
      omega

/-! ### what stands in a node -/
/-- What stands in a node of that height and below it. -/
def Body [Mode] (ps : List Pg) : Nat → Nd → Option ByteArray → Option ByteArray → KV → List Nat → Prop
  | 0, x, lo, hi, C, T => LeafIs ps x lo hi C T
  | h + 1, x, lo, hi, C, T => x.leaf = false ∧ Kids (Sub ps h) lo x.keys hi x.kids C T

theorem Sub.body [Mode] {ps : List Pg} {h n : Nat} {lo hi C S} (hs : Sub ps h n lo hi C S) : ∃ x T, S = n :: T ∧ PgIs ps n x.bytes ∧ x.bytes.length ≤ 512 ∧ x.Good ∧ Body ps h x lo hi C T := by
  cases h with
  | zero => exact hs
  | succ h => obtain ⟨x, T, h1, h2, h3, h4, h5, h6⟩ := hs; exact ⟨x, T, h1, h2, h3, h4, h5, h6⟩
theorem Body.sub [Mode] {ps : List Pg} {h n : Nat} {x : Nd} {lo hi C T} (hb : Body ps h x lo hi C T) (h1 : PgIs ps n x.bytes) (h2 : x.bytes.length ≤ 512) (h3 : x.Good) : Sub ps h n lo hi C (n :: T) := by
  cases h with
  | zero => exact ⟨x, T, rfl, h1, h2, h3, hb⟩
  | succ h => exact ⟨x, T, rfl, h1, h2, h3, hb.1, hb.2⟩
theorem Body.move [Mode] {ps ps' : List Pg} {h : Nat} {x : Nd} {lo hi C T} (hb : Body ps h x lo hi C T) (hk : ∀ m ∈ T, ∀ l, PgIs ps m l → PgIs ps' m l) : Body ps' h x lo hi C T := by
  cases h with
  | zero => exact LeafIs.move hb hk
  | succ h => exact ⟨hb.1, hb.2.mono fun n lo hi C U hU hp => hp.move h fun m hm => hk m (hU m hm)⟩
theorem Body.pages [Mode] {ps : List Pg} {h : Nat} {x : Nd} {lo hi C T} (hb : Body ps h x lo hi C T) : ∀ m ∈ T, hasP ps m = true := by
  cases h with
  | zero => exact LeafIs.pages hb
  | succ h => exact Kids.pages (q := fun m => hasP ps m = true) (fun n lo hi C T hp => hp.pages h) hb.2
theorem Body.span [Mode] {ps : List Pg} {h : Nat} {x : Nd} {lo hi C T} (hb : Body ps h x lo hi C T) : Span lo hi C := by
  cases h with
  | zero => exact ⟨by rw [← LeafIs.keys hb]; exact LeafIs.rises hb, fun p hp => (LeafIs.between hb p hp).1, fun p hp => (LeafIs.between hb p hp).2⟩
  | succ h => exact hb.2.span fun n lo hi C T hp => hp.span h
theorem Body.rises [Mode] {ps : List Pg} {h : Nat} {x : Nd} {lo hi C T} (hb : Body ps h x lo hi C T) : Rises x.keys := by
  cases h with
  | zero => exact LeafIs.rises hb
  | succ h => exact hb.2.keys.1

/-- A node's two parts. -/
theorem Body.half [Mode] {ps : List Pg} {h : Nat} {x : Nd} {lo hi C T} (hb : Body ps h x lo hi C T) {i : Nat} {k : ByteArray} (hi1 : 1 ≤ i) (hk : x.keys[i]? = some k) (hs : Mode.short = true → x.leaf = true → 2 ≤ i ∧ i + 2 ≤ x.keys.length) :
    ∃ C1 C2 T1 T2, C = C1 ++ C2 ∧ T = T1 ++ T2 ∧ sltO lo k ∧ ltO k hi ∧ Body ps h (x.lo_ i) lo (some k) C1 T1 ∧ Body ps h (x.hi_ i) (some k) hi C2 T2 := by
  have hil := (List.getElem?_eq_some_iff.1 hk).1
  cases h with
  | zero =>
    have hb : LeafIs ps x lo hi C T := hb
    obtain ⟨S1, S2, rfl, h1, h2⟩ := hb.vals.cut i
    have hlen : x.keys.length = C.length := by rw [hb.keys, List.length_map]
    have hvl : x.vals.length = C.length := by rw [hb.vals.len, List.length_map]
    have h0 : blt (x.keys[0]'(by omega)) k = true := by
      have := hb.rises.get_lt (i := 0) (j := i) (by omega) hil
      rwa [(List.getElem?_eq_some_iff.1 hk).2] at this
    have hlok : sltO lo k := fun a ha => by
      have := hb.lo (x.keys[0]'(by omega)) (List.getElem_mem _) a ha
      exact blt_of_le_lt this h0
    have hspl : ∀ a b, (ha' : a < i) → (hib : i ≤ b) → (hb' : b < x.keys.length) → blt (x.keys[a]'(by omega)) k = true ∧ blt (x.keys[b]) k = false := fun a b h1 h2 hb' => by
      have e1 := hb.rises.get_lt (i := a) (j := i) h1 hil
      rw [(List.getElem?_eq_some_iff.1 hk).2] at e1
      refine ⟨e1, ?_⟩
      by_cases e : b = i
      · subst e; rw [(List.getElem?_eq_some_iff.1 hk).2]; exact blt_irrefl _
      · have e2 := hb.rises.get_lt (i := i) (j := b) (by omega) hb'
        rw [(List.getElem?_eq_some_iff.1 hk).2] at e2
        exact blt_asymm e2
    refine ⟨C.take i, C.drop i, S1, S2, (List.take_append_drop _ _).symm, rfl, hlok, hb.hi k (List.mem_of_getElem? hk), ?_, ?_⟩
    · refine ⟨by simp [Nd.lo_, cut_leaf hb.leaf], ?_, ?_, ?_, ?_, ?_, fun h => ?_⟩
      · simp [Nd.lo_, cut_leaf hb.leaf, hb.keys, List.map_take]
      · rw [List.map_take]; simpa [Nd.lo_, cut_leaf hb.leaf] using h1
      · simp only [Nd.lo_, cut_leaf hb.leaf, List.drop_zero]
        exact List.Pairwise.sublist (List.take_sublist _ _) hb.rises
      · intro a ha
        simp only [Nd.lo_, cut_leaf hb.leaf, List.drop_zero] at ha
        exact hb.lo a (List.mem_of_mem_take ha)
      · intro a ha b hb'
        cases hb'
        simp only [Nd.lo_, cut_leaf hb.leaf, List.drop_zero] at ha
        obtain ⟨j, hj, rfl⟩ := List.getElem_of_mem ha
        simp only [List.length_take] at hj
        rw [List.getElem_take]
        exact (hspl j i (by omega) (Nat.le_refl _) hil).1
      · have := hs h hb.leaf
        left
        simp only [Nd.lo_, cut_leaf hb.leaf, List.drop_zero, List.length_take]; omega
    · have e1 : x.keys.take x.keys.length = x.keys := List.take_length
      have e2 : x.vals.take x.keys.length = x.vals := List.take_of_length_le (by omega)
      refine ⟨by simp [Nd.hi_, hb.leaf, cut_leaf hb.leaf], ?_, ?_, ?_, ?_, ?_, fun h => ?_⟩
      · simp only [Nd.hi_, hb.leaf, if_true, cut_leaf hb.leaf, e1]
        rw [hb.keys, List.map_drop]
      · rw [List.map_drop]; simpa [Nd.hi_, hb.leaf, cut_leaf hb.leaf, e2] using h2
      · simp only [Nd.hi_, hb.leaf, if_true, cut_leaf hb.leaf, e1]
        exact List.Pairwise.sublist (List.drop_sublist _ _) hb.rises
      · intro a ha b hb'
        cases hb'
        simp only [Nd.hi_, hb.leaf, if_true, cut_leaf hb.leaf, e1] at ha
        obtain ⟨j, hj, rfl⟩ := List.getElem_of_mem ha
        simp only [List.length_drop] at hj
        rw [List.getElem_drop]
        exact (hspl 0 (i + j) (by omega) (by omega) (by omega)).2
      · intro a ha
        simp only [Nd.hi_, hb.leaf, if_true, cut_leaf hb.leaf, e1] at ha
        exact hb.hi a (List.mem_of_mem_drop ha)
      · have := hs h hb.leaf
        left
        simp only [Nd.hi_, hb.leaf, if_true, cut_leaf hb.leaf, e1, List.length_drop]; omega
  | succ h =>
    obtain ⟨hl, hb⟩ := hb
    have hkl := hb.len
    obtain ⟨C1, C2, S1, S2, rfl, rfl, h1, h2, h3, h4⟩ := hb.split hk
    refine ⟨C1, C2, S1, S2, rfl, rfl, h1, h2, ⟨by simp [Nd.lo_, cut_in hl], ?_⟩, ⟨by simp [Nd.hi_, hl, cut_in hl], ?_⟩⟩
    · simpa [Nd.lo_, cut_in hl] using h3
    · have e2 : x.kids.take (x.keys.length + 1) = x.kids := List.take_of_length_le (by omega)
      simpa [Nd.hi_, hl, cut_in hl, e2] using h4
end Go.Proofs.YtpfjhehjmhkbpaaGreatDoor

namespace Go.Proofs.YtpfjhehjmhkbpaaGreatDoor
open Go.RowKit

theorem At.alloc {w : World} {A : Option Addr} {news : List Value} (h : At w A news) (o : Obj) : At (w.alloc o) A news := by
  rcases h with h | ⟨ad, rfl, h⟩
  · exact .inl h
  · refine .inr ⟨ad, rfl, fun j u hu => ?_⟩
    have h1 := h j u hu
    have h2 : (ad.add j).block < w.heap.size := by
      unfold World.cell? at h1
      cases hb : w.heap[(ad.add j).block]? with
      | none => rw [hb] at h1; simp at h1
      | some o => exact blk_lt hb
    rw [← h1]
    exact Below.cell ((Below.refl w.heap.size w).alloc (Nat.le_refl _) o) h2

theorem own_emptyz (w : World) (e sz : Nat) : (w.alloc (.cells #[] e)).ownsRow w.heap.size e sz (.slice (some ⟨w.heap.size, 0, none⟩) 0 0) 0 [] :=
  ⟨by simp, .inr ⟨w.heap.size, 0, #[], rfl, Nat.le_refl _, heap_new _ _, Nat.le_refl _, by simp [maxLen], by simp, by simp⟩⟩

set_option maxHeartbeats 400000 in
theorem cloneS (A : Option Addr) (n c : Nat) (xs : List Value) (w : World) (hat : At w A xs) (hl : xs.length = n * 1) (hA : A = none → c = 0) (hn0 : A = none → n = 0) (h1 : ∀ u ∈ xs, u.oneCell' = true) (hn : n ≤ 100000) :
    Calls Tryz.prog 140 #[.slice A n c] w fun e w' => ∃ v', e = .returned v' ∧ w'.ownsRow w.heap.size 9 1 v' n xs ∧ Below w.heap.size w w' := by
  cases A with
  | none =>
    obtain rfl := hA rfl
    obtain rfl := hn0 rfl
    have hx0 : xs = [] := List.eq_nil_of_length_eq_zero (by omega)
    subst hx0
    have e1 := Lib.run_eql_slice_nil (P := Tryz.prog) (w := w) 22 9 none 0 0 0 0 Tryz.underlying22
    go_enter Tryz.func140, Tryz.ntmps140
    go_wp2
    go_ret
    exact ⟨_, rfl, World.ownsRow_nil _ _ _ _, Below.refl _ _⟩
  | some ad =>
    have e1 := Lib.run_eql_slice_nil (P := Tryz.prog) (w := w) 22 9 (some ad) n c 0 0 Tryz.underlying22
    have HL := Lib.hid (And.intro hl h1); clear hl h1 hn0 hA
    go_enter Tryz.func140, Tryz.ntmps140
    go_wp2_with (at_builtin; refine wpList_app rfl (.tmp 5) (.tmp 6) 22 rfl w.heap.size 9 _ 1 16 Tryz.underlying22 infoES rfl (by decide) _ _ _ rfl (own_emptyz w 9 1) _ _ _ xs rfl HL.out.1 (hat.alloc _) ?_ HL.out.2 ?_ ?_ ?_ ?_)
    · intro h; cases h
    · simp only [maxLen]; omega
    · omega
    · simp
    · intro v1 w1 hown hm1
      go_wp2
      go_ret
      refine ⟨v1, rfl, by simpa using hown, ?_⟩
      exact ((Mut.of_below (bel_alloc (Below.refl w.heap.size w) _) w.heap.size [9]).trans hm1).fresh

set_option maxHeartbeats 400000 in
theorem cloneV (A : Option Addr) (n c : Nat) (xs : List Value) (w : World) (hat : At w A xs) (hl : xs.length = n * 4) (hA : A = none → c = 0) (hn0 : A = none → n = 0) (h1 : ∀ u ∈ xs, u.oneCell' = true) (hn : n ≤ 100000) :
    Calls Tryz.prog 141 #[.slice A n c] w fun e w' => ∃ v', e = .returned v' ∧ w'.ownsRow w.heap.size 86 4 v' n xs ∧ Below w.heap.size w w' := by
  cases A with
  | none =>
    obtain rfl := hA rfl
    obtain rfl := hn0 rfl
    have hx0 : xs = [] := List.eq_nil_of_length_eq_zero (by omega)
    subst hx0
    have e1 := Lib.run_eql_slice_nil (P := Tryz.prog) (w := w) 90 86 none 0 0 0 0 Tryz.underlying90
    go_enter Tryz.func141, Tryz.ntmps141
    go_wp2
    go_ret
    exact ⟨_, rfl, World.ownsRow_nil _ _ _ _, Below.refl _ _⟩
  | some ad =>
    have e1 := Lib.run_eql_slice_nil (P := Tryz.prog) (w := w) 90 86 (some ad) n c 0 0 Tryz.underlying90
    have HL := Lib.hid (And.intro hl h1); clear hl h1 hn0 hA
    go_enter Tryz.func141, Tryz.ntmps141
    go_wp2_with (at_builtin; refine wpList_app rfl (.tmp 5) (.tmp 6) 90 rfl w.heap.size 86 _ 4 48 Tryz.underlying90 infoEV rfl (by decide) _ _ _ rfl (own_emptyz w 86 4) _ _ _ xs rfl HL.out.1 (hat.alloc _) ?_ HL.out.2 ?_ ?_ ?_ ?_)
    · intro h; cases h
    · simp only [maxLen]; omega
    · omega
    · simp
    · intro v1 w1 hown hm1
      go_wp2
      go_ret
      refine ⟨v1, rfl, by simpa using hown, ?_⟩
      exact ((Mut.of_below (bel_alloc (Below.refl w.heap.size w) _) w.heap.size [86]).trans hm1).fresh

set_option maxHeartbeats 400000 in
theorem cloneI (A : Option Addr) (n c : Nat) (xs : List Value) (w : World) (hat : At w A xs) (hl : xs.length = n * 1) (hA : A = none → c = 0) (hn0 : A = none → n = 0) (h1 : ∀ u ∈ xs, u.oneCell' = true) (hn : n ≤ 100000) :
    Calls Tryz.prog 142 #[.slice A n c] w fun e w' => ∃ v', e = .returned v' ∧ w'.ownsRow w.heap.size 3 1 v' n xs ∧ Below w.heap.size w w' := by
  cases A with
  | none =>
    obtain rfl := hA rfl
    obtain rfl := hn0 rfl
    have hx0 : xs = [] := List.eq_nil_of_length_eq_zero (by omega)
    subst hx0
    have e1 := Lib.run_eql_slice_nil (P := Tryz.prog) (w := w) 48 3 none 0 0 0 0 Tryz.underlying48
    go_enter Tryz.func142, Tryz.ntmps142
    go_wp2
    go_ret
    exact ⟨_, rfl, World.ownsRow_nil _ _ _ _, Below.refl _ _⟩
  | some ad =>
    have e1 := Lib.run_eql_slice_nil (P := Tryz.prog) (w := w) 48 3 (some ad) n c 0 0 Tryz.underlying48
    have HL := Lib.hid (And.intro hl h1); clear hl h1 hn0 hA
    go_enter Tryz.func142, Tryz.ntmps142
    go_wp2_with (at_builtin; refine wpList_app rfl (.tmp 5) (.tmp 6) 48 rfl w.heap.size 3 _ 1 8 Tryz.underlying48 infoEI rfl (by decide) _ _ _ rfl (own_emptyz w 3 1) _ _ _ xs rfl HL.out.1 (hat.alloc _) ?_ HL.out.2 ?_ ?_ ?_ ?_)
    · intro h; cases h
    · simp only [maxLen]; omega
    · omega
    · simp
    · intro v1 w1 hown hm1
      go_wp2
      go_ret
      refine ⟨v1, rfl, by simpa using hown, ?_⟩
      exact ((Mut.of_below (bel_alloc (Below.refl w.heap.size w) _) w.heap.size [3]).trans hm1).fresh
end Go.Proofs.YtpfjhehjmhkbpaaGreatDoor

namespace Go.Proofs.YtpfjhehjmhkbpaaGreatDoor
open Go.RowKit

theorem NodeAt.keysRd {B q : Nat} {w : World} {x : Nd} (h : NodeAt B w q x) : ∃ A c, w.cell? ⟨q, 1, none⟩ = some (.slice A x.keys.length c) ∧ x.keys.length ≤ c ∧ c ≤ maxLen ∧ (A = none → c = 0) ∧ RdS w A x.keys := by
  obtain ⟨h0, kv, vv, iv, vc, h1, h2, h4, h6, h7⟩ := h
  obtain ⟨A, c, rfl, g1, g2, g3, g4, g5⟩ := Rd.of_own h2
  exact ⟨A, c, by rw [cell_of h1]; rfl, g1, g2, g3, g5⟩
theorem NodeAt.leaf0 {B q : Nat} {w : World} {x : Nd} (h : NodeAt B w q x) : w.cell? ⟨q, 0, none⟩ = some (.bool x.leaf) := by
  obtain ⟨h0, kv, vv, iv, vc, h1, h2, h4, h6, h7⟩ := h
  rw [cell_of h1]; rfl

set_option maxHeartbeats 400000 in
theorem place_any (B : Nat) (w : World) (q : Nat) (x : Nd) (key : ByteArray) (h : NodeAt B w q x) (hs : Rises x.keys) (hl : x.keys.length ≤ 1000000000) :
    Calls Tryz.prog 85 #[.pointer (some ⟨q, 0, none⟩), .string key] w fun e w' => e = .returned (.tuple #[.int .i64 (below x.keys key), .bool (hasKey x.keys key)]) ∧ w = w' := by
  obtain ⟨A, c, h1, h2, h3, h4, h5⟩ := h.keysRd
  have hc := search_any A c x.keys key w h5 hs hl
  clear h2 h3 h4 h5 hs h
  go_enter Tryz.func85, Tryz.ntmps85
  go_wp2_with (go_at_call 118; refine hc.mono ?_; rintro e w' ⟨rfl, rfl⟩)
  go_ret2
  exact ⟨rfl, rfl⟩

set_option maxHeartbeats 400000 in
theorem kid_any (B : Nat) (w : World) (q : Nat) (x : Nd) (key : ByteArray) (h : NodeAt B w q x) (hs : Rises x.keys) (hl : x.keys.length ≤ 1000000000) :
    Calls Tryz.prog 91 #[.pointer (some ⟨q, 0, none⟩), .string key] w fun e w' => e = .returned (.int .i64 (kidIdx x.keys key)) ∧ w = w' := by
  have hc := place_any B w q x key h hs hl
  have he := Lib.hid (kidIdx_eq (key := key) hs)
  have hb := below_le x.keys key
  clear h hs
  cases hk : hasKey x.keys key
  all_goals
    rw [hk] at hc
    have hkH := Lib.hid hk; clear hk
    go_enter Tryz.func91, Tryz.ntmps91
    go_wp2_with (go_at_call 85; refine hc.mono ?_; rintro e w' ⟨rfl, rfl⟩)
    go_ret
    refine ⟨?_, rfl⟩
    rw [he.out, hkH.out]; simp

set_option maxHeartbeats 400000 in
theorem isKey_yes (s : ByteArray) (w : World) (h1 : 1 ≤ s.size) (h2 : s.size ≤ 200) : Calls Tryz.prog 34 #[.string s] w fun e w' => e = .returned (.bool true) ∧ w = w' := by
  have hd : decide ((s.size : Int) ≤ 200) = true := by rw [decide_eq_true_eq]; omega
  go_enter Tryz.func34, Tryz.ntmps34
  go_wp2
  go_ret
  exact ⟨rfl, rfl⟩
set_option maxHeartbeats 400000 in
theorem isKey_no (s : ByteArray) (w : World) (h : s.size = 0 ∨ 200 < s.size) : Calls Tryz.prog 34 #[.string s] w fun e w' => e = .returned (.bool false) ∧ w = w' := by
  rcases h with h | h
  · go_enter Tryz.func34, Tryz.ntmps34
    go_wp2
    go_ret
    exact ⟨rfl, rfl⟩
  · have hd : decide ((s.size : Int) ≤ 200) = false := by rw [decide_eq_false_iff_not]; omega
    go_enter Tryz.func34, Tryz.ntmps34
    go_wp2
    go_ret
    exact ⟨rfl, rfl⟩

theorem ret_int {k : IntKind} {a b : Int} (h : a = b) : Ending.returned (.int k a) = .returned (.int k b) := by rw [h]
theorem ret_bool {a b : Bool} (h : a = b) : Ending.returned (.bool a) = .returned (.bool b) := by rw [h]

/-- How many pages of its own a value needs. -/
def manyOf (k b : Nat) : Nat := if k + b ≤ 200 then 0 else (b + 508) / 509

set_option maxHeartbeats 400000 in
theorem many_any (s : ByteArray) (A : Option Addr) (n c : Nat) (w : World) (h1 : s.size ≤ 1000000) (h2 : n ≤ 1000000) : Calls Tryz.prog 36 #[.string s, .slice A n c] w fun e w' => e = .returned (.int .i64 (manyOf s.size n)) ∧ w = w' := by
  by_cases h : s.size + n ≤ 200
  · have hm : manyOf s.size n = 0 := if_pos h
    rw [hm]
    go_enter Tryz.func36, Tryz.ntmps36
    go_wp2
    go_ret
    exact ⟨rfl, rfl⟩
  · have hm := Lib.hid (show manyOf s.size n = (n + 508) / 509 from if_neg h)
    go_enter Tryz.func36, Tryz.ntmps36
    go_wp2
    go_ret
    refine ⟨ret_int ?_, rfl⟩
    rw [hm.out]
    omega

/-- Pages that may be taken yet. -/
def room (ps : List Pg) : Nat := 16384 - ps.length + nfree ps

set_option maxHeartbeats 400000 in
theorem left_any (B : Nat) (w : World) (T p : Nat) (r : PS) (ls ps : List Pg) (hT : w.cell? ⟨T, 0, none⟩ = some (.pointer (some ⟨p, 0, none⟩))) (hp : Pgr B w p r ls ps) :
    Calls Tryz.prog 35 #[.pointer (some ⟨T, 0, none⟩)] w fun e w' => e = .returned (.int .i64 (room ps)) ∧ ∃ k, w' = w.drewN k := by
  have hc := gcount hp
  have hf := hp.few
  have hn := nfree_le ps
  have hr : Hid ((room ps : Int) = 16384 - ps.length + nfree ps) := by show _ = _; unfold room; omega
  clear hp
  go_enter Tryz.func35, Tryz.ntmps35
  go_wp2_with (go_at_call 38; refine hc.mono ?_; rintro e w' ⟨rfl, k, rfl⟩)
  go_ret
  exact ⟨ret_int hr.out.symm, _, rfl⟩

set_option maxHeartbeats 400000 in
theorem fits_yes (B : Nat) (w : World) (q : Nat) (x : Nd) (h : NodeAt B w q x) (hok : x.Ok) (hlen : x.bytes.length ≤ 512) :
    Calls Tryz.prog 124 #[.pointer (some ⟨q, 0, none⟩)] w fun e w' => e = .returned (.bool true) ∧ Below w.heap.size w w' := by
  have hb := bytes_any B w q x h hok (by omega)
  obtain ⟨L, hL⟩ : ∃ L, L = x.bytes.length := ⟨_, rfl⟩
  rw [← hL] at hb hlen
  have hLH := Lib.hid hL; clear hL
  have hd : decide ((L : Int) ≤ 512) = true := by rw [decide_eq_true_eq]; omega
  clear h hok
  go_enter Tryz.func124, Tryz.ntmps124
  go_wp2_with (go_at_call 83; refine hb.mono ?_; rintro e w' ⟨v, rfl, o, b⟩; obtain ⟨A, c, rfl, h1, -, -⟩ := own_slice o; clear o)
  go_ret
  exact ⟨rfl, by assumption⟩
set_option maxHeartbeats 400000 in
theorem fits_no (B : Nat) (w : World) (q : Nat) (x : Nd) (h : NodeAt B w q x) (hok : x.Ok) (hlen : 512 < x.bytes.length) (hlen2 : x.bytes.length ≤ 1000000) :
    Calls Tryz.prog 124 #[.pointer (some ⟨q, 0, none⟩)] w fun e w' => e = .returned (.bool false) ∧ Below w.heap.size w w' := by
  have hb := bytes_any B w q x h hok (by omega)
  obtain ⟨L, hL⟩ : ∃ L, L = x.bytes.length := ⟨_, rfl⟩
  rw [← hL] at hb hlen hlen2
  have hLH := Lib.hid hL; clear hL
  have hd : decide ((L : Int) ≤ 512) = false := by rw [decide_eq_false_iff_not]; omega
  clear h hok
  go_enter Tryz.func124, Tryz.ntmps124
  go_wp2_with (go_at_call 83; refine hb.mono ?_; rintro e w' ⟨v, rfl, o, b⟩; obtain ⟨A, c, rfl, h1, -, -⟩ := own_slice o; clear o)
  go_ret
  exact ⟨rfl, by assumption⟩

theorem NodeAt.drew {B q : Nat} {w : World} {x : Nd} (h : NodeAt B w q x) : NodeAt B w.drew q x := h.mut (Mut.drew (Mut.refl 0 [] w)) (by simp) (by simp) (by simp) (by simp) (by simp)
theorem Pgr.drew {B p : Nat} {w : World} {r : PS} {ls ps : List Pg} (h : Pgr B w p r ls ps) : Pgr B w.drew p r ls ps := h.mut (Mut.drew (Mut.refl 0 [] w)) (by simp) (by simp) (by simp)
theorem bel_undrew {B : Nat} {w W : World} (h : Below B w.drew W) : Below B w W := ⟨h.os, h.tape, h.output, h.size, h.block⟩
theorem bel_cell {w w' : World} {g i : Nat} {v : Value} (hb : Below w.heap.size w w') (h : w.cell? ⟨g, i, none⟩ = some v) : w'.cell? ⟨g, i, none⟩ = some v := by
  have h2 : g < w.heap.size := by
    unfold World.cell? at h
    cases hg : w.heap[g]? with
    | none => simp [hg] at h
    | some o => exact blk_lt hg
  rw [← h]
  exact hb.cell (p := ⟨g, i, none⟩) h2
theorem mut_cell {B : Nat} {L : List Nat} {w w' : World} {g i e : Nat} {c : Array Value} {f : Nat × Nat} {v : Value} (hm : Mut B L w w') (hg : w.heap[g]? = some (.cells c e f)) (he : e ∉ L) (h : w.cell? ⟨g, i, none⟩ = some v) : w'.cell? ⟨g, i, none⟩ = some v := by
  rw [cell_of (hm.keepc hg he), ← cell_of hg]; exact h

/-- The Tree's own block. -/
def TAt (w : World) (T p : Nat) (root cnt : Int) (dead : Bool) : Prop := w.heap[T]? = some (.cells #[.pointer (some ⟨p, 0, none⟩), .int .i64 root, .int .i64 cnt, .bool dead] 80 (0, 0))
section
variable {w w' : World} {T p : Nat} {root cnt : Int} {dead : Bool}
theorem TAt.c0 (h : TAt w T p root cnt dead) : w.cell? ⟨T, 0, none⟩ = some (.pointer (some ⟨p, 0, none⟩)) := by rw [cell_of h]; rfl
theorem TAt.c1 (h : TAt w T p root cnt dead) : w.cell? ⟨T, 1, none⟩ = some (.int .i64 root) := by rw [cell_of h]; rfl
theorem TAt.c2 (h : TAt w T p root cnt dead) : w.cell? ⟨T, 2, none⟩ = some (.int .i64 cnt) := by rw [cell_of h]; rfl
theorem TAt.c3 (h : TAt w T p root cnt dead) : w.cell? ⟨T, 3, none⟩ = some (.bool dead) := by rw [cell_of h]; rfl
theorem TAt.unfrozen (h : TAt w T p root cnt dead) (i : Nat) : w.frozen? ⟨T, i, none⟩ = false := unfrozen_of h i
theorem TAt.mut {B : Nat} {L : List Nat} (h : TAt w T p root cnt dead) (hm : Mut B L w w') (h80 : 80 ∉ L) : TAt w' T p root cnt dead := hm.keepc h h80
theorem TAt.below (h : TAt w T p root cnt dead) (hb : Below w.heap.size w w') : TAt w' T p root cnt dead := h.mut (.of_below hb 0 []) (by simp)
theorem TAt.drew (h : TAt w T p root cnt dead) : TAt w.drew T p root cnt dead := h
end

set_option maxHeartbeats 400000 in
theorem store_any (B B' : Nat) (w : World) (T p n q : Nat) (root cnt : Int) (dead : Bool) (r : PS) (ls ps : List Pg) (x : Nd) (hTA : TAt w T p root cnt dead) (hp : Pgr B w p r ls ps)
    (hn : hasP ps n = true) (h : NodeAt B' w q x) (hok : x.Ok) (hlen : x.bytes.length ≤ 512) :
    Calls Tryz.prog 41 #[.pointer (some ⟨T, 0, none⟩), .int .i64 (n : Int), .pointer (some ⟨q, 0, none⟩)] w fun e w' => e = .returned (.tuple #[]) ∧ ∃ v', Pgr B w' p r ls (ps.set n ⟨true, v', x.bytes⟩) ∧ Mut B [133, 147] w w' := by
  have hb := bytes_any B' w.drew q x h.drew hok (by omega)
  have hpd := hp.drew
  have hT := hTA.c0
  have hTd := hTA.drew
  have mixed : Tryz.prog.follows .mixedOrders = true := by kernel_rfl
  clear h hok hp
  go_enter Tryz.func41, Tryz.ntmps41
  go_region_held3 (fun W => W.cell? ⟨T, 0, none⟩ = some (.pointer (some ⟨p, 0, none⟩))) (first | exact hT | assumption | trivial) (first
    | (go_at_call 83; refine hb.mono ?_; rintro e w1 ⟨v, rfl, o, b⟩; have hp1 := hpd.below b; have hTd1 := hTd.below b; have hT1 := hTd1.c0; have hv := Byt.of_own o; obtain ⟨A, c, rfl, h1, -, -⟩ := own_slice o; have hput := gput (n := n) hp1 hn hv hlen; clear o)
    | (go_at_call 81; refine hput.mono ?_; rintro e w2 ⟨v', rfl, h6, h7⟩; have hT2 := (hTd1.mut h7 (by decide)).c0))
  all_goals
    go_end0
    exact ⟨rfl, _, h6, (Mut.of_below (bel_undrew b) B [133, 147]).trans h7⟩
end Go.Proofs.YtpfjhehjmhkbpaaGreatDoor
