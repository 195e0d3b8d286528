/- The tree as a plain thing: what the pages hold, no walk in sight. -/
import Derived.Test.YtpfjhehjmhkbpaaGreatDoorM06
namespace Go.Proofs.YtpfjhehjmhkbpaaGreatDoor

abbrev KV := List (ByteArray × List UInt8)
/-- The bound is not above the key. -/
def leO (lo : Option ByteArray) (k : ByteArray) : Prop := ∀ a, lo = some a → blt k a = false
/-- The bound is below the key. -/
def sltO (lo : Option ByteArray) (k : ByteArray) : Prop := ∀ a, lo = some a → blt a k = true
/-- The key is below the bound. -/
def ltO (k : ByteArray) (hi : Option ByteArray) : Prop := ∀ b, hi = some b → blt k b = true

theorem sltO.le {lo : Option ByteArray} {k : ByteArray} (h : sltO lo k) : leO lo k := fun a ha => blt_asymm (h a ha)
theorem leO.trans {lo : Option ByteArray} {a k : ByteArray} (h : leO lo a) (hk : blt k a = false) : leO lo k := fun b hb => not_blt_trans hk (h b hb)
theorem sltO.trans {lo : Option ByteArray} {a k : ByteArray} (h : sltO lo a) (hk : blt k a = false) : sltO lo k := fun b hb => blt_of_lt_le (h b hb) hk
theorem ltO.trans {hi : Option ByteArray} {a k : ByteArray} (h : ltO a hi) (hk : blt k a = true) : ltO k hi := fun b hb => blt_trans hk (h b hb)
theorem leO_none (k : ByteArray) : leO none k := fun _ h => by cases h
theorem sltO_none (k : ByteArray) : sltO none k := fun _ h => by cases h
theorem ltO_none (k : ByteArray) : ltO k none := fun _ h => by cases h
theorem leO_self (k : ByteArray) : leO (some k) k := fun a h => by cases h; exact blt_irrefl _

/-- A page that is taken and holds so many bytes. -/
def PgIs (ps : List Pg) (n : Nat) (l : List UInt8) : Prop := ∃ pg, ps[n]? = some pg ∧ pg.taken = true ∧ pg.data = l

theorem PgIs.has {ps : List Pg} {n : Nat} {l : List UInt8} (h : PgIs ps n l) : hasP ps n = true := by
  obtain ⟨pg, h1, h2, h3⟩ := h
  unfold hasP
  rw [h1]; exact h2
theorem PgIs.lt {ps : List Pg} {n : Nat} {l : List UInt8} (h : PgIs ps n l) : n < ps.length := by
  obtain ⟨pg, h1, h2, h3⟩ := h
  exact (List.getElem?_eq_some_iff.1 h1).1
theorem PgIs.uniq {ps : List Pg} {n : Nat} {l l' : List UInt8} (h : PgIs ps n l) (h' : PgIs ps n l') : l = l' := by
  obtain ⟨pg, h1, h2, h3⟩ := h
  obtain ⟨pg', h1', h2', h3'⟩ := h'
  rw [h1] at h1'; cases h1'
  rw [← h3, ← h3']
theorem has_pgIs {ps : List Pg} {n : Nat} (h : hasP ps n = true) : ∃ l, PgIs ps n l := by
  obtain ⟨x, h1, h2, h3⟩ := hasP_some h
  exact ⟨_, x, h1, h2, rfl⟩

/-- A long value's pages. -/
inductive Chain (ps : List Pg) : Nat → List UInt8 → List Nat → Prop
  | last {f nx : Nat} {c : List UInt8} (h : PgIs ps f (enc nx ++ c)) (hc : c ≠ []) (hn : nx ≤ 16384) : Chain ps f c [f]
  | more {f g : Nat} {c b : List UInt8} {pgs : List Nat} (h : PgIs ps f (enc (g + 1) ++ c)) (hc : c ≠ []) (hg : g < 16384) (hr : Chain ps g b pgs) : Chain ps f (c ++ b) (f :: pgs)

/-- What a node's value stands for, and its pages. -/
def VlOf (ps : List Pg) : Vl → List UInt8 → List Nat → Prop
  | .inl l, b, S => b = l ∧ S = []
  | .far s f, b, S => s = b.length ∧ b ≠ [] ∧ Chain ps f b S

def Vals (ps : List Pg) : List Vl → List (List UInt8) → List Nat → Prop
  | [], bs, S => bs = [] ∧ S = []
  | v :: vs, bs, S => ∃ b bs' S1 S2, bs = b :: bs' ∧ S = S1 ++ S2 ∧ VlOf ps v b S1 ∧ Vals ps vs bs' S2

/-- Bytes of a value that stand in the node. -/
def Vl.inlen : Vl → Nat
  | .inl b => b.length
  | .far _ _ => 0

/-- Is it known that all keys and all values are short? -/
class Mode where
  short : Bool

/-- Keys of at most 4 bytes, and values in the node of at most 60. -/
def Nd.Tiny (x : Nd) : Prop := (∀ k ∈ x.keys, k.size ≤ 4) ∧ ∀ v ∈ x.vals, ∃ l, v = .inl l ∧ l.length ≤ 60

/-- A node as it may be laid: a key and its value in the node have at most 200 bytes. -/
structure Nd.Good [Mode] (x : Nd) : Prop where
  ok : x.Ok
  room : ∀ (i : Nat) k v, x.keys[i]? = some k → x.vals[i]? = some v → k.size + v.inlen ≤ 200
  tiny : Mode.short = true → x.Tiny
  fill : Mode.short = true → x.leaf = false → 1 ≤ x.keys.length

/-- What may be put: key and value have room in a node, and are short where all are. -/
def Fit [Mode] (key : ByteArray) (v : Vl) : Prop := key.size + v.inlen ≤ 200 ∧ (Mode.short = true → key.size ≤ 4 ∧ ∃ l, v = .inl l ∧ l.length ≤ 60)

structure LeafIs [Mode] (ps : List Pg) (x : Nd) (l r : Option ByteArray) (C : KV) (S : List Nat) : Prop where
  leaf : x.leaf = true
  keys : x.keys = C.map (·.1)
  vals : Vals ps x.vals (C.map (·.2)) S
  rises : Rises x.keys
  lo : ∀ k ∈ x.keys, leO l k
  hi : ∀ k ∈ x.keys, ltO k r
  two : Mode.short = true → 2 ≤ x.keys.length ∨ (l = none ∧ r = none)

abbrev SubP := Nat → Option ByteArray → Option ByteArray → KV → List Nat → Prop

/-- Kids with the keys between them. -/
def Kids (P : SubP) : Option ByteArray → List ByteArray → Option ByteArray → List Nat → KV → List Nat → Prop
  | lo, [], hi, ns, C, S => ∃ n, ns = [n] ∧ P n lo hi C S
  | lo, k :: ks, hi, ns, C, S => ∃ n ns' C1 C2 S1 S2, ns = n :: ns' ∧ C = C1 ++ C2 ∧ S = S1 ++ S2 ∧ sltO lo k ∧ ltO k hi ∧ P n lo (some k) C1 S1 ∧ Kids P (some k) ks hi ns' C2 S2

/-- What stands below a page of that height. -/
def Sub [Mode] (ps : List Pg) : Nat → SubP
  | 0 => fun n lo hi C S => ∃ (x : Nd) (T : List Nat), S = n :: T ∧ PgIs ps n x.bytes ∧ x.bytes.length ≤ 512 ∧ x.Good ∧ LeafIs ps x lo hi C T
  | h + 1 => fun n lo hi C S => ∃ (x : Nd) (T : List Nat), S = n :: T ∧ PgIs ps n x.bytes ∧ x.bytes.length ≤ 512 ∧ x.Good ∧ x.leaf = false ∧ Kids (Sub ps h) lo x.keys hi x.kids C T

/-! ### pages that change -/

/-- From ps to ps': the pages S are given up, S' are taken for them; no other page changes. -/
structure Stp (ps : List Pg) (S : List Nat) (ps' : List Pg) (S' : List Nat) : Prop where
  keep : ∀ n l, PgIs ps n l → n ∉ S → PgIs ps' n l
  tak : ∀ n, hasP ps' n = true ↔ (hasP ps n = true ∧ n ∉ S) ∨ n ∈ S'
  new : ∀ n ∈ S', n ∈ S ∨ hasP ps n = false
  nd : S'.Nodup

theorem Stp.refl {ps : List Pg} {S : List Nat} (hS : ∀ n ∈ S, hasP ps n = true) (hd : S.Nodup) : Stp ps S ps S :=
  ⟨fun n l h _ => h, fun n => ⟨fun h => by by_cases hn : n ∈ S; exact .inr hn; exact .inl ⟨h, hn⟩, fun h => h.elim (fun h => h.1) (hS n)⟩, fun n h => .inl h, hd⟩

theorem Stp.trans {ps ps1 ps2 : List Pg} {S S1 S2 : List Nat} (h : Stp ps S ps1 S1) (k : Stp ps1 S1 ps2 S2) : Stp ps S ps2 S2 := by
  have hout : ∀ n l, PgIs ps n l → n ∉ S → n ∉ S1 := fun n l hp hn h1 => by
    rcases h.new n h1 with h2 | h2
    · exact hn h2
    · rw [hp.has] at h2; cases h2
  refine ⟨fun n l hp hn => k.keep n l (h.keep n l hp hn) (hout n l hp hn), fun n => ?_, fun n hn => ?_, k.nd⟩
  · rw [k.tak, h.tak]
    constructor
    · rintro (⟨h1 | h1, h2⟩ | h1)
      · exact .inl h1
      · exact absurd h1 h2
      · exact .inr h1
    · rintro (⟨h1, h2⟩ | h1)
      · obtain ⟨l, hl⟩ := has_pgIs h1
        exact .inl ⟨.inl ⟨h1, h2⟩, hout n l hl h2⟩
      · exact .inr h1
  · rcases k.new n hn with h1 | h1
    · exact h.new n h1
    · by_cases hS : n ∈ S
      · exact .inl hS
      · right
        cases hp : hasP ps n
        · rfl
        · have := (h.tak n).2 (.inl ⟨hp, hS⟩)
          rw [this] at h1; cases h1

/-- Other pages beside. -/
theorem Stp.frame {ps ps' : List Pg} {S S' : List Nat} (h : Stp ps S ps' S') {A B : List Nat} (hA : ∀ n ∈ A ++ B, hasP ps n = true) (hd : (A ++ S ++ B).Nodup) : Stp ps (A ++ S ++ B) ps' (A ++ S' ++ B) := by
  have hAS : ∀ n ∈ A ++ B, n ∉ S := by
    intro n hn hs
    simp only [List.nodup_append, List.mem_append] at hd hn
    obtain ⟨⟨h1, h2, h3⟩, h4, h5⟩ := hd
    rcases hn with hn | hn
    · exact h3 n hn n hs rfl
    · exact h5 n (.inr hs) n hn rfl
  have hAS' : ∀ n ∈ A ++ B, n ∉ S' := by
    intro n hn hs
    rcases h.new n hs with h1 | h1
    · exact hAS n hn h1
    · rw [hA n hn] at h1; cases h1
  refine ⟨fun n l hp hn => h.keep n l hp (fun hs => hn (by simp [hs])), fun n => ?_, fun n hn => ?_, ?_⟩
  · rw [h.tak]
    simp only [List.mem_append, not_or]
    constructor
    · rintro (⟨h1, h2⟩ | h1)
      · by_cases ha : n ∈ A
        · exact .inr (.inl (.inl ha))
        · by_cases hb : n ∈ B
          · exact .inr (.inr hb)
          · exact .inl ⟨h1, ⟨ha, h2⟩, hb⟩
      · exact .inr (.inl (.inr h1))
    · rintro (⟨h1, ⟨h2, h3⟩, h4⟩ | ((h1 | h1) | h1))
      · exact .inl ⟨h1, h3⟩
      · exact .inl ⟨hA n (by simp [h1]), hAS n (by simp [h1])⟩
      · exact .inr h1
      · exact .inl ⟨hA n (by simp [h1]), hAS n (by simp [h1])⟩
  · simp only [List.mem_append] at hn ⊢
    rcases hn with (hn | hn) | hn
    · exact .inl (.inl (.inl hn))
    · rcases h.new n hn with h1 | h1
      · exact .inl (.inl (.inr h1))
      · exact .inr h1
    · exact .inl (.inr hn)
  · simp only [List.nodup_append, List.mem_append] at hd ⊢
    obtain ⟨⟨h1, h2, h3⟩, h4, h5⟩ := hd
    refine ⟨⟨h1, h.nd, fun a ha b hb e => ?_⟩, h4, fun a ha b hb e => ?_⟩
    · subst e; exact hAS' a (by simp [ha]) hb
    · subst e
      rcases ha with ha | ha
      · exact h5 a (.inl ha) a hb rfl
      · exact hAS' a (by simp [hb]) ha

theorem Chain.pages {ps : List Pg} {f : Nat} {b : List UInt8} {S : List Nat} (h : Chain ps f b S) : ∀ n ∈ S, hasP ps n = true := by
  induction h with
  | last h hc hn => intro n hm; simp at hm; subst hm; exact h.has
  | more h hc hg hr ih => intro n hm; simp at hm; rcases hm with rfl | hm; exact h.has; exact ih n hm
theorem Chain.move {ps ps' : List Pg} {f : Nat} {b : List UInt8} {S : List Nat} (h : Chain ps f b S) (hk : ∀ n ∈ S, ∀ l, PgIs ps n l → PgIs ps' n l) : Chain ps' f b S := by
  induction h with
  | last h hc hn => exact .last (hk _ (by simp) _ h) hc hn
  | more h hc hg hr ih => exact .more (hk _ (by simp) _ h) hc hg (ih fun n hn => hk n (by simp [hn]))
theorem VlOf.pages {ps : List Pg} {v : Vl} {b : List UInt8} {S : List Nat} (h : VlOf ps v b S) : ∀ n ∈ S, hasP ps n = true := by
  cases v with
  | inl l => obtain ⟨_, rfl⟩ := h; simp
  | far s f => exact h.2.2.pages
theorem VlOf.move {ps ps' : List Pg} {v : Vl} {b : List UInt8} {S : List Nat} (h : VlOf ps v b S) (hk : ∀ n ∈ S, ∀ l, PgIs ps n l → PgIs ps' n l) : VlOf ps' v b S := by
  cases v with
  | inl l => exact h
  | far s f => exact ⟨h.1, h.2.1, h.2.2.move hk⟩
theorem Vals.pages {ps : List Pg} {vs : List Vl} : ∀ {bs : List (List UInt8)} {S : List Nat}, Vals ps vs bs S → ∀ n ∈ S, hasP ps n = true := by
  induction vs with
  | nil => rintro bs S ⟨_, rfl⟩; simp
  | cons v vs ih =>
    rintro bs S ⟨b, bs', S1, S2, rfl, rfl, h1, h2⟩ n hn
    rcases List.mem_append.1 hn with hn | hn
    · exact h1.pages n hn
    · exact ih h2 n hn
theorem Vals.move {ps ps' : List Pg} {vs : List Vl} : ∀ {bs : List (List UInt8)} {S : List Nat}, Vals ps vs bs S → (∀ n ∈ S, ∀ l, PgIs ps n l → PgIs ps' n l) → Vals ps' vs bs S := by
  induction vs with
  | nil => exact fun h _ => h
  | cons v vs ih =>
    rintro bs S ⟨b, bs', S1, S2, rfl, rfl, h1, h2⟩ hk
    exact ⟨b, bs', S1, S2, rfl, rfl, h1.move fun n hn => hk n (by simp [hn]), ih h2 fun n hn => hk n (by simp [hn])⟩
theorem Vals.len {ps : List Pg} {vs : List Vl} : ∀ {bs : List (List UInt8)} {S : List Nat}, Vals ps vs bs S → vs.length = bs.length := by
  induction vs with
  | nil => rintro bs S ⟨rfl, _⟩; rfl
  | cons v vs ih =>
    rintro bs S ⟨b, bs', S1, S2, rfl, rfl, h1, h2⟩
    simp [ih h2]
theorem Vals.append {ps : List Pg} {vs : List Vl} : ∀ {bs : List (List UInt8)} {S : List Nat} {vs' bs' S'}, Vals ps vs bs S → Vals ps vs' bs' S' → Vals ps (vs ++ vs') (bs ++ bs') (S ++ S') := by
  induction vs with
  | nil => rintro bs S vs' bs' S' ⟨rfl, rfl⟩ h; simpa using h
  | cons v vs ih =>
    rintro bs S vs' bs' S' ⟨b, bs1, S1, S2, rfl, rfl, h1, h2⟩ h
    exact ⟨b, bs1 ++ bs', S1, S2 ++ S', by simp, by simp, h1, ih h2 h⟩
theorem Vals.cut {ps : List Pg} {vs : List Vl} : ∀ {bs : List (List UInt8)} {S : List Nat}, Vals ps vs bs S → ∀ i, ∃ S1 S2, S = S1 ++ S2 ∧ Vals ps (vs.take i) (bs.take i) S1 ∧ Vals ps (vs.drop i) (bs.drop i) S2 := by
  induction vs with
  | nil => rintro bs S ⟨rfl, rfl⟩ i; exact ⟨[], [], rfl, by simp [Vals], by simp [Vals]⟩
  | cons v vs ih =>
    rintro bs S ⟨b, bs1, S1, S2, rfl, rfl, h1, h2⟩ i
    cases i with
    | zero => exact ⟨[], S1 ++ S2, rfl, by simp [Vals], b, bs1, S1, S2, rfl, rfl, h1, h2⟩
    | succ i =>
      obtain ⟨T1, T2, rfl, h3, h4⟩ := ih h2 i
      exact ⟨S1 ++ T1, T2, by simp, ⟨b, _, S1, T1, rfl, rfl, h1, h3⟩, h4⟩

theorem LeafIs.pages [Mode] {ps : List Pg} {x : Nd} {lo hi C S} (h : LeafIs ps x lo hi C S) : ∀ n ∈ S, hasP ps n = true := h.vals.pages
theorem LeafIs.move [Mode] {ps ps' : List Pg} {x : Nd} {lo hi C S} (h : LeafIs ps x lo hi C S) (hk : ∀ n ∈ S, ∀ l, PgIs ps n l → PgIs ps' n l) : LeafIs ps' x lo hi C S :=
  ⟨h.leaf, h.keys, h.vals.move hk, h.rises, h.lo, h.hi, h.two⟩

theorem Kids.mono {P Q : SubP} {ks : List ByteArray} : ∀ {lo hi ns C S}, Kids P lo ks hi ns C S → (∀ n lo hi C T, (∀ m ∈ T, m ∈ S) → P n lo hi C T → Q n lo hi C T) → Kids Q lo ks hi ns C S := by
  induction ks with
  | nil => rintro lo hi ns C S ⟨n, rfl, h⟩ hk; exact ⟨n, rfl, hk _ _ _ _ _ (fun m h => h) h⟩
  | cons k ks ih =>
    rintro lo hi ns C S ⟨n, ns', C1, C2, S1, S2, rfl, rfl, rfl, h1, h2, h3, h4⟩ hk
    exact ⟨n, ns', C1, C2, S1, S2, rfl, rfl, rfl, h1, h2, hk _ _ _ _ _ (fun m h => by simp [h]) h3, ih h4 fun n lo hi C T hT hp => hk n lo hi C T (fun m h => by simp [hT m h]) hp⟩
theorem Kids.pages {P : SubP} {q : Nat → Prop} (hP : ∀ n lo hi C T, P n lo hi C T → ∀ m ∈ T, q m) {ks : List ByteArray} : ∀ {lo hi ns C S}, Kids P lo ks hi ns C S → ∀ m ∈ S, q m := by
  induction ks with
  | nil => rintro lo hi ns C S ⟨n, rfl, h⟩; exact hP _ _ _ _ _ h
  | cons k ks ih =>
    rintro lo hi ns C S ⟨n, ns', C1, C2, S1, S2, rfl, rfl, rfl, h1, h2, h3, h4⟩ m hm
    rcases List.mem_append.1 hm with hm | hm
    · exact hP _ _ _ _ _ h3 m hm
    · exact ih h4 m hm

theorem Sub.pages [Mode] {ps : List Pg} : ∀ (h : Nat) {n lo hi C S}, Sub ps h n lo hi C S → ∀ m ∈ S, hasP ps m = true
  | 0, n, lo, hi, C, S, ⟨x, T, e, h1, h2, h3, h4⟩, m, hm => by
    subst e
    rcases List.mem_cons.1 hm with rfl | hm
    · exact h1.has
    · exact h4.pages m hm
  | h + 1, n, lo, hi, C, S, ⟨x, T, e, h1, h2, h3, h4, h5⟩, m, hm => by
    subst e
    rcases List.mem_cons.1 hm with rfl | hm
    · exact h1.has
    · exact Kids.pages (q := fun m => hasP ps m = true) (fun n lo hi C T hp => Sub.pages h hp) h5 m hm
theorem Sub.move [Mode] {ps ps' : List Pg} : ∀ (h : Nat) {n lo hi C S}, Sub ps h n lo hi C S → (∀ m ∈ S, ∀ l, PgIs ps m l → PgIs ps' m l) → Sub ps' h n lo hi C S
  | 0, n, lo, hi, C, S, ⟨x, T, e, h1, h2, h3, h4⟩, hk => by
    subst e
    exact ⟨x, T, rfl, hk _ (by simp) _ h1, h2, h3, h4.move fun m hm => hk m (by simp [hm])⟩
  | h + 1, n, lo, hi, C, S, ⟨x, T, e, h1, h2, h3, h4, h5⟩, hk => by
    subst e
    exact ⟨x, T, rfl, hk _ (by simp) _ h1, h2, h3, h4, h5.mono fun n lo hi C U hU hp => Sub.move h hp fun m hm => hk m (by simp [hU m hm])⟩
theorem Sub.head [Mode] {ps : List Pg} {h n lo hi C S} (hs : Sub ps h n lo hi C S) : ∃ T, S = n :: T := by
  cases h with
  | zero => obtain ⟨x, T, e, _⟩ := hs; exact ⟨T, e⟩
  | succ h => obtain ⟨x, T, e, _⟩ := hs; exact ⟨T, e⟩

/-- All keys lie between the bounds. -/
theorem LeafIs.between [Mode] {ps : List Pg} {x : Nd} {lo hi C S} (h : LeafIs ps x lo hi C S) : ∀ p ∈ C, leO lo p.1 ∧ ltO p.1 hi := fun p hp => by
  have : p.1 ∈ x.keys := by rw [h.keys]; exact List.mem_map.2 ⟨p, hp, rfl⟩
  exact ⟨h.lo _ this, h.hi _ this⟩

/-- Keys that lie between bounds and rise. -/
structure Span (lo hi : Option ByteArray) (C : KV) : Prop where
  rises : Rises (C.map (·.1))
  lo : ∀ p ∈ C, leO lo p.1
  hi : ∀ p ∈ C, ltO p.1 hi

theorem Span.join {lo hi : Option ByteArray} {k : ByteArray} {C D : KV} (h1 : Span lo (some k) C) (h2 : Span (some k) hi D) (hlo : leO lo k) (hhi : ltO k hi) : Span lo hi (C ++ D) := by
  refine ⟨?_, fun p hp => ?_, fun p hp => ?_⟩
  · unfold Rises
    rw [List.map_append, List.pairwise_append]
    refine ⟨h1.rises, h2.rises, fun a ha b hb => ?_⟩
    obtain ⟨p, hp, rfl⟩ := List.mem_map.1 ha
    obtain ⟨q, hq, rfl⟩ := List.mem_map.1 hb
    exact blt_of_lt_le (h1.hi p hp k rfl) (h2.lo q hq k rfl)
  · rcases List.mem_append.1 hp with hp | hp
    · exact h1.lo p hp
    · exact hlo.trans (h2.lo p hp k rfl)
  · rcases List.mem_append.1 hp with hp | hp
    · exact hhi.trans (h1.hi p hp k rfl)
    · exact h2.hi p hp

theorem Kids.span {P : SubP} (hP : ∀ n lo hi C T, P n lo hi C T → Span lo hi C) {ks : List ByteArray} : ∀ {lo hi ns C S}, Kids P lo ks hi ns C S → Span lo hi C := by
  induction ks with
  | nil => rintro lo hi ns C S ⟨n, rfl, h⟩; exact hP _ _ _ _ _ h
  | cons k ks ih =>
    rintro lo hi ns C S ⟨n, ns', C1, C2, S1, S2, rfl, rfl, rfl, h1, h2, h3, h4⟩
    exact (hP _ _ _ _ _ h3).join (ih h4) h1.le h2

theorem Sub.span [Mode] {ps : List Pg} : ∀ (h : Nat) {n lo hi C S}, Sub ps h n lo hi C S → Span lo hi C
  | 0, n, lo, hi, C, S, ⟨x, T, e, h1, h2, h3, h4⟩ => ⟨by rw [← h4.keys]; exact h4.rises, fun p hp => (h4.between p hp).1, fun p hp => (h4.between p hp).2⟩
  | h + 1, n, lo, hi, C, S, ⟨x, T, e, h1, h2, h3, h4, h5⟩ => h5.span fun n lo hi C T hp => Sub.span h hp

theorem Kids.len {P : SubP} {ks : List ByteArray} : ∀ {lo hi ns C S}, Kids P lo ks hi ns C S → ns.length = ks.length + 1 := by
  induction ks with
  | nil => rintro lo hi ns C S ⟨n, rfl, h⟩; rfl
  | cons k ks ih =>
    rintro lo hi ns C S ⟨n, ns', C1, C2, S1, S2, rfl, rfl, rfl, h1, h2, h3, h4⟩
    simp [ih h4]

/-- The separators rise, and lie strictly above the lower bound. -/
theorem Kids.keys {P : SubP} {ks : List ByteArray} : ∀ {lo hi ns C S}, Kids P lo ks hi ns C S → Rises ks ∧ (∀ k ∈ ks, sltO lo k) ∧ ∀ k ∈ ks, ltO k hi := by
  induction ks with
  | nil => rintro lo hi ns C S _; exact ⟨by simp [Rises], by simp, by simp⟩
  | cons k ks ih =>
    rintro lo hi ns C S ⟨n, ns', C1, C2, S1, S2, rfl, rfl, rfl, h1, h2, h3, h4⟩
    obtain ⟨g1, g2, g3⟩ := ih h4
    refine ⟨List.pairwise_cons.2 ⟨fun a ha => g2 a ha k rfl, g1⟩, fun a ha => ?_, fun a ha => ?_⟩
    · rcases List.mem_cons.1 ha with rfl | ha
      · exact h1
      · exact h1.trans (blt_asymm (g2 a ha k rfl))
    · rcases List.mem_cons.1 ha with rfl | ha
      · exact h2
      · exact g3 a ha

/-- Which kid has a key: as many keys are not above it. -/
def kidIdx (ks : List ByteArray) (key : ByteArray) : Nat := ks.countP fun a => !blt key a
theorem kidIdx_le (ks : List ByteArray) (key : ByteArray) : kidIdx ks key ≤ ks.length := List.countP_le_length

theorem kidIdx_eq {ks : List ByteArray} {key : ByteArray} (h : Rises ks) : kidIdx ks key = below ks key + (if hasKey ks key then 1 else 0) := by
  induction ks with
  | nil => rfl
  | cons k ks ih =>
    have hr := List.pairwise_cons.1 h
    have hih := ih hr.2
    by_cases h1 : blt k key = true
    · have e1 : kidIdx (k :: ks) key = kidIdx ks key + 1 := by unfold kidIdx; rw [List.countP_cons_of_pos]; simpa using blt_asymm h1
      have e2 : below (k :: ks) key = below ks key + 1 := by unfold below; rw [List.countP_cons_of_pos]; exact h1
      have e3 : hasKey (k :: ks) key = hasKey ks key := by unfold hasKey; rw [e2]; simp
      rw [e1, e2, e3, hih]; omega
    · have h1' : blt k key = false := by simpa using h1
      have e2 : below (k :: ks) key = 0 := by
        unfold below
        rw [List.countP_eq_zero]
        intro a ha
        rcases List.mem_cons.1 ha with rfl | ha
        · simpa using h1'
        · have := blt_of_le_lt h1' (hr.1 a ha)
          simp [blt_asymm this]
      have e3 : hasKey (k :: ks) key = decide (k = key) := by unfold hasKey; rw [e2]; simp
      rw [e2, e3]
      by_cases hk : k = key
      · subst hk
        have e4 : kidIdx ks k = 0 := by
          unfold kidIdx
          rw [List.countP_eq_zero]
          intro a ha
          simp [hr.1 a ha]
        unfold kidIdx at e4 ⊢
        rw [List.countP_cons_of_pos (by simp [blt_irrefl]), e4]; simp
      · have h3 := blt_of_not h1' hk
        have e4 : kidIdx (k :: ks) key = 0 := by
          unfold kidIdx
          rw [List.countP_eq_zero]
          intro a ha
          rcases List.mem_cons.1 ha with rfl | ha
          · simp [h3]
          · simp [blt_trans h3 (hr.1 a ha)]
        rw [e4]; simp [hk]

theorem ins0 {α : Type} (l : List α) (x : α) : ins l 0 [x] = x :: l := by simp [ins]
theorem ins_succ {α : Type} (a : α) (l : List α) (i : Nat) (x : α) : ins (a :: l) (i + 1) [x] = a :: ins l i [x] := by simp [ins]

/-- A kid is looked at, and one or two stand in its place. -/
theorem Kids.open {P : SubP} (hP : ∀ n lo hi C T, P n lo hi C T → Span lo hi C) {ks : List ByteArray} : ∀ {lo hi ns C S}, Kids P lo ks hi ns C S → ∀ {key : ByteArray}, leO lo key → ltO key hi →
    ∃ n l r Ca Ci Cb Sa Si Sb, ns[kidIdx ks key]? = some n ∧ C = Ca ++ Ci ++ Cb ∧ S = Sa ++ Si ++ Sb ∧ leO l key ∧ ltO key r ∧ P n l r Ci Si ∧
      (∀ p ∈ Ca, blt p.1 key = true) ∧ (∀ p ∈ Cb, blt key p.1 = true) ∧
      ∀ Q : SubP, (∀ n lo hi C T, (∀ m ∈ T, m ∈ Sa ++ Sb) → P n lo hi C T → Q n lo hi C T) →
        (∀ n' Ci' Si', Q n' l r Ci' Si' → Kids Q lo ks hi (ns.set (kidIdx ks key) n') (Ca ++ Ci' ++ Cb) (Sa ++ Si' ++ Sb)) ∧
        (∀ n1 k n2 C1 C2 S1 S2, sltO l k → ltO k r → Q n1 l (some k) C1 S1 → Q n2 (some k) r C2 S2 → Kids Q lo (ins ks (kidIdx ks key) [k]) hi (ins (ns.set (kidIdx ks key) n1) (kidIdx ks key + 1) [n2]) (Ca ++ (C1 ++ C2) ++ Cb) (Sa ++ (S1 ++ S2) ++ Sb)) := by
  induction ks with
  | nil =>
    rintro lo hi ns C S ⟨n, rfl, h⟩ key hlo hhi
    refine ⟨n, lo, hi, [], C, [], [], S, [], rfl, by simp, by simp, hlo, hhi, h, by simp, by simp, fun Q hQ => ⟨fun n' Ci' Si' hq => ?_, fun n1 k n2 C1 C2 S1 S2 h1 h2 h3 h4 => ?_⟩⟩
    · exact ⟨n', rfl, by simpa using hq⟩
    · have e1 : kidIdx [] key = 0 := rfl
      rw [e1, ins0]
      exact ⟨n1, [n2], C1, C2, S1, S2, rfl, by simp, by simp, h1, h2, h3, n2, rfl, h4⟩
  | cons k0 ks ih =>
    rintro lo hi ns C S ⟨n, ns', C1, C2, S1, S2, rfl, rfl, rfl, h1, h2, h3, h4⟩ key hlo hhi
    have hsp := h4.span hP
    have hsp1 := hP _ _ _ _ _ h3
    by_cases hk : blt key k0 = true
    · have e1 : kidIdx (k0 :: ks) key = 0 := by
        unfold kidIdx
        rw [List.countP_eq_zero]
        intro a ha
        rcases List.mem_cons.1 ha with rfl | ha
        · simp [hk]
        · have := (h4.keys).2.1 a ha k0 rfl
          simp [blt_trans hk this]
      rw [e1]
      refine ⟨n, lo, some k0, [], C1, C2, [], S1, S2, rfl, by simp, by simp, hlo, (fun b hb => by cases hb; exact hk), h3, by simp, fun p hp => blt_of_lt_le hk (hsp.lo p hp k0 rfl), fun Q hQ => ⟨fun n' Ci' Si' hq => ?_, fun n1 k n2 D1 D2 T1 T2 g1 g2 g3 g4 => ?_⟩⟩
      · exact ⟨n', ns', Ci', C2, Si', S2, rfl, by simp, by simp, h1, h2, hq, h4.mono fun n lo hi C T hT hp => hQ n lo hi C T (fun m hm => by simp [hT m hm]) hp⟩
      · rw [ins0]
        refine ⟨n1, n2 :: ns', D1, D2 ++ C2, T1, T2 ++ S2, by simp [ins], by simp, by simp, g1, h2.trans (g2 k0 rfl), g3, ?_⟩
        exact ⟨n2, ns', D2, C2, T2, S2, rfl, rfl, rfl, (fun a ha => by cases ha; exact g2 k0 rfl), h2, g4, h4.mono fun n lo hi C T hT hp => hQ n lo hi C T (fun m hm => by simp [hT m hm]) hp⟩
    · have hk' : blt key k0 = false := by simpa using hk
      have e1 : kidIdx (k0 :: ks) key = kidIdx ks key + 1 := by unfold kidIdx; rw [List.countP_cons_of_pos]; simpa using hk'
      rw [e1]
      obtain ⟨m, l, r, Ca, Ci, Cb, Sa, Si, Sb, f1, rfl, rfl, f4, f5, f6, f7, f8, f9⟩ := ih h4 (key := key) (fun a ha => by cases ha; exact hk') hhi
      refine ⟨m, l, r, C1 ++ Ca, Ci, Cb, S1 ++ Sa, Si, Sb, f1, by simp, by simp, f4, f5, f6, ?_, f8, fun Q hQ => ?_⟩
      · intro p hp
        rcases List.mem_append.1 hp with hp | hp
        · exact blt_of_lt_le (hsp1.hi p hp k0 rfl) hk'
        · exact f7 p hp
      · obtain ⟨g1, g2⟩ := f9 Q (fun n lo hi C T hT hp => hQ n lo hi C T (fun m hm => by have := hT m hm; simp only [List.mem_append] at this ⊢; rcases this with h | h; exact .inl (.inr h); exact .inr h) hp)
        have h3' := hQ _ _ _ _ _ (fun m hm => by simp [hm]) h3
        refine ⟨fun n' Ci' Si' hq => ?_, fun n1 k n2 D1 D2 T1 T2 q1 q2 q3 q4 => ?_⟩
        · exact ⟨n, ns'.set (kidIdx ks key) n', C1, Ca ++ Ci' ++ Cb, S1, Sa ++ Si' ++ Sb, by simp, by simp, by simp, h1, h2, h3', g1 _ _ _ hq⟩
        · rw [ins_succ]
          refine ⟨n, ins (ns'.set (kidIdx ks key) n1) (kidIdx ks key + 1) [n2], C1, Ca ++ (D1 ++ D2) ++ Cb, S1, Sa ++ (T1 ++ T2) ++ Sb, ?_, by simp, by simp, h1, h2, h3', g2 _ _ _ _ _ _ _ q1 q2 q3 q4⟩
          rw [List.set_cons_succ, ins_succ]

theorem Kids.split {P : SubP} {ks : List ByteArray} : ∀ {lo hi ns C S}, Kids P lo ks hi ns C S → ∀ {i : Nat} {k : ByteArray}, ks[i]? = some k →
    ∃ C1 C2 S1 S2, C = C1 ++ C2 ∧ S = S1 ++ S2 ∧ sltO lo k ∧ ltO k hi ∧ Kids P lo (ks.take i) (some k) (ns.take (i + 1)) C1 S1 ∧ Kids P (some k) (ks.drop (i + 1)) hi (ns.drop (i + 1)) C2 S2 := by
  induction ks with
  | nil => intro lo hi ns C S _ i k hk; simp at hk
  | cons k0 ks ih =>
    intro lo hi ns C S h i k hk
    have hkeys := h.keys
    obtain ⟨n, ns', C1, C2, S1, S2, rfl, rfl, rfl, h1, h2, h3, h4⟩ := h
    cases i with
    | zero =>
      simp only [List.getElem?_cons_zero, Option.some.injEq] at hk
      subst hk
      exact ⟨C1, C2, S1, S2, rfl, rfl, h1, h2, ⟨n, rfl, h3⟩, h4⟩
    | succ i =>
      simp only [List.getElem?_cons_succ] at hk
      obtain ⟨D1, D2, T1, T2, rfl, rfl, g1, g2, g3, g4⟩ := ih h4 hk
      have hk0 : blt k0 k = true := g1 k0 rfl
      refine ⟨C1 ++ D1, D2, S1 ++ T1, T2, by simp, by simp, hkeys.2.1 k (by simp [List.mem_of_getElem? hk]), g2, ?_, g4⟩
      exact ⟨n, ns'.take (i + 1), C1, D1, S1, T1, rfl, rfl, rfl, h1, (fun b hb => by cases hb; exact hk0), h3, g3⟩

theorem Kids.join {P : SubP} {k1 : List ByteArray} : ∀ {lo k hi n1 k2 n2 C1 C2 S1 S2}, Kids P lo k1 (some k) n1 C1 S1 → Kids P (some k) k2 hi n2 C2 S2 → sltO lo k → ltO k hi →
    Kids P lo (k1 ++ k :: k2) hi (n1 ++ n2) (C1 ++ C2) (S1 ++ S2) := by
  induction k1 with
  | nil =>
    rintro lo k hi n1 k2 n2 C1 C2 S1 S2 ⟨n, rfl, h⟩ h2 h3 h4
    exact ⟨n, n2, C1, C2, S1, S2, rfl, rfl, rfl, h3, h4, h, h2⟩
  | cons k0 k1 ih =>
    rintro lo k hi n1 k2 n2 C1 C2 S1 S2 ⟨n, ns', D1, D2, T1, T2, rfl, rfl, rfl, g1, g2, g3, g4⟩ h2 h3 h4
    exact ⟨n, ns' ++ n2, D1, D2 ++ C2, T1, T2 ++ S2, by simp, by simp, by simp, g1, h4.trans (g2 k rfl), g3, ih g4 h2 (fun a ha => by cases ha; exact g2 k rfl) h4⟩
end Go.Proofs.YtpfjhehjmhkbpaaGreatDoor
