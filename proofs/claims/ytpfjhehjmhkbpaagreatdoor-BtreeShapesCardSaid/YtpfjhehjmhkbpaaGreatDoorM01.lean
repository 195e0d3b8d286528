/- Words on memory for the walks over the pantry: what a call may change ('Mut'), rows of one-cell elements that are read ('Rd'), no program in sight. 'append' onto a row of the call's own, in the words of this family: the source may be nil or empty; what may change is told by kinds of blocks. Over any program. Rows at large: copy, append of zeros, an own row turned; over any program and any size of elements. -/
import Derived.WalkKit
import Derived.WalkSpells
import Derived.Lib.Hide
import Derived.Deep.Draws
import Derived.Laws.AppendOwnNone
import Derived.Maps.AppendAt
import Derived.Laws.CopyOwn
import Derived.Lib.AppendZerosOnto
import Derived.Laws.NewBlocks
import Derived.Lib.Overlaps
namespace Go.Proofs.YtpfjhehjmhkbpaaGreatDoor
open Go.RowKit

/-- The kind of a block: its elements' type; maps and all else have numbers of their own. -/
def oty : Obj → Nat
  | .cells _ e _ => e
  | .map _ _ => 900001
  | _ => 900000

/-- From w to w': blocks below B, and blocks of whatever kind is not in L, are as they were. -/
structure Mut (B : Nat) (L : List Nat) (w w' : World) : Prop where
  os : w'.os = w.os
  tape : w'.tape = w.tape
  output : w'.output = w.output
  size : w.heap.size ≤ w'.heap.size
  block : ∀ k o, w.heap[k]? = some o → (k < B ∨ oty o ∉ L) → w'.heap[k]? = some o

section
variable {B B' : Nat} {L L' : List Nat} {w w1 w' : World}

theorem blk_lt {w : World} {g : Nat} {o : Obj} (h : w.heap[g]? = some o) : g < w.heap.size := (Array.getElem?_eq_some_iff.1 h).1

theorem Mut.refl (B : Nat) (L : List Nat) (w : World) : Mut B L w w := ⟨rfl, rfl, rfl, Nat.le_refl _, fun _ _ h _ => h⟩

theorem Mut.trans (h : Mut B L w w1) (k : Mut B L w1 w') : Mut B L w w' :=
  ⟨k.os.trans h.os, k.tape.trans h.tape, k.output.trans h.output, Nat.le_trans h.size k.size, fun i o ho hc => k.block i o (h.block i o ho hc) hc⟩

theorem Mut.mono (h : Mut B L w w') (hB : B' ≤ B) (hL : ∀ e ∈ L, e ∈ L') : Mut B' L' w w' :=
  ⟨h.os, h.tape, h.output, h.size, fun i _ ho hc => h.block i _ ho (hc.imp (fun h => by omega) (fun hn hm => hn (hL _ hm)))⟩

theorem Mut.of_below (h : Below w.heap.size w w') (B : Nat) (L : List Nat) : Mut B L w w' :=
  ⟨h.os, h.tape, h.output, h.size, fun i _ ho _ => (h.block i (blk_lt ho)).trans ho⟩

theorem Mut.below (h : Mut B L w w') (hB : B ≤ w.heap.size) : Below B w w' :=
  ⟨h.os, h.tape, h.output, h.size, fun k hk => by
    have hlt : k < w.heap.size := by omega
    have := h.block k _ (Array.getElem?_eq_getElem hlt) (.inl hk)
    rw [this, Array.getElem?_eq_getElem hlt]⟩

/-- A block of a kind that may not change. -/
theorem Mut.keep (h : Mut B L w w') {k : Nat} {o : Obj} (ho : w.heap[k]? = some o) (hn : oty o ∉ L) : w'.heap[k]? = some o := h.block k o ho (.inr hn)
theorem Mut.keepc (h : Mut B L w w') {k e : Nat} {c : Array Value} {f : Nat × Nat} (ho : w.heap[k]? = some (.cells c e f)) (hn : e ∉ L) : w'.heap[k]? = some (.cells c e f) := h.block k _ ho (.inr hn)
theorem Mut.keepB (h : Mut B L w w') {k : Nat} {o : Obj} (ho : w.heap[k]? = some o) (hn : k < B) : w'.heap[k]? = some o := h.block k o ho (.inl hn)

theorem Mut.drew (h : Mut B L w w') : Mut B L w w'.drew := ⟨h.os, h.tape, h.output, h.size, h.block⟩
theorem Mut.drewN (h : Mut B L w w') (n : Nat) : Mut B L w (w'.drewN n) := ⟨h.os, h.tape, h.output, h.size, h.block⟩
theorem Mut.alloc (h : Mut B L w w') (o : Obj) : Mut B L w (w'.alloc o) := h.trans (.of_below ((Below.refl _ _).alloc (Nat.le_refl _) o) B L)
theorem Mut.then_below (h : Mut B L w w1) (k : Below w1.heap.size w1 w') : Mut B L w w' := h.trans (.of_below k B L)

theorem Mut.setCell (h : Mut B L w w') {p : Addr} {c : Array Value} {e : Nat} {f : Nat × Nat} (ho : w'.heap[p.block]? = some (.cells c e f)) (he : e ∈ L) (hB : B ≤ p.block) (u : Value) : Mut B L w (w'.setCell p u) :=
  h.trans ⟨rfl, rfl, rfl, by simp [World.setCell], fun k o hk hc => by
    by_cases hkp : k = p.block
    · subst hkp
      rw [ho] at hk
      cases hk
      rcases hc with hc | hc
      · omega
      · exact absurd he hc
    · rw [Below.heap_setCell _ _ _ _ hkp]; exact hk⟩

theorem Mut.grown (h : Mut B L w w1) {row : Option Nat} (hg : w1.grownBy w' row) (hr : ∀ k, row = some k → B ≤ k ∧ ∃ c e f, w1.heap[k]? = some (.cells c e f) ∧ e ∈ L) : Mut B L w w' :=
  h.trans ⟨hg.os, hg.tape, hg.output, hg.size, fun k o hk hc => by
    by_cases hkp : some k = row
    · obtain ⟨hB, c, e, f, h1, he⟩ := hr k hkp.symm
      rw [h1] at hk
      cases hk
      rcases hc with hc | hc
      · omega
      · exact absurd he hc
    · rw [hg.block k (blk_lt hk) hkp]; exact hk⟩

/-- What only makes memory, of a call that begins at w. -/
theorem Mut.fresh {L : List Nat} (h : Mut w.heap.size L w w') : Below w.heap.size w w' := h.below (Nat.le_refl _)

/-- A cell of a block that is known whole. -/
theorem cell_of {w : World} {g e : Nat} {c : Array Value} {f : Nat × Nat} (h : w.heap[g]? = some (.cells c e f)) (i : Nat) : w.cell? ⟨g, i, none⟩ = c[i]? := cell_of_row w g i c e f h
theorem unfrozen_of {w : World} {g e : Nat} {c : Array Value} (h : w.heap[g]? = some (.cells c e (0, 0))) (i : Nat) : w.frozen? ⟨g, i, none⟩ = false := by simp [World.frozen?, h]
theorem heap_set {w : World} {g e : Nat} {c : Array Value} {f : Nat × Nat} (h : w.heap[g]? = some (.cells c e f)) (i : Nat) (u : Value) : (w.setCell ⟨g, i, none⟩ u).heap[g]? = some (.cells (c.setIfInBounds i u) e f) := by
  simp [World.setCell, Array.getElem?_modify, h]
theorem heap_far {w : World} {g : Nat} {o : Obj} (h : w.heap[g]? = some o) {p : Addr} (hp : g ≠ p.block) (u : Value) : (w.setCell p u).heap[g]? = some o := (Below.heap_setCell w p u g hp).trans h
theorem heap_old {w : World} {g : Nat} {o : Obj} (h : w.heap[g]? = some o) (o' : Obj) : (w.alloc o').heap[g]? = some o := (Below.heap_alloc w o' g (blk_lt h)).trans h
theorem heap_new (w : World) (o : Obj) : (w.alloc o).heap[w.heap.size]? = some o := heap_alloc_new w o
theorem heap_below {w w' : World} {g : Nat} {o : Obj} {n : Nat} (h : w.heap[g]? = some o) (hb : Below n w w') (hn : g < n) : w'.heap[g]? = some o := (hb.block g hn).trans h
theorem ne_of_kind {w : World} {g g' : Nat} {o o' : Obj} (h : w.heap[g]? = some o) (h' : w.heap[g']? = some o') (hne : oty o ≠ oty o') : g ≠ g' := by
  rintro rfl
  rw [h] at h'
  cases h'
  exact hne rfl
end

theorem bel_drewN {B : Nat} {w W : World} (h : Below B w W) (n : Nat) : Below B w (W.drewN n) := ⟨h.os, h.tape, h.output, h.size, h.block⟩
theorem bel_undrewN {B : Nat} {w W : World} {n : Nat} (h : Below B (w.drewN n) W) : Below B w W := ⟨h.os, h.tape, h.output, h.size, h.block⟩
theorem mut_undrewN {B : Nat} {L : List Nat} {w W : World} {n : Nat} (h : Mut B L (w.drewN n) W) : Mut B L w W := ⟨h.os, h.tape, h.output, h.size, h.block⟩
theorem bel_then {B : Nat} {w w1 w2 : World} (h : Below B w w1) (hB : B ≤ w1.heap.size) (k : Below w1.heap.size w1 w2) : Below B w w2 := h.trans (k.mono hB)
theorem bel_alloc {w W : World} (h : Below w.heap.size w W) (o : Obj) : Below w.heap.size w (W.alloc o) := h.alloc h.size o
theorem heap_alloc (w : World) (o : Obj) (k : Nat) : (w.alloc o).heap[k]? = if k = w.heap.size then some o else w.heap[k]? := by
  show (w.heap.push o)[k]? = _
  rw [Array.getElem?_push]

/-! ### rows of one-cell elements that are read -/

/-- The address A leads to a row of kind e whose cells are the list's elements. -/
def Rd {α : Type} (e : Nat) (enc : α → Value) (w : World) (A : Option Addr) (l : List α) : Prop :=
  l = [] ∨ ∃ b off cells fr, A = some ⟨b, off, none⟩ ∧ w.heap[b]? = some (.cells cells e fr) ∧ ∀ i (h : i < l.length), cells[off + i]? = some (enc l[i])

section
variable {α : Type} {e : Nat} {enc : α → Value} {w w' : World} {A : Option Addr} {l : List α}

theorem Rd.nil (e : Nat) (enc : α → Value) (w : World) (A : Option Addr) : Rd e enc w A [] := .inl rfl

theorem Rd.cell (h : Rd e enc w A l) {i : Nat} (hi : i < l.length) : ∃ b off, A = some ⟨b, off, none⟩ ∧ w.cell? ⟨b, off + i, none⟩ = some (enc l[i]) ∧ b < w.heap.size := by
  rcases h with h | ⟨b, off, cells, fr, rfl, hb, hc⟩
  · subst h; simp at hi
  · exact ⟨b, off, rfl, by rw [cell_of hb]; exact hc i hi, blk_lt hb⟩

theorem Rd.addr (h : Rd e enc w A l) (hl : 0 < l.length) : ∃ b off, A = some ⟨b, off, none⟩ ∧ (∀ i (hi : i < l.length), w.cell? ⟨b, off + i, none⟩ = some (enc l[i])) ∧ b < w.heap.size := by
  rcases h with h | ⟨b, off, cells, fr, rfl, hb, hc⟩
  · subst h; simp at hl
  · exact ⟨b, off, rfl, fun i hi => by rw [cell_of hb]; exact hc i hi, blk_lt hb⟩

theorem Rd.addr? (h : Rd e enc w A l) (hl : 0 < l.length) : ∃ b off, A = some ⟨b, off, none⟩ ∧ (∀ (i : Nat) (x : α), l[i]? = some x → w.cell? ⟨b, off + i, none⟩ = some (enc x)) ∧ b < w.heap.size := by
  obtain ⟨b, off, h1, h2, h3⟩ := h.addr hl
  refine ⟨b, off, h1, fun i x hx => ?_, h3⟩
  obtain ⟨hi, rfl⟩ := List.getElem?_eq_some_iff.1 hx
  exact h2 i hi

theorem Rd.step (h : Rd e enc w A l) (hk : ∀ k c f, w.heap[k]? = some (.cells c e f) → (∃ ad, A = some ad ∧ ad.block = k) → w'.heap[k]? = some (.cells c e f)) : Rd e enc w' A l := by
  rcases h with h | ⟨b, off, cells, fr, rfl, hb, hc⟩
  · exact .inl h
  · exact .inr ⟨b, off, cells, fr, rfl, hk b cells fr hb ⟨_, rfl, rfl⟩, hc⟩

theorem Rd.mut {B : Nat} {L : List Nat} (h : Rd e enc w A l) (hm : Mut B L w w') (he : e ∉ L) : Rd e enc w' A l := h.step fun _ _ _ hb _ => hm.keepc hb he
theorem Rd.below (h : Rd e enc w A l) (hb : Below w.heap.size w w') : Rd e enc w' A l := h.step fun _ _ _ hk _ => (hb.block _ (blk_lt hk)).trans hk
theorem Rd.drewN (h : Rd e enc w A l) (n : Nat) : Rd e enc (w.drewN n) A l := h
theorem Rd.alloc (h : Rd e enc w A l) (o : Obj) : Rd e enc (w.alloc o) A l := h.below ((Below.refl _ _).alloc (Nat.le_refl _) o)
theorem Rd.setCell (h : Rd e enc w A l) {p : Addr} {c : Array Value} {e' : Nat} {f : Nat × Nat} (ho : w.heap[p.block]? = some (.cells c e' f)) (he : e' ≠ e) (u : Value) : Rd e enc (w.setCell p u) A l :=
  h.step fun _ _ _ hk _ => heap_far hk (ne_of_kind hk ho (fun h => he h.symm)) u

theorem Rd.drop (h : Rd e enc w A l) {k c : Nat} (_hk : k ≤ l.length) (hc : l.length ≤ c) : Rd e enc w (if c = k then A else A.map (·.add k)) (l.drop k) := by
  rcases h with h | ⟨b, off, cells, fr, rfl, hb, hcell⟩
  · subst h; left; simp
  · by_cases hck : c = k
    · left
      rw [List.drop_eq_nil_iff]
      omega
    · right
      refine ⟨b, off + k, cells, fr, ?_, hb, fun i hi => ?_⟩
      · simp only [if_neg hck, Option.map_some]
        unfold Addr.add
        split <;> simp_all
      · simp only [List.length_drop] at hi
        rw [Nat.add_assoc, hcell (k + i) (by omega)]
        simp

theorem Rd.take (h : Rd e enc w A l) (k : Nat) : Rd e enc w A (l.take k) := by
  rcases h with h | ⟨b, off, cells, fr, rfl, hb, hcell⟩
  · subst h; left; simp
  · right
    refine ⟨b, off, cells, fr, rfl, hb, fun i hi => ?_⟩
    simp only [List.length_take] at hi
    rw [hcell i (by omega)]
    simp

/-- What the call itself has built reads as its list. -/
theorem Rd.of_own {base n : Nat} {v : Value} (h : w.ownsRow base e 1 v n (l.map enc)) : ∃ A c, v = .slice A n c ∧ n ≤ c ∧ c ≤ maxLen ∧ (A = none → c = 0) ∧ l.length = n ∧ Rd e enc w A l := by
  obtain ⟨h1, h2⟩ := h
  have hl : l.length = n := by simpa using h1
  rcases h2 with ⟨rfl, rfl⟩ | ⟨g, cap, cur, rfl, _, hg, hnc, hcm, hcs, ht⟩
  · exact ⟨none, 0, rfl, Nat.le_refl _, by simp [maxLen], fun _ => rfl, hl, .inl (List.eq_nil_of_length_eq_zero hl)⟩
  · refine ⟨_, cap, rfl, hnc, hcm, (fun h => by cases h), hl, .inr ⟨g, 0, cur, (0, 0), rfl, hg, fun i hi => ?_⟩⟩
    have hi' : i < n * 1 := by omega
    have h3 : (cur.toList.take (n * 1))[i]? = (l.map enc)[i]? := by rw [ht]
    rw [List.getElem?_take, if_pos hi'] at h3
    simp only [Nat.zero_add, ← Array.getElem?_toList, h3]
    simp [hi]
end

/-! ### bytes, strings, numbers -/
/-- Two to the sixty-four, behind a name: the walk does not bear the numeral. -/
def M64 : Nat := 18446744073709551616
/-- Two to the sixty-three. -/
def M63 : Nat := 9223372036854775808
def u8 (b : UInt8) : Value := .int .u8 (b.toNat : Int)
def i64 (n : Int) : Value := .int .i64 n

/-- A []byte that reads as a list of bytes. -/
def Byt (w : World) (v : Value) (l : List UInt8) : Prop := ∃ A c, v = .slice A l.length c ∧ l.length ≤ c ∧ c ≤ maxLen ∧ (A = none → c = 0) ∧ Rd 5 u8 w A l

section
variable {w w' : World} {v : Value} {l : List UInt8}
theorem Byt.mut {B : Nat} {L : List Nat} (h : Byt w v l) (hm : Mut B L w w') (he : 5 ∉ L) : Byt w' v l := by
  obtain ⟨A, c, h1, h2, h3, h0, h4⟩ := h; exact ⟨A, c, h1, h2, h3, h0, h4.mut hm he⟩
theorem Byt.below (h : Byt w v l) (hb : Below w.heap.size w w') : Byt w' v l := by
  obtain ⟨A, c, h1, h2, h3, h0, h4⟩ := h; exact ⟨A, c, h1, h2, h3, h0, h4.below hb⟩
theorem Byt.nil (w : World) : Byt w (.slice none 0 0) [] := ⟨none, 0, rfl, Nat.le_refl _, by simp [maxLen], fun _ => rfl, .nil _ _ _ _⟩
theorem Byt.of_own {base n : Nat} (h : w.ownsRow base 5 1 v n (l.map u8)) : Byt w v l := by
  obtain ⟨A, c, h1, h2, h3, h0, h4, h5⟩ := Rd.of_own h
  subst h4
  exact ⟨A, c, h1, h2, h3, h0, h5⟩
end
end Go.Proofs.YtpfjhehjmhkbpaaGreatDoor

namespace Go.Proofs.YtpfjhehjmhkbpaaGreatDoor
open Go.RowKit

theorem mut_of_own {w w' : World} {base e sz n : Nat} {v : Value} {xs : List Value} (h : w.ownsRow base e sz v n xs) (hg : w.grownBy w' v.ownBlock) : Mut base [e] w w' :=
  (Mut.refl base [e] w).grown hg fun k hk => by
    obtain ⟨_, h2⟩ := h
    rcases h2 with ⟨rfl, _⟩ | ⟨g, cap, cur, rfl, hb, hgg, _⟩
    · simp [Value.ownBlock] at hk
    · simp only [Value.ownBlock, Option.some.injEq] at hk
      subst hk
      exact ⟨hb, cur, e, (0, 0), hgg, by simp⟩

/-- What is owned stays while blocks of other kinds change. -/
theorem own_mut {w w' : World} {base e sz n B : Nat} {L : List Nat} {v : Value} {xs : List Value} (h : w.ownsRow base e sz v n xs) (hm : Mut B L w w') (he : e ∉ L) : w'.ownsRow base e sz v n xs := by
  obtain ⟨h1, h2⟩ := h
  refine ⟨h1, ?_⟩
  rcases h2 with h2 | ⟨g, cap, cur, rfl, hb, hgg, r⟩
  · exact .inl h2
  · exact .inr ⟨g, cap, cur, rfl, hb, hm.keepc hgg he, r⟩
theorem own_below {w w' : World} {base e sz n : Nat} {v : Value} {xs : List Value} (h : w.ownsRow base e sz v n xs) (hb : Below w.heap.size w w') : w'.ownsRow base e sz v n xs := own_mut (L := []) h (.of_below hb 0 []) (by simp)
theorem own_base {w : World} {base base' e sz n : Nat} {v : Value} {xs : List Value} (h : w.ownsRow base e sz v n xs) (hb : base' ≤ base) : w.ownsRow base' e sz v n xs := by
  obtain ⟨h1, h2⟩ := h
  refine ⟨h1, ?_⟩
  rcases h2 with h2 | ⟨g, cap, cur, rfl, hb', hgg, r⟩
  · exact .inl h2
  · exact .inr ⟨g, cap, cur, rfl, by omega, hgg, r⟩

theorem own_slice {w : World} {base e sz n : Nat} {v : Value} {xs : List Value} (h : w.ownsRow base e sz v n xs) : ∃ A c, v = .slice A n c ∧ n ≤ c ∧ c ≤ maxLen ∧ (A = none → c = 0) := by
  rcases h.2 with ⟨rfl, rfl⟩ | ⟨g, cap, cur, rfl, hb', hgg, r1, r2, _⟩
  · exact ⟨none, 0, rfl, Nat.le_refl _, by simp [maxLen], fun _ => rfl⟩
  · exact ⟨_, _, rfl, r1, r2, fun h => by cases h⟩

/-- Cells that lie at an address, or nothing at all. -/
def At (w : World) (A : Option Addr) (news : List Value) : Prop := news = [] ∨ ∃ ad, A = some ad ∧ ∀ j u, news[j]? = some u → w.cell? (ad.add j) = some u

theorem Rd.at_ {α : Type} {e : Nat} {enc : α → Value} {w : World} {A : Option Addr} {l : List α} (h : Rd e enc w A l) : At w A (l.map enc) := by
  rcases h with h | ⟨b, off, cells, fr, rfl, hb, hc⟩
  · left; simp [h]
  · right
    refine ⟨_, rfl, fun j u hu => ?_⟩
    have hj : j < l.length := by
      have := (List.getElem?_eq_some_iff.1 hu).1
      simpa using this
    have : w.cell? ⟨b, off + j, none⟩ = some u := by
      rw [cell_of hb, hc j hj]
      simpa [hj] using hu
    rw [← this]
    congr 1
    unfold Addr.add
    split <;> simp_all

section
variable {P : Program} {w : World}

theorem run_app (base : Nat) (t ty e : TypeId) (z : Value) (size bytes : Nat) (ht : P.underlying t = some (.slice e)) (hinfo : (P.info? e).map (fun i => (i.zero, i.size, i.bytes)) = some (some z, size, bytes))
    (hzs : z.cells.size = size) (hsz : 0 < size) (v : Value) (n : Nat) (xs : List Value) (hown : w.ownsRow base e size v n xs)
    (A : Option Addr) (m c : Nat) (news : List Value) (hl : news.length = m * size) (hat : At w A news) (hA : A = none → c = 0) (h1 : ∀ u ∈ news, u.oneCell' = true)
    (h63 : n + m ≤ maxLen) (hbytes : (n + m) * bytes ≤ 140737488355328) (hbase : base ≤ w.heap.size) :
    ∃ v' w', (Builtin.append_ #[t, t] ty #[v, .slice A m c]).run P w = .ok v' w' ∧ w'.ownsRow base e size v' (n + m) (xs ++ news) ∧ Mut base [e] w w' ∧ w.grownBy w' v.ownBlock ∧ (v'.ownBlock = v.ownBlock ∨ v'.ownBlock = some w.heap.size) := by
  obtain ⟨i, hi, hz0, hz1, hz2⟩ := info_parts hinfo
  cases A with
  | none =>
    obtain rfl := hA rfl
    have hn : news = [] := hat.elim id (fun ⟨_, h, _⟩ => by cases h)
    subst hn
    have hm : m = 0 := by
      rcases Nat.eq_zero_or_pos m with h | h
      · exact h
      · have := Nat.mul_pos h hsz; simp at hl; omega
    subst hm
    exact ⟨v, w, run_append_owned_none (P := P) (w := w) base t ty e i size ht hi v n xs hown, by simpa using hown, .refl _ _ _, ⟨rfl, rfl, rfl, Nat.le_refl _, fun _ _ _ => rfl⟩, .inl rfl⟩
  | some ad =>
    have hnews : ∀ j u, news[j]? = some u → w.cell? (ad.add j) = some u := by
      rcases hat with rfl | ⟨ad', h, h'⟩
      · intro j u hu; simp at hu
      · cases h; exact h'
    obtain ⟨v', w', hr, h2, h3, _, h5⟩ := run_append_own_at (P := P) w base t ty e i z size bytes ht hi hz0 hz1 hz2 hzs hsz v n xs hown ad m c news hl hnews h1 h63 hbytes hbase
    exact ⟨v', w', hr, h2, mut_of_own hown h3, h3, h5⟩

variable {o : Oper} {a : Act} {Q : Exit → Act → World → Prop}

/-- An append inside a region: at the operation. -/
theorem wp_app {K : Act → World → Prop} (s x : Operand) (t : TypeId) (ho : o.op = .call { callee := .builtin .append, args := #[s, x], argTypes := #[t, t] })
    (base : Nat) (e : TypeId) (z : Value) (size bytes : Nat) (ht : P.underlying t = some (.slice e)) (hinfo : (P.info? e).map (fun i => (i.zero, i.size, i.bytes)) = some (some z, size, bytes))
    (hzs : z.cells.size = size) (hsz : 0 < size) (v : Value) (n : Nat) (xs : List Value) (hs : a.eval s = v) (hown : w.ownsRow base e size v n xs)
    (A : Option Addr) (m c : Nat) (news : List Value) (hx : a.eval x = .slice A m c) (hl : news.length = m * size) (hat : At w A news) (hA : A = none → c = 0) (h1 : ∀ u ∈ news, u.oneCell' = true)
    (h63 : n + m ≤ maxLen) (hbytes : (n + m) * bytes ≤ 140737488355328) (hbase : base ≤ w.heap.size)
    (h : ∀ v' w', w'.ownsRow base e size v' (n + m) (xs ++ news) → Mut base [e] w w' → K (a.put o.dst v') w') : o.wp P a w K Q := by
  obtain ⟨v', w', hr, h2, h3, _⟩ := run_app (P := P) (w := w) base t o.type e z size bytes ht hinfo hzs hsz v n xs hown A m c news hl hat hA h1 h63 hbytes hbase
  unfold Oper.wp execOp
  simp only [ho, resolve, invoke, builtin, Sem.run_bind, Sem.run_pure, Result.andThen_ok, List.map_toArray, List.map_cons, List.map_nil, hs, hx, hr]
  exact h v' w' h2 h3

/-- The same, told where the new slice lies. -/
theorem wp_appAt {K : Act → World → Prop} (s x : Operand) (t : TypeId) (ho : o.op = .call { callee := .builtin .append, args := #[s, x], argTypes := #[t, t] })
    (base : Nat) (e : TypeId) (z : Value) (size bytes : Nat) (ht : P.underlying t = some (.slice e)) (hinfo : (P.info? e).map (fun i => (i.zero, i.size, i.bytes)) = some (some z, size, bytes))
    (hzs : z.cells.size = size) (hsz : 0 < size) (v : Value) (n : Nat) (xs : List Value) (hs : a.eval s = v) (hown : w.ownsRow base e size v n xs)
    (A : Option Addr) (m c : Nat) (news : List Value) (hx : a.eval x = .slice A m c) (hl : news.length = m * size) (hat : At w A news) (hA : A = none → c = 0) (h1 : ∀ u ∈ news, u.oneCell' = true)
    (h63 : n + m ≤ maxLen) (hbytes : (n + m) * bytes ≤ 140737488355328) (hbase : base ≤ w.heap.size)
    (h : ∀ v' w', w'.ownsRow base e size v' (n + m) (xs ++ news) → Mut base [e] w w' → w.grownBy w' v.ownBlock → (v'.ownBlock = v.ownBlock ∨ v'.ownBlock = some w.heap.size) → K (a.put o.dst v') w') : o.wp P a w K Q := by
  obtain ⟨v', w', hr, h2, h3, h4, h5⟩ := run_app (P := P) (w := w) base t o.type e z size bytes ht hinfo hzs hsz v n xs hown A m c news hl hat hA h1 h63 hbytes hbase
  unfold Oper.wp execOp
  simp only [ho, resolve, invoke, builtin, Sem.run_bind, Sem.run_pure, Result.andThen_ok, List.map_toArray, List.map_cons, List.map_nil, hs, hx, hr]
  exact h v' w' h2 h3 h4 h5

/-- An append that the walk meets. -/
theorem wpList_app {ops : Array Oper} {rest : List Oper} (hgd : o.guard = none) (s x : Operand) (t : TypeId) (ho : o.op = .call { callee := .builtin .append, args := #[s, x], argTypes := #[t, t] })
    (base : Nat) (e : TypeId) (z : Value) (size bytes : Nat) (ht : P.underlying t = some (.slice e)) (hinfo : (P.info? e).map (fun i => (i.zero, i.size, i.bytes)) = some (some z, size, bytes))
    (hzs : z.cells.size = size) (hsz : 0 < size) (v : Value) (n : Nat) (xs : List Value) (hs : a.eval s = v) (hown : w.ownsRow base e size v n xs)
    (A : Option Addr) (m c : Nat) (news : List Value) (hx : a.eval x = .slice A m c) (hl : news.length = m * size) (hat : At w A news) (hA : A = none → c = 0) (h1 : ∀ u ∈ news, u.oneCell' = true)
    (h63 : n + m ≤ maxLen) (hbytes : (n + m) * bytes ≤ 140737488355328) (hbase : base ≤ w.heap.size)
    (h : ∀ v' w', w'.ownsRow base e size v' (n + m) (xs ++ news) → Mut base [e] w w' → wpList P ops Q rest (a.put o.dst v') w') : wpList P ops Q (o :: rest) a w :=
  wpList_plain hgd fun _ hK => wp_app s x t ho base e z size bytes ht hinfo hzs hsz v n xs hs hown A m c news hx hl hat hA h1 h63 hbytes hbase fun v' w' h2 h3 => hK _ _ (h v' w' h2 h3)

/-- The same, told where the new slice lies. -/
theorem wpList_appAt {ops : Array Oper} {rest : List Oper} (hgd : o.guard = none) (s x : Operand) (t : TypeId) (ho : o.op = .call { callee := .builtin .append, args := #[s, x], argTypes := #[t, t] })
    (base : Nat) (e : TypeId) (z : Value) (size bytes : Nat) (ht : P.underlying t = some (.slice e)) (hinfo : (P.info? e).map (fun i => (i.zero, i.size, i.bytes)) = some (some z, size, bytes))
    (hzs : z.cells.size = size) (hsz : 0 < size) (v : Value) (n : Nat) (xs : List Value) (hs : a.eval s = v) (hown : w.ownsRow base e size v n xs)
    (A : Option Addr) (m c : Nat) (news : List Value) (hx : a.eval x = .slice A m c) (hl : news.length = m * size) (hat : At w A news) (hA : A = none → c = 0) (h1 : ∀ u ∈ news, u.oneCell' = true)
    (h63 : n + m ≤ maxLen) (hbytes : (n + m) * bytes ≤ 140737488355328) (hbase : base ≤ w.heap.size)
    (h : ∀ v' w', w'.ownsRow base e size v' (n + m) (xs ++ news) → Mut base [e] w w' → w.grownBy w' v.ownBlock → (v'.ownBlock = v.ownBlock ∨ v'.ownBlock = some w.heap.size) → wpList P ops Q rest (a.put o.dst v') w') : wpList P ops Q (o :: rest) a w :=
  wpList_plain hgd fun _ hK => wp_appAt s x t ho base e z size bytes ht hinfo hzs hsz v n xs hs hown A m c news hx hl hat hA h1 h63 hbytes hbase fun v' w' h2 h3 h4 h5 => hK _ _ (h v' w' h2 h3 h4 h5)

/-- The one new cell of 'append(s, x)'. -/
theorem at_new (w : World) (u : Value) (e : Nat) : At (w.alloc (.cells #[u] e)) (some ⟨w.heap.size, 0, none⟩) [u] := .inr ⟨_, rfl, fun j u' hj => by
  cases j with
  | zero =>
    simp at hj
    subst hj
    have := cell_of (heap_new w (.cells #[u] e)) 0
    simp [Addr.add, this]
  | succ j => simp at hj⟩
/-- The new cells of 'append(s, x)', x of several cells. -/
theorem at_news (w : World) (us : Array Value) (e : Nat) : At (w.alloc (.cells us e)) (some ⟨w.heap.size, 0, none⟩) us.toList := .inr ⟨_, rfl, fun j u' hj => by
  have h0 : (⟨w.heap.size, 0, none⟩ : Addr).add j = ⟨w.heap.size, j, none⟩ := by unfold Addr.add; split <;> simp_all
  rw [h0, cell_of (heap_new w (.cells us e)) j]
  simpa using hj⟩
end
end Go.Proofs.YtpfjhehjmhkbpaaGreatDoor

namespace Go.Proofs.YtpfjhehjmhkbpaaGreatDoor
open Go.RowKit

section
variable {P : Program}

theorem run_copy_rowz (w : World) (dT sT ty elem : TypeId) (g o dLen dCap : Nat) (a : Addr) (sLen sCap sz : Nat) (cur : Array Value) (t : TypeId) (cs : List Value)
    (hu : P.underlying dT = some (.slice elem)) (hs : (P.info? elem).map (·.size) = some sz)
    (hg : w.heap[g]? = some (.cells cur t (0, 0))) (hn : cs.length = Nat.min sLen dLen * sz)
    (hsrc : ∀ j v, cs[j]? = some v → w.cell? (a.add j) = some v) (hfit : o + cs.length ≤ cur.size) (h1 : ∀ v ∈ cs, v.oneCell' = true) :
    (Builtin.copy_ #[dT, sT] ty #[.slice (some ⟨g, o, none⟩) dLen dCap, .slice (some a) sLen sCap]).run P w =
      .ok (goInt (Nat.min sLen dLen : Nat)) (w.setRow g (splice cur.toList o cs).toArray) := by
  have hl := run_loadCells_list (P := P) w a cs hsrc
  have hst := run_storeCells_at P g o t cs 0 cur w hg (by simpa using hfit) h1
  cases hq : P.info? elem with
  | none => simp [hq] at hs
  | some i =>
    have hi : i.size = sz := by simpa [hq] using hs
    simp [Builtin.copy_, run_underlying hu, Builtin.lenOf, Builtin.firstCells, sizeOf, typeInfo, hq, hi, ← hn, hl, hst, splice]

variable {o : Oper} {a : Act} {Q : Exit → Act → World → Prop} {w : World}

theorem wp_copy_run {K : Act → World → Prop} (s x : Operand) (t tn : TypeId)
    (ho : o.op = .call { callee := .builtin .copy, args := #[s, x], argTypes := #[t, tn] }) (vs vx : Value) (hs : a.eval s = vs) (hx : a.eval x = vx)
    (v' : Value) (w' : World) (hr : (Builtin.copy_ #[t, tn] o.type #[vs, vx]).run P w = .ok v' w') (h : K (a.put o.dst v') w') : o.wp P a w K Q := by
  unfold Oper.wp execOp
  simp only [ho, resolve, invoke, builtin, Sem.run_bind, Sem.run_pure, Result.andThen_ok, List.map_toArray, List.map_cons, List.map_nil, hs, hx, hr]
  exact h
theorem wpList_copy_run {ops : Array Oper} {rest : List Oper} (hgd : o.guard = none) (s x : Operand) (t tn : TypeId)
    (ho : o.op = .call { callee := .builtin .copy, args := #[s, x], argTypes := #[t, tn] }) (vs vx : Value) (hs : a.eval s = vs) (hx : a.eval x = vx)
    (v' : Value) (w' : World) (hr : (Builtin.copy_ #[t, tn] o.type #[vs, vx]).run P w = .ok v' w') (h : wpList P ops Q rest (a.put o.dst v') w') : wpList P ops Q (o :: rest) a w :=
  wpList_plain hgd fun _ hK => wp_copy_run s x t tn ho vs vx hs hx v' w' hr (hK _ _ h)

theorem mut_setRow {B g e : Nat} {L : List Nat} {w0 w : World} (h : Mut B L w0 w) {cur : Array Value} {f : Nat × Nat} (hg : w.heap[g]? = some (.cells cur e f)) (he : e ∈ L) (hB : B ≤ g) (cs : Array Value) : Mut B L w0 (w.setRow g cs) :=
  h.trans ⟨rfl, rfl, rfl, by simp [World.setRow], fun k o hk hc => by
    by_cases hkp : k = g
    · subst hkp
      rw [hg] at hk
      cases hk
      rcases hc with hc | hc
      · omega
      · exact absurd he hc
    · rw [setRow_other w g k cs hkp]; exact hk⟩

/-- 'copy' into a row that is known whole, elements of any size: the row behind it, all else as it was. -/
theorem wp_copy_z {K : Act → World → Prop} (d s : Operand) (dT sT : TypeId)
    (ho : o.op = .call { callee := .builtin .copy, args := #[d, s], argTypes := #[dT, sT] }) (elem : TypeId) (hu : P.underlying dT = some (.slice elem)) (sz : Nat) (hz : (P.info? elem).map (·.size) = some sz)
    (g o1 o2 dLen dCap : Nat) (ad : Addr) (sLen sCap : Nat) (hd : a.eval d = .slice (some ⟨g, o1, none⟩) dLen dCap) (hs : a.eval s = .slice (some ad) sLen sCap) (h12 : o1 = o2)
    (cur : List Value) (t : TypeId) (hg : w.heap[g]? = some (.cells cur.toArray t (0, 0))) (cs : List Value) (hn : cs.length = Nat.min sLen dLen * sz)
    (hsrc : ∀ j v, cs[j]? = some v → w.cell? (ad.add j) = some v) (hfit : o2 + cs.length ≤ cur.length) (h1 : ∀ v ∈ cs, v.oneCell' = true)
    (h : ∀ w', Hid (w'.heap[g]? = some (.cells (splice cur o2 cs).toArray t (0, 0))) → (∀ k, k ≠ g → w'.heap[k]? = w.heap[k]?) → Mut g [t] w w' → K (a.put o.dst (goInt (Nat.min sLen dLen : Nat))) w') :
    o.wp P a w K Q := by
  subst h12
  refine wp_copy_run d s dT sT ho _ _ hd hs _ _ (run_copy_rowz w dT sT o.type elem g o1 dLen dCap ad sLen sCap sz cur.toArray t cs hu hz hg hn hsrc (by simpa using hfit) h1) ?_
  refine h _ (show _ = _ from setRow_heap w g _ _ t _ hg) (fun k hk => setRow_other w g k _ hk) (mut_setRow (.refl _ _ _) hg (by simp) (Nat.le_refl _) _)

theorem wpList_copy_z {ops : Array Oper} {rest : List Oper} (hgd : o.guard = none) (d s : Operand) (dT sT : TypeId)
    (ho : o.op = .call { callee := .builtin .copy, args := #[d, s], argTypes := #[dT, sT] }) (elem : TypeId) (hu : P.underlying dT = some (.slice elem)) (sz : Nat) (hz : (P.info? elem).map (·.size) = some sz)
    (g o1 o2 dLen dCap : Nat) (ad : Addr) (sLen sCap : Nat) (hd : a.eval d = .slice (some ⟨g, o1, none⟩) dLen dCap) (hs : a.eval s = .slice (some ad) sLen sCap) (h12 : o1 = o2)
    (cur : List Value) (t : TypeId) (hg : w.heap[g]? = some (.cells cur.toArray t (0, 0))) (cs : List Value) (hn : cs.length = Nat.min sLen dLen * sz)
    (hsrc : ∀ j v, cs[j]? = some v → w.cell? (ad.add j) = some v) (hfit : o2 + cs.length ≤ cur.length) (h1 : ∀ v ∈ cs, v.oneCell' = true)
    (h : ∀ w', Hid (w'.heap[g]? = some (.cells (splice cur o2 cs).toArray t (0, 0))) → (∀ k, k ≠ g → w'.heap[k]? = w.heap[k]?) → Mut g [t] w w' → wpList P ops Q rest (a.put o.dst (goInt (Nat.min sLen dLen : Nat))) w') :
    wpList P ops Q (o :: rest) a w :=
  wpList_plain hgd fun _ hK => wp_copy_z d s dT sT ho elem hu sz hz g o1 o2 dLen dCap ad sLen sCap hd hs h12 cur t hg cs hn hsrc hfit h1 fun w' h2 h3 h4 => hK _ _ (h w' h2 h3 h4)

theorem step_copy_z {ops : Array Oper} {K : Act → World → Prop} {E : Prop} (hgd : o.guard = none) (d s : Operand) (dT sT : TypeId)
    (ho : o.op = .call { callee := .builtin .copy, args := #[d, s], argTypes := #[dT, sT] }) (elem : TypeId) (hu : P.underlying dT = some (.slice elem)) (sz : Nat) (hz : (P.info? elem).map (·.size) = some sz)
    (g o1 o2 dLen dCap : Nat) (ad : Addr) (sLen sCap : Nat) (hd : a.eval d = .slice (some ⟨g, o1, none⟩) dLen dCap) (hs : a.eval s = .slice (some ad) sLen sCap) (h12 : o1 = o2)
    (cur : List Value) (t : TypeId) (hg : w.heap[g]? = some (.cells cur.toArray t (0, 0))) (cs : List Value) (hn : cs.length = Nat.min sLen dLen * sz)
    (hsrc : ∀ j v, cs[j]? = some v → w.cell? (ad.add j) = some v) (hfit : o2 + cs.length ≤ cur.length) (h1 : ∀ v ∈ cs, v.oneCell' = true)
    (h : ∀ w', Hid (w'.heap[g]? = some (.cells (splice cur o2 cs).toArray t (0, 0))) → (∀ k, k ≠ g → w'.heap[k]? = w.heap[k]?) → Mut g [t] w w' → K (a.put o.dst (goInt (Nat.min sLen dLen : Nat))) w') :
    if Region.wanted o (yielded ops a.tmps) = true then Oper.wp P o a w K Q else E := by
  have hw : Region.wanted o (yielded ops a.tmps) = true := by simp [Region.wanted, hgd]
  rw [if_pos hw]
  exact wp_copy_z d s dT sT ho elem hu sz hz g o1 o2 dLen dCap ad sLen sCap hd hs h12 cur t hg cs hn hsrc hfit h1 h

/-- append within the room of a row that is known whole. -/
theorem run_append_rowz (w : World) (t ty elem : TypeId) (sz g n cap : Nat) (ad : Addr) (m c : Nat) (cur : Array Value) (e : TypeId) (news : List Value)
    (hu : P.underlying t = some (.slice elem)) (hs : (P.info? elem).map (·.size) = some sz)
    (hg : w.heap[g]? = some (.cells cur e (0, 0))) (hn : news.length = m * sz)
    (hsrc : ∀ j v, news[j]? = some v → w.cell? (ad.add j) = some v) (hfit : n * sz + news.length ≤ cur.size) (h1 : ∀ v ∈ news, v.oneCell' = true) (hroom : n + m ≤ cap) :
    (Builtin.append_ #[t, t] ty #[.slice (some ⟨g, 0, none⟩) n cap, .slice (some ad) m c]).run P w =
      .ok (.slice (some ⟨g, 0, none⟩) (n + m) cap) (w.setRow g (splice cur.toList (n * sz) news).toArray) := by
  have hst := run_storeCells_at P g (n * sz) e news 0 cur w hg (by simpa using hfit) h1
  have h0 : (⟨g, 0, none⟩ : Addr).add (n * sz) = ⟨g, n * sz, none⟩ := by unfold Addr.add; split <;> simp_all
  cases hq : P.info? elem with
  | none => simp [hq] at hs
  | some i =>
    have hi : i.size = sz := by simpa [hq] using hs
    have hfc := run_firstCells_some (P := P) w sz m ad m c news hn hsrc
    simp only [Nat.add_zero] at hst
    simp [Builtin.append_, run_underlying hu, sizeOf, typeInfo, hq, hi, Builtin.lenOf, hroom, hfc, h0, hst, splice]

/-- clear of a stretch of a row that is known whole. -/
theorem run_clear_rowz (w : World) (t ty elem : TypeId) (z : Value) (size bytes : Nat) (g o k c : Nat) (cur : Array Value) (e : TypeId)
    (hu : P.underlying t = some (.slice elem)) (hinfo : (P.info? elem).map (fun i => (i.zero, i.size, i.bytes)) = some (some z, size, bytes))
    (hg : w.heap[g]? = some (.cells cur e (0, 0))) (hk : 0 < k) (hfit : o + (Builtin.zeroCells z.cells k).toList.length ≤ cur.size) (h1 : ∀ v ∈ (Builtin.zeroCells z.cells k).toList, v.oneCell' = true) :
    (Builtin.clear_ #[t] ty #[.slice (some ⟨g, o, none⟩) k c]).run P w = .ok (.tuple #[]) (w.setRow g (splice cur.toList o (Builtin.zeroCells z.cells k).toList).toArray) := by
  obtain ⟨i0, hi, hz, hz1, hz2⟩ := info_parts hinfo
  have hst := run_storeCells_at P g o e _ 0 cur w hg (by simpa using hfit) h1
  cases k with
  | zero => omega
  | succ k =>
    simp only [Nat.add_zero] at hst
    simp [Builtin.clear_, run_underlying hu, typeInfo, zeroValue, hi, hz, hst, splice]

theorem step_append_z {ops : Array Oper} {K : Act → World → Prop} {E : Prop} (hgd : o.guard = none) (s x : Operand) (t : TypeId)
    (ho : o.op = .call { callee := .builtin .append, args := #[s, x], argTypes := #[t, t] }) (elem : TypeId) (hu : P.underlying t = some (.slice elem)) (sz : Nat) (hz : (P.info? elem).map (·.size) = some sz)
    (g n cap : Nat) (ad : Addr) (m c : Nat) (hs : a.eval s = .slice (some ⟨g, 0, none⟩) n cap) (hx : a.eval x = .slice (some ad) m c)
    (cur : List Value) (e : TypeId) (hg : w.heap[g]? = some (.cells cur.toArray e (0, 0))) (news : List Value) (hn : news.length = m * sz)
    (hsrc : ∀ j v, news[j]? = some v → w.cell? (ad.add j) = some v) (hfit : n * sz + news.length ≤ cur.length) (h1 : ∀ v ∈ news, v.oneCell' = true) (hroom : n + m ≤ cap)
    (h : ∀ w', Hid (w'.heap[g]? = some (.cells (splice cur (n * sz) news).toArray e (0, 0))) → (∀ k, k ≠ g → w'.heap[k]? = w.heap[k]?) → Mut g [e] w w' → K (a.put o.dst (.slice (some ⟨g, 0, none⟩) (n + m) cap)) w') :
    if Region.wanted o (yielded ops a.tmps) = true then Oper.wp P o a w K Q else E := by
  have hw : Region.wanted o (yielded ops a.tmps) = true := by simp [Region.wanted, hgd]
  rw [if_pos hw]
  have hr := run_append_rowz w t o.type elem sz g n cap ad m c cur.toArray e news hu hz hg hn hsrc (by simpa using hfit) h1 hroom
  unfold Oper.wp execOp
  simp only [ho, resolve, invoke, builtin, Sem.run_bind, Sem.run_pure, Result.andThen_ok, List.map_toArray, List.map_cons, List.map_nil, hs, hx, hr]
  exact h _ (show _ = _ from setRow_heap w g _ _ e _ hg) (fun k hk => setRow_other w g k _ hk) (mut_setRow (.refl _ _ _) hg (by simp) (Nat.le_refl _) _)

theorem wpList_clear_z {ops : Array Oper} {rest : List Oper} (hgd : o.guard = none) (s : Operand) (t : TypeId)
    (ho : o.op = .call { callee := .builtin .clear, args := #[s], argTypes := #[t] }) (elem : TypeId) (z : Value) (size bytes : Nat) (hu : P.underlying t = some (.slice elem)) (hinfo : (P.info? elem).map (fun i => (i.zero, i.size, i.bytes)) = some (some z, size, bytes))
    (g o1 o2 k c : Nat) (hs : a.eval s = .slice (some ⟨g, o1, none⟩) k c) (h12 : o1 = o2)
    (cur : List Value) (e : TypeId) (hg : w.heap[g]? = some (.cells cur.toArray e (0, 0))) (hk : 0 < k) (hfit : o2 + (Builtin.zeroCells z.cells k).toList.length ≤ cur.length) (h1 : ∀ v ∈ (Builtin.zeroCells z.cells k).toList, v.oneCell' = true)
    (h : ∀ w', Hid (w'.heap[g]? = some (.cells (splice cur o2 (Builtin.zeroCells z.cells k).toList).toArray e (0, 0))) → (∀ k, k ≠ g → w'.heap[k]? = w.heap[k]?) → Mut g [e] w w' → wpList P ops Q rest (a.put o.dst (.tuple #[])) w') :
    wpList P ops Q (o :: rest) a w := wpList_plain hgd fun K hK => by
  subst h12
  have hr := run_clear_rowz w t o.type elem z size bytes g o1 k c cur.toArray e hu hinfo hg hk (by simpa using hfit) h1
  unfold Oper.wp execOp
  simp only [ho, resolve, invoke, builtin, Sem.run_bind, Sem.run_pure, Result.andThen_ok, List.map_toArray, List.map_cons, List.map_nil, hs, hr]
  exact hK _ _ (h _ (show _ = _ from setRow_heap w g _ _ e _ hg) (fun k hk => setRow_other w g k _ hk) (mut_setRow (.refl _ _ _) hg (by simp) (Nat.le_refl _) _))

/-- A row with a stretch taken out. -/
def del {α : Type} (xs : List α) (p s : Nat) : List α := xs.take p ++ xs.drop (p + s)

theorem del_length {α : Type} (xs : List α) (p s : Nat) (h : p + s ≤ xs.length) : (del xs p s).length = xs.length - s := by simp [del]; omega

theorem del_row {α : Type} (cur xs Z : List α) (p s q : Nat) (hx : cur.take q = xs) (hp : p + s ≤ q) (hq : q ≤ cur.length) (hZ : Z.length = s) :
    (splice (splice cur p (xs.drop (p + s))) (q - s) Z).take (q - s) = del xs p s := by
  subst hx
  have h1 : (splice cur p ((cur.take q).drop (p + s))).take (q - s) = cur.take p ++ (cur.take q).drop (p + s) := by
    unfold splice
    rw [← List.append_assoc, List.take_left' (by simp; omega)]
  have h2 : ∀ (L : List α), q - s ≤ L.length → (splice L (q - s) Z).take (q - s) = L.take (q - s) := fun L hL => by
    unfold splice
    rw [List.take_left' (by simp; omega)]
  rw [h2 _ (by rw [length_splice _ _ _ (by simp; omega)]; omega), h1]
  simp [del, List.take_take, Nat.min_eq_left (show p ≤ q by omega)]

theorem splice_at {α : Type} (A M R cs : List α) (off : Nat) (hA : A.length = off) (hM : M.length = cs.length) : splice (A ++ (M ++ R)) off cs = A ++ (cs ++ R) := by
  subst hA
  simp [splice, ← hM, List.drop_append]

/-- A row with something put in at a place. -/
def ins {α : Type} (xs : List α) (p : Nat) (news : List α) : List α := xs.take p ++ (news ++ xs.drop p)

theorem ins_length {α : Type} (xs : List α) (p : Nat) (news : List α) : (ins xs p news).length = xs.length + news.length := by simp [ins]; omega

theorem cut3 {α : Type} (cur : List α) (p s q : Nat) (hp : p ≤ q) : (cur.take p ++ (cur.take (p + s)).drop p) ++ (((cur.drop (p + s)).take (q - p)) ++ cur.drop (q + s)) = cur := by
  have e1 := List.take_append_drop p (cur.take (p + s))
  rw [List.take_take, Nat.min_eq_left (by omega)] at e1
  have e2 := List.take_append_drop (q - p) (cur.drop (p + s))
  rw [List.drop_drop, show p + s + (q - p) = q + s by omega] at e2
  rw [e1, e2, List.take_append_drop]

theorem ins_shift {α : Type} (cur xs news : List α) (p s q : Nat) (hx : cur.take q = xs) (hn : news.length = s) (hp : p ≤ q) (hs : q + s ≤ cur.length) : (splice (splice cur (p + s) (xs.drop p)) p news).take (q + s) = ins xs p news := by
  subst hx
  have h2 : splice cur (p + s) ((cur.take q).drop p) = (cur.take p ++ (cur.take (p + s)).drop p) ++ ((cur.take q).drop p ++ cur.drop (q + s)) := by
    have := splice_at (cur.take p ++ (cur.take (p + s)).drop p) ((cur.drop (p + s)).take (q - p)) (cur.drop (q + s)) ((cur.take q).drop p) (p + s) (by simp; omega) (by simp; omega)
    rwa [cut3 cur p s q hp] at this
  rw [h2, List.append_assoc, splice_at _ _ _ _ _ (by simp; omega) (by simp; omega), ← List.append_assoc, ← List.append_assoc, List.take_left' (by simp; omega)]
  simp [ins, List.take_take, Nat.min_eq_left hp]

theorem ins_grow {α : Type} (Z xs news : List α) (p s q : Nat) (hx : xs.length = q) (hn : news.length = s) (hp : p ≤ q) (hs : q + s ≤ p + Z.length) : (splice (splice (xs.take p ++ Z) p news) (p + s) (xs.drop p)).take (q + s) = ins xs p news := by
  have h1 : splice (xs.take p ++ Z) p news = (xs.take p ++ news) ++ ((Z.drop s).take (q - p) ++ Z.drop (q + s - p)) := by
    have e1 : Z.take s ++ ((Z.drop s).take (q - p) ++ Z.drop (q + s - p)) = Z := by
      have e2 := List.take_append_drop (q - p) (Z.drop s)
      rw [List.drop_drop, show s + (q - p) = q + s - p by omega] at e2
      rw [e2, List.take_append_drop]
    have := splice_at (xs.take p) (Z.take s) ((Z.drop s).take (q - p) ++ Z.drop (q + s - p)) news p (by simp; omega) (by simp; omega)
    rw [e1] at this
    rw [this, List.append_assoc]
  rw [h1, splice_at _ _ _ _ _ (by simp; omega) (by simp; omega), ← List.append_assoc, List.take_left' (by simp; omega)]
  simp [ins]

theorem ins_end {α : Type} (xs news : List α) (p : Nat) (h : xs.length ≤ p) : ins xs p news = xs ++ news := by
  simp [ins, List.take_of_length_le h, List.drop_eq_nil_of_le h]
end
end Go.Proofs.YtpfjhehjmhkbpaaGreatDoor
