/- A loop over a tree's keys that collects them; plain parts and laws. -/
import Derived.Test.YtpfjhehjmhkbpaaGreatDoorM24
namespace Go.Proofs.YtpfjhehjmhkbpaaGreatDoor
open Go.RowKit

theorem insKV_le (C : KV) (key : ByteArray) (b : List UInt8) (h : Rises (C.map (·.1))) : (insKV C key b).length ≤ C.length + 1 := by
  rw [insKV_take h]
  have h1 : below (C.map (·.1)) key ≤ kidIdx (C.map (·.1)) key := by
    rw [kidIdx_eq h]; omega
  simp only [List.length_append, List.length_take, List.length_cons, List.length_drop]
  omega

/-- An append inside a round. -/
theorem wpListIn_app {F : Fence} {m0 : Nat} {P : Program} {ops : Array Oper} {rest : List Oper} {o : Oper} {a : Act} {Q : Exit → Act → World → Prop} {w : World} (hgd : o.guard = none) (s x : Operand) (t : TypeId) (ho : o.op = .call { callee := .builtin .append, args := #[s, x], argTypes := #[t, t] })
    (base : Nat) (e : TypeId) (z : Value) (size bytes : Nat) (ht : P.underlying t = some (.slice e)) (hinfo : (P.info? e).map (fun i => (i.zero, i.size, i.bytes)) = some (some z, size, bytes))
    (hzs : z.cells.size = size) (hsz : 0 < size) (v : Value) (n : Nat) (xs : List Value) (hs : a.eval s = v) (hown : w.ownsRow base e size v n xs)
    (A : Option Addr) (m c : Nat) (news : List Value) (hx : a.eval x = .slice A m c) (hl : news.length = m * size) (hat : At w A news) (hA : A = none → c = 0) (h1 : ∀ u ∈ news, u.oneCell' = true)
    (h63 : n + m ≤ maxLen) (hbytes : (n + m) * bytes ≤ 140737488355328) (hbase : base ≤ w.heap.size)
    (h : ∀ v' w', w'.ownsRow base e size v' (n + m) (xs ++ news) → Mut base [e] w w' → wpListIn F m0 P ops Q rest (a.put o.dst v') w') : wpListIn F m0 P ops Q (o :: rest) a w := by
  refine wpListIn_plain hgd fun K hK' => ?_
  obtain ⟨v', w', hrun, h2, h3, _⟩ := run_app (P := P) (w := w) base t o.type e z size bytes ht hinfo hzs hsz v n xs hown A m c news hl hat hA h1 h63 hbytes hbase
  unfold Oper.wpIn
  refine ⟨?_, ?_⟩
  · simp [Oper.about, ho, resolve, Target.leads, Sem.run_pure]
  · rw [Oper.semAt_plain F _ _ (by rw [ho]; intro c hc'; cases hc')]
    simp [execOp, ho, resolve, invoke, builtin, hs, hx, hrun, Result.andThen]
    exact hK' _ _ (h v' w' h2 h3)

/-- What else stands while keys are collected in the variable at xB, in rows from B1 on. -/
structure Oth (B1 xB : Nat) (O : World → Prop) : Prop where
  bel : ∀ A B, O A → Below A.heap.size A B → O B
  put : ∀ W l o o', B1 ≤ l → W.heap[l]? = some o → o.isCells = false → O W → O (W.putObj l o')
  row : ∀ W W', O W → Mut B1 [9] W W' → O W'
  set : ∀ W u v, O W → W.heap[xB]? = some (.cells #[v] 22 (0, 0)) → O (W.setCell ⟨xB, 0, none⟩ u)

/-- Behind some rounds: the keys that came stand in the row. -/
def RI (B1 xB : Nat) (O : World → Prop) (pre : List Hd) (W : World) : Prop :=
  (∃ v, W.heap[xB]? = some (.cells #[v] 22 (0, 0)) ∧ W.ownsRow B1 9 1 v pre.length (pre.map fun x => .string x.1)) ∧ O W ∧ B1 ≤ W.heap.size

theorem RI_below {B1 xB : Nat} {O : World → Prop} (h : Oth B1 xB O) : ∀ s A B, RI B1 xB O s A → Below A.heap.size A B → RI B1 xB O s B :=
  fun _ A B ⟨⟨v, h1, h2⟩, h3, h4⟩ hb => ⟨⟨v, heap_below h1 hb (blk_lt h1), own_below h2 hb⟩, h.bel A B h3 hb, Nat.le_trans h4 hb.size⟩
theorem RI_put {B1 xB : Nat} {O : World → Prop} (h : Oth B1 xB O) : ∀ s W l o o', B1 ≤ l → W.heap[l]? = some o → o.isCells = false → RI B1 xB O s W → RI B1 xB O s (W.putObj l o') :=
  fun _ W l o o' hl ho hc ⟨⟨v, h1, h2⟩, h3, h4⟩ => ⟨⟨v, (mut_put (Nat.zero_le _) ho hc o').keepc h1 (by decide), own_mut h2 (mut_put (Nat.zero_le _) ho hc o') (by decide)⟩, h.put W l o o' hl ho hc h3, by simpa [World.putObj] using h4⟩

/-- One key more. -/
theorem RI_step {B1 xB : Nat} {O : World → Prop} (h : Oth B1 xB O) {pre : List Hd} {x : Hd} {W W1 W2 : World} {v v' : Value} (hB : xB < B1) (h1 : W.heap[xB]? = some (.cells #[v] 22 (0, 0))) (h3 : O W) (h4 : B1 ≤ W.heap.size) (hb : Below W.heap.size W W1) (m : Mut B1 [9] W1 W2) (o : W2.ownsRow B1 9 1 v' (pre.length + 1) ((pre.map fun x => .string x.1) ++ [.string x.1])) :
    RI B1 xB O (pre ++ [x]) (W2.setCell ⟨xB, 0, none⟩ v') := by
  have h12 := m.keepB (heap_below h1 hb (blk_lt h1)) hB
  refine ⟨⟨v', heap_set h12 0 v', ?_⟩, h.set W2 v' v (h.row W1 W2 (h.bel W W1 h3 hb) m) h12, ?_⟩
  · have e : pre.length + 1 = (pre ++ [x]).length := by simp
    rw [← e, List.map_append]
    have m2 : Mut 0 [22] W2 (W2.setCell ⟨xB, 0, none⟩ v') := (Mut.refl 0 [22] W2).setCell (p := ⟨xB, 0, none⟩) h12 (by simp) (Nat.zero_le _) _
    exact own_mut o m2 (by decide)
  · have := hb.size; have := m.size
    simp [World.setCell]; omega

/-- What else stands: the tree; what was there; and whatever of its own kind. -/
theorem oth_of {B1 xB B T p : Nat} {w : World} {r : PS} {ls ps : List Pg} {R h : Nat} {S : List Nat} {C : KV} (hw : w.heap.size ≤ B1) (hx : w.heap.size ≤ xB) (E : World → Prop)
    (hE1 : ∀ A B, E A → Below A.heap.size A B → E B) (hE2 : ∀ W W' L, E W → Mut B1 L W W' → E W') (hE3 : ∀ W u v, E W → W.heap[xB]? = some (.cells #[v] 22 (0, 0)) → E (W.setCell ⟨xB, 0, none⟩ u)) :
    Oth B1 xB (fun W => TreeAt B W T p r ls ps R h S C ∧ Below w.heap.size w W ∧ E W) :=
  ⟨fun A B' ⟨h1, h2, h3⟩ hb => ⟨h1.bel hb, h2.trans (hb.mono h2.size), hE1 A B' h3 hb⟩,
   fun W l o o' hl ho hc ⟨h1, h2, h3⟩ => ⟨h1.mut (mut_put (Nat.zero_le _) ho hc o') (by decide) (by decide) (by decide) (by decide), bel_put h2 (by omega) ho hc o' (Nat.le_refl _), hE2 _ _ _ h3 (mut_put hl ho hc o')⟩,
   fun W W' ⟨h1, h2, h3⟩ m => ⟨h1.mut m (by decide) (by decide) (by decide) (by decide), ⟨m.os.trans h2.os, m.tape.trans h2.tape, m.output.trans h2.output, Nat.le_trans h2.size m.size, fun k hk => by
      have hlt : k < W.heap.size := Nat.lt_of_lt_of_le hk h2.size
      rw [m.block k _ (Array.getElem?_eq_getElem hlt) (.inl (by omega)), ← Array.getElem?_eq_getElem hlt]
      exact h2.block k hk⟩, hE2 _ _ _ h3 m⟩,
   fun W u v ⟨h1, h2, h3⟩ hb => ⟨h1.mut ((Mut.refl 0 [22] W).setCell (p := ⟨xB, 0, none⟩) hb (by simp) (Nat.zero_le _) u) (by decide) (by decide) (by decide) (by decide), h2.setCell (p := ⟨xB, 0, none⟩) hx u, hE3 W u v h3 hb⟩⟩

theorem stp_len {L : KV} {pre : List Hd} {x : Hd} {W : World} (h : stpHd L pre x W) : pre.length + 1 ≤ L.length := by
  have := h.2.length_le
  simpa [kvh] using this

theorem byt_new (W : World) (v : Int) (h0 : 0 ≤ v) (h1 : v < 256) : Byt (W.alloc (.cells #[.int .u8 v] 5)) (.slice (some ⟨W.heap.size, 0, none⟩) 1 1) [v.toNat.toUInt8] := by
  have h := byt_one W v.toNat.toUInt8
  have e : ((v.toNat.toUInt8.toNat : Nat) : Int) = v := by
    rw [Nat.toUInt8_eq, UInt8.toNat_ofNat']; omega
  rw [e] at h
  exact h

/-- A row of keys that lies below B1, held by the variable at aB; and a record of deferred calls. -/
def AllR (B1 aB D : Nat) (va : Value) (A1 : Option Addr) (K : List ByteArray) (W : World) : Prop :=
  W.heap[aB]? = some (.cells #[va] 22 (0, 0)) ∧ W.heap[D]? = some (.deferred (some [])) ∧ D < B1 ∧ aB < B1 ∧
    (K = [] ∨ ∃ b off cells fr, A1 = some ⟨b, off, none⟩ ∧ b < B1 ∧ W.heap[b]? = some (.cells cells 9 fr) ∧ ∀ i (h : i < K.length), cells[off + i]? = some (.string K[i]))

theorem AllR.mut {B1 aB D : Nat} {va : Value} {A1 : Option Addr} {K : List ByteArray} {W W' : World} {L : List Nat} (h : AllR B1 aB D va A1 K W) (m : Mut B1 L W W') : AllR B1 aB D va A1 K W' := by
  obtain ⟨h1, h2, h3, h4, h5⟩ := h
  refine ⟨m.keepB h1 h4, m.keepB h2 h3, h3, h4, h5.imp id ?_⟩
  rintro ⟨b, off, cells, fr, e1, e2, e3, e4⟩
  exact ⟨b, off, cells, fr, e1, e2, m.keepB e3 e2, e4⟩
theorem AllR.bel {B1 aB D : Nat} {va : Value} {A1 : Option Addr} {K : List ByteArray} {W W' : World} (h : AllR B1 aB D va A1 K W) (hb : Below W.heap.size W W') : AllR B1 aB D va A1 K W' := h.mut (.of_below hb B1 [])
theorem AllR.far {B1 aB D xB : Nat} {va v : Value} {A1 : Option Addr} {K : List ByteArray} {W : World} (h : AllR B1 aB D va A1 K W) (hne : aB ≠ xB) (hx : W.heap[xB]? = some (.cells #[v] 22 (0, 0))) (u : Value) : AllR B1 aB D va A1 K (W.setCell ⟨xB, 0, none⟩ u) := by
  obtain ⟨h1, h2, h3, h4, h5⟩ := h
  refine ⟨heap_far h1 hne u, heap_far h2 (ne_of_kind h2 hx (by simp [oty])) u, h3, h4, h5.imp id ?_⟩
  rintro ⟨b, off, cells, fr, e1, e2, e3, e4⟩
  exact ⟨b, off, cells, fr, e1, e2, heap_far e3 (ne_of_kind e3 hx (by simp [oty])) u, e4⟩

theorem keys_row {W : World} {B0 : Nat} {va : Value} {xs : List Hd} {C : KV} (hS : kvh xs = C) (h : W.ownsRow B0 9 1 va xs.length (xs.map fun x => .string x.1)) :
    ∃ A1 a1, va = .slice A1 C.length a1 ∧ C.length ≤ a1 ∧ a1 ≤ maxLen ∧ Rd 9 Value.string W A1 (C.map (·.1)) := by
  have e : (xs.map fun x => Value.string x.1) = (C.map (·.1)).map .string := by rw [← hS]; simp [kvh]
  rw [e] at h
  have hl : xs.length = C.length := by rw [← hS]; simp [kvh]
  rw [hl] at h
  obtain ⟨A1, a1, h1, h2, h3, -, -, h5⟩ := Rd.of_own h
  exact ⟨A1, a1, h1, h2, h3, h5⟩

theorem allR_of {W : World} {B1 aB D : Nat} {va : Value} {A1 : Option Addr} {K : List ByteArray} (h1 : W.heap[aB]? = some (.cells #[va] 22 (0, 0))) (h2 : W.heap[D]? = some (.deferred (some []))) (hrd : Rd 9 Value.string W A1 K) (hB : W.heap.size ≤ B1) : AllR B1 aB D va A1 K W := by
  refine ⟨h1, h2, Nat.lt_of_lt_of_le (blk_lt h2) hB, Nat.lt_of_lt_of_le (blk_lt h1) hB, ?_⟩
  rcases hrd with h | ⟨b, off, cells, fr, e1, e3, e4⟩
  · exact .inl h
  · exact .inr ⟨b, off, cells, fr, e1, Nat.lt_of_lt_of_le (blk_lt e3) hB, e3, e4⟩

theorem AllR.rd {B1 aB D : Nat} {va : Value} {A1 : Option Addr} {K : List ByteArray} {W : World} (h : AllR B1 aB D va A1 K W) : Rd 9 Value.string W A1 K := by
  obtain ⟨_, _, _, _, h5⟩ := h
  rcases h5 with h | ⟨b, off, cells, fr, e1, _, e3, e4⟩
  · exact .inl h
  · exact .inr ⟨b, off, cells, fr, e1, e3, e4⟩
end Go.Proofs.YtpfjhehjmhkbpaaGreatDoor
