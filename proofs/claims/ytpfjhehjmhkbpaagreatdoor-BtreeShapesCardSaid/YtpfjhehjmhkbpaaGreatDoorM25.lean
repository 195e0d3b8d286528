/- known: two keys in order. A loop over a tree's keys that collects them; plain parts and laws. -/
import Derived.Test.YtpfjhehjmhkbpaaGreatDoorM21
import Derived.Test.YtpfjhehjmhkbpaaGreatDoorM22
import Derived.Test.YtpfjhehjmhkbpaaGreatDoorM24
namespace Go.Proofs.YtpfjhehjmhkbpaaGreatDoor
open Go.RowKit
attribute [local go_sem] Oper.semAt_some

def joined (L : KV) : ByteArray := L.foldl (fun s p => s ++ p.1 ++ ⟨p.2.toArray⟩) ⟨#[]⟩
theorem joined_snoc (L : KV) (p : ByteArray × List UInt8) : joined (L ++ [p]) = joined L ++ p.1 ++ ⟨p.2.toArray⟩ := by simp [joined]

def kA : ByteArray := ⟨#[97]⟩
def kB : ByteArray := ⟨#[98]⟩
/-- What known's tree holds. -/
def C4 : KV := [(⟨#[97]⟩, [1]), (⟨#[98]⟩, [2])]
theorem ab_lt : blt ⟨#[97]⟩ ⟨#[98]⟩ = true := by decide +kernel
theorem ba_lt : blt ⟨#[98]⟩ ⟨#[97]⟩ = false := by decide +kernel
theorem hC4 : insKV (insKV [] ⟨#[98]⟩ [2]) ⟨#[97]⟩ [1] = C4 := by simp [insKV, ab_lt, ba_lt, C4]
theorem blt_nil (a : ByteArray) : blt a ⟨#[]⟩ = false := by
  have h : (⟨#[]⟩ : ByteArray).toList = [] := by decide +kernel
  unfold blt
  rw [h]
  cases a.toList <;> rfl
theorem from_nil (C : KV) : fromKV C ⟨#[]⟩ = C := List.filter_eq_self.2 fun p _ => by simp [blt_nil]
theorem joined4 : joined C4 = ⟨#[97, 1, 98, 2]⟩ := by decide +kernel
theorem get4 : getKV C4 ⟨#[98]⟩ = some [2] := by decide +kernel
theorem del4 : (delKV C4 ⟨#[98]⟩).length = 1 := by decide +kernel

theorem byt_one (W : World) (b : UInt8) : Byt (W.alloc (.cells #[.int .u8 (b.toNat : Int)] 5)) (.slice (some ⟨W.heap.size, 0, none⟩) 1 1) [b] :=
  ⟨_, 1, rfl, Nat.le_refl _, by simp [maxLen], fun h => by (cases h), .inr ⟨W.heap.size, 0, _, (0, 0), rfl, heap_new W _, fun i hi => by
    have : i = 0 := by simpa using hi
    subst this; rfl⟩⟩

theorem tree1 [Mode] {B : Nat} {w : World} {T p : Nat} {r : PS} {ls ps : List Pg} {R : Nat} {S : List Nat} {C : KV} (t : TreeAt B w T p r ls ps R 1 S C) : ∃ n, R = n + 1 ∧ Sub ps 0 n none none C S := by
  rcases t.tree with ⟨_, h, _⟩ | ⟨n, g, hR, hg, hs⟩
  · omega
  · have : g = 0 := by omega
    subst this
    exact ⟨n, hR, hs⟩

theorem TreeAt.bel [Mode] {B : Nat} {w w' : World} {T p : Nat} {r : PS} {ls ps : List Pg} {R h : Nat} {S : List Nat} {C : KV} (t : TreeAt B w T p r ls ps R h S C) (hb : Below w.heap.size w w') : TreeAt B w' T p r ls ps R h S C := t.mut (.of_below hb 0 []) (by simp) (by simp) (by simp) (by simp)

theorem bel_mut {n B : Nat} {L : List Nat} {w W W' : World} (h : Below n w W) (hn : n ≤ B) (hB : B ≤ W.heap.size) (m : Mut B L W W') : Below n w W' := h.trans ((m.below hB).mono hn)

theorem first_room {x : Nat} (h : room [] ≤ x + (manyOf (ByteArray.size ⟨#[98]⟩) ([2] : List UInt8).length + 0 + 2)) : 16382 ≤ x := by
  have e1 : room [] = 16384 := rfl
  have e2 : manyOf (ByteArray.size ⟨#[98]⟩) ([2] : List UInt8).length = 0 := rfl
  omega

/-- Behind some rounds of known's loop. -/
def KI [Mode] (wS : World) (sB B T p : Nat) (r : PS) (ls ps : List Pg) (R h : Nat) (S : List Nat) (C : KV) (pre : List Hd) (W : World) : Prop :=
  W.heap[sB]? = some (.cells #[.string (joined (kvh pre))] 9 (0, 0)) ∧ TreeAt B W T p r ls ps R h S C ∧ Below wS.heap.size wS W

theorem KI_below [Mode] (wS : World) (sB B T p : Nat) (r : PS) (ls ps : List Pg) (R h : Nat) (S : List Nat) (C : KV) : ∀ s A B', KI wS sB B T p r ls ps R h S C s A → Below A.heap.size A B' → KI wS sB B T p r ls ps R h S C s B' :=
  fun _s _A _B' ⟨h1, h2, h3⟩ hb => ⟨heap_below h1 hb (blk_lt h1), h2.bel hb, h3.trans (hb.mono h3.size)⟩
theorem KI_put [Mode] {wS w0 : World} {sB B T p : Nat} {r : PS} {ls ps : List Pg} {R h : Nat} {S : List Nat} {C : KV} (hs : wS.heap.size ≤ w0.heap.size) : ∀ s W l o o', w0.heap.size ≤ l → W.heap[l]? = some o → o.isCells = false → KI wS sB B T p r ls ps R h S C s W → KI wS sB B T p r ls ps R h S C s (W.putObj l o') :=
  fun s W l o o' hl ho hc ⟨h1, h2, h3⟩ => ⟨(mut_put (Nat.zero_le _) ho hc o').keepc h1 (by decide), h2.mut (mut_put (Nat.zero_le _) ho hc o') (by decide) (by decide) (by decide) (by decide), bel_put h3 (by omega) ho hc o' (Nat.le_refl _)⟩

theorem step4 {pre : List Hd} {x : Hd} (h : kvh (pre ++ [x]) <+: C4) : (joined (kvh pre)).size ≤ 2 ∧ x.1.size ≤ 1 ∧ x.2.2.length ≤ 1 := by
  have hl := h.length_le
  simp only [kvh, List.length_map, List.length_append, List.length_cons, List.length_nil, C4] at hl
  match pre, hl with
  | [], _ =>
    simp only [kvh, List.nil_append, List.map_cons, List.map_nil, C4, List.cons_prefix_cons, Prod.mk.injEq] at h
    obtain ⟨⟨h1, h2⟩, _⟩ := h
    rw [h1, h2]
    exact ⟨by decide, by decide, by decide⟩
  | [y], _ =>
    simp only [kvh, List.cons_append, List.nil_append, List.map_cons, List.map_nil, C4, List.cons_prefix_cons, Prod.mk.injEq] at h
    obtain ⟨⟨g1, g2⟩, ⟨h1, h2⟩, _⟩ := h
    rw [h1, h2]
    refine ⟨?_, by decide, by decide⟩
    simp only [kvh, List.map_cons, List.map_nil, g1, g2]
    decide

/-- Keys and values of any size. -/
abbrev longMode : Mode := ⟨false⟩
theorem long_not {P : Prop} (h : @Mode.short longMode = true) : P := by
  have h' : false = true := h
  cases h'
attribute [local instance] longMode

set_option maxRecDepth 4000 in
set_option maxHeartbeats 2000000 in
theorem known_any (w : World) : Calls Tryz.prog 10 #[] w fun e w' => e = .returned (.bool true) ∧ Below w.heap.size w w' := by
  have hN := new_any 1048576 w (by omega) (by omega)
  have mixed : Tryz.prog.follows .mixedOrders = true := by kernel_rfl
  refine calls_marks Tryz.func10 rfl ?_
  simp only [Tryz.ntmps10, List.size_toArray, List.length_nil, Nat.reduceSub, Array.replicate_succ, Array.replicate_zero, List.push_toArray, List.append_toArray, List.nil_append, List.cons_append]
  go_wp2_with (first
    | (go_at_call 11; refine hN.mono ?_; rintro e w1 ⟨F, rfl, hF, b1⟩; have hFH := Lib.hid hF; clear hF)
    | (go_at_call 12; refine (topen _ F 1048576 _ _ (by decide) (by decide) hFH.out).mono ?_; rintro e w2 ⟨T, p, r, rfl, t2, b2⟩; have t2H := Lib.hid t2; clear t2; have hsz := b1.size)
    | (go_at_call 13; refine (tput_one w1.heap.size _ T p n3 0 r [] ps3 S3 _ _ _ [1] (by exact t3H.out.1.mut (by repeat (first | exact Mut.refl 0 [] _ | apply Mut.drew | apply Mut.alloc)) (by simp) (by simp) (by simp) (by simp)) t3H.out.2 rfl (by decide) (by intro q hq; simp [insKV] at hq; subst hq; decide) (by exact byt_one _ 1) (by decide) (by decide) (by decide) (by have := hr3.out; exact Nat.le_trans (by decide) this) (by have := m3.size; have := b2.size; simp at *; omega) long_not).mono ?_; rintro e w4 ⟨rfl, ⟨ps4, S4, t4, hr4⟩, m4⟩; rw [hC4] at t4; have t4H := Lib.hid t4; clear t4)
    | (go_at_call 13; refine (tput_first w1.heap.size _ T p r [] [] 0 [] [] _ _ [2] (by exact t2H.out.mut (by repeat (first | exact Mut.refl 0 [] _ | apply Mut.drew | apply Mut.alloc)) (by simp) (by simp) (by simp) (by simp)) (by exact byt_one _ 2) (by decide) (by decide) (by decide) (by decide) (by have := b2.size; simp; omega) long_not).mono ?_; rintro e w3 ⟨rfl, ⟨ps3, R3, S3, t3, hr3⟩, m3⟩; obtain ⟨n3, rfl, hs3⟩ := tree1 t3; have t3H := Lib.hid (And.intro t3 hs3); clear t3 hs3; have hr3 : Hid (16382 ≤ room ps3) := first_room hr3)
    | (go_at_call 14; refine (range_make _ _ _ ⟨T, rfl⟩).mono ?_; rintro e w6 ⟨q1, q2, rfl, hq1, hq2, b6⟩))
  have bw6 : Below w.heap.size w w6 ∧ w.heap.size ≤ w4.heap.size := by
    have x2 : Below w.heap.size w w2 := bel_then b1 hsz b2
    have x3 : Below w.heap.size w w3 := bel_mut (x2.alloc x2.size _) hsz (by have := b2.size; simp; omega) m3
    have x4 : Below w.heap.size w w4 := bel_mut (x3.alloc x3.size _) hsz (by have := b2.size; have := m3.size; simp at *; omega) m4
    exact ⟨bel_then (x4.alloc x4.size _) (by have := x4.size; simp; omega) b6, x4.size⟩
  obtain ⟨bw6, hsB⟩ := bw6
  have t6 := ((t4H.out.mut ((Mut.refl 0 [] w4).alloc (.cells #[.string ⟨#[]⟩] 9)) (by simp) (by simp) (by simp) (by simp))).bel b6
  have hs6 := heap_below (heap_new w4 (.cells #[.string ⟨#[]⟩] 9)) b6 (by simp)
  have hgv := tgives w1.heap.size w6 T p q1 q2 r [] ps4 _ _ S4 C4 ⟨#[]⟩ t6 (by decide) hq1 hq2
  rw [from_nil] at hgv
  have hH := Lib.hid (And.intro bw6 (And.intro t6 (And.intro hs6 hgv)))
  clear bw6 t6 hs6 hgv t4H t3H t2H hr3 hr4 hN hFH m3 m4 b6 hq1 hq2 b1 b2
  generalize w4.heap.size = sB at *
  apply over_law (gf := 46) (lb := #[.pointer (some ⟨q1, 0, none⟩), .pointer (some ⟨q2, 0, none⟩)]) (encs := encHd) (X := stpHd C4) (S := fun xs => kvh xs = C4) rfl (enters_of Tryz.func46 (by kernel_rfl) rfl) hH.out.2.2.2 (fun x => rfl)
    (KI w sB w1.heap.size T p r [] ps4 (n3 + 1) 1 S4 C4) (KI_below w sB w1.heap.size T p r [] ps4 (n3 + 1) 1 S4 C4) (KI_put hH.out.1.size) (fun pre x W l o o' ho hc hx => ⟨hx.1.mut (mut_put (Nat.zero_le _) ho hc o') (by decide), hx.2⟩) ⟨hH.out.2.2.1, hH.out.2.1, hH.out.1⟩
  case hassign =>
    intro l x W K hK
    simp [encHd]
    gi_wp2
    exact hK
  case hbody =>
    rintro l pre ⟨k, v, bl⟩ W ⟨i1, i2, i3⟩ ⟨x1, x2⟩
    obtain ⟨z1, z2, z3⟩ := step4 x2
    have hj := Lib.hid (joined_snoc (kvh pre) (k, bl))
    have hcv := run_conv_byt x1
    have c1 : W.cell? ⟨sB, 0, none⟩ = some (.string (joined (kvh pre))) := by rw [cell_of i1]; rfl
    have f1 := unfrozen_of i1 0
    have H := Lib.hid (And.intro i1 (And.intro i2 i3))
    clear i1 i2 i3 x1 x2
    dsimp only at z2 z3 hcv ⊢
    generalize joined (kvh pre) = s at *
    gi_wp2
    obtain ⟨i1, i2, i3⟩ := H.out
    have hsl := blk_lt hH.out.2.2.1
    refine ⟨Stays.far hsl _, ?_, i2.mut ((Mut.refl 0 [9] W).setCell (p := ⟨sB, 0, none⟩) i1 (by simp) (Nat.zero_le _) _) (by decide) (by decide) (by decide) (by decide), i3.setCell (p := ⟨sB, 0, none⟩) hsB _⟩
    have e : kvh (pre ++ [(k, v, bl)]) = kvh pre ++ [(k, bl)] := by simp [kvh]
    rw [e, hj.out]
    exact heap_set i1 0 _
  case hdone =>
    rintro D xs W hD hS ⟨i1, i2, i3⟩ hK
    have c1 : W.cell? ⟨sB, 0, none⟩ = some (.string ⟨#[97, 1, 98, 2]⟩) := by rw [cell_of i1, hS, joined4]; rfl
    obtain ⟨nn, hnn, hs0⟩ := tree1 i2
    have hnn' : n3 = nn := by omega
    subst hnn'
    have hdl := tdel_one w1.heap.size W T p n3 r [] ps4 S4 C4 ⟨#[98]⟩ [2] i2 hs0 (by decide) (by decide) get4 (by decide) (by have := i2.base; have := blk_lt i2.at_; omega) (by decide) rfl
    have i3H := Lib.hid (And.intro i3 (And.intro hD (And.intro hK (blk_lt i2.at_))))
    have hbase := Lib.hid i2.base
    clear i1 i2 i3 hS hK hs0 hnn
    go_wp2_with (first
      | (go_at_call 19; refine hdl.mono ?_; rintro e w7 ⟨rfl, ⟨ps7, S7, t7⟩, m7⟩)
      | (go_at_call 15; refine (tlen w7 T p _ _ false t7.at_).mono ?_; rintro e w' ⟨rfl, rfl⟩; rw [del4]))
    obtain ⟨i3, hD, hK, hTl⟩ := i3H.out
    have hK7 := m7.keep hK (by decide)
    refine ⟨by simp, .inl ⟨_, _, rfl, run_takeDeferred hK7, ?_⟩⟩
    refine ⟨_, results_tmp rfl _ _ _, rfl, ?_⟩
    exact bel_put (bel_mut i3 hsz (by have := hbase.out; omega) m7) (by have := hH.out.1.size; omega) hK7 rfl _ (Nat.le_refl _)
end Go.Proofs.YtpfjhehjmhkbpaaGreatDoor

namespace Go.Proofs.YtpfjhehjmhkbpaaGreatDoor
open Go.RowKit

theorem insKV_le (C : KV) (key : ByteArray) (b : List UInt8) (h : Rises (C.map (·.1))) : (insKV C key b).length ≤ C.length + 1 := by
  rw [insKV_take h]
  have h1 : below (C.map (·.1)) key ≤ kidIdx (C.map (·.1)) key := by
    rw [kidIdx_eq h]; omega
  simp only [List.length_append, List.length_take, List.length_cons, List.length_drop]
  omega

/-- An append inside a round. -/
theorem wpListIn_app {F : Fence} {m0 : Nat} {P : Program} {ops : Array Oper} {rest : List Oper} {o : Oper} {a : Act} {Q : Exit → Act → World → Prop} {w : World} (hgd : o.guard = none) (s x : Operand) (t : TypeId) (ho : o.op = .call { callee := .builtin .append, args := #[s, x], argTypes := #[t, t] })
    (base : Nat) (e : TypeId) (z : Value) (size bytes : Nat) (ht : P.underlying t = some (.slice e)) (hinfo : (P.info? e).map (fun i => (i.zero, i.size, i.bytes)) = some (some z, size, bytes))
    (hzs : z.cells.size = size) (hsz : 0 < size) (v : Value) (n : Nat) (xs : List Value) (hs : a.eval s = v) (hown : w.ownsRow base e size v n xs)
    (A : Option Addr) (m c : Nat) (news : List Value) (hx : a.eval x = .slice A m c) (hl : news.length = m * size) (hat : At w A news) (hA : A = none → c = 0) (h1 : ∀ u ∈ news, u.oneCell' = true)
    (h63 : n + m ≤ maxLen) (hbytes : (n + m) * bytes ≤ 140737488355328) (hbase : base ≤ w.heap.size)
    (h : ∀ v' w', w'.ownsRow base e size v' (n + m) (xs ++ news) → Mut base [e] w w' → wpListIn F m0 P ops Q rest (a.put o.dst v') w') : wpListIn F m0 P ops Q (o :: rest) a w := by
  refine wpListIn_plain hgd fun K hK' => ?_
  obtain ⟨v', w', hrun, h2, h3, _⟩ := run_app (P := P) (w := w) base t o.type e z size bytes ht hinfo hzs hsz v n xs hown A m c news hl hat hA h1 h63 hbytes hbase
  unfold Oper.wpIn
  refine ⟨?_, ?_⟩
  · simp [Oper.about, ho, resolve, Target.leads, Sem.run_pure]
  · rw [Oper.semAt_plain F _ _ (by rw [ho]; intro c hc'; cases hc')]
    simp [execOp, ho, resolve, invoke, builtin, hs, hx, hrun, Result.andThen]
    exact hK' _ _ (h v' w' h2 h3)

/-- What else stands while keys are collected in the variable at xB, in rows from B1 on. -/
structure Oth (B1 xB : Nat) (O : World → Prop) : Prop where
  bel : ∀ A B, O A → Below A.heap.size A B → O B
  put : ∀ W l o o', B1 ≤ l → W.heap[l]? = some o → o.isCells = false → O W → O (W.putObj l o')
  row : ∀ W W', O W → Mut B1 [9] W W' → O W'
  set : ∀ W u v, O W → W.heap[xB]? = some (.cells #[v] 22 (0, 0)) → O (W.setCell ⟨xB, 0, none⟩ u)

/-- Behind some rounds: the keys that came stand in the row. -/
def RI (B1 xB : Nat) (O : World → Prop) (pre : List Hd) (W : World) : Prop :=
  (∃ v, W.heap[xB]? = some (.cells #[v] 22 (0, 0)) ∧ W.ownsRow B1 9 1 v pre.length (pre.map fun x => .string x.1)) ∧ O W ∧ B1 ≤ W.heap.size

theorem RI_below {B1 xB : Nat} {O : World → Prop} (h : Oth B1 xB O) : ∀ s A B, RI B1 xB O s A → Below A.heap.size A B → RI B1 xB O s B :=
  fun _ A B ⟨⟨v, h1, h2⟩, h3, h4⟩ hb => ⟨⟨v, heap_below h1 hb (blk_lt h1), own_below h2 hb⟩, h.bel A B h3 hb, Nat.le_trans h4 hb.size⟩
theorem RI_put {B1 xB : Nat} {O : World → Prop} (h : Oth B1 xB O) : ∀ s W l o o', B1 ≤ l → W.heap[l]? = some o → o.isCells = false → RI B1 xB O s W → RI B1 xB O s (W.putObj l o') :=
  fun _ W l o o' hl ho hc ⟨⟨v, h1, h2⟩, h3, h4⟩ => ⟨⟨v, (mut_put (Nat.zero_le _) ho hc o').keepc h1 (by decide), own_mut h2 (mut_put (Nat.zero_le _) ho hc o') (by decide)⟩, h.put W l o o' hl ho hc h3, by simpa [World.putObj] using h4⟩

/-- One key more. -/
theorem RI_step {B1 xB : Nat} {O : World → Prop} (h : Oth B1 xB O) {pre : List Hd} {x : Hd} {W W1 W2 : World} {v v' : Value} (hB : xB < B1) (h1 : W.heap[xB]? = some (.cells #[v] 22 (0, 0))) (h3 : O W) (h4 : B1 ≤ W.heap.size) (hb : Below W.heap.size W W1) (m : Mut B1 [9] W1 W2) (o : W2.ownsRow B1 9 1 v' (pre.length + 1) ((pre.map fun x => .string x.1) ++ [.string x.1])) :
    RI B1 xB O (pre ++ [x]) (W2.setCell ⟨xB, 0, none⟩ v') := by
  have h12 := m.keepB (heap_below h1 hb (blk_lt h1)) hB
  refine ⟨⟨v', heap_set h12 0 v', ?_⟩, h.set W2 v' v (h.row W1 W2 (h.bel W W1 h3 hb) m) h12, ?_⟩
  · have e : pre.length + 1 = (pre ++ [x]).length := by simp
    rw [← e, List.map_append]
    have m2 : Mut 0 [22] W2 (W2.setCell ⟨xB, 0, none⟩ v') := (Mut.refl 0 [22] W2).setCell (p := ⟨xB, 0, none⟩) h12 (by simp) (Nat.zero_le _) _
    exact own_mut o m2 (by decide)
  · have := hb.size; have := m.size
    simp [World.setCell]; omega

/-- What else stands: the tree; what was there; and whatever of its own kind. -/
theorem oth_of [Mode] {B1 xB B T p : Nat} {w : World} {r : PS} {ls ps : List Pg} {R h : Nat} {S : List Nat} {C : KV} (hw : w.heap.size ≤ B1) (hx : w.heap.size ≤ xB) (E : World → Prop)
    (hE1 : ∀ A B, E A → Below A.heap.size A B → E B) (hE2 : ∀ W W' L, E W → Mut B1 L W W' → E W') (hE3 : ∀ W u v, E W → W.heap[xB]? = some (.cells #[v] 22 (0, 0)) → E (W.setCell ⟨xB, 0, none⟩ u)) :
    Oth B1 xB (fun W => TreeAt B W T p r ls ps R h S C ∧ Below w.heap.size w W ∧ E W) :=
  ⟨fun A B' ⟨h1, h2, h3⟩ hb => ⟨h1.bel hb, h2.trans (hb.mono h2.size), hE1 A B' h3 hb⟩,
   fun W l o o' hl ho hc ⟨h1, h2, h3⟩ => ⟨h1.mut (mut_put (Nat.zero_le _) ho hc o') (by decide) (by decide) (by decide) (by decide), bel_put h2 (by omega) ho hc o' (Nat.le_refl _), hE2 _ _ _ h3 (mut_put hl ho hc o')⟩,
   fun W W' ⟨h1, h2, h3⟩ m => ⟨h1.mut m (by decide) (by decide) (by decide) (by decide), ⟨m.os.trans h2.os, m.tape.trans h2.tape, m.output.trans h2.output, Nat.le_trans h2.size m.size, fun k hk => by
      have hlt : k < W.heap.size := Nat.lt_of_lt_of_le hk h2.size
      rw [m.block k _ (Array.getElem?_eq_getElem hlt) (.inl (by omega)), ← Array.getElem?_eq_getElem hlt]
      exact h2.block k hk⟩, hE2 _ _ _ h3 m⟩,
   fun W u v ⟨h1, h2, h3⟩ hb => ⟨h1.mut ((Mut.refl 0 [22] W).setCell (p := ⟨xB, 0, none⟩) hb (by simp) (Nat.zero_le _) u) (by decide) (by decide) (by decide) (by decide), h2.setCell (p := ⟨xB, 0, none⟩) hx u, hE3 W u v h3 hb⟩⟩

theorem stp_len {L : KV} {pre : List Hd} {x : Hd} {W : World} (h : stpHd L pre x W) : pre.length + 1 ≤ L.length := by
  have := h.2.length_le
  simpa [kvh] using this

theorem byt_new (W : World) (v : Int) (h0 : 0 ≤ v) (h1 : v < 256) : Byt (W.alloc (.cells #[.int .u8 v] 5)) (.slice (some ⟨W.heap.size, 0, none⟩) 1 1) [v.toNat.toUInt8] := by
  have h := byt_one W v.toNat.toUInt8
  have e : ((v.toNat.toUInt8.toNat : Nat) : Int) = v := by
    rw [Nat.toUInt8_eq, UInt8.toNat_ofNat']; omega
  rw [e] at h
  exact h

/-- A row of keys that lies below B1, held by the variable at aB; and a record of deferred calls. -/
def AllR (B1 aB D : Nat) (va : Value) (A1 : Option Addr) (K : List ByteArray) (W : World) : Prop :=
  W.heap[aB]? = some (.cells #[va] 22 (0, 0)) ∧ W.heap[D]? = some (.deferred (some [])) ∧ D < B1 ∧ aB < B1 ∧
    (K = [] ∨ ∃ b off cells fr, A1 = some ⟨b, off, none⟩ ∧ b < B1 ∧ W.heap[b]? = some (.cells cells 9 fr) ∧ ∀ i (h : i < K.length), cells[off + i]? = some (.string K[i]))

theorem AllR.mut {B1 aB D : Nat} {va : Value} {A1 : Option Addr} {K : List ByteArray} {W W' : World} {L : List Nat} (h : AllR B1 aB D va A1 K W) (m : Mut B1 L W W') : AllR B1 aB D va A1 K W' := by
  obtain ⟨h1, h2, h3, h4, h5⟩ := h
  refine ⟨m.keepB h1 h4, m.keepB h2 h3, h3, h4, h5.imp id ?_⟩
  rintro ⟨b, off, cells, fr, e1, e2, e3, e4⟩
  exact ⟨b, off, cells, fr, e1, e2, m.keepB e3 e2, e4⟩
theorem AllR.bel {B1 aB D : Nat} {va : Value} {A1 : Option Addr} {K : List ByteArray} {W W' : World} (h : AllR B1 aB D va A1 K W) (hb : Below W.heap.size W W') : AllR B1 aB D va A1 K W' := h.mut (.of_below hb B1 [])
theorem AllR.far {B1 aB D xB : Nat} {va v : Value} {A1 : Option Addr} {K : List ByteArray} {W : World} (h : AllR B1 aB D va A1 K W) (hne : aB ≠ xB) (hx : W.heap[xB]? = some (.cells #[v] 22 (0, 0))) (u : Value) : AllR B1 aB D va A1 K (W.setCell ⟨xB, 0, none⟩ u) := by
  obtain ⟨h1, h2, h3, h4, h5⟩ := h
  refine ⟨heap_far h1 hne u, heap_far h2 (ne_of_kind h2 hx (by simp [oty])) u, h3, h4, h5.imp id ?_⟩
  rintro ⟨b, off, cells, fr, e1, e2, e3, e4⟩
  exact ⟨b, off, cells, fr, e1, e2, heap_far e3 (ne_of_kind e3 hx (by simp [oty])) u, e4⟩

theorem keys_row {W : World} {B0 : Nat} {va : Value} {xs : List Hd} {C : KV} (hS : kvh xs = C) (h : W.ownsRow B0 9 1 va xs.length (xs.map fun x => .string x.1)) :
    ∃ A1 a1, va = .slice A1 C.length a1 ∧ C.length ≤ a1 ∧ a1 ≤ maxLen ∧ Rd 9 Value.string W A1 (C.map (·.1)) := by
  have e : (xs.map fun x => Value.string x.1) = (C.map (·.1)).map .string := by rw [← hS]; simp [kvh]
  rw [e] at h
  have hl : xs.length = C.length := by rw [← hS]; simp [kvh]
  rw [hl] at h
  obtain ⟨A1, a1, h1, h2, h3, -, -, h5⟩ := Rd.of_own h
  exact ⟨A1, a1, h1, h2, h3, h5⟩

theorem allR_of {W : World} {B1 aB D : Nat} {va : Value} {A1 : Option Addr} {K : List ByteArray} (h1 : W.heap[aB]? = some (.cells #[va] 22 (0, 0))) (h2 : W.heap[D]? = some (.deferred (some []))) (hrd : Rd 9 Value.string W A1 K) (hB : W.heap.size ≤ B1) : AllR B1 aB D va A1 K W := by
  refine ⟨h1, h2, Nat.lt_of_lt_of_le (blk_lt h2) hB, Nat.lt_of_lt_of_le (blk_lt h1) hB, ?_⟩
  rcases hrd with h | ⟨b, off, cells, fr, e1, e3, e4⟩
  · exact .inl h
  · exact .inr ⟨b, off, cells, fr, e1, Nat.lt_of_lt_of_le (blk_lt e3) hB, e3, e4⟩

theorem AllR.rd {B1 aB D : Nat} {va : Value} {A1 : Option Addr} {K : List ByteArray} {W : World} (h : AllR B1 aB D va A1 K W) : Rd 9 Value.string W A1 K := by
  obtain ⟨_, _, _, _, h5⟩ := h
  rcases h5 with h | ⟨b, off, cells, fr, e1, _, e3, e4⟩
  · exact .inl h
  · exact .inr ⟨b, off, cells, fr, e1, e3, e4⟩

theorem TreeAt.rises [Mode] {B : Nat} {w : World} {T p : Nat} {r : PS} {ls ps : List Pg} {R h : Nat} {S : List Nat} {C : KV} (t : TreeAt B w T p r ls ps R h S C) : Rises (C.map (·.1)) := by
  rcases t.tree with ⟨_, _, rfl, _⟩ | ⟨n, g, _, _, hs⟩
  · simp [Rises]
  · exact (hs.span g).rises
end Go.Proofs.YtpfjhehjmhkbpaaGreatDoor
