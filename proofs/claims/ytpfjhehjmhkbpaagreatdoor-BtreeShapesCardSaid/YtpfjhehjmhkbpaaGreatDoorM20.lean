/- The whole tree: what is known of it, and Put. find, in a tree of one leaf and in any. Put that gives a key a value. -/
import Derived.Test.YtpfjhehjmhkbpaaGreatDoorM18
import Derived.Test.YtpfjhehjmhkbpaaGreatDoorM19
import Derived.Deep.LoopGhost
import Derived.Outline
namespace Go.Proofs.YtpfjhehjmhkbpaaGreatDoor
open Go.RowKit

/-- The whole tree: R: its first page's number, and one; 0: there is none. h: how deep it is. -/
structure TreeAt [Mode] (B : Nat) (w : World) (T p : Nat) (r : PS) (ls ps : List Pg) (R h : Nat) (S : List Nat) (C : KV) : Prop where
  base : B ≤ T
  at_ : TAt w T p ((R : Int) - 1) (C.length : Int) false
  pgr : Pgr B w p r ls ps
  nd : S.Nodup
  zero : 0 ∉ S
  tak : ∀ n, hasP ps n = true ↔ (n = 0 ∧ ps ≠ []) ∨ n ∈ S
  meta_ : (ps = [] ∧ R = 0) ∨ PgIs ps 0 (enc R ++ enc C.length)
  tree : (R = 0 ∧ h = 0 ∧ C = [] ∧ S = []) ∨ ∃ n g, R = n + 1 ∧ h = g + 1 ∧ Sub ps g n none none C S

theorem TreeAt.mut [Mode] {B B' : Nat} {L : List Nat} {w w' : World} {T p : Nat} {r : PS} {ls ps : List Pg} {R h : Nat} {S : List Nat} {C : KV} (t : TreeAt B w T p r ls ps R h S C) (hm : Mut B' L w w') (h80 : 80 ∉ L) (h0 : 133 ∉ L) (h1 : 147 ∉ L) (h2 : 5 ∉ L) : TreeAt B w' T p r ls ps R h S C :=
  ⟨t.base, t.at_.mut hm h80, t.pgr.mut hm h0 h1 h2, t.nd, t.zero, t.tak, t.meta_, t.tree⟩

theorem nodup_bound : ∀ (N : Nat) (S : List Nat), S.Nodup → (∀ m ∈ S, m < N) → S.length ≤ N
  | 0, S, _, h => by
    cases S with
    | nil => simp
    | cons a S => have := h a (by simp); omega
  | N + 1, S, hd, h => by
    by_cases hN : N ∈ S
    · have h1 := nodup_bound N (S.erase N) (hd.erase N) (fun m hm => by
        have h2 := (hd.mem_erase_iff).1 hm
        have := h m h2.2
        have := h2.1
        omega)
      rw [List.length_erase_of_mem hN] at h1
      omega
    · have := nodup_bound N S hd (fun m hm => by
        have h1 := h m hm
        have h2 : m ≠ N := fun e => hN (e ▸ hm)
        omega)
      omega

theorem Kids.firstS {P : SubP} {ks : List ByteArray} {lo hi ns C S} (h : Kids P lo ks hi ns C S) : ∃ n lo' hi' C' S', P n lo' hi' C' S' ∧ S'.length ≤ S.length := by
  cases ks with
  | nil => obtain ⟨n, rfl, h⟩ := h; exact ⟨n, _, _, _, _, h, Nat.le_refl _⟩
  | cons k ks => obtain ⟨n, ns', C1, C2, S1, S2, rfl, _, rfl, _, _, h, _⟩ := h; exact ⟨n, _, _, _, _, h, by simp⟩

theorem Sub.deep_le [Mode] {ps : List Pg} : ∀ (h : Nat) {n lo hi C S}, Sub ps h n lo hi C S → h + 1 ≤ S.length
  | 0, n, lo, hi, C, S, ⟨x, T, e, _⟩ => by subst e; simp
  | h + 1, n, lo, hi, C, S, ⟨x, T, e, h1, h2, h3, h4, h5⟩ => by
    subst e
    obtain ⟨m, lo', hi', C', S', hs, hl⟩ := h5.firstS
    have := Sub.deep_le h hs
    simp only [List.length_cons]; omega

theorem TreeAt.deep_le [Mode] {B : Nat} {w : World} {T p : Nat} {r : PS} {ls ps : List Pg} {R h : Nat} {S : List Nat} {C : KV} (t : TreeAt B w T p r ls ps R h S C) : h ≤ 16384 := by
  have hb := nodup_bound 16384 S t.nd (fun m hm => by
    have h1 := (t.tak m).2 (.inr hm)
    have := (hasP_some h1).choose_spec.2.2
    have := t.pgr.few
    omega)
  rcases t.tree with ⟨_, h0, _⟩ | ⟨n, g, _, hg, hs⟩
  · omega
  · have := hs.deep_le; omega

theorem TreeAt.root_le [Mode] {B : Nat} {w : World} {T p : Nat} {r : PS} {ls ps : List Pg} {R h : Nat} {S : List Nat} {C : KV} (t : TreeAt B w T p r ls ps R h S C) : R ≤ 16384 := by
  rcases t.tree with ⟨h0, _⟩ | ⟨n, g, hn, hg, hs⟩
  · omega
  · obtain ⟨T', rfl⟩ := hs.head
    have := (hasP_some (hs.pages g n (by simp))).choose_spec.2.2
    have := t.pgr.few
    omega

theorem may_any (w : World) (T p : Nat) (root cnt : Int) (hT : TAt w T p root cnt false) : Calls Tryz.prog 33 #[.pointer (some ⟨T, 0, none⟩)] w fun e w' => e = .returned (.int .i64 0) ∧ w = w' := by
  have e3 := hT.c3
  go_enter Tryz.func33, Tryz.ntmps33
  go_wp2
  go_ret
  exact ⟨rfl, rfl⟩

/-- deep of the whole tree. -/
theorem tdeep [Mode] {B : Nat} {w : World} {T p : Nat} {r : PS} {ls ps : List Pg} {R h : Nat} {S : List Nat} {C : KV} (t : TreeAt B w T p r ls ps R h S C) :
    Calls Tryz.prog 37 #[.pointer (some ⟨T, 0, none⟩)] w fun e w' => e = .returned (.int .i64 (h : Int)) ∧ Below w.heap.size w w' := by
  have hle := t.deep_le
  rcases t.tree with ⟨h0, h1, _⟩ | ⟨n, g, hn, hg, hs⟩
  · have hT := t.at_
    subst h0 h1
    refine (deep_none w T p _ false hT).mono ?_
    rintro e w' ⟨rfl, rfl⟩
    exact ⟨rfl, Below.refl _ _⟩
  · have hT := t.at_
    subst hn hg
    rw [show (((n + 1 : Nat) : Int) - 1) = (n : Int) by omega] at hT
    refine (deep_left B w T p n g _ false r ls ps hT t.pgr (hs.left g) (by omega)).mono ?_
    rintro e w' ⟨rfl, h2⟩
    exact ⟨ret_int (by omega), h2⟩

/-! ### Put that does nothing -/
set_option maxRecDepth 4000 in
set_option maxHeartbeats 400000 in
theorem tput_name (w : World) (T p : Nat) (root cnt : Int) (key : ByteArray) (v : Value) (hT : TAt w T p root cnt false) (hk : key.size = 0 ∨ 200 < key.size) :
    Calls Tryz.prog 13 #[.pointer (some ⟨T, 0, none⟩), .string key, v] w fun e w' => e = .returned (.int .i64 9) ∧ w = w' := by
  have h1 := may_any w T p root cnt hT
  have h2 := isKey_no key w hk
  clear hk
  go_enter Tryz.func13, Tryz.ntmps13
  go_wp2_with (first | (go_at_call 33; refine h1.mono ?_; rintro e w' ⟨rfl, rfl⟩) | (go_at_call 34; refine h2.mono ?_; rintro e w' ⟨rfl, rfl⟩))
  go_ret
  exact ⟨rfl, rfl⟩

set_option maxRecDepth 4000 in
set_option maxHeartbeats 400000 in
theorem tput_full [Mode] (B : Nat) (w : World) (T p : Nat) (r : PS) (ls ps : List Pg) (R h : Nat) (S : List Nat) (C : KV) (key : ByteArray) (A : Option Addr) (n c : Nat) (t : TreeAt B w T p r ls ps R h S C) (hk1 : 1 ≤ key.size) (hk2 : key.size ≤ 200) (hn : n ≤ 65536) (hf : room ps < manyOf key.size n + h + 2) :
    Calls Tryz.prog 13 #[.pointer (some ⟨T, 0, none⟩), .string key, .slice A n c] w fun e w' => e = .returned (.int .i64 6) ∧ Below w.heap.size w w' := by
  have h1 := may_any w T p _ _ t.at_
  have h2 := isKey_yes key w hk1 hk2
  have h3 := left_any B w T p r ls ps t.at_.c0 t.pgr
  have h4 := Lib.hid (fun W => many_any key A n c W (by omega) (by omega))
  have h5 := Lib.hid (fun k => tdeep (t.mut (Mut.drewN (Mut.refl 0 [] w) k) (by simp) (by simp) (by simp) (by simp)))
  have hd : h ≤ 16384 := t.deep_le
  have hro : room ps ≤ 40000 := by unfold room; have := nfree_le ps; have := t.pgr.few; omega
  have hm : manyOf key.size n ≤ 1000 := by unfold manyOf; split <;> omega
  generalize manyOf key.size n = M at *
  generalize room ps = Rm at *
  have tH := Lib.hid t
  clear t
  go_enter Tryz.func13, Tryz.ntmps13
  go_wp2_with (first | (go_at_call 33; refine h1.mono ?_; rintro e w' ⟨rfl, rfl⟩) | (go_at_call 34; refine h2.mono ?_; rintro e w' ⟨rfl, rfl⟩) | (go_at_call 35; refine h3.mono ?_; rintro e w' ⟨rfl, kd, rfl⟩) | (go_at_call 36; refine (h4.out _).mono ?_; rintro e w' ⟨rfl, rfl⟩) | (go_at_call 37; refine (h5.out kd).mono ?_; rintro e w2 ⟨rfl, b2⟩))
  go_ret
  exact ⟨rfl, bel_undrewN b2⟩
end Go.Proofs.YtpfjhehjmhkbpaaGreatDoor

namespace Go.Proofs.YtpfjhehjmhkbpaaGreatDoor
open Go.RowKit

/-- A key's value in a list. -/
def getKV (C : KV) (key : ByteArray) : Option (List UInt8) := (C.find? (fun p => decide (p.1 = key))).map (·.2)

/-- The way down to a key. -/
def Way [Mode] (ps : List Pg) (key : ByteArray) : Nat → Nd → Option (Vl × List UInt8) → Prop
  | 0, x, o => x.leaf = true ∧ Rises x.keys ∧ ((hasKey x.keys key = false ∧ o = none) ∨ ∃ v b V, hasKey x.keys key = true ∧ x.vals[below x.keys key]? = some v ∧ VlOf ps v b V ∧ o = some (v, b))
  | g + 1, x, o => x.leaf = false ∧ Rises x.keys ∧ ∃ m z, x.kids[kidIdx x.keys key]? = some m ∧ PgIs ps m z.bytes ∧ z.bytes.length ≤ 512 ∧ z.Good ∧ Way ps key g z o

theorem find_skip {Ca Ci Cb : KV} {key : ByteArray} (ha : ∀ p ∈ Ca, blt p.1 key = true) (hb : ∀ p ∈ Cb, blt key p.1 = true) : getKV (Ca ++ Ci ++ Cb) key = getKV Ci key := by
  unfold getKV
  have e1 : Ca.find? (fun p => decide (p.1 = key)) = none := List.find?_eq_none.2 fun p hp => by
    have := ha p hp
    simp only [decide_eq_true_eq]
    rintro h; rw [h, blt_irrefl] at this; cases this
  have e2 : Cb.find? (fun p => decide (p.1 = key)) = none := List.find?_eq_none.2 fun p hp => by
    have := hb p hp
    simp only [decide_eq_true_eq]
    rintro h; rw [h, blt_irrefl] at this; cases this
  rw [List.find?_append, List.find?_append, e1, e2]
  simp

theorem Vals.get {ps : List Pg} {vs : List Vl} : ∀ {bs : List (List UInt8)} {S : List Nat}, Vals ps vs bs S → ∀ {i : Nat} {v : Vl}, vs[i]? = some v → ∃ b V, bs[i]? = some b ∧ VlOf ps v b V ∧ ∀ m ∈ V, m ∈ S := by
  induction vs with
  | nil => intro bs S _ i v hv; simp at hv
  | cons u vs ih =>
    rintro bs S ⟨b, bs', S1, S2, rfl, rfl, h1, h2⟩ i v hv
    cases i with
    | zero =>
      simp only [List.getElem?_cons_zero, Option.some.injEq] at hv
      subst hv
      exact ⟨b, S1, rfl, h1, fun m hm => by simp [hm]⟩
    | succ i =>
      obtain ⟨b2, V, g1, g2, g3⟩ := ih h2 (by simpa using hv)
      exact ⟨b2, V, by simpa using g1, g2, fun m hm => by simp [g3 m hm]⟩

/-- The pair that stands at a key's place. -/
theorem getKV_at {C : KV} {key : ByteArray} {b : List UInt8} (hr : Rises (C.map (·.1))) {i : Nat} (hi : C[i]? = some (key, b)) : getKV C key = some b := by
  obtain ⟨hlt, he⟩ := List.getElem?_eq_some_iff.1 hi
  have e : C = C.take i ++ [(key, b)] ++ C.drop (i + 1) := by
    conv => lhs; rw [← List.take_append_drop i C, List.drop_eq_getElem_cons hlt, he]
    simp
  rw [e, find_skip]
  · simp [getKV]
  · intro p hp
    obtain ⟨j, hj, rfl⟩ := List.getElem_of_mem hp
    simp only [List.length_take] at hj
    rw [List.getElem_take]
    have := hr.get_lt (i := j) (j := i) (by omega) (by simpa using hlt)
    simpa [he] using this
  · intro p hp
    obtain ⟨j, hj, rfl⟩ := List.getElem_of_mem hp
    simp only [List.length_drop] at hj
    rw [List.getElem_drop]
    have := hr.get_lt (i := i) (j := i + 1 + j) (by omega) (by simp; omega)
    simpa [he] using this

theorem Body.way [Mode] {ps : List Pg} {key : ByteArray} : ∀ (h : Nat) {x : Nd} {lo hi C T}, Body ps h x lo hi C T → leO lo key → ltO key hi → ∃ o, Way ps key h x o ∧ o.map (·.2) = getKV C key
  | 0, x, lo, hi, C, T, hb, hlo, hhi => by
    have hb : LeafIs ps x lo hi C T := hb
    cases hk : hasKey x.keys key
    · refine ⟨none, ⟨hb.leaf, hb.rises, .inl ⟨hk, rfl⟩⟩, ?_⟩
      have : C.find? (fun p => decide (p.1 = key)) = none := List.find?_eq_none.2 fun p hp => by
        simp only [decide_eq_true_eq]
        intro e
        have hm : key ∈ x.keys := by rw [hb.keys]; exact List.mem_map.2 ⟨p, hp, e⟩
        obtain ⟨j, hj, hjk⟩ := List.getElem_of_mem hm
        obtain ⟨b1, b2⟩ := below_spec hb.rises key
        have h1 : ¬ j < below x.keys key := fun h => by have := b1 j hj h; rw [hjk, blt_irrefl] at this; cases this
        have h2 : j = below x.keys key := by
          by_cases h3 : below x.keys key < j
          · have := hb.rises.get_lt h3 hj
            rw [hjk] at this
            have h4 := b2 (below x.keys key) (by omega) (Nat.le_refl _)
            rw [this] at h4; cases h4
          · omega
        unfold hasKey at hk
        rw [← h2, List.getElem?_eq_getElem hj, hjk] at hk
        simp at hk
      unfold getKV
      rw [this]; rfl
    · have hkey : x.keys[below x.keys key]? = some key := by unfold hasKey at hk; simpa using hk
      have hil := (List.getElem?_eq_some_iff.1 hkey).1
      have hvl : x.vals.length = x.keys.length := by rw [hb.vals.len, hb.keys, List.length_map, List.length_map]
      obtain ⟨v0, hv0⟩ : ∃ v0, x.vals[below x.keys key]? = some v0 := ⟨_, List.getElem?_eq_getElem (by omega)⟩
      obtain ⟨b0, V0, g1, g2, _⟩ := hb.vals.get hv0
      refine ⟨some (v0, b0), ⟨hb.leaf, hb.rises, .inr ⟨v0, b0, V0, hk, hv0, g2, rfl⟩⟩, ?_⟩
      have hC : C[below x.keys key]? = some (key, b0) := by
        have h1 : (C.map (·.1))[below x.keys key]? = some key := by rw [← hb.keys]; exact hkey
        rw [List.getElem?_map] at g1 h1
        cases hc : C[below x.keys key]? with
        | none => rw [hc] at h1; cases h1
        | some p =>
          rw [hc] at h1 g1
          simp only [Option.map_some, Option.some.injEq] at h1 g1
          rw [← h1, ← g1]
      exact (getKV_at (by rw [← hb.keys]; exact hb.rises) hC).symm
  | h + 1, x, lo, hi, C, T, ⟨hl, hb⟩, hlo, hhi => by
    obtain ⟨m, l, r, Ca, Ci, Cb, Sa, Si, Sb, h1, rfl, rfl, h4, h5, h6, h7, h8, _⟩ := hb.open (fun n lo hi C T hp => hp.span h) hlo hhi
    obtain ⟨z, Tz, _, g1, g2, g3, g4⟩ := h6.body
    obtain ⟨o, w1, w2⟩ := Body.way h g4 h4 h5
    exact ⟨o, ⟨hl, hb.keys.1, m, z, h1, g1, g2, g3, w1⟩, by rw [find_skip h7 h8]; exact w2⟩

theorem four_set {w : World} {N base : Nat} {a b c d : Value} (hN : w.heap[N]? = some (.cells #[a, b, c, d] 86 (0, 0))) (hb : base ≤ N) (x0 x1 x2 x3 : Value) :
    ∃ w4, w4 = (((w.setCell ⟨N, 0, none⟩ x0).setCell ⟨N, 1, none⟩ x1).setCell ⟨N, 2, none⟩ x2).setCell ⟨N, 3, none⟩ x3 ∧ Mut base [86] w w4 ∧ w4.cell? ⟨N, 0, none⟩ = some x0 ∧ w4.cell? ⟨N, 1, none⟩ = some x1 ∧ w4.cell? ⟨N, 2, none⟩ = some x2 ∧ w4.cell? ⟨N, 3, none⟩ = some x3 := by
  have hm : Mut base [86] w ((((w.setCell ⟨N, 0, none⟩ x0).setCell ⟨N, 1, none⟩ x1).setCell ⟨N, 2, none⟩ x2).setCell ⟨N, 3, none⟩ x3) :=
    ((((Mut.refl base [86] w).setCell (p := ⟨N, 0, none⟩) hN (by simp) hb _).setCell (p := ⟨N, 1, none⟩) (heap_set hN _ _) (by simp) hb _).setCell (p := ⟨N, 2, none⟩) (heap_set (heap_set hN _ _) _ _) (by simp) hb _).setCell (p := ⟨N, 3, none⟩) (heap_set (heap_set (heap_set hN _ _) _ _) _ _) (by simp) hb _
  have hN4 := heap_set (heap_set (heap_set (heap_set hN 0 x0) 1 x1) 2 x2) 3 x3
  exact ⟨_, rfl, hm, by rw [cell_of hN4]; rfl, by rw [cell_of hN4]; rfl, by rw [cell_of hN4]; rfl, by rw [cell_of hN4]; rfl⟩

set_option maxRecDepth 4000 in
set_option maxHeartbeats 800000 in
theorem find_way [Mode] (B : Nat) (w : World) (T p n h : Nat) (cnt : Int) (dead : Bool) (r : PS) (ls ps : List Pg) (z : Nd) (key : ByteArray) (o : Option (Vl × List UInt8)) (hT : TAt w T p (n : Int) cnt dead) (hp : Pgr B w p r ls ps) (g1 : PgIs ps n z.bytes) (g2 : z.bytes.length ≤ 512) (g3 : z.Good) (hw : Way ps key h z o) :
    Calls Tryz.prog 51 #[.pointer (some ⟨T, 0, none⟩), .string key] w fun e w' => (∃ cs : List Value, e = .returned (.tuple #[.agg cs.toArray, .bool o.isSome]) ∧ (∃ A n c bb s f, cs = [.slice A n c, .bool bb, .int .i64 s, .int .i64 f]) ∧ ∀ v b, o = some (v, b) → VlAt w' cs v ∧ v.Ok ∧ ∃ V, VlOf ps v b V) ∧ Below w.heap.size w w' := by
  have hld := fun (ob : Obj) => load_sub (hT.mut ((Mut.refl 0 [] w).alloc ob) (by simp)) (hp.mut ((Mut.refl 0 [] w).alloc ob) (by simp) (by simp) (by simp)) g1 g3 g2
  have e1 := (hT.mut ((Mut.refl 0 [] w).alloc (.cells #[.slice none 0 0, .bool false, .int .i64 0, .int .i64 0] 86)) (by simp)).c1
  have H := Lib.hid (And.intro hT (And.intro hp (And.intro g3 hw)))
  have hldH := Lib.hid hld
  have hn0 : ¬ ((n : Int) < 0) := by omega
  clear hT hp g1 g2 g3 hw hld
  go_enter Tryz.func51, Tryz.ntmps51
  go_wp2_with (go_at_call 53; refine (hldH.out _).mono ?_; rintro e w1 ⟨q, rfl, n1, b1⟩; have hbx := heap_below (heap_new w (.cells #[.slice none 0 0, .bool false, .int .i64 0, .int .i64 0] 86)) b1 (by simp); have n1H := Lib.hid n1; clear n1)
  have hbw1 : Below w.heap.size w w1 := bel_then ((Below.refl _ _).alloc (Nat.le_refl _) _) (by simp) b1
  have hS := Lib.hid (And.intro hbw1 hbx)
  clear hbw1 hbx b1
  go_loopg [6] h (fun gg xx wr => ∃ (g : Nat) (y : Nd) (q : Nat), g = gg ∧ xx = .pointer (some ⟨q, 0, none⟩) ∧ Hid (NodeAt (w.heap.size + 1) wr q y ∧ y.Good ∧ Way ps key g y o ∧ Below w.heap.size w wr ∧ wr.heap[w.heap.size]? = some (.cells #[.slice none 0 0, .bool false, .int .i64 0, .int .i64 0] 86 (0, 0))))
  case atStart => exact ⟨h, z, q, rfl, rfl, by have := n1H.out; simpa using this, H.out.2.2.1, H.out.2.2.2, hS.out.1, hS.out.2⟩
  case round =>
    obtain ⟨g, y, q, rfl, rfl, hI⟩ := hrel
    obtain ⟨i1, i2, i3, i4, i5⟩ := hI.out
    have hfew : y.keys.length ≤ 2000 := i2.ok.few
    cases g with
    | zero =>
      obtain ⟨hl, hr, hw⟩ := i3
      have e0 := i1.leaf0
      rw [hl] at e0
      have hpl := place_any _ wr q y key i1 hr (by omega)
      have d0 : wr.cell? ⟨w.heap.size, 0, none⟩ = some (.slice none 0 0) := by rw [cell_of i5]; rfl
      have d1 : wr.cell? ⟨w.heap.size, 1, none⟩ = some (.bool false) := by rw [cell_of i5]; rfl
      have d2 : wr.cell? ⟨w.heap.size, 2, none⟩ = some (.int .i64 0) := by rw [cell_of i5]; rfl
      have d3 : wr.cell? ⟨w.heap.size, 3, none⟩ = some (.int .i64 0) := by rw [cell_of i5]; rfl
      have k0 := unfrozen_of i5 0
      have k1 := unfrozen_of i5 1
      have k2 := unfrozen_of i5 2
      have k3 := unfrozen_of i5 3
      rcases hw with ⟨hk, rfl⟩ | ⟨v, b, V, hk, hv, hvo, rfl⟩
      · rw [hk] at hpl
        have hI2 := Lib.hid (And.intro i4 i5)
        clear i1 i2 i4 i5 hk
        go_wp2_with (go_at_call 85; refine hpl.mono ?_; rintro e w' ⟨rfl, rfl⟩)
        obtain ⟨w4, h4, m4, r0, r1, r2, r3⟩ := four_set hI2.out.2 (Nat.le_refl _) (.slice none 0 0) (.bool false) (.int .i64 0) (.int .i64 0)
        rw [← h4]
        refine bodyPost_ret (v := .tuple #[.agg #[.slice none 0 0, .bool false, .int .i64 0, .int .i64 0], .bool false]) (by simp [results, Tryz.results51, go_sem, r0, r1, r2, r3]) rfl ⟨⟨[.slice none 0 0, .bool false, .int .i64 0, .int .i64 0], rfl, ⟨_, _, _, _, _, _, rfl⟩, (fun v b h => by cases h)⟩, hI2.out.1.trans (m4.below hI2.out.1.size)⟩
      · obtain ⟨g, c, c0, c1, c2, c3, cur, hq2, hnc, hcm, hgg, hBg, hvat, j0, j1, j2, j3⟩ := i1.val hv
        obtain ⟨da, dn, dc, db, ds, df, hcs⟩ := hvat.shape
        simp only [List.cons.injEq, and_true] at hcs
        obtain ⟨rfl, rfl, rfl, rfl⟩ := hcs
        rw [hk] at hpl
        have hil : below y.keys key < y.vals.length := (List.getElem?_eq_some_iff.1 hv).1
        obtain ⟨i, hi⟩ : ∃ i, i = below y.keys key := ⟨_, rfl⟩
        rw [← hi] at hpl hil hv j0 j1 j2 j3
        have hvok : v.Ok := i2.ok.vals v (List.mem_of_getElem? hv)
        have hI2 := Lib.hid (And.intro i4 (And.intro i5 (And.intro hvat (And.intro hvok hvo))))
        clear i1 i2 i4 i5 hk hv hvat hvok hvo hgg hBg hcm hi
        go_wp2_with (go_at_call 85; refine hpl.mono ?_; rintro e w' ⟨rfl, rfl⟩)
        obtain ⟨w4, h4, m4, r0, r1, r2, r3⟩ := four_set hI2.out.2.1 (Nat.le_refl _) (.slice da dn dc) (.bool db) (.int .i64 ds) (.int .i64 df)
        rw [← h4]
        refine bodyPost_ret (v := .tuple #[.agg #[.slice da dn dc, .bool db, .int .i64 ds, .int .i64 df], .bool true]) (by simp [results, Tryz.results51, go_sem, r0, r1, r2, r3]) rfl ⟨⟨[.slice da dn dc, .bool db, .int .i64 ds, .int .i64 df], rfl, ⟨_, _, _, _, _, _, rfl⟩, ?_⟩, hI2.out.1.trans (m4.below hI2.out.1.size)⟩
        intro v' b' h
        simp only [Option.some.injEq, Prod.mk.injEq] at h
        obtain ⟨rfl, rfl⟩ := h
        exact ⟨hI2.out.2.2.1.mut m4 (by decide), hI2.out.2.2.2.1, V, hI2.out.2.2.2.2⟩
    | succ g =>
      obtain ⟨hl, hr, m, z2, hm, z1, z2l, z3, z4⟩ := i3
      have e0 := i1.leaf0
      rw [hl] at e0
      have hkd := kid_any _ wr q y key i1 hr (by omega)
      have hkdW := fun (W : World) (mW : Mut 0 [] wr W) => kid_any _ W q y key (i1.mut mW (by simp) (by simp) (by simp) (by simp) (by simp)) hr (by omega)
      obtain ⟨h0, kv, vv, iv, vc, hq, a2, a4, a6, a7⟩ := i1
      obtain ⟨A, c, rfl, l1, -, -⟩ := own_slice a7
      obtain ⟨kg, kcur, rfl, kg1, kg2, kg3, kg4⟩ := own_row a7 (by have := (List.getElem?_eq_some_iff.1 hm).1; omega)
      obtain ⟨i, hi⟩ : ∃ i, i = kidIdx y.keys key := ⟨_, rfl⟩
      rw [← hi] at hm hkd hkdW
      have ek := kg4 i (.int .i64 (m : Int)) (by rw [List.getElem?_map, hm]; rfl)
      have e3 : wr.cell? ⟨q, 3, none⟩ = some (.slice (some ⟨kg, 0, none⟩) y.kids.length c) := by rw [cell_of hq]; rfl
      have hil : i < y.kids.length := (List.getElem?_eq_some_iff.1 hm).1
      have hkl : y.kids.length ≤ 2001 := by rw [(i2.ok.nd hl).1]; omega
      have hld2 := fun (W : World) (mW : Mut 0 [] wr W) => load_sub ((H.out.1.below i4).mut mW (by simp)) ((H.out.2.1.below i4).mut mW (by simp) (by simp) (by simp)) z1 z3 z2l
      have hK := Lib.hid (And.intro z3 (And.intro z4 (And.intro i4 i5)))
      clear i2 i4 i5 hm z1 z2l z3 z4 kg1 kg2 kg3 kg4 hq a2 a4 a6 a7 hi hr hl
      have hkdH := Lib.hid hkdW
      have hld2H := Lib.hid hld2
      have mixed : Tryz.prog.follows .mixedOrders = true := by kernel_rfl
      have hS1 : wr.drew.cell? ⟨q, 3, none⟩ = some (.slice (some ⟨kg, 0, none⟩) y.kids.length c) ∧ wr.drew.cell? ⟨kg, i, none⟩ = some (.int .i64 (m : Int)) := ⟨e3, ek⟩
      have hS1H := Lib.hid hS1
      clear hS1 hkd hkdW hld2
      go_wp2_with fail
      go_region_held3 (fun W => W.cell? ⟨q, 3, none⟩ = some (.slice (some ⟨kg, 0, none⟩) y.kids.length c) ∧ W.cell? ⟨kg, i, none⟩ = some (.int .i64 (m : Int))) (first | (with_reducible exact hS1H.out) | (with_reducible exact hS2)) (first
        | (go_at_call 91; refine (hkdH.out _ (by first | exact Mut.drew (Mut.refl 0 [] wr) | exact Mut.refl 0 [] wr)).mono ?_; rintro e w' ⟨rfl, rfl⟩)
        | (go_at_call 53; refine (hld2H.out _ (by first | exact Mut.drew (Mut.refl 0 [] wr) | exact Mut.refl 0 [] wr)).mono ?_; rintro e w2 ⟨q2, rfl, n2, b2⟩; have hS2 := And.intro (bel_cell b2 hS1H.out.1) (bel_cell b2 hS1H.out.2)))
      have hlt := blk_lt hK.out.2.2.2
      go_wp2_with fail
      go_roundg g
      rotate_left 1
      · exact Nat.lt_succ_self _
      exact ⟨g, z2, q2, rfl, rfl, n2.base_ (by simp; omega), hK.out.1, hK.out.2.1, hK.out.2.2.1.trans ((bel_undrew b2).mono (by have := hK.out.2.2.1.size; simpa using this)), heap_below (w := wr.drew) hK.out.2.2.2 b2 (by simpa using hlt)⟩
end Go.Proofs.YtpfjhehjmhkbpaaGreatDoor

namespace Go.Proofs.YtpfjhehjmhkbpaaGreatDoor
open Go.RowKit

/-- The first leaf. -/
def leafNd (key : ByteArray) (v : Vl) : Nd := ⟨true, [key], [v], []⟩

theorem own_fourB {w : World} {B : Nat} (a b c d : Value) (hB : B ≤ w.heap.size) {n : Nat} (hn : n = w.heap.size) : (w.alloc (.cells #[a, b, c, d] 86)).ownsRow B 86 4 (.slice (some ⟨n, 0, none⟩) 1 1) 1 [a, b, c, d] := by
  subst hn
  exact ⟨rfl, .inr ⟨w.heap.size, 1, #[a, b, c, d], rfl, hB, heap_new _ _, Nat.le_refl _, by simp [maxLen], rfl, rfl⟩⟩

theorem leaf_at1 (W : World) (key : ByteArray) (v : Vl) (a b c d : Value) (hv : VlAt W [a, b, c, d] v) : NodeAt W.heap.size (((W.alloc (.cells #[.string key] 9)).alloc (.cells #[a, b, c, d] 86)).alloc (.cells #[.bool true, .slice (some ⟨W.heap.size, 0, none⟩) 1 1, .slice (some ⟨W.heap.size + 1, 0, none⟩) 1 1, .slice none 0 0] 92)).drew (W.heap.size + 1 + 1) (leafNd key v) := by
  refine NodeAt.drew ⟨by omega, .slice (some ⟨W.heap.size, 0, none⟩) 1 1, .slice (some ⟨W.heap.size + 1, 0, none⟩) 1 1, .slice none 0 0, [a, b, c, d], ?_, ?_, ?_, ?_, ⟨rfl, .inl ⟨rfl, rfl⟩⟩⟩
  · have := heap_new ((W.alloc (.cells #[.string key] 9)).alloc (.cells #[a, b, c, d] 86)) (.cells #[.bool true, .slice (some ⟨W.heap.size, 0, none⟩) 1 1, .slice (some ⟨W.heap.size + 1, 0, none⟩) 1 1, .slice none 0 0] 92)
    simp only [World.size_alloc] at this
    exact this
  · exact own_alloc (own_alloc (own_newB (.string key) 9 (Nat.le_refl _) rfl) _) _
  · exact own_alloc (own_fourB a b c d (by simp) (by simp)) _
  · exact ValsAt.one_ (hv.mut ((((Mut.refl 0 [] W).alloc _).alloc _).alloc _) (by simp))
theorem leaf_at2 (W : World) (key : ByteArray) (v : Vl) (a b c d : Value) (hv : VlAt W [a, b, c, d] v) : NodeAt W.heap.size (((W.alloc (.cells #[a, b, c, d] 86)).alloc (.cells #[.string key] 9)).alloc (.cells #[.bool true, .slice (some ⟨W.heap.size + 1, 0, none⟩) 1 1, .slice (some ⟨W.heap.size, 0, none⟩) 1 1, .slice none 0 0] 92)).drew (W.heap.size + 1 + 1) (leafNd key v) := by
  refine NodeAt.drew ⟨by omega, .slice (some ⟨W.heap.size + 1, 0, none⟩) 1 1, .slice (some ⟨W.heap.size, 0, none⟩) 1 1, .slice none 0 0, [a, b, c, d], ?_, ?_, ?_, ?_, ⟨rfl, .inl ⟨rfl, rfl⟩⟩⟩
  · have := heap_new ((W.alloc (.cells #[a, b, c, d] 86)).alloc (.cells #[.string key] 9)) (.cells #[.bool true, .slice (some ⟨W.heap.size + 1, 0, none⟩) 1 1, .slice (some ⟨W.heap.size, 0, none⟩) 1 1, .slice none 0 0] 92)
    simp only [World.size_alloc] at this
    exact this
  · exact own_alloc (own_newB (.string key) 9 (by simp) (by simp)) _
  · exact own_alloc (own_alloc (own_fourB a b c d (Nat.le_refl _) rfl) _) _
  · exact ValsAt.one_ (hv.mut ((((Mut.refl 0 [] W).alloc _).alloc _).alloc _) (by simp))

theorem leafNd_good [Mode] {key : ByteArray} {v : Vl} (hk : key.size ≤ 200) (hv : v.Ok) (hin : Fit key v) : (leafNd key v).Good ∧ (leafNd key v).bytes.length ≤ 512 := by
  have hg : (leafNd key v).Good := by
    refine ⟨⟨by simp [leafNd], fun a ha => ?_, fun a ha => ?_, by simp [leafNd], fun _ => ⟨rfl, rfl⟩, (fun h => by cases h)⟩, fun i a u h1 h2 => ?_, fun hs => ⟨fun a ha => ?_, fun a ha => ?_⟩, fun _ h => by cases h⟩
    · simp [leafNd] at ha; subst ha; exact hk
    · simp [leafNd] at ha; subst ha; exact hv
    · cases i with
      | zero => simp [leafNd] at h1 h2; subst h1 h2; exact hin.1
      | succ i => simp [leafNd] at h1
    · simp [leafNd] at ha; subst ha; exact (hin.2 hs).1
    · simp [leafNd] at ha; subst ha; exact (hin.2 hs).2
  refine ⟨hg, ?_⟩
  have h1 := Nd.bytes_len (leafNd key v)
  have h2 := Nd.entry_le hg (keyBytes key ++ v.bytes) (by simp [Nd.entries, leafNd])
  have h5 : (enc 1).length ≤ 2 := enc_two (by omega)
  have e1 : sumLen (leafNd key v).entries = (keyBytes key ++ v.bytes).length := by simp [Nd.entries, leafNd, sumLen]
  have e2 : sumLen ((leafNd key v).kids.map enc) = 0 := rfl
  have e3 : (leafNd key v).keys.length = 1 := rfl
  rw [e1, e2, e3] at h1
  omega

/-- The pages, the first one among them. -/
def firstPs (ps : List Pg) : List Pg := if ps = [] then newPs ps else ps

theorem firstPs_has {ps : List Pg} (h0 : ps ≠ [] → hasP ps 0 = true) : hasP (firstPs ps) 0 = true := by
  unfold firstPs
  split
  · rename_i h; subst h; rw [newPs_has]; rfl
  · rename_i h; exact h0 h
theorem firstPs_room {ps : List Pg} (hf : ps.length ≤ 16384) (hr : 1 ≤ room ps) : room ps ≤ room (firstPs ps) + 1 := by
  unfold firstPs
  split
  · have := (newPs_room hf hr).1; omega
  · omega
theorem firstPs_tak {ps : List Pg} {S : List Nat} (h : ∀ n, hasP ps n = true ↔ (n = 0 ∧ ps ≠ []) ∨ n ∈ S) : ∀ n, hasP (firstPs ps) n = true ↔ n = 0 ∨ n ∈ S := by
  intro n
  unfold firstPs
  split
  · rename_i h'
    subst h'
    rw [newPs_has]
    have h1 := h n
    simp only [ne_eq, not_true_eq_false, and_false, false_or] at h1
    simp only [Bool.or_eq_true, decide_eq_true_eq, h1, show newIdx ([] : List Pg) = 0 from rfl]
    exact Or.comm
  · rename_i h'
    rw [h n]
    simp [h']

theorem first_tree [Mode] {ps0 ps4 ps9 : List Pg} {V : List Nat} {key : ByteArray} {vl : Vl} {l : List UInt8} {v8 v9 : Value} (h0 : ∀ n, hasP ps0 n = true ↔ n = 0) (st : Stp ps0 [] ps4 V) (hv : VlOf ps4 vl l V) (hf : ps4.length ≤ 16384) (hr : 1 ≤ room ps4)
    (hk : key.size ≤ 200) (hvo : vl.Ok) (hin : Fit key vl) (h9 : ps9 = ((newPs ps4).set (newIdx ps4) ⟨true, v8, (leafNd key vl).bytes⟩).set 0 ⟨true, v9, enc (newIdx ps4 + 1) ++ enc 1⟩) :
    (newIdx ps4 :: V).Nodup ∧ 0 ∉ newIdx ps4 :: V ∧ (∀ n, hasP ps9 n = true ↔ (n = 0 ∧ ps9 ≠ []) ∨ n ∈ newIdx ps4 :: V) ∧ PgIs ps9 0 (enc (newIdx ps4 + 1) ++ enc 1) ∧ Sub ps9 0 (newIdx ps4) none none (insKV [] key l) (newIdx ps4 :: V) ∧ room ps4 ≤ room ps9 + 1 := by
  have hV : ∀ m ∈ V, hasP ps4 m = true := fun m hm => (st.tak m).2 (.inr hm)
  have p1 := Stp.new_ hV st.nd
  have h04 : hasP ps4 0 = true := (st.tak 0).2 (.inl ⟨(h0 0).2 rfl, by simp⟩)
  have hz : 0 ∉ newIdx ps4 :: V := fun h => by
    rcases List.mem_cons.1 h with h | h
    · have := newIdx_hasnot ps4; rw [← h, h04] at this; cases this
    · rcases st.new 0 h with h' | h'
      · simp at h'
      · rw [(h0 0).2 rfl] at h'; cases h'
  have hS1 : ∀ m ∈ newIdx ps4 :: V, hasP (newPs ps4) m = true := fun m hm => (p1.tak m).2 (.inr hm)
  have p2 := Stp.put (v := v8) (l := (leafNd key vl).bytes) hS1 p1.nd (n := newIdx ps4) (by simp)
  have h02 : hasP ((newPs ps4).set (newIdx ps4) ⟨true, v8, (leafNd key vl).bytes⟩) 0 = true := by
    have h1 := (p1.tak 0).2 (.inl ⟨h04, fun h => hz (by simp [h])⟩)
    exact (p2.tak 0).2 (.inl ⟨h1, hz⟩)
  obtain ⟨x0, _, _, hlt⟩ := hasP_some h02
  have hne : newIdx ps4 ≠ 0 := fun e => hz (by simp [e])
  have hl1 : newIdx ps4 < (newPs ps4).length := (hasP_some (hS1 _ (by simp))).choose_spec.2.2
  obtain ⟨q1, q2⟩ := leafNd_good hk hvo hin
  have hris : Rises ([] : List ByteArray) := List.Pairwise.nil
  refine ⟨p1.nd, hz, fun n => ?_, ?_, ?_, ?_⟩
  · rw [h9, hasP_set hlt]
    have hne9 : ((newPs ps4).set (newIdx ps4) ⟨true, v8, (leafNd key vl).bytes⟩).set 0 ⟨true, v9, enc (newIdx ps4 + 1) ++ enc 1⟩ ≠ [] := fun h => by
      have := congrArg List.length h
      rw [List.length_set, List.length_nil] at this; omega
    by_cases e : n = 0
    · subst e; simp [hne9]
    · rw [if_neg e, p2.tak, p1.tak, st.tak, h0]
      simp only [List.not_mem_nil, not_false_eq_true, and_true]
      constructor
      · rintro (⟨(⟨(h | h), _⟩ | h), h'⟩ | h)
        · exact absurd h e
        · exact .inr (List.mem_cons_of_mem _ h)
        · exact absurd h h'
        · exact .inr h
      · rintro (⟨h, _⟩ | h)
        · exact absurd h e
        · exact .inr h
  · rw [h9]; exact pgIs_set_self hlt
  · refine ⟨leafNd key vl, V, rfl, ?_, q2, q1, ⟨rfl, rfl, ?_, by simp [leafNd, Rises], fun k _ => leO_none k, fun k _ => ltO_none k, fun _ => .inr ⟨rfl, rfl⟩⟩⟩
    · rw [h9]; exact pgIs_set_other (pgIs_set_self hl1) hne
    · refine ⟨l, [], V, [], rfl, by simp, hv.move fun m hm l' hl' => ?_, rfl, rfl⟩
      rw [h9]
      refine pgIs_set_other (pgIs_set_other (newPs_keep hl') ?_) ?_
      · rintro rfl; exact (List.nodup_cons.1 p1.nd).1 hm
      · rintro rfl; exact hz (List.mem_cons_of_mem _ hm)
  · rw [h9, room_set_taken h02, room_set_taken (hS1 _ (by simp))]
    have := (newPs_room hf hr).1
    omega

set_option maxRecDepth 4000 in
set_option maxHeartbeats 1000000 in
theorem tput_first [Mode] (B : Nat) (w : World) (T p : Nat) (r : PS) (ls ps : List Pg) (h : Nat) (S : List Nat) (C : KV) (key : ByteArray) (v : Value) (l : List UInt8) (t : TreeAt B w T p r ls ps 0 h S C) (hv : Byt w v l) (hk1 : 1 ≤ key.size) (hk2 : key.size ≤ 200) (hn : l.length ≤ 65536)
    (hf : manyOf key.size l.length + h + 2 ≤ room ps) (hB : B ≤ w.heap.size) (hsh : Mode.short = true → key.size ≤ 4 ∧ l.length ≤ 60) :
    Calls Tryz.prog 13 #[.pointer (some ⟨T, 0, none⟩), .string key, v] w fun e w' => e = .returned (.int .i64 0) ∧ (∃ ps' R' S', TreeAt B w' T p r ls ps' R' 1 S' (insKV C key l) ∧ room ps ≤ room ps' + (manyOf key.size l.length + h + 2)) ∧ Mut B [133, 147, 80] w w' := by
  obtain ⟨rfl, rfl, rfl⟩ : h = 0 ∧ C = [] ∧ S = [] := by
    rcases t.tree with ⟨_, h1, h2, h3⟩ | ⟨n, g, h1, _⟩
    · exact ⟨h1, h2, h3⟩
    · omega
  have hvH := Lib.hid hv
  obtain ⟨A, c, rfl, g1, g2, g3, g4⟩ := hv
  have hT : TAt w T p (-1) 0 false := by have := t.at_; simpa using this
  have h1 := may_any w T p _ _ hT
  have h2 := isKey_yes key w hk1 hk2
  have h3 := left_any B w T p r ls ps hT.c0 t.pgr
  have h4 := Lib.hid (fun W => many_any key A l.length c W (by omega) (by omega))
  have h5 := Lib.hid (fun k => tdeep (t.mut (Mut.drewN (Mut.refl 0 [] w) k) (by simp) (by simp) (by simp) (by simp)))
  have h6 := Lib.hid (fun (W : World) (hb : Below w.heap.size w W) => gcount (t.pgr.below hb))
  have hro : room ps ≤ 40000 := by unfold room; have := nfree_le ps; have := t.pgr.few; omega
  have hfew := t.pgr.few
  have hm : manyOf key.size l.length ≤ 1000 := by unfold manyOf; split <;> omega
  obtain ⟨M, hM⟩ : ∃ M, M = manyOf key.size l.length := ⟨_, rfl⟩
  obtain ⟨Rm, hRm⟩ : ∃ Rm, Rm = room ps := ⟨_, rfl⟩
  obtain ⟨n, hnl⟩ : ∃ n, n = l.length := ⟨_, rfl⟩
  rw [← hnl] at hM hn g1
  rw [← hnl] at h4 hf hm ⊢
  rw [← hM] at h4 hf hm ⊢
  rw [← hRm] at h3 hf hro ⊢
  have hroom := Lib.hid (And.intro hM (And.intro hRm hnl))
  have hnr := Lib.hid (newPs_room hfew (by omega))
  have tH := Lib.hid (And.intro t hT)
  clear t hT g4 g2 hM hRm hnl
  obtain ⟨N, hN⟩ : ∃ N, N = ps.length := ⟨_, rfl⟩
  have h6 : Hid (∀ (W : World), Below w.heap.size w W → Calls Tryz.prog 38 #[.pointer (some ⟨p, 0, none⟩)] W fun e w' => e = .returned (.tuple #[.int .i64 (N : Int), .int .i64 (nfree ps)]) ∧ ∃ k, w' = W.drewN k) := by rw [hN]; exact h6.out
  have hNH := Lib.hid hN; clear hN
  go_enter Tryz.func13, Tryz.ntmps13
  by_cases hps : ps = []
  focus
    have hN0 : ((N : Nat) : Int) = 0 := by rw [hNH.out, hps]; rfl
    rw [hN0] at h6
    have hpsH := Lib.hid hps; clear hps hN0
    go_wp2_with (first
      | (go_at_call 33; refine h1.mono ?_; rintro e w' ⟨rfl, rfl⟩)
      | (go_at_call 34; refine h2.mono ?_; rintro e w' ⟨rfl, rfl⟩)
      | (go_at_call 35; refine h3.mono ?_; rintro e w' ⟨rfl, kd, rfl⟩)
      | (go_at_call 36; refine (h4.out _).mono ?_; rintro e w' ⟨rfl, rfl⟩)
      | (go_at_call 37; refine (h5.out kd).mono ?_; rintro e w2 ⟨rfl, b2⟩; have b2' := bel_undrewN b2; have e02 := (tH.out.2.below b2').c0)
      | (go_at_call 38; refine (h6.out w2 b2').mono ?_; rintro e w' ⟨rfl, k3, rfl⟩; have hmd : Mut B [133, 147] w (w2.drewN k3) := (Mut.of_below b2' _ _).drewN k3)
      | (go_at_call 39; refine (gnew ((tH.out.1.pgr).mut (Mut.of_below b2' 0 [] |>.drewN k3) (by simp) (by simp) (by simp)) hnr.out.2.1 (by have := b2'.size; simp; omega)).mono ?_; rintro e w3 ⟨rfl, hp3, m3⟩))
    have hm3 : Mut B [133, 147] w w3 := hmd.trans m3
    have hp3 : Pgr B w3 p r ls (firstPs ps) := by unfold firstPs; rw [if_pos hpsH.out]; exact hp3
    clear hmd m3 e02 b2' b2
  rotate_left 1
  focus
    have hl0 : ((N : Int) == 0) = false := beq_eq_false_iff_ne.2 (by have := List.length_pos_iff.2 hps; have := hNH.out; omega)
    have hpsH := Lib.hid hps; clear hps
    go_wp2_with (first
      | (go_at_call 33; refine h1.mono ?_; rintro e w' ⟨rfl, rfl⟩)
      | (go_at_call 34; refine h2.mono ?_; rintro e w' ⟨rfl, rfl⟩)
      | (go_at_call 35; refine h3.mono ?_; rintro e w' ⟨rfl, kd, rfl⟩)
      | (go_at_call 36; refine (h4.out _).mono ?_; rintro e w' ⟨rfl, rfl⟩)
      | (go_at_call 37; refine (h5.out kd).mono ?_; rintro e w2 ⟨rfl, b2⟩; have b2' := bel_undrewN b2; have e02 := (tH.out.2.below b2').c0)
      | (go_at_call 38; refine (h6.out w2 b2').mono ?_; rintro e w' ⟨rfl, k3, rfl⟩; have hmd : Mut B [133, 147] w (w2.drewN k3) := (Mut.of_below b2' _ _).drewN k3))
    have hpd : Pgr B (w2.drewN k3) p r ls (firstPs ps) := by unfold firstPs; rw [if_neg hpsH.out]; exact (tH.out.1.pgr).mut (Mut.of_below b2' 0 [] |>.drewN k3) (by simp) (by simp) (by simp)
    clear e02 b2' b2
    obtain ⟨w3, hw3⟩ : ∃ W, W = w2.drewN k3 := ⟨_, rfl⟩
    rw [← hw3] at hmd hpd ⊢
    have hm3 := hmd
    have hp3 := hpd
    clear hw3 hmd hpd
  all_goals
    clear h1 h2 h3
    have hT3 : TAt w3 T p (-1) 0 false := tH.out.2.mut hm3 (by decide)
    have h0ps : ∀ m, hasP (firstPs ps) m = true ↔ m = 0 := fun m => by rw [firstPs_tak tH.out.1.tak]; simp
    have hr3 := firstPs_room (ps := ps) hfew (by have := hroom.out.2.1; omega)
    have hv3 : Byt w3 (.slice A n c) l := by
      have := hvH.out
      rw [← hroom.out.2.2] at this
      exact this.mut hm3 (by decide)
    have hwr := write_any B w3 T p (-1) 0 false r ls (firstPs ps) key (.slice A n c) l hT3 hp3 hv3 hk2 (by rw [← hroom.out.2.2]; exact hn) (by rw [← hroom.out.2.2, ← hroom.out.1]; have := hroom.out.2.1; omega) (by have := hm3.size; omega) hsh
    rw [← hroom.out.2.2, ← hroom.out.1] at hwr
    have hst0 := Lib.hid (And.intro h0ps hr3)
    clear h0ps hr3 hp3 hv3
    go_wp2_with (go_at_call 40; refine hwr.mono ?_; rintro e w4 ⟨vl, cs, V, ps4, rfl, hva, hvo, hin, hvof, hp4, st4, rm4, m4⟩; obtain ⟨da, dn, dc, db, ds, df, rfl⟩ := hva.shape; have hT4 := hT3.mut m4 (by decide); have e41 := (hT4.mut ((Mut.refl 0 [] w4).alloc (.cells #[.slice da dn dc, .bool db, .int .i64 ds, .int .i64 df] 86)) (by simp)).c1; have e40 := (hT4.mut ((Mut.refl 0 [] w4).alloc (.cells #[.slice da dn dc, .bool db, .int .i64 ds, .int .i64 df] 86)) (by simp)).c0)
    have hpb := heap_new w4 (.cells #[.slice da dn dc, .bool db, .int .i64 ds, .int .i64 df] 86)
    have hp5 : Pgr B (w4.alloc (.cells #[.slice da dn dc, .bool db, .int .i64 ds, .int .i64 df] 86)) p r ls ps4 := hp4.mut ((Mut.refl 0 [] w4).alloc _) (by simp) (by simp) (by simp)
    have hva5 : VlAt (w4.alloc (.cells #[.slice da dn dc, .bool db, .int .i64 ds, .int .i64 df] 86)) [.slice da dn dc, .bool db, .int .i64 ds, .int .i64 df] vl := hva.mut ((Mut.refl 0 [] w4).alloc _) (by simp)
    have hT5 : TAt (w4.alloc (.cells #[.slice da dn dc, .bool db, .int .i64 ds, .int .i64 df] 86)) T p (-1) 0 false := hT4.mut ((Mut.refl 0 [] w4).alloc _) (by simp)
    have hm5 : Mut B [133, 147] w (w4.alloc (.cells #[.slice da dn dc, .bool db, .int .i64 ds, .int .i64 df] 86)) := (hm3.trans m4).alloc _
    have hr4 : 1 ≤ room ps4 := by have := hst0.out.2; have := hroom.out.2.1; omega
    have hr4b : Rm ≤ room ps4 + 1 + M := by have := hst0.out.2; have := hroom.out.2.1; omega
    have hnr4 := newPs_room hp4.few hr4
    refine (gnew hp5 hnr4.2.1 (by have := hm5.size; omega)).mono ?_
    rintro e w6 ⟨rfl, hp6, m6⟩
    have hT6 := hT5.mut m6 (by decide)
    have e61 := hT6.c1
    have f61 := hT6.unfrozen 1
    have hT7 : TAt (w6.setCell ⟨T, 1, none⟩ (.int .i64 (newIdx ps4 : Int))) T p (newIdx ps4 : Int) 0 false := heap_set hT6 1 _
    have m7 : Mut B [80] w6 (w6.setCell ⟨T, 1, none⟩ (.int .i64 (newIdx ps4 : Int))) := (Mut.refl _ _ _).setCell (p := ⟨T, 1, none⟩) hT6 (by simp) tH.out.1.base _
    have hp7 := hp6.mut m7 (by decide) (by decide) (by decide)
    have hva7 := (hva5.mut m6 (by decide)).mut m7 (by decide)
    have hpb7 := m7.keepc (m6.keepc hpb (by decide)) (by decide)
    have hm7 : Mut B [133, 147, 80] w (w6.setCell ⟨T, 1, none⟩ (.int .i64 (newIdx ps4 : Int))) := ((hm5.trans m6).mono (Nat.le_refl _) (by simp)).trans (m7.mono (Nat.le_refl _) (by simp))
    have hF := Lib.hid (And.intro hvo (And.intro hin (And.intro hvof (And.intro st4 (And.intro hp4.few (And.intro hr4 hr4b))))))
    clear hvo hin hvof st4 hp4 hr4 hr4b hp5 hva5 hpb hT5 hT4 hm5 e41 e40 hm3 m4 hva hT3 hwr
    go_wp2_with fail
    generalize w6.setCell ⟨T, 1, none⟩ (.int .i64 (newIdx ps4 : Int)) = w7 at *
    clear e61 f61 hT6 m7 m6 hp6
    have hS1 : w7.drew.cell? ⟨T, 1, none⟩ = some (.int .i64 (newIdx ps4 : Int)) ∧ w7.drew.cell? ⟨w4.heap.size, 0, none⟩ = some (.slice da dn dc) ∧ w7.drew.cell? ⟨w4.heap.size, 1, none⟩ = some (.bool db) ∧ w7.drew.cell? ⟨w4.heap.size, 2, none⟩ = some (.int .i64 ds) ∧ w7.drew.cell? ⟨w4.heap.size, 3, none⟩ = some (.int .i64 df) :=
      ⟨hT7.c1, (cell_of hpb7 0).trans rfl, (cell_of hpb7 1).trans rfl, (cell_of hpb7 2).trans rfl, (cell_of hpb7 3).trans rfl⟩
    have hkeep : ∀ W, Mut B [133, 147] w7 W → W.cell? ⟨T, 1, none⟩ = some (.int .i64 (newIdx ps4 : Int)) ∧ W.cell? ⟨w4.heap.size, 0, none⟩ = some (.slice da dn dc) ∧ W.cell? ⟨w4.heap.size, 1, none⟩ = some (.bool db) ∧ W.cell? ⟨w4.heap.size, 2, none⟩ = some (.int .i64 ds) ∧ W.cell? ⟨w4.heap.size, 3, none⟩ = some (.int .i64 df) := fun W hm =>
      ⟨(hT7.mut hm (by decide)).c1, (cell_of (hm.keepc hpb7 (by decide)) 0).trans rfl, (cell_of (hm.keepc hpb7 (by decide)) 1).trans rfl, (cell_of (hm.keepc hpb7 (by decide)) 2).trans rfl, (cell_of (hm.keepc hpb7 (by decide)) 3).trans rfl⟩
    have hkeepH := Lib.hid hkeep
    have hS1H := Lib.hid hS1
    have hhas := Lib.hid (show hasP (newPs ps4) (newIdx ps4) = true by rw [newPs_has]; simp)
    have hlg := Lib.hid (leafNd_good hk2 hF.out.1 hF.out.2.1)
    have mixed : Tryz.prog.follows .mixedOrders = true := by kernel_rfl
    clear hkeep hS1
    go_region_held3 (fun W => W.cell? ⟨T, 1, none⟩ = some (.int .i64 (newIdx ps4 : Int)) ∧ W.cell? ⟨w4.heap.size, 0, none⟩ = some (.slice da dn dc) ∧ W.cell? ⟨w4.heap.size, 1, none⟩ = some (.bool db) ∧ W.cell? ⟨w4.heap.size, 2, none⟩ = some (.int .i64 ds) ∧ W.cell? ⟨w4.heap.size, 3, none⟩ = some (.int .i64 df)) (first | (with_reducible exact hS1H.out) | (with_reducible exact hS4) | (refine hkeepH.out _ ?_; repeat (first | exact Mut.refl _ _ _ | apply Mut.drew | apply Mut.alloc))) (first
      | (go_at_call 41; refine (store_any B w7.heap.size _ T p (newIdx ps4) _ _ 0 false r ls (newPs ps4) (leafNd key vl) (hT7.mut (by repeat (first | exact Mut.refl B [] _ | apply Mut.drew | apply Mut.alloc)) (by simp)) (hp7.mut (by repeat (first | exact Mut.refl B [] _ | apply Mut.drew | apply Mut.alloc)) (by simp) (by simp) (by simp)) hhas.out (by first | exact leaf_at1 w7 key vl _ _ _ _ hva7 | exact leaf_at2 w7 key vl _ _ _ _ hva7) hlg.out.1.ok hlg.out.2).mono ?_; rintro e w8 ⟨rfl, v8, hp8, m8⟩; have M8 : Mut B [133, 147] w7 w8 := Mut.trans (by repeat (first | exact Mut.refl _ _ _ | apply Mut.drew | apply Mut.alloc)) m8; have hS4 := hkeepH.out w8 M8))
    all_goals
      have hT8 := hT7.mut M8 (by decide)
      have e82 := hT8.c2
      have hcs := storeI64 T 2 0 1 w8 e82 (hT8.unfrozen 2)
      have hT9 : TAt (w8.setCell ⟨T, 2, none⟩ (.int .i64 1)) T p (((newIdx ps4 + 1 : Nat) : Int) - 1) ((1 : Nat) : Int) false := by
        have h1 : TAt (w8.setCell ⟨T, 2, none⟩ (.int .i64 1)) T p (newIdx ps4 : Int) 1 false := heap_set hT8 2 _
        rw [show (((newIdx ps4 + 1 : Nat) : Int) - 1) = (newIdx ps4 : Int) by omega]
        exact h1
      have m9 : Mut B [80] w8 (w8.setCell ⟨T, 2, none⟩ (.int .i64 1)) := (Mut.refl _ _ _).setCell (p := ⟨T, 2, none⟩) hT8 (by simp) tH.out.1.base _
      have hp9 := hp8.mut m9 (by decide) (by decide) (by decide)
      have hw9 : Mut B [133, 147, 80] w (w8.setCell ⟨T, 2, none⟩ (.int .i64 1)) := (hm7.trans (M8.mono (Nat.le_refl _) (by simp))).trans (m9.mono (Nat.le_refl _) (by simp))
      obtain ⟨ps9, h9⟩ : ∃ ps9, ∀ v9, ps9 v9 = ((newPs ps4).set (newIdx ps4) ⟨true, v8, (leafNd key vl).bytes⟩).set 0 ⟨true, v9, enc (newIdx ps4 + 1) ++ enc 1⟩ := ⟨fun v9 => _, fun v9 => rfl⟩
      have hpure := fun v9 => first_tree hst0.out.1 hF.out.2.2.2.1 hF.out.2.2.1 hF.out.2.2.2.2.1 hF.out.2.2.2.2.2.1 hk2 hF.out.1 hF.out.2.1 (h9 v9)
      have h08 : hasP ((newPs ps4).set (newIdx ps4) ⟨true, v8, (leafNd key vl).bytes⟩) 0 = true := by
        have h1 : hasP ps4 0 = true := (hF.out.2.2.2.1.tak 0).2 (.inl ⟨(hst0.out.1 0).2 rfl, by simp⟩)
        rw [hasP_set (hasP_some hhas.out).choose_spec.2.2]
        split
        · rfl
        · rw [newPs_has, h1]; rfl
      have hws := writes_any B _ T p (newIdx ps4 + 1) 1 false r ls _ hT9 hp9 h08 (by have := (newPs_room hF.out.2.2.2.2.1 hF.out.2.2.2.2.2.1).2.2.1; omega) (by omega)
      have hG := Lib.hid (And.intro hpure (And.intro hT9 (And.intro hw9 h9)))
      clear hpure hT9 hw9 h9 hp9 m9 hT8 M8 hS4 hp8 m8
      go_wp2_with (first
        | (go_at_call 42; refine hcs.mono ?_; rintro e w' ⟨rfl, rfl⟩)
        | (go_at_call 43; refine hws.mono ?_; rintro e w10 ⟨rfl, v9, hp10, m10⟩))
      go_ret
      obtain ⟨hpure, hT9, hw9, h9⟩ := hG.out
      obtain ⟨q1, q2, q3, q4, q5, q6⟩ := hpure v9
      rw [← h9 v9] at hp10
      have hins : insKV [] key l = [(key, l)] := rfl
      refine ⟨rfl, ⟨ps9 v9, newIdx ps4 + 1, newIdx ps4 :: V, ⟨tH.out.1.base, ?_, hp10, q1, q2, q3, .inr ?_, .inr ⟨newIdx ps4, 0, rfl, rfl, q5⟩⟩, ?_⟩, hw9.trans (m10.mono (Nat.le_refl _) (by simp))⟩
      · rw [hins]; exact hT9.mut m10 (by decide)
      · rw [hins]; exact q4
      · have := hF.out.2.2.2.2.2.2; omega
end Go.Proofs.YtpfjhehjmhkbpaaGreatDoor
