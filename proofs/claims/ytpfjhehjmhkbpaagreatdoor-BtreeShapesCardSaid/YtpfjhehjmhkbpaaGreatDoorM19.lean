/- deep, writes. writes, grows, may. write: a value's bytes are laid, in the node or in pages of their own. -/
import Derived.Test.YtpfjhehjmhkbpaaGreatDoorM15
import Derived.Test.YtpfjhehjmhkbpaaGreatDoorM05
import Derived.Test.YtpfjhehjmhkbpaaGreatDoorM11
import Derived.Test.YtpfjhehjmhkbpaaGreatDoorM12
namespace Go.Proofs.YtpfjhehjmhkbpaaGreatDoor
open Go.RowKit

/-- The way down at the left: of that many steps. -/
def LeftB [Mode] (ps : List Pg) : Nat → Nd → Prop
  | 0, y => y.leaf = true
  | g + 1, y => y.leaf = false ∧ ∃ k ks z, y.kids = k :: ks ∧ PgIs ps k z.bytes ∧ z.bytes.length ≤ 512 ∧ z.Good ∧ LeftB ps g z
def Left [Mode] (ps : List Pg) (g n : Nat) : Prop := ∃ z : Nd, PgIs ps n z.bytes ∧ z.bytes.length ≤ 512 ∧ z.Good ∧ LeftB ps g z

theorem Kids.first {P : SubP} {ks : List ByteArray} {lo hi ns C S} (h : Kids P lo ks hi ns C S) : ∃ n ns' lo' hi' C' S', ns = n :: ns' ∧ P n lo' hi' C' S' := by
  cases ks with
  | nil => obtain ⟨n, rfl, h⟩ := h; exact ⟨n, [], _, _, _, _, rfl, h⟩
  | cons k ks => obtain ⟨n, ns', C1, C2, S1, S2, rfl, _, _, _, _, h, _⟩ := h; exact ⟨n, ns', _, _, _, _, rfl, h⟩

theorem Sub.left [Mode] {ps : List Pg} : ∀ (h : Nat) {n lo hi C S}, Sub ps h n lo hi C S → Left ps h n
  | 0, n, lo, hi, C, S, ⟨x, T, e, h1, h2, h3, h4⟩ => ⟨x, h1, h2, h3, h4.leaf⟩
  | h + 1, n, lo, hi, C, S, ⟨x, T, e, h1, h2, h3, h4, h5⟩ => by
    obtain ⟨k, ks, lo', hi', C', S', hk, hs⟩ := h5.first
    obtain ⟨z, g1, g2, g3, g4⟩ := Sub.left h hs
    exact ⟨x, h1, h2, h3, h4, k, ks, z, hk, g1, g2, g3, g4⟩

set_option maxRecDepth 4000 in
set_option maxHeartbeats 800000 in
theorem deep_left [Mode] (B : Nat) (w : World) (T p n h : Nat) (cnt : Int) (dead : Bool) (r : PS) (ls ps : List Pg) (hT : TAt w T p (n : Int) cnt dead) (hp : Pgr B w p r ls ps) (hl : Left ps h n) (hh : h ≤ 1000000) :
    Calls Tryz.prog 37 #[.pointer (some ⟨T, 0, none⟩)] w fun e w' => e = .returned (.int .i64 ((h : Int) + 1)) ∧ Below w.heap.size w w' := by
  obtain ⟨z, g1, g2, g3, g4⟩ := hl
  have hld := load_sub hT hp g1 g3 g2
  have e1 := hT.c1
  have H := Lib.hid (And.intro hT (And.intro hp (And.intro g3 g4)))
  have hn0 : ¬ ((n : Int) < 0) := by omega
  clear hT hp g1 g2 g3 g4
  go_enter Tryz.func37, Tryz.ntmps37
  go_wp2_with (go_at_call 53; refine hld.mono ?_; rintro e w1 ⟨q, rfl, n1, b1⟩; have n1H := Lib.hid n1; clear n1)
  go_loopw [3, 4] (fun nn xx wr => ∃ (g : Nat) (y : Nd) (q : Nat), g ≤ h ∧ nn = .int .i64 ((h : Int) - g + 1) ∧ xx = .pointer (some ⟨q, 0, none⟩) ∧ Hid (NodeAt w.heap.size wr q y ∧ y.Good ∧ LeftB ps g y ∧ Below w.heap.size w wr)) (fun nn _ _ => ((h : Int) + 1 - intOf nn).toNat)
  case atStart => exact ⟨h, z, q, Nat.le_refl _, by congr 1; omega, rfl, n1H.out, H.out.2.2.1, H.out.2.2.2, b1⟩
  case round =>
    obtain ⟨g, y, q, hgh, rfl, rfl, hI⟩ := hrel
    obtain ⟨i1, i2, i3, i4⟩ := hI.out
    cases g with
    | zero =>
      have e0 := i1.leaf0
      rw [show y.leaf = true from i3] at e0
      clear i1 i2 i3 i4
      go_wp2
      go_ret
      exact ⟨ret_int (by simp), hI.out.2.2.2⟩
    | succ g =>
      obtain ⟨h1, k, ks, z, hk, k1, k2, k3, k4⟩ := i3
      have e0 := i1.leaf0
      rw [h1] at e0
      obtain ⟨h0, kv, vv, iv, vc, hq, a2, a4, a6, a7⟩ := i1
      obtain ⟨A, c, rfl, l1, -, -⟩ := own_slice a7
      obtain ⟨kg, kcur, rfl, kg1, kg2, kg3, kg4⟩ := own_row a7 (by rw [hk]; simp)
      have ek := kg4 0 (.int .i64 (k : Int)) (by rw [hk]; rfl)
      have e3 : wr.cell? ⟨q, 3, none⟩ = some (.slice (some ⟨kg, 0, none⟩) y.kids.length c) := by rw [cell_of hq]; rfl
      have hkl : 0 < y.kids.length := by rw [hk]; simp
      have hld := load_sub (H.out.1.below i4) (H.out.2.1.below i4) k1 k3 k2
      have hK := Lib.hid (And.intro k3 (And.intro k4 i4))
      clear i2 i4 hk k1 k2 k3 k4 kg1 kg2 kg3 kg4 hq a2 a4 a6 a7
      go_wp2_with (go_at_call 53; refine hld.mono ?_; rintro e w2 ⟨q2, rfl, n2, b2⟩; have n2H := Lib.hid n2; clear n2)
      go_roundw
      case rel =>
        obtain ⟨k3, k4, i4⟩ := hK.out
        exact ⟨g, z, q2, by omega, by congr 1; omega, rfl, n2H.out.base_ i4.size, k3, k4, bel_then i4 i4.size b2⟩
      case measure => simp [intOf]; omega

theorem deep_none (w : World) (T p : Nat) (cnt : Int) (dead : Bool) (hT : TAt w T p (-1) cnt dead) :
    Calls Tryz.prog 37 #[.pointer (some ⟨T, 0, none⟩)] w fun e w' => e = .returned (.int .i64 0) ∧ w = w' := by
  have e1 := hT.c1
  go_enter Tryz.func37, Tryz.ntmps37
  go_wp2
  go_ret
  exact ⟨rfl, rfl⟩
end Go.Proofs.YtpfjhehjmhkbpaaGreatDoor

namespace Go.Proofs.YtpfjhehjmhkbpaaGreatDoor
open Go.RowKit

theorem gput0 {B p : Nat} {w : World} {r : PS} {ls ps : List Pg} {v : Value} {l : List UInt8} (h : Pgr B w p r ls ps) (hh : hasP ps 0 = true) (hv : Byt w v l) (hl : l.length ≤ 512) :
    Calls Tryz.prog 81 #[.pointer (some ⟨p, 0, none⟩), .int .i64 0, v] w fun e w' => ∃ v', e = .returned (.int .i64 0) ∧ Pgr B w' p r ls (ps.set 0 ⟨true, v', l⟩) ∧ Mut B [133, 147] w w' := gput (n := 0) h hh hv hl

set_option maxRecDepth 4000 in
set_option maxHeartbeats 800000 in
theorem writes_any (B : Nat) (w : World) (T p R c : Nat) (dead : Bool) (r : PS) (ls ps : List Pg) (hT : TAt w T p ((R : Int) - 1) (c : Int) dead) (hp : Pgr B w p r ls ps) (h0 : hasP ps 0 = true) (hR2 : R ≤ 16384) (hc : c ≤ 1000000000) :
    Calls Tryz.prog 43 #[.pointer (some ⟨T, 0, none⟩)] w fun e w' => e = .returned (.tuple #[]) ∧ ∃ v', Pgr B w' p r ls (ps.set 0 ⟨true, v', enc R ++ enc c⟩) ∧ Mut B [133, 147] w w' := by
  have e1 := hT.c1
  have h7 := Lib.hid (show (enc R).length ≤ 1000000000000 by have := enc_three (n := R) (by omega); omega)
  have h8 := Lib.hid (show (enc R ++ enc c).length ≤ 512 by have h1 := enc_three (n := R) (by omega); have h2 := enc_le10 (n := c) (by unfold M64; omega); rw [List.length_append]; omega)
  have hw2 : IntKind.u64.wrap (R : Int) = (R : Int) := by rw [IntKind.wrap_u64]; omega
  have hw3 : IntKind.u64.wrap (c : Int) = (c : Int) := by rw [IntKind.wrap_u64]; omega
  have hap := appendNum_any w.heap.size (.slice none 0 0) [] R w (World.ownsRow_nil _ _ _ _) (by simp) (by unfold M64; omega) (Nat.le_refl _)
  have hM : c < M64 := by unfold M64; omega
  have H := Lib.hid (And.intro hT (And.intro hp h0))
  have hMH := Lib.hid hM
  have mixed : Tryz.prog.follows .mixedOrders = true := by kernel_rfl
  clear hT hp h0 hM
  go_enter Tryz.func43, Tryz.ntmps43
  go_wp2_with (go_at_call 82; refine hap.mono ?_; rintro e w1 ⟨v1, rfl, o1, m1⟩; rw [List.nil_append] at o1; obtain ⟨A1, c1, rfl, -, -, -⟩ := own_slice o1)
  have b1 : Below w.heap.size w w1 := m1.fresh
  clear hap
  have hT1 := H.out.1.below b1
  have e0 := hT1.drew.c0
  have e2 := hT1.drew.c2
  have hS1 : w1.drew.cell? ⟨T, 0, none⟩ = some (.pointer (some ⟨p, 0, none⟩)) := e0
  have hS1H := Lib.hid hS1
  have hld := loadI64 T 2 c w1.drew e2
  have h0 := hT1.c0
  clear hS1 hT1
  go_region_held3 (fun W => W.cell? ⟨T, 0, none⟩ = some (.pointer (some ⟨p, 0, none⟩))) (first | (with_reducible exact hS1H.out) | (with_reducible exact hS2) | (with_reducible exact hS3)) (first
    | (go_at_call 49; refine hld.mono ?_; rintro e w' ⟨rfl, rfl⟩)
    | (go_at_call 82; refine (appendNum_any w.heap.size _ (enc R) c _ (by exact o1) h7.out hMH.out (by exact b1.size)).mono ?_; rintro e w2 ⟨v2, rfl, o2, m2⟩; obtain ⟨l, hl⟩ : ∃ l, l = enc R ++ enc c := ⟨_, rfl⟩; rw [← hl] at o2; have h9 := Lib.hid (show l.length ≤ 512 by rw [hl]; exact h8.out); have hlH := Lib.hid hl; clear hl; have b2 : Below w.heap.size w w2 := (Mut.fresh (m1.trans (mut_undrew m2))); have hS2 := (H.out.1.below b2).c0; obtain ⟨A2, c2, rfl, -, -, -⟩ := own_slice o2)
    | (go_at_call 81; refine (gput0 (H.out.2.1.below b2) H.out.2.2 (Byt.of_own o2) h9.out).mono ?_; rintro e w3 ⟨v3, rfl, hp3, m3⟩; have hS3 := ((H.out.1.below b2).mut m3 (by decide)).c0))
  all_goals
    go_end0
    rw [hlH.out] at hp3
    exact ⟨rfl, v3, hp3, (Mut.of_below b2 _ _).trans m3⟩

theorem own_two (w : World) (a b : Value) (e : TypeId) : (w.alloc (.cells #[a, b] e)).ownsRow w.heap.size e 1 (.slice (some ⟨w.heap.size, 0, none⟩) 2 2) 2 [a, b] :=
  ⟨rfl, .inr ⟨w.heap.size, 2, #[a, b], rfl, Nat.le_refl _, heap_new _ _, Nat.le_refl _, by simp [maxLen], rfl, rfl⟩⟩

theorem own_newB {w : World} {B : Nat} (u : Value) (e : TypeId) (hB : B ≤ w.heap.size) {n : Nat} (hn : n = w.heap.size) : (w.alloc (.cells #[u] e)).ownsRow B e 1 (.slice (some ⟨n, 0, none⟩) 1 1) 1 [u] := by
  subst hn; exact own_base (own_new w u e) hB
theorem own_twoB {w : World} {B : Nat} (a b : Value) (e : TypeId) (hB : B ≤ w.heap.size) {n : Nat} (hn : n = w.heap.size) : (w.alloc (.cells #[a, b] e)).ownsRow B e 1 (.slice (some ⟨n, 0, none⟩) 2 2) 2 [a, b] := by
  subst hn; exact own_base (own_two w a b e) hB

/-- The new first node. -/
def rootNd (k : ByteArray) (R m : Nat) : Nd := ⟨false, [k], [], [R, m]⟩

theorem rootNd_good [Mode] {k : ByteArray} {R m : Nat} (hk : k.size ≤ 200) (hkt : Mode.short = true → k.size ≤ 4) (hR : R < 16384) (hm : m < 16384) : (rootNd k R m).Good ∧ (rootNd k R m).bytes.length ≤ 512 := by
  have hg : (rootNd k R m).Good := by
    refine ⟨⟨by simp [rootNd], fun a ha => ?_, by simp [rootNd], fun a ha => ?_, (fun h => by cases h), fun _ => ⟨rfl, rfl⟩⟩, fun i a v h1 h2 => by simp [rootNd] at h2, fun hs => ⟨fun a ha => ?_, by simp [rootNd]⟩, fun _ _ => by simp [rootNd]⟩
    · simp [rootNd] at ha; subst ha; exact hk
    · simp [rootNd] at ha; omega
    · simp [rootNd] at ha; subst ha; exact hkt hs
  refine ⟨hg, ?_⟩
  have h1 := Nd.bytes_len (rootNd k R m)
  have h2 := Nd.entry_le hg (keyBytes k) (by simp [Nd.entries, rootNd])
  have h3 := enc_three (n := R) (by omega)
  have h4 := enc_three (n := m) (by omega)
  have h5 : (enc 1).length ≤ 2 := enc_two (by omega)
  have e1 : sumLen (rootNd k R m).entries = (keyBytes k).length := by simp [Nd.entries, rootNd, sumLen]
  have e2 : sumLen ((rootNd k R m).kids.map enc) = (enc R).length + (enc m).length := by simp [rootNd, sumLen]
  have e3 : (rootNd k R m).keys.length = 1 := rfl
  rw [e1, e2, e3] at h1
  omega

theorem root_at1 (W : World) (k : ByteArray) (R m : Nat) : NodeAt W.heap.size (((W.alloc (.cells #[.string k] 9)).alloc (.cells #[.int .i64 (R : Int), .int .i64 (m : Int)] 3)).alloc (.cells #[.bool false, .slice (some ⟨W.heap.size, 0, none⟩) 1 1, .slice none 0 0, .slice (some ⟨W.heap.size + 1, 0, none⟩) 2 2] 92)).drew (W.heap.size + 1 + 1) (rootNd k R m) := by
  refine NodeAt.drew ⟨by omega, .slice (some ⟨W.heap.size, 0, none⟩) 1 1, .slice none 0 0, .slice (some ⟨W.heap.size + 1, 0, none⟩) 2 2, [], ?_, ?_, ⟨rfl, .inl ⟨rfl, rfl⟩⟩, ValsAt.nil, ?_⟩
  · have := heap_new ((W.alloc (.cells #[.string k] 9)).alloc (.cells #[.int .i64 (R : Int), .int .i64 (m : Int)] 3)) (.cells #[.bool false, .slice (some ⟨W.heap.size, 0, none⟩) 1 1, .slice none 0 0, .slice (some ⟨W.heap.size + 1, 0, none⟩) 2 2] 92)
    simp only [World.size_alloc] at this
    exact this
  · exact own_alloc (own_alloc (own_newB (.string k) 9 (Nat.le_refl _) rfl) _) _
  · exact own_alloc (own_twoB (.int .i64 (R : Int)) (.int .i64 (m : Int)) 3 (by simp) (by simp)) _
theorem root_at2 (W : World) (k : ByteArray) (R m : Nat) : NodeAt W.heap.size (((W.alloc (.cells #[.int .i64 (R : Int), .int .i64 (m : Int)] 3)).alloc (.cells #[.string k] 9)).alloc (.cells #[.bool false, .slice (some ⟨W.heap.size + 1, 0, none⟩) 1 1, .slice none 0 0, .slice (some ⟨W.heap.size, 0, none⟩) 2 2] 92)).drew (W.heap.size + 1 + 1) (rootNd k R m) := by
  refine NodeAt.drew ⟨by omega, .slice (some ⟨W.heap.size + 1, 0, none⟩) 1 1, .slice none 0 0, .slice (some ⟨W.heap.size, 0, none⟩) 2 2, [], ?_, ?_, ⟨rfl, .inl ⟨rfl, rfl⟩⟩, ValsAt.nil, ?_⟩
  · have := heap_new ((W.alloc (.cells #[.int .i64 (R : Int), .int .i64 (m : Int)] 3)).alloc (.cells #[.string k] 9)) (.cells #[.bool false, .slice (some ⟨W.heap.size + 1, 0, none⟩) 1 1, .slice none 0 0, .slice (some ⟨W.heap.size, 0, none⟩) 2 2] 92)
    simp only [World.size_alloc] at this
    exact this
  · exact own_alloc (own_newB (.string k) 9 (by simp) (by simp)) _
  · exact own_alloc (own_alloc (own_twoB (.int .i64 (R : Int)) (.int .i64 (m : Int)) 3 (Nat.le_refl _) rfl) _) _

set_option maxRecDepth 4000 in
set_option maxHeartbeats 800000 in
theorem grows_any [Mode] (B : Nat) (w : World) (T p R m rq : Nat) (k : ByteArray) (cnt : Int) (dead : Bool) (r : PS) (ls ps : List Pg) (hT : TAt w T p (R : Int) cnt dead) (hp : Pgr B w p r ls ps) (hrq : w.heap[rq]? = some (.cells #[.string k, .int .i64 (m : Int)] 161 (0, 0)))
    (hk : k.size ≤ 200) (hkt : Mode.short = true → k.size ≤ 4) (hR : R < 16384) (hm : m < 16384) (hroom : 1 ≤ room ps) (hB : B ≤ w.heap.size) (hBT : B ≤ T) :
    Calls Tryz.prog 45 #[.pointer (some ⟨T, 0, none⟩), .pointer (some ⟨rq, 0, none⟩)] w fun e w' => e = .returned (.tuple #[]) ∧ ∃ v', TAt w' T p (newIdx ps : Int) cnt dead ∧ Pgr B w' p r ls ((newPs ps).set (newIdx ps) ⟨true, v', (rootNd k R m).bytes⟩) ∧ Mut B [133, 147, 80] w w' := by
  have e0 := hT.c0
  have hnr := newPs_room hp.few hroom
  have hnew := gnew hp hnr.2.1 hB
  have H := Lib.hid (And.intro hT (And.intro hrq (And.intro (rootNd_good hk hkt hR hm) hnr)))
  clear hT hp hrq hnr
  go_enter Tryz.func45, Tryz.ntmps45
  go_wp2_with (go_at_call 39; refine hnew.mono ?_; rintro e w1 ⟨rfl, hp1, m1⟩; have hT1 := H.out.1.mut m1 (by decide); have e01 := hT1.c0)
  have hrq1 := m1.keepc H.out.2.1 (by decide)
  have hS1 : w1.drew.cell? ⟨T, 1, none⟩ = some (.int .i64 (R : Int)) ∧ w1.drew.cell? ⟨rq, 0, none⟩ = some (.string k) ∧ w1.drew.cell? ⟨rq, 1, none⟩ = some (.int .i64 (m : Int)) := ⟨hT1.c1, (cell_of hrq1 0).trans rfl, (cell_of hrq1 1).trans rfl⟩
  have hkeep : ∀ W, Mut B [133, 147] w1 W → W.cell? ⟨T, 1, none⟩ = some (.int .i64 (R : Int)) ∧ W.cell? ⟨rq, 0, none⟩ = some (.string k) ∧ W.cell? ⟨rq, 1, none⟩ = some (.int .i64 (m : Int)) := fun W hm => ⟨(hT1.mut hm (by decide)).c1, (cell_of (hm.keepc hrq1 (by decide)) 0).trans rfl, (cell_of (hm.keepc hrq1 (by decide)) 1).trans rfl⟩
  have hkeepH := Lib.hid hkeep
  have hS1H := Lib.hid hS1
  have hp1d := Lib.hid hp1
  have hsz1 := m1.size
  have hhas := Lib.hid (show hasP (newPs ps) (newIdx ps) = true by rw [newPs_has]; simp)
  have mixed : Tryz.prog.follows .mixedOrders = true := by kernel_rfl
  clear hkeep hS1 hrq1 hp1 hnew
  go_wp2_with fail
  go_region_held3 (fun W => W.cell? ⟨T, 1, none⟩ = some (.int .i64 (R : Int)) ∧ W.cell? ⟨rq, 0, none⟩ = some (.string k) ∧ W.cell? ⟨rq, 1, none⟩ = some (.int .i64 (m : Int))) (first | (with_reducible exact hS1H.out) | (with_reducible exact hS4) | (refine hkeepH.out _ ?_; repeat (first | exact Mut.refl _ _ _ | apply Mut.drew | apply Mut.alloc))) (first
    | (go_at_call 41; refine (store_any B w1.heap.size _ T p (newIdx ps) _ R cnt dead r ls (newPs ps) (rootNd k R m) (hT1.mut (by repeat (first | exact Mut.refl B [] _ | apply Mut.drew | apply Mut.alloc)) (by simp)) (hp1d.out.mut (by repeat (first | exact Mut.refl B [] _ | apply Mut.drew | apply Mut.alloc)) (by simp) (by simp) (by simp)) hhas.out (by first | exact root_at1 w1 k R m | exact root_at2 w1 k R m) H.out.2.2.1.1.ok H.out.2.2.1.2).mono ?_; rintro e w2 ⟨rfl, v2, hp2, m2⟩; have M2 : Mut B [133, 147] w1 w2 := Mut.trans (by repeat (first | exact Mut.refl _ _ _ | apply Mut.drew | apply Mut.alloc)) m2; have hS4 := hkeepH.out w2 M2))
  all_goals
    have hT2 := hT1.mut M2 (by decide)
    have e02 := hT2.c1
    have f02 := hT2.unfrozen 1
    have hset : TAt (w2.setCell ⟨T, 1, none⟩ (.int .i64 (newIdx ps : Int))) T p (newIdx ps : Int) cnt dead := heap_set hT2 1 _
    have m3 : Mut B [80] w2 (w2.setCell ⟨T, 1, none⟩ (.int .i64 (newIdx ps : Int))) := (Mut.refl _ _ _).setCell (p := ⟨T, 1, none⟩) hT2 (by simp) hBT _
    have hfin := Lib.hid (And.intro hset (And.intro (hp2.mut m3 (by decide) (by decide) (by decide)) (((m1.trans M2).mono (Nat.le_refl _) (by simp) : Mut B [133, 147, 80] w w2).trans (m3.mono (Nat.le_refl _) (by simp)))))
    clear hset m3 hp2 hT2 M2 hS4
    go_wp2
    go_end0
    exact ⟨rfl, v2, hfin.out⟩
end Go.Proofs.YtpfjhehjmhkbpaaGreatDoor

namespace Go.Proofs.YtpfjhehjmhkbpaaGreatDoor
open Go.RowKit

set_option maxRecDepth 4000 in
set_option maxHeartbeats 400000 in
theorem write_inl (w : World) (T : Nat) (key : ByteArray) (v : Value) (l : List UInt8) (hv : Byt w v l) (hk : key.size ≤ 200) (hl : key.size + l.length ≤ 200) :
    Calls Tryz.prog 40 #[.pointer (some ⟨T, 0, none⟩), .string key, v] w fun e w' => ∃ v', e = .returned (.agg #[v', .bool false, .int .i64 0, .int .i64 0]) ∧ Byt w' v' l ∧ Below w.heap.size w w' := by
  have hcl := fun o => clone_any v l (w.alloc o) (hv.below ((Below.refl _ _).alloc (Nat.le_refl _) _)) (by omega)
  obtain ⟨A, c, rfl, g1, g2, g3, g4⟩ := hv
  have hm := fun W => many_any key A l.length c W (by omega) (by omega)
  have h0 : manyOf key.size l.length = 0 := if_pos hl
  rw [h0] at hm
  have hclH := Lib.hid hcl
  have hmH := Lib.hid hm
  clear hcl hm g4 h0
  go_enter Tryz.func40, Tryz.ntmps40
  go_wp2_with (first
    | (go_at_call 36; refine (hmH.out _).mono ?_; rintro e w1 ⟨rfl, rfl⟩)
    | (go_at_call 80; refine (hclH.out _).mono ?_; rintro e w2 ⟨v', rfl, o2, b2⟩; have hb2 := Byt.of_own o2; obtain ⟨A2, c2, rfl, -, -, -⟩ := own_slice o2; clear o2; have hN := heap_below (heap_new w _) b2 (by simp); have f0 := unfrozen_of hN 0; have f1 := unfrozen_of hN 1; have f2 := unfrozen_of hN 2; have f3 := unfrozen_of hN 3; have d0 : w2.cell? ⟨w.heap.size, 0, none⟩ = some (.slice none 0 0) := (by rw [cell_of hN]; rfl); have d1 : w2.cell? ⟨w.heap.size, 1, none⟩ = some (.bool false) := (by rw [cell_of hN]; rfl); have d2 : w2.cell? ⟨w.heap.size, 2, none⟩ = some (.int .i64 0) := (by rw [cell_of hN]; rfl); have d3 : w2.cell? ⟨w.heap.size, 3, none⟩ = some (.int .i64 0) := (by rw [cell_of hN]; rfl)))
  have hm : Mut w.heap.size [86] w2 ((((w2.setCell ⟨w.heap.size, 0, none⟩ (.slice A2 l.length c2)).setCell ⟨w.heap.size, 1, none⟩ (.bool false)).setCell ⟨w.heap.size, 2, none⟩ (.int .i64 0)).setCell ⟨w.heap.size, 3, none⟩ (.int .i64 0)) :=
    ((((Mut.refl w.heap.size [86] w2).setCell (p := ⟨w.heap.size, 0, none⟩) hN (by simp) (Nat.le_refl _) _).setCell (p := ⟨w.heap.size, 1, none⟩) (heap_set hN _ _) (by simp) (Nat.le_refl _) _).setCell (p := ⟨w.heap.size, 2, none⟩) (heap_set (heap_set hN _ _) _ _) (by simp) (Nat.le_refl _) _).setCell (p := ⟨w.heap.size, 3, none⟩) (heap_set (heap_set (heap_set hN _ _) _ _) _ _) (by simp) (Nat.le_refl _) _
  have hN4 := heap_set (heap_set (heap_set (heap_set hN 0 (.slice A2 l.length c2)) 1 (.bool false)) 2 (.int .i64 0)) 3 (.int .i64 0)
  generalize (((w2.setCell ⟨w.heap.size, 0, none⟩ (.slice A2 l.length c2)).setCell ⟨w.heap.size, 1, none⟩ (.bool false)).setCell ⟨w.heap.size, 2, none⟩ (.int .i64 0)).setCell ⟨w.heap.size, 3, none⟩ (.int .i64 0) = w4 at *
  have r0 : w4.cell? ⟨w.heap.size, 0, none⟩ = some (.slice A2 l.length c2) := by rw [cell_of hN4]; rfl
  have r1 : w4.cell? ⟨w.heap.size, 1, none⟩ = some (.bool false) := by rw [cell_of hN4]; rfl
  have r2 : w4.cell? ⟨w.heap.size, 2, none⟩ = some (.int .i64 0) := by rw [cell_of hN4]; rfl
  have r3 : w4.cell? ⟨w.heap.size, 3, none⟩ = some (.int .i64 0) := by rw [cell_of hN4]; rfl
  have bel2 : Below w.heap.size w w2 := bel_then ((Below.refl _ _).alloc (Nat.le_refl _) _) (by simp) b2
  refine bodyPost_ret (v := .agg #[.slice A2 l.length c2, .bool false, .int .i64 0, .int .i64 0]) (by simp [results, Tryz.results40, go_sem, r0, r1, r2, r3]) rfl ⟨_, rfl, hb2.mut hm (by decide), bel2.trans (hm.below bel2.size)⟩

set_option maxRecDepth 4000 in
set_option maxHeartbeats 800000 in
theorem write_far (B : Nat) (w : World) (T p : Nat) (root cnt : Int) (dead : Bool) (r : PS) (ls ps : List Pg) (key : ByteArray) (v : Value) (l : List UInt8)
    (hT : TAt w T p root cnt dead) (hp : Pgr B w p r ls ps) (hv : Byt w v l) (hk : key.size ≤ 200) (hl : 200 < key.size + l.length) (hl2 : l.length ≤ 65536) (hr : manyOf key.size l.length ≤ room ps) (hB : B ≤ w.heap.size) :
    Calls Tryz.prog 40 #[.pointer (some ⟨T, 0, none⟩), .string key, v] w fun e w' => ∃ (f : Nat) (V : List Nat) (ps' : List Pg), e = .returned (.agg #[.slice none 0 0, .bool true, .int .i64 (l.length : Int), .int .i64 (f : Int)]) ∧ f < 16384 ∧
      VlOf ps' (.far l.length f) l V ∧ Pgr B w' p r ls ps' ∧ Stp ps [] ps' V ∧ room ps ≤ room ps' + manyOf key.size l.length ∧ Mut B [133, 147] w w' := by
  have hvH := Lib.hid hv
  obtain ⟨A, c, rfl, g1, g2, g3, g4⟩ := hv
  obtain ⟨M, hM⟩ : ∃ M, M = manyOf key.size l.length := ⟨_, rfl⟩
  have hMe : M = (l.length + 508) / 509 := by rw [hM]; exact if_neg (by omega)
  obtain ⟨n, hn⟩ : ∃ n, n = l.length := ⟨_, rfl⟩
  have hm := fun W => many_any key A l.length c W (by omega) (by omega)
  rw [← hM, ← hn] at hm
  rw [← hn] at hMe g1 hl hl2
  rw [← hM] at hr ⊢
  rw [← hn]
  have hM1 : 1 ≤ M := by omega
  have hM2 : (M - 1) * 509 < n := by omega
  have hM3 : n ≤ M * 509 := by omega
  have hM4 : M ≤ 200 := by omega
  have hmH := Lib.hid hm
  have hnH := Lib.hid hn
  have H := Lib.hid (And.intro hT (And.intro hp hr))
  have hs0 : Hid (Stp ps [] ps []) := Stp.refl (by simp) (by simp)
  clear hm hM hMe hn hT hp hr g4
  unfold maxLen at g2
  have hM0 : ((M : Int) == 0) = false := beq_eq_false_iff_ne.2 (by omega)
  go_enter Tryz.func40, Tryz.ntmps40
  go_wp2_with (go_at_call 36; refine (hmH.out _).mono ?_; rintro e w1 ⟨rfl, rfl⟩)
  have hw0 : Below w.heap.size w ((w.alloc (.cells #[.slice none 0 0, .bool false, .int .i64 0, .int .i64 0] 86)).alloc (.cells #[.slice none 0 0, .bool true, .int .i64 (n : Int), .int .i64 0] 86))   := bel_alloc (bel_alloc (Below.refl _ _) _) _
  have hR := heap_old (heap_new w (.cells #[.slice none 0 0, .bool false, .int .i64 0, .int .i64 0] 86)) (.cells #[.slice none 0 0, .bool true, .int .i64 (n : Int), .int .i64 0] 86)
  have hV := heap_new (w.alloc (.cells #[.slice none 0 0, .bool false, .int .i64 0, .int .i64 0] 86)) (.cells #[.slice none 0 0, .bool true, .int .i64 (n : Int), .int .i64 0] 86)
  have hRs : w.heap.size + 1 < ((w.alloc (.cells #[.slice none 0 0, .bool false, .int .i64 0, .int .i64 0] 86)).alloc (.cells #[.slice none 0 0, .bool true, .int .i64 (n : Int), .int .i64 0] 86)).heap.size := by simp
  simp only [World.size_alloc] at hV
  generalize (w.alloc (.cells #[.slice none 0 0, .bool false, .int .i64 0, .int .i64 0] 86)).alloc (.cells #[.slice none 0 0, .bool true, .int .i64 (n : Int), .int .i64 0] 86) = w0 at *
  have hw0H := Lib.hid hw0; clear hw0
  go_loopw [7, 9] (fun nn nx wr => ∃ (m : Int) (k x : Nat) (ps' : List Pg) (V' : List Nat), nn = .int .i64 m ∧ nx = .int .i64 (x : Int) ∧ k ≤ M ∧ x ≤ 16384 ∧ Hid (m = (k : Int) - 1) ∧ Hid (((k = M ∧ x = 0 ∧ V' = []) ∨ (∃ g, x = g + 1 ∧ g < 16384 ∧ k < M ∧ Chain ps' g (l.drop (k * 509)) V')) ∧ Pgr B wr p r ls ps' ∧ Stp ps [] ps' V' ∧ room ps + k ≤ room ps' + M ∧ Mut B [133, 147] w0 wr)) (fun nn _ _ => (intOf nn + 1).toNat)
  case atStart =>
    obtain ⟨hT, hp, hr⟩ := H.out
    exact ⟨_, M, 0, ps, [], rfl, rfl, Nat.le_refl _, by omega, rfl, .inl ⟨rfl, rfl, rfl⟩, hp.below hw0H.out, hs0, Nat.le_refl _, .refl _ _ _⟩
  case round =>
    obtain ⟨m, k, x, ps', V', rfl, rfl, hkM, hx, hmk, hI⟩ := hrel
    by_cases h0 : 1 ≤ k
    · obtain ⟨j, rfl⟩ : ∃ j, k = j + 1 := ⟨k - 1, by omega⟩
      obtain rfl : m = (j : Int) := by rw [hmk.out]; omega
      obtain ⟨i1, i2, i3, i4, i5⟩ := hI.out
      have hj : j < M := hkM
      have hjn : j * 509 < n := by
        have := Nat.mul_le_mul_right 509 (show j ≤ M - 1 by omega); omega
      have hT1 := (H.out.1.below hw0H.out).mut i5 (by decide)
      have e0 := hT1.c0
      have hroom := newPs_room i2.few (by have := H.out.2.2; omega)
      have hnew := gnew i2 hroom.2.1 (by have := hw0H.out.size; have := i5.size; omega)
      have hrH := Lib.hid hroom
      clear i1 i2 i3 i4 i5 hT1 hroom
      go_wp2_with (go_at_call 39; refine hnew.mono ?_; rintro e w2 ⟨rfl, hp2, m2⟩)
      have e02 := ((H.out.1.below hw0H.out).mut (hI.out.2.2.2.2.trans m2) (by decide)).c0
      have hwx : IntKind.u64.wrap (x : Int) = (x : Int) := by rw [IntKind.wrap_u64]; omega
      have hw2 : IntKind.i64.wrap ((j : Int) * 509 + 512) = (j : Int) * 509 + 512 := by rw [IntKind.wrap_i64]; omega
      have hw3 : IntKind.i64.wrap ((j : Int) * 509 + 512 - 3) = (j : Int) * 509 + 512 - 3 := by rw [IntKind.wrap_i64]; omega
      have hap := Lib.hid (fun (W : World) => appendNum_any W.heap.size (.slice none 0 0) [] x W (World.ownsRow_nil _ _ _ _) (by simp) (by unfold M64; omega) (Nat.le_refl _))
      have hni : newIdx ps' < 16384 := hrH.out.2.2.1
      have mixed : Tryz.prog.follows .mixedOrders = true := by kernel_rfl
      clear e0 hnew
      have hby : Byt w2 (.slice A n c) l := by
        have h1 := hvH.out
        rw [← hnH.out] at h1
        exact ((h1.below hw0H.out).mut hI.out.2.2.2.2 (by decide)).mut m2 (by decide)
      have hz2 : w.heap.size ≤ w2.heap.size := Nat.le_trans hw0H.out.size (Nat.le_trans hI.out.2.2.2.2.size m2.size)
      have hby2 : Hid (∀ (E : Nat) (W : World), E ≤ n → j * 509 ≤ E → Below w2.heap.size w2 W → At W (subAddr A (j * 509) c 1) (((l.take E).drop (j * 509)).map YtpfjhehjmhkbpaaGreatDoor.u8)) := fun E W hE hj' hb => by
        obtain ⟨A', c', hv', k1, k2, k3, k4⟩ := hby.below hb
        simp only [Value.slice.injEq] at hv'
        obtain ⟨rfl, _, rfl⟩ := hv'
        have := k4.at_.sub (n := n) (sz := 1) (a := j * 509) (b := E) (c := c) (by rw [List.length_map, hnH.out, Nat.mul_one]) hj' hE g1
        simpa [List.map_take, List.map_drop] using this
      have hput := Lib.hid (fun (W : World) (v : Value) (ch : List UInt8) (hb : Below w2.heap.size w2 W) (hv : Byt W v ch) (hl : ch.length ≤ 512) => gput (n := newIdx ps') (hp2.below hb) (by rw [newPs_has]; simp) hv hl)
      clear hby
      have hlim := Lib.hid (And.intro g3 (And.intro hz2 (enc_three (n := x) (by omega))))
      have mfin : ∀ (E : Nat) (w5 : World) (v5 : Value), E ≤ n → j * 509 < E → ((E = n ∧ n ≤ j * 509 + 509) ∨ (E = j * 509 + 509 ∧ j + 1 < M)) → Pgr B w5 p r ls ((newPs ps').set (newIdx ps') ⟨true, v5, enc x ++ (l.take E).drop (j * 509)⟩) → Mut B [133, 147] w2 w5 →
          ∃ (m : Int) (k x_1 : Nat) (ps'' : List Pg) (V' : List Nat), Value.int .i64 ((j : Int) - 1) = .int .i64 m ∧ Value.int .i64 ((newIdx ps' : Int) + 1) = .int .i64 (x_1 : Int) ∧ k ≤ M ∧ x_1 ≤ 16384 ∧ Hid (m = (k : Int) - 1) ∧ Hid (((k = M ∧ x_1 = 0 ∧ V' = []) ∨ (∃ g, x_1 = g + 1 ∧ g < 16384 ∧ k < M ∧ Chain ps'' g (l.drop (k * 509)) V')) ∧ Pgr B w5 p r ls ps'' ∧ Stp ps [] ps'' V' ∧ room ps + k ≤ room ps'' + M ∧ Mut B [133, 147] w0 w5) := by
        intro E w5 v5 hE1 hE2 hE3 hp5 m5
        obtain ⟨i1, i2, i3, i4, i5⟩ := hI.out
        obtain ⟨k1, k2, k3, k4⟩ := hrH.out
        have hV : ∀ m ∈ V', hasP ps' m = true := fun m hm => (i3.tak m).2 (.inr hm)
        have p1 := Stp.new_ hV i3.nd
        have hS1 : ∀ m ∈ newIdx ps' :: V', hasP (newPs ps') m = true := fun m hm => (p1.tak m).2 (.inr hm)
        have p2 := Stp.put (v := v5) (l := enc x ++ (l.take E).drop (j * 509)) hS1 p1.nd (n := newIdx ps') (by simp)
        have hl1 : newIdx ps' < (newPs ps').length := (hasP_some (hS1 (newIdx ps') (by simp))).choose_spec.2.2
        have hpg : PgIs ((newPs ps').set (newIdx ps') ⟨true, v5, enc x ++ (l.take E).drop (j * 509)⟩) (newIdx ps') (enc x ++ (l.take E).drop (j * 509)) := pgIs_set_self hl1
        have hne : (l.take E).drop (j * 509) ≠ [] := fun h => by
          have := congrArg List.length h
          rw [List.length_drop, List.length_take, ← hnH.out] at this
          simp at this; omega
        refine ⟨_, j, newIdx ps' + 1, _, newIdx ps' :: V', rfl, by simp, by omega, by omega, rfl, .inr ⟨newIdx ps', rfl, k3, hj, ?_⟩, hp5, (i3.trans p1).trans p2, ?_, (i5.trans m2).trans m5⟩
        · rcases i1 with ⟨a1, a2, a3⟩ | ⟨g, a1, a2, a3, a4⟩
          · have hEn : E = n := by
              rcases hE3 with ⟨h, _⟩ | ⟨h, h'⟩
              · exact h
              · omega
            have e1 : (l.take E).drop (j * 509) = l.drop (j * 509) := by rw [List.take_of_length_le (by rw [hEn, hnH.out]; exact Nat.le_refl _)]
            rw [a3]
            rw [e1] at hpg hne ⊢
            exact .last hpg hne (by omega)
          · have hEn : E = j * 509 + 509 := by
              rcases hE3 with ⟨h, h2⟩ | ⟨h, h'⟩
              · have := Nat.mul_le_mul_right 509 (show j + 1 ≤ M - 1 by omega); omega
              · exact h
            have e1 : l.drop (j * 509) = (l.take E).drop (j * 509) ++ l.drop ((j + 1) * 509) := by
              rw [hEn, show (j + 1) * 509 = j * 509 + 509 by omega]
              rw [← List.drop_append_of_le_length (by rw [List.length_take, ← hnH.out]; omega), List.take_append_drop]
            rw [e1]
            subst a1
            refine .more hpg hne a2 (a4.move fun m hm l' hl' => pgIs_set_other (newPs_keep hl') ?_)
            rintro rfl
            have := hV _ hm
            rw [newIdx_hasnot] at this; cases this
        · rw [room_set_taken (hS1 _ (by simp))]; omega
      have mfinH := Lib.hid mfin
      clear mfin
      by_cases hlast : (n : Int) ≤ (j : Int) * 509 + 512 - 3
      · obtain ⟨E, hE⟩ : ∃ E, E = n := ⟨_, rfl⟩
        have s1 : ∀ W, (Instr.slice 32 (.slice A n c) (some (.int .i64 ((j : Int) * 509))) (some (.int .i64 (n : Int))) none).run Tryz.prog W = .ok (.slice (subAddr A (j * 509) c 1) (E - j * 509) (c - j * 509)) W := fun W => by rw [hE]; exact run_sub (a := j * 509) Tryz.underlying32 (by kernel_rfl) A (by omega) (by omega) W
        have hEH := Lib.hid (show E ≤ n ∧ j * 509 < E ∧ ((E = n ∧ n ≤ j * 509 + 509) ∨ (E = j * 509 + 509 ∧ j + 1 < M)) ∧ E - j * 509 ≤ 509 from ⟨by omega, by omega, .inl ⟨hE, by omega⟩, by omega⟩)
        clear hE
        have hmin : ∀ W, (Builtin.min_ #[3, 3] 3 #[.int .i64 (n : Int), .int .i64 ((j : Int) * 509 + 512 - 3)]).run Tryz.prog W = .ok (.int .i64 (n : Int)) W := fun W => by rw [run_min_int2, if_neg (by omega)]
        clear hlast
        go_region_held3 (fun W => W.cell? ⟨T, 0, none⟩ = some (.pointer (some ⟨p, 0, none⟩))) (first | exact e02 | exact e03 | exact e04 | exact e05) (first
          | (go_at_call 82; refine (hap.out _).mono ?_; rintro e w3 ⟨v3, rfl, o3, m3⟩; have b3 : Below w2.heap.size w2 w3 := bel_undrew m3.fresh; have e03 := bel_cell b3 e02; obtain ⟨A3, c3, rfl, -, -, -⟩ := own_slice o3)
          | (refine step_app rfl (.tmp 47) (.tmp 56) 32 rfl _ 5 _ 1 1 Tryz.underlying32 info5 rfl (by decide) _ _ _ rfl (by exact o3) _ (E - j * 509) (c - j * 509) (((l.take E).drop (j * 509)).map YtpfjhehjmhkbpaaGreatDoor.u8) rfl (by rw [List.length_map, List.length_drop, List.length_take, ← hnH.out]; have := hEH.out.1; omega) (by exact hby2.out E w3 hEH.out.1 (Nat.le_of_lt hEH.out.2.1) b3) (fun h => by have := hlim.out.1 (sub_none h); omega) (one_u8 _) (by have := hEH.out.2.2.2; have := hlim.out.2.2; simp only [List.nil_append]; unfold maxLen; omega) (by have := hEH.out.2.2.2; have := hlim.out.2.2; simp only [List.nil_append]; omega) (by exact b3.size) ?_; intro v4 w4 o4 m4; obtain ⟨A4, c4, rfl, -, -, -⟩ := own_slice o4; have b4 : Below w2.heap.size w2 w4 := ((Mut.of_below b3 w2.heap.size [5]).trans m4).fresh; have e04 := bel_cell b4 e02)
          | (go_at_call 81; refine (hput.out w4 _ (enc x ++ (l.take E).drop (j * 509)) b4 (by first | exact Byt.of_own (by rw [List.map_append]; exact o4) | exact Byt.of_own (by rw [List.map_append]; simpa using o4)) (by rw [List.length_append, List.length_drop, List.length_take, ← hnH.out]; have := hEH.out.2.2.2; have := hEH.out.1; have := hlim.out.2.2; omega)).mono ?_; rintro e w5 ⟨v5, rfl, hp5, m5⟩; have m25 : Mut B [133, 147] w2 w5 := (Mut.of_below b4 _ _).trans m5; have e05 : w5.cell? ⟨T, 0, none⟩ = some (.pointer (some ⟨p, 0, none⟩)) := ((H.out.1.below hw0H.out).mut (hI.out.2.2.2.2.trans (m2.trans m25)) (by decide)).c0))
        all_goals
          go_wp2
          go_roundw
          case rel => exact mfinH.out E w5 v5 hEH.out.1 hEH.out.2.1 hEH.out.2.2.1 hp5 m25
          case measure => simp [intOf]
      · obtain ⟨E, hE⟩ : ∃ E, E = j * 509 + 509 := ⟨_, rfl⟩
        have s1 : ∀ W, (Instr.slice 32 (.slice A n c) (some (.int .i64 ((j : Int) * 509))) (some (.int .i64 ((j : Int) * 509 + 512 - 3))) none).run Tryz.prog W = .ok (.slice (subAddr A (j * 509) c 1) (E - j * 509) (c - j * 509)) W := fun W => by
          rw [hE, show (j : Int) * 509 + 512 - 3 = ((j * 509 + 509 : Nat) : Int) by omega]
          exact run_sub (a := j * 509) Tryz.underlying32 (by kernel_rfl) A (by omega) (by omega) W
        have hEH := Lib.hid (show E ≤ n ∧ j * 509 < E ∧ ((E = n ∧ n ≤ j * 509 + 509) ∨ (E = j * 509 + 509 ∧ j + 1 < M)) ∧ E - j * 509 ≤ 509 from ⟨by omega, by omega, .inr ⟨hE, by omega⟩, by omega⟩)
        clear hE
        have hmin : ∀ W, (Builtin.min_ #[3, 3] 3 #[.int .i64 (n : Int), .int .i64 ((j : Int) * 509 + 512 - 3)]).run Tryz.prog W = .ok (.int .i64 ((j : Int) * 509 + 512 - 3)) W := fun W => by rw [run_min_int2, if_pos (by omega)]
        clear hlast
        go_region_held3 (fun W => W.cell? ⟨T, 0, none⟩ = some (.pointer (some ⟨p, 0, none⟩))) (first | exact e02 | exact e03 | exact e04 | exact e05) (first
          | (go_at_call 82; refine (hap.out _).mono ?_; rintro e w3 ⟨v3, rfl, o3, m3⟩; have b3 : Below w2.heap.size w2 w3 := bel_undrew m3.fresh; have e03 := bel_cell b3 e02; obtain ⟨A3, c3, rfl, -, -, -⟩ := own_slice o3)
          | (refine step_app rfl (.tmp 47) (.tmp 56) 32 rfl _ 5 _ 1 1 Tryz.underlying32 info5 rfl (by decide) _ _ _ rfl (by exact o3) _ (E - j * 509) (c - j * 509) (((l.take E).drop (j * 509)).map YtpfjhehjmhkbpaaGreatDoor.u8) rfl (by rw [List.length_map, List.length_drop, List.length_take, ← hnH.out]; have := hEH.out.1; omega) (by exact hby2.out E w3 hEH.out.1 (Nat.le_of_lt hEH.out.2.1) b3) (fun h => by have := hlim.out.1 (sub_none h); omega) (one_u8 _) (by have := hEH.out.2.2.2; have := hlim.out.2.2; simp only [List.nil_append]; unfold maxLen; omega) (by have := hEH.out.2.2.2; have := hlim.out.2.2; simp only [List.nil_append]; omega) (by exact b3.size) ?_; intro v4 w4 o4 m4; obtain ⟨A4, c4, rfl, -, -, -⟩ := own_slice o4; have b4 : Below w2.heap.size w2 w4 := ((Mut.of_below b3 w2.heap.size [5]).trans m4).fresh; have e04 := bel_cell b4 e02)
          | (go_at_call 81; refine (hput.out w4 _ (enc x ++ (l.take E).drop (j * 509)) b4 (by first | exact Byt.of_own (by rw [List.map_append]; exact o4) | exact Byt.of_own (by rw [List.map_append]; simpa using o4)) (by rw [List.length_append, List.length_drop, List.length_take, ← hnH.out]; have := hEH.out.2.2.2; have := hEH.out.1; have := hlim.out.2.2; omega)).mono ?_; rintro e w5 ⟨v5, rfl, hp5, m5⟩; have m25 : Mut B [133, 147] w2 w5 := (Mut.of_below b4 _ _).trans m5; have e05 : w5.cell? ⟨T, 0, none⟩ = some (.pointer (some ⟨p, 0, none⟩)) := ((H.out.1.below hw0H.out).mut (hI.out.2.2.2.2.trans (m2.trans m25)) (by decide)).c0))
        all_goals
          go_wp2
          go_roundw
          case rel => exact mfinH.out E w5 v5 hEH.out.1 hEH.out.2.1 hEH.out.2.2.1 hp5 m25
          case measure => simp [intOf]
    · obtain rfl : k = 0 := by omega
      obtain rfl : m = -1 := by rw [hmk.out]; rfl
      obtain ⟨i1, i2, i3, i4, i5⟩ := hI.out
      obtain ⟨g, hg1, hg2, hg3, hch⟩ : ∃ g, x = g + 1 ∧ g < 16384 ∧ 0 < M ∧ Chain ps' g (l.drop (0 * 509)) V' := by
        rcases i1 with ⟨h, _⟩ | h
        · omega
        · exact h
      subst hg1
      have hV2 := i5.keepc hV (by decide)
      have hR2 := i5.keepc hR (by decide)
      have v3 : wr.cell? ⟨w.heap.size + 1, 3, none⟩ = some (.int .i64 0) := by rw [cell_of hV2]; rfl
      have f3 := unfrozen_of hV2 3
      have v0 : wr.cell? ⟨w.heap.size + 1, 0, none⟩ = some (.slice none 0 0) := by rw [cell_of hV2]; rfl
      have v1 : wr.cell? ⟨w.heap.size + 1, 1, none⟩ = some (.bool true) := by rw [cell_of hV2]; rfl
      have v2 : wr.cell? ⟨w.heap.size + 1, 2, none⟩ = some (.int .i64 (n : Int)) := by rw [cell_of hV2]; rfl
      have d0 : wr.cell? ⟨w.heap.size, 0, none⟩ = some (.slice none 0 0) := by rw [cell_of hR2]; rfl
      have d1 : wr.cell? ⟨w.heap.size, 1, none⟩ = some (.bool false) := by rw [cell_of hR2]; rfl
      have d2 : wr.cell? ⟨w.heap.size, 2, none⟩ = some (.int .i64 0) := by rw [cell_of hR2]; rfl
      have d3 : wr.cell? ⟨w.heap.size, 3, none⟩ = some (.int .i64 0) := by rw [cell_of hR2]; rfl
      have k0 := unfrozen_of hR2 0
      have k1 := unfrozen_of hR2 1
      have k2 := unfrozen_of hR2 2
      have k3 := unfrozen_of hR2 3
      go_wp2_with fail
      have e1 := heap_far hR2 (p := ⟨w.heap.size + 1, 3, none⟩) (by simp) (.int .i64 (g : Int))
      have m1 : Mut w.heap.size [86] wr (wr.setCell ⟨w.heap.size + 1, 3, none⟩ (.int .i64 (g : Int))) := (Mut.refl _ _ _).setCell (p := ⟨w.heap.size + 1, 3, none⟩) hV2 (by simp) (by simp) _
      generalize wr.setCell ⟨w.heap.size + 1, 3, none⟩ (.int .i64 (g : Int)) = wv at *
      have hm : Mut w.heap.size [86] wv ((((wv.setCell ⟨w.heap.size, 0, none⟩ (.slice none 0 0)).setCell ⟨w.heap.size, 1, none⟩ (.bool true)).setCell ⟨w.heap.size, 2, none⟩ (.int .i64 (n : Int))).setCell ⟨w.heap.size, 3, none⟩ (.int .i64 (g : Int))) :=
        ((((Mut.refl w.heap.size [86] wv).setCell (p := ⟨w.heap.size, 0, none⟩) e1 (by simp) (Nat.le_refl _) _).setCell (p := ⟨w.heap.size, 1, none⟩) (heap_set e1 _ _) (by simp) (Nat.le_refl _) _).setCell (p := ⟨w.heap.size, 2, none⟩) (heap_set (heap_set e1 _ _) _ _) (by simp) (Nat.le_refl _) _).setCell (p := ⟨w.heap.size, 3, none⟩) (heap_set (heap_set (heap_set e1 _ _) _ _) _ _) (by simp) (Nat.le_refl _) _
      have hN4 := heap_set (heap_set (heap_set (heap_set e1 0 (.slice none 0 0)) 1 (.bool true)) 2 (.int .i64 (n : Int))) 3 (.int .i64 (g : Int))
      generalize (((wv.setCell ⟨w.heap.size, 0, none⟩ (.slice none 0 0)).setCell ⟨w.heap.size, 1, none⟩ (.bool true)).setCell ⟨w.heap.size, 2, none⟩ (.int .i64 (n : Int))).setCell ⟨w.heap.size, 3, none⟩ (.int .i64 (g : Int)) = w4 at *
      have r0 : w4.cell? ⟨w.heap.size, 0, none⟩ = some (.slice none 0 0) := by rw [cell_of hN4]; rfl
      have r1 : w4.cell? ⟨w.heap.size, 1, none⟩ = some (.bool true) := by rw [cell_of hN4]; rfl
      have r2 : w4.cell? ⟨w.heap.size, 2, none⟩ = some (.int .i64 (n : Int)) := by rw [cell_of hN4]; rfl
      have r3 : w4.cell? ⟨w.heap.size, 3, none⟩ = some (.int .i64 (g : Int)) := by rw [cell_of hN4]; rfl
      have hend := m1.trans hm
      have hw : Mut B [133, 147, 86] w wr := (Mut.of_below hw0H.out B [133, 147, 86]).trans (i5.mono (Nat.le_refl _) (by simp))
      have hall : Mut B [133, 147] w w4 := ⟨(hw.trans (hend.mono hB (by simp))).os, (hw.trans (hend.mono hB (by simp))).tape, (hw.trans (hend.mono hB (by simp))).output, (hw.trans (hend.mono hB (by simp))).size, fun k o ho hc => by
        have a1 := (Below.block hw0H.out k (blk_lt ho)).trans ho
        have a2 := i5.block k o a1 hc
        exact hend.block k o a2 (.inl (blk_lt ho))⟩
      refine bodyPost_ret (v := .agg #[.slice none 0 0, .bool true, .int .i64 (n : Int), .int .i64 (g : Int)]) (by simp [results, Tryz.results40, go_sem, r0, r1, r2, r3]) rfl ⟨g, V', ps', rfl, hg2, ⟨hnH.out, ?_, ?_⟩, i2.mut hend (by decide) (by decide) (by decide), i3, by omega, hall⟩
      · intro h
        have := hnH.out
        rw [h] at this
        simp at this; omega
      · simpa using hch

theorem write_any [Mode] (B : Nat) (w : World) (T p : Nat) (root cnt : Int) (dead : Bool) (r : PS) (ls ps : List Pg) (key : ByteArray) (v : Value) (l : List UInt8)
    (hT : TAt w T p root cnt dead) (hp : Pgr B w p r ls ps) (hv : Byt w v l) (hk : key.size ≤ 200) (hl2 : l.length ≤ 65536) (hr : manyOf key.size l.length ≤ room ps) (hB : B ≤ w.heap.size) (hsh : Mode.short = true → key.size ≤ 4 ∧ l.length ≤ 60) :
    Calls Tryz.prog 40 #[.pointer (some ⟨T, 0, none⟩), .string key, v] w fun e w' => ∃ (vl : Vl) (cs : List Value) (V : List Nat) (ps' : List Pg), e = .returned (.agg cs.toArray) ∧ VlAt w' cs vl ∧ vl.Ok ∧ Fit key vl ∧
      VlOf ps' vl l V ∧ Pgr B w' p r ls ps' ∧ Stp ps [] ps' V ∧ room ps ≤ room ps' + manyOf key.size l.length ∧ Mut B [133, 147] w w' := by
  by_cases hl : key.size + l.length ≤ 200
  · refine (write_inl w T key v l hv hk hl).mono ?_
    rintro e w' ⟨v', rfl, h1, h2⟩
    exact ⟨.inl l, _, [], ps, rfl, ⟨v', rfl, h1⟩, hl2, ⟨hl, fun h => ⟨(hsh h).1, l, rfl, (hsh h).2⟩⟩, ⟨rfl, rfl⟩, hp.below h2, Stp.refl (by simp) (by simp), by omega, .of_below h2 _ _⟩
  · refine (write_far B w T p root cnt dead r ls ps key v l hT hp hv hk (by omega) hl2 hr hB).mono ?_
    rintro e w' ⟨f, V, ps', rfl, h1, h2, h3, h4, h5, h6⟩
    exact ⟨.far l.length f, _, V, ps', rfl, rfl, ⟨hl2, by omega⟩, ⟨by simpa [Vl.inlen] using hk, fun h => by have := hsh h; omega⟩, h2, h3, h4, h5, h6⟩
end Go.Proofs.YtpfjhehjmhkbpaaGreatDoor
