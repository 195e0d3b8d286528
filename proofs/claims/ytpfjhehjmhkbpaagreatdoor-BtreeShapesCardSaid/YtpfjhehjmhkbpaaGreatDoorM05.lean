/- The pager's struct in memory: its 776 cells told by a record, each field read and written. sync/atomic's Int64 and Uint64 in one goroutine: a cell read, written, added to. The file system of the pantry: its maps of names, and a file system that was just made (New; Read of a name that is not there). Opening over a file system with nothing: names, journal.Within, Groups. The pager's counts and keeps where there is no page yet; all dirty marks struck. pages.Open over a file system with nothing: the fresh pager. The pager's pages in memory: what there is, and one page laid anew ('lay'). -/
import Derived.Test.YtpfjhehjmhkbpaaGreatDoorM02
import Derived.Laws.LoneSync
import Derived.MapKept
import Derived.WalkLawsBesides
import Derived.BigQuiet
import Derived.Deep.QuietTactic
import Derived.Deep.MidRow
import Derived.StillTailTactics
import Derived.Deep.RegionHeld3
namespace Go.Proofs.YtpfjhehjmhkbpaaGreatDoor
open Go.RowKit

/-- What a Pager holds. -/
structure PS where
  f : Value
  name : ByteArray
  age : Int
  ages : List Int
  journal : Value
  pages : Value
  free : Int
  lasts : Value
  dirty : List Int
  behind : List Bool
  dead : Bool

def PS.cells (g : PS) : List Value :=
  [g.f, .string g.name, .int .u64 g.age] ++ (g.ages.map (.int .u64) ++ ([g.journal, g.pages, .int .i64 g.free, g.lasts] ++ (g.dirty.map (.int .u64) ++ (g.behind.map .bool ++ [.bool g.dead]))))

structure PS.Wf (g : PS) : Prop where
  ages : g.ages.length = 256
  dirty : g.dirty.length = 256
  behind : g.behind.length = 256

section
variable {g : PS}

theorem get_skip {α : Type} {a b : List α} {n k : Nat} (ha : a.length = n) : (a ++ b)[n + k]? = b[k]? := by
  rw [List.getElem?_append_right (by omega)]; congr 1; omega
theorem set_skip {α : Type} {a b : List α} {n k : Nat} (ha : a.length = n) (u : α) : (a ++ b).set (n + k) u = a ++ b.set k u := by
  rw [List.set_append_right _ _ (by omega)]; congr 2; omega

theorem PS.get_name : g.cells[1]? = some (.string g.name) := rfl
theorem PS.get_f : g.cells[0]? = some g.f := rfl
theorem PS.get_age : g.cells[2]? = some (.int .u64 g.age) := rfl
theorem PS.tail1 (h : g.Wf) (k : Nat) : g.cells[259 + k]? = ([g.journal, g.pages, .int .i64 g.free, g.lasts] ++ (g.dirty.map (.int .u64) ++ (g.behind.map .bool ++ [.bool g.dead])))[k]? := by
  have h1 : (g.ages.map (Value.int .u64)).length = 256 := by simp [h.ages]
  unfold PS.cells
  rw [show 259 + k = 3 + (256 + k) by omega, get_skip (n := 3) rfl, get_skip h1]
theorem PS.tail2 (h : g.Wf) (k : Nat) : g.cells[263 + k]? = (g.dirty.map (Value.int .u64) ++ (g.behind.map .bool ++ [.bool g.dead]))[k]? := by
  rw [show 263 + k = 259 + (4 + k) by omega, PS.tail1 h, get_skip (n := 4) rfl]
theorem PS.tail3 (h : g.Wf) (k : Nat) : g.cells[519 + k]? = (g.behind.map Value.bool ++ [.bool g.dead])[k]? := by
  have h1 : (g.dirty.map (Value.int .u64)).length = 256 := by simp [h.dirty]
  rw [show 519 + k = 263 + (256 + k) by omega, PS.tail2 h, get_skip h1]
theorem PS.get_age_at (h : g.Wf) {i : Nat} (hi : i < 256) : g.cells[3 + i]? = some (.int .u64 (g.ages.getD i 0)) := by
  unfold PS.cells
  rw [get_skip (n := 3) rfl, List.getElem?_append_left (by simp [h.ages, hi])]
  simp [List.getD, h.ages, hi]
theorem PS.get_journal (h : g.Wf) : g.cells[259]? = some g.journal := PS.tail1 h 0
theorem PS.get_pages (h : g.Wf) : g.cells[260]? = some g.pages := PS.tail1 h 1
theorem PS.get_free (h : g.Wf) : g.cells[261]? = some (.int .i64 g.free) := PS.tail1 h 2
theorem PS.get_lasts (h : g.Wf) : g.cells[262]? = some g.lasts := PS.tail1 h 3
theorem PS.get_dirty (h : g.Wf) {i : Nat} (hi : i < 256) : g.cells[263 + i]? = some (.int .u64 (g.dirty.getD i 0)) := by
  rw [PS.tail2 h, List.getElem?_append_left (by simp [h.dirty, hi])]
  simp [List.getD, h.dirty, hi]
theorem PS.get_behind (h : g.Wf) {i : Nat} (hi : i < 256) : g.cells[519 + i]? = some (.bool (g.behind.getD i false)) := by
  rw [PS.tail3 h, List.getElem?_append_left (by simp [h.behind, hi])]
  simp [List.getD, h.behind, hi]
theorem PS.get_dead (h : g.Wf) : g.cells[775]? = some (.bool g.dead) := by
  have h1 : (g.behind.map Value.bool).length = 256 := by simp [h.behind]
  rw [show 775 = 519 + (256 + 0) by omega, PS.tail3 h, get_skip h1]; rfl
theorem PS.length (h : g.Wf) : g.cells.length = 776 := by simp [PS.cells, h.ages, h.dirty, h.behind]

theorem PS.set1 (h : g.Wf) (k : Nat) (u : Value) : g.cells.set (259 + k) u = [g.f, .string g.name, .int .u64 g.age] ++ (g.ages.map (Value.int .u64) ++ ([g.journal, g.pages, Value.int .i64 g.free, g.lasts] ++ (g.dirty.map (Value.int .u64) ++ (g.behind.map Value.bool ++ [Value.bool g.dead]))).set k u) := by
  have h1 : (g.ages.map (Value.int .u64)).length = 256 := by simp [h.ages]
  unfold PS.cells
  rw [show 259 + k = 3 + (256 + k) by omega, set_skip (n := 3) rfl, set_skip h1]
theorem PS.set_journal (h : g.Wf) (u : Value) : g.cells.set 259 u = { g with journal := u }.cells := PS.set1 h 0 u
theorem PS.set_pages (h : g.Wf) (u : Value) : g.cells.set 260 u = { g with pages := u }.cells := PS.set1 h 1 u
theorem PS.set_free (h : g.Wf) (n : Int) : g.cells.set 261 (.int .i64 n) = { g with free := n }.cells := PS.set1 h 2 _
theorem PS.set_lasts (h : g.Wf) (u : Value) : g.cells.set 262 u = { g with lasts := u }.cells := PS.set1 h 3 u
theorem PS.set_dirty (h : g.Wf) {i : Nat} (hi : i < 256) (n : Int) : g.cells.set (263 + i) (.int .u64 n) = { g with dirty := g.dirty.set i n }.cells := by
  rw [show 263 + i = 259 + (4 + i) by omega, PS.set1 h, set_skip (n := 4) rfl, List.set_append_left _ _ (by simp [h.dirty, hi])]
  simp [PS.cells, List.map_set]
theorem PS.set_behind (h : g.Wf) {i : Nat} (hi : i < 256) (b : Bool) : g.cells.set (519 + i) (.bool b) = { g with behind := g.behind.set i b }.cells := by
  have h1 : (g.dirty.map (Value.int .u64)).length = 256 := by simp [h.dirty]
  rw [show 519 + i = 259 + (4 + (256 + i)) by omega, PS.set1 h, set_skip (n := 4) rfl, set_skip h1, List.set_append_left _ _ (by simp [h.behind, hi])]
  simp [PS.cells, List.map_set]
end

/-- The pager's struct lies at block p. -/
def PBlk (w : World) (p : Nat) (g : PS) : Prop := w.heap[p]? = some (.cells g.cells.toArray 133 (0, 0)) ∧ g.Wf

section
variable {w w' : World} {p : Nat} {g : PS}
theorem PBlk.cell (h : PBlk w p g) (i : Nat) : w.cell? ⟨p, i, none⟩ = g.cells[i]? := by rw [cell_of h.1]; simp
theorem PBlk.unfrozen (h : PBlk w p g) (i : Nat) : w.frozen? ⟨p, i, none⟩ = false := unfrozen_of h.1 i
theorem PBlk.lt (h : PBlk w p g) : p < w.heap.size := blk_lt h.1
theorem PBlk.mut {B : Nat} {L : List Nat} (h : PBlk w p g) (hm : Mut B L w w') (hn : 133 ∉ L) : PBlk w' p g := ⟨hm.keepc h.1 hn, h.2⟩
theorem PBlk.below (h : PBlk w p g) (hb : Below w.heap.size w w') : PBlk w' p g := ⟨(hb.block p h.lt).trans h.1, h.2⟩
theorem PBlk.far (h : PBlk w p g) {q : Addr} (hq : p ≠ q.block) (u : Value) : PBlk (w.setCell q u) p g := ⟨heap_far h.1 hq u, h.2⟩
theorem PBlk.set (h : PBlk w p g) (i : Nat) (u : Value) {g' : PS} (hg : g.cells.set i u = g'.cells) (hw : g'.Wf) : PBlk (w.setCell ⟨p, i, none⟩ u) p g' := by
  refine ⟨?_, hw⟩
  rw [heap_set h.1, ← hg]
  congr 2
  simp
theorem PBlk.set_journal (h : PBlk w p g) (u : Value) : PBlk (w.setCell ⟨p, 259, none⟩ u) p { g with journal := u } := h.set _ _ (PS.set_journal h.2 u) ⟨h.2.ages, h.2.dirty, h.2.behind⟩
theorem PBlk.set_pages (h : PBlk w p g) (u : Value) : PBlk (w.setCell ⟨p, 260, none⟩ u) p { g with pages := u } := h.set _ _ (PS.set_pages h.2 u) ⟨h.2.ages, h.2.dirty, h.2.behind⟩
theorem PBlk.set_free (h : PBlk w p g) (n : Int) : PBlk (w.setCell ⟨p, 261, none⟩ (.int .i64 n)) p { g with free := n } := h.set _ _ (PS.set_free h.2 n) ⟨h.2.ages, h.2.dirty, h.2.behind⟩
theorem PBlk.set_lasts (h : PBlk w p g) (u : Value) : PBlk (w.setCell ⟨p, 262, none⟩ u) p { g with lasts := u } := h.set _ _ (PS.set_lasts h.2 u) ⟨h.2.ages, h.2.dirty, h.2.behind⟩
theorem PBlk.set_dirty (h : PBlk w p g) {i : Nat} (hi : i < 256) (n : Int) : PBlk (w.setCell ⟨p, 263 + i, none⟩ (.int .u64 n)) p { g with dirty := g.dirty.set i n } := h.set _ _ (PS.set_dirty h.2 hi n) ⟨h.2.ages, by simp [h.2.dirty], h.2.behind⟩
theorem PBlk.set_behind (h : PBlk w p g) {i : Nat} (hi : i < 256) (b : Bool) : PBlk (w.setCell ⟨p, 519 + i, none⟩ (.bool b)) p { g with behind := g.behind.set i b } := h.set _ _ (PS.set_behind h.2 hi b) ⟨h.2.ages, h.2.dirty, by simp [h.2.behind]⟩
theorem PBlk.mutSet (h : PBlk w p g) {B : Nat} (hB : B ≤ p) (i : Nat) (u : Value) : Mut B [133] w (w.setCell ⟨p, i, none⟩ u) := (Mut.refl B [133] w).setCell (p := ⟨p, i, none⟩) h.1 (by simp) hB u
theorem PBlk.mutL (h : PBlk w p g) {B : Nat} (hB : B ≤ p) {L : List Nat} (hL : 133 ∈ L) (i : Nat) (u : Value) : Mut B L w (w.setCell ⟨p, i, none⟩ u) := (Mut.refl B L w).setCell (p := ⟨p, i, none⟩) h.1 hL hB u
end
end Go.Proofs.YtpfjhehjmhkbpaaGreatDoor

namespace Go.Proofs.YtpfjhehjmhkbpaaGreatDoor
open Go.RowKit
theorem storeU64 (b off : Nat) (m n : Int) (w : World) (hc : w.cell? ⟨b, off, none⟩ = some (.int .u64 m)) (hf : w.frozen? ⟨b, off, none⟩ = false) :
    Calls Tryz.prog 104 #[.pointer (some ⟨b, off, none⟩), .int .u64 n] w fun e w' => e = .returned (.tuple #[]) ∧ w' = w.setCell ⟨b, off, none⟩ (.int .u64 n) := by
  have hs := run_call_store (P := Tryz.prog) Tryz.func144 (by kernel_rfl) (by kernel_rfl) (by kernel_rfl) (by kernel_rfl) (k := .u64) (y := n) hc hf
  go_enter Tryz.func104, Tryz.ntmps104
  go_wp2
  go_end0
  exact ⟨rfl, rfl⟩
theorem loadU64 (b off : Nat) (m : Int) (w : World) (hc : w.cell? ⟨b, off, none⟩ = some (.int .u64 m)) :
    Calls Tryz.prog 117 #[.pointer (some ⟨b, off, none⟩)] w fun e w' => e = .returned (.int .u64 m) ∧ w = w' := by
  have hs := run_call_load (P := Tryz.prog) Tryz.func153 (by kernel_rfl) (by kernel_rfl) (by kernel_rfl) .u64 (by kernel_rfl) hc
  go_enter Tryz.func117, Tryz.ntmps117
  go_wp2
  go_ret
  exact ⟨rfl, rfl⟩
theorem storeI64 (b off : Nat) (m n : Int) (w : World) (hc : w.cell? ⟨b, off, none⟩ = some (.int .i64 m)) (hf : w.frozen? ⟨b, off, none⟩ = false) :
    Calls Tryz.prog 42 #[.pointer (some ⟨b, off, none⟩), .int .i64 n] w fun e w' => e = .returned (.tuple #[]) ∧ w' = w.setCell ⟨b, off, none⟩ (.int .i64 n) := by
  have hs := run_call_store (P := Tryz.prog) Tryz.func84 (by kernel_rfl) (by kernel_rfl) (by kernel_rfl) (by kernel_rfl) (k := .i64) (y := n) hc hf
  go_enter Tryz.func42, Tryz.ntmps42
  go_wp2
  go_end0
  exact ⟨rfl, rfl⟩
theorem loadI64 (b off : Nat) (m : Int) (w : World) (hc : w.cell? ⟨b, off, none⟩ = some (.int .i64 m)) :
    Calls Tryz.prog 49 #[.pointer (some ⟨b, off, none⟩)] w fun e w' => e = .returned (.int .i64 m) ∧ w = w' := by
  have hs := run_call_load (P := Tryz.prog) Tryz.func93 (by kernel_rfl) (by kernel_rfl) (by kernel_rfl) .i64 (by kernel_rfl) hc
  go_enter Tryz.func49, Tryz.ntmps49
  go_wp2
  go_ret
  exact ⟨rfl, rfl⟩
theorem addI64 (b off : Nat) (m n : Int) (w : World) (hc : w.cell? ⟨b, off, none⟩ = some (.int .i64 m)) (hf : w.frozen? ⟨b, off, none⟩ = false) (hw : IntKind.i64.wrap (m + n) = m + n) :
    Calls Tryz.prog 89 #[.pointer (some ⟨b, off, none⟩), .int .i64 n] w fun e w' => e = .returned (.int .i64 (m + n)) ∧ w' = w.setCell ⟨b, off, none⟩ (.int .i64 (m + n)) := by
  have hs := run_call_add (P := Tryz.prog) Tryz.func123 (by kernel_rfl) (by kernel_rfl) (by kernel_rfl) .i64 (by kernel_rfl) (y := n) (s := m + n) hc hf (by show Result.ok (Value.int .i64 (IntKind.i64.wrap (m + n))) w = _; rw [hw])
  go_enter Tryz.func89, Tryz.ntmps89
  go_wp2
  go_ret
  exact ⟨rfl, rfl⟩
end Go.Proofs.YtpfjhehjmhkbpaaGreatDoor

namespace Go.Proofs.YtpfjhehjmhkbpaaGreatDoor
open Go.RowKit

theorem beq_bytes (a b : ByteArray) : (a == b) = decide (a = b) := by
  by_cases h : a = b
  · simp only [h, decide_true]; exact (Go.MapKept.bytes_beq b b).2 rfl
  · simp only [h, decide_false]
    cases hb : (a == b)
    · rfl
    · exact absurd ((Go.MapKept.bytes_beq a b).1 hb) h

/-- Is a value this string? -/
def isStr (s : ByteArray) : Value → Bool
  | .string t => decide (s = t)
  | _ => false
/-- The value of a key in a map's entries. -/
def look (s : ByteArray) : List MapEntry → Option Value
  | [] => none
  | x :: es => if isStr s x.key then some x.val else look s es
/-- All keys are strings. -/
def StrKeys (es : List MapEntry) : Prop := ∀ x ∈ es, ∃ s, x.key = .string s

theorem findNow_str (s : ByteArray) : ∀ (es : List MapEntry) (i : Nat), StrKeys es → ∃ r, Instr.findNow .string (.string s) es i = some r ∧ r.map (·.2) = look s es
  | [], i, _ => ⟨none, rfl, rfl⟩
  | x :: es, i, h => by
    obtain ⟨t, ht⟩ := h x (by simp)
    by_cases hst : s = t
    · subst hst
      refine ⟨some (i, x.val), ?_, ?_⟩
      · unfold Instr.findNow
        simp only [ht, Instr.sameNow, beq_bytes, decide_true]
      · unfold look
        simp [isStr, ht]
    · obtain ⟨r, h1, h2⟩ := findNow_str s es (i + 1) (fun y hy => h y (by simp [hy]))
      refine ⟨r, ?_, ?_⟩
      · unfold Instr.findNow
        simp only [ht, Instr.sameNow, beq_bytes, hst, decide_false]
        exact h1
      · unfold look
        simp [isStr, ht, hst, h2]

theorem run_checkKey_str {P : Program} {w : World} {k : Nat} (b : Bool) (n : Nat) (s : ByteArray) (hk : P.underlying k = some .string) : (Instr.checkKey b (n + 1) k (.string s)).run P w = .ok () w := by
  simp [Instr.checkKey, run_underlying hk]

theorem run_lookup_str {P : Program} {w : World} {t k e M clock : Nat} {es : Array MapEntry} (s : ByteArray) (ht : P.underlying t = some (.map k e)) (hk : P.underlying k = some .string) {z : Value} (hz : (P.info? e).map (·.zero) = some (some z))
    (hb : w.heap[M]? = some (.map es clock)) (hs : StrKeys es.toList) : (Instr.lookup t (.map (some M)) (.string s) false).run P w = .ok ((look s es.toList).getD z) w := by
  obtain ⟨i, hi, hz⟩ := Option.map_eq_some_iff.1 hz
  obtain ⟨r, h1, h2⟩ := findNow_str s es.toList 0 hs
  cases r with
  | none =>
    simp only [Option.map_none] at h2
    have hg : Sem.run P (getObj M) w = .ok (.map es clock) w := by simp [getObj, Sem.run, hb]
    have hc : Sem.run P (Instr.checkKey es.isEmpty 10000 k (.string s)) w = .ok () w := run_checkKey_str (P := P) (w := w) (k := k) es.isEmpty 9999 s hk
    unfold Instr.lookup
    simp [run_underlying ht, hc, run_underlying hk, hg, Instr.findKey, h1, zeroValue, typeInfo, hi, hz, ← h2]
  | some p =>
    obtain ⟨j, v⟩ := p
    simp only [Option.map_some] at h2
    have hg : Sem.run P (getObj M) w = .ok (.map es clock) w := by simp [getObj, Sem.run, hb]
    have hc : Sem.run P (Instr.checkKey es.isEmpty 10000 k (.string s)) w = .ok () w := run_checkKey_str (P := P) (w := w) (k := k) es.isEmpty 9999 s hk
    unfold Instr.lookup
    simp [run_underlying ht, hc, run_underlying hk, hg, Instr.findKey, h1, ← h2]

theorem begun_any (w : World) : Calls Tryz.prog 30 #[] w fun e w' => e = .returned (.pointer (some ⟨w.heap.size + 1, 0, none⟩)) ∧ w' = (w.alloc (.map #[] 0)).alloc (.cells #[.map (some w.heap.size), .int .i64 0] 121) := by
  have hmm := @run_makeMap Tryz.prog
  go_enter Tryz.func30, Tryz.ntmps30
  go_wp2
  go_ret
  exact ⟨rfl, rfl⟩

/-- A file system with nothing, just made. -/
def FS0 (B : Nat) (w : World) (F : Nat) (room : Int) : Prop := ∃ S1 S2 M1 M2, (B ≤ F ∧ B ≤ S1 ∧ B ≤ S2 ∧ B ≤ M1 ∧ B ≤ M2) ∧
  w.heap[F]? = some (.cells #[.int .i64 room, .pointer (some ⟨S1, 0, none⟩), .pointer (some ⟨S2, 0, none⟩), .slice none 0 0, .bool false, .int .i64 0] 70 (0, 0)) ∧
  w.heap[S1]? = some (.cells #[.map (some M1), .int .i64 0] 121 (0, 0)) ∧ w.heap[S2]? = some (.cells #[.map (some M2), .int .i64 0] 121 (0, 0)) ∧
  w.heap[M1]? = some (.map #[] 0) ∧ w.heap[M2]? = some (.map #[] 0)

theorem FS0.mut {B B' : Nat} {L : List Nat} {w w' : World} {F : Nat} {room : Int} (h : FS0 B w F room) (hm : Mut B' L w w') (h1 : 70 ∉ L) (h2 : 121 ∉ L) (h3 : 900001 ∉ L) : FS0 B w' F room := by
  obtain ⟨S1, S2, M1, M2, hB, hF, hS1, hS2, hM1, hM2⟩ := h
  exact ⟨S1, S2, M1, M2, hB, hm.keepc hF h1, hm.keepc hS1 h2, hm.keepc hS2 h2, hm.keep hM1 h3, hm.keep hM2 h3⟩
theorem FS0.below {B : Nat} {w w' : World} {F : Nat} {room : Int} (h : FS0 B w F room) (hb : Below w.heap.size w w') : FS0 B w' F room := h.mut (.of_below hb 0 []) (by simp) (by simp) (by simp)

theorem new_any (room : Int) (w : World) (h0 : 0 ≤ room) (h1 : room ≤ 1073741824) : Calls Tryz.prog 11 #[.int .i64 room] w fun e w' => ∃ F, e = .returned (.tuple #[.pointer (some ⟨F, 0, none⟩), .int .i64 0]) ∧ FS0 w.heap.size w' F room ∧ Below w.heap.size w w' := by
  go_enter Tryz.func11, Tryz.ntmps11
  go_wp2_with (go_at_call 30; refine (begun_any _).mono ?_; rintro e w' ⟨rfl, rfl⟩)
  go_ret2
  refine ⟨_, rfl, ?_, ?_⟩
  · refine ⟨w.heap.size + 1, w.heap.size + 1 + 1 + 1, w.heap.size, w.heap.size + 1 + 1, by omega, ?_⟩
    refine ⟨?_, ?_, ?_, ?_, ?_⟩
    all_goals simp only [heap_alloc, World.size_alloc]
    all_goals (repeat (first | rw [if_pos trivial] | rw [if_pos rfl] | rw [if_neg (by omega)]))
  · exact (((((Below.refl _ _).alloc (Nat.le_refl _) _).alloc (by simp only [World.size_alloc]; omega) _).alloc (by simp only [World.size_alloc]; omega) _).alloc (by simp only [World.size_alloc]; omega) _).alloc (by simp only [World.size_alloc]; omega) _

theorem zero174 : (Tryz.prog.info? 174).map (·.zero) = some (some (.pointer none)) := by kernel_rfl

set_option maxRecDepth 4000 in
theorem readMiss_any (B : Nat) (F : Nat) (room : Int) (s : ByteArray) (w : World) (h : FS0 B w F room) : Calls Tryz.prog 67 #[.pointer (some ⟨F, 0, none⟩), .string s] w fun e w' => e = .returned (.tuple #[.slice none 0 0, .int .i64 7]) ∧ w = w' := by
  obtain ⟨S1, S2, M1, M2, -, hF, -, hS2, -, hM2⟩ := h
  have c2 := cell_of hF 2
  have s0 := cell_of hS2 0
  simp at c2 s0
  have hl := run_lookup_str (P := Tryz.prog) s Tryz.underlying119 Tryz.underlying9 zero174 hM2 (by intro x hx; simp at hx)
  simp [look] at hl
  clear hF hS2 hM2
  go_enter Tryz.func67, Tryz.ntmps67
  go_wp2
  go_ret2
  exact ⟨rfl, rfl⟩
end Go.Proofs.YtpfjhehjmhkbpaaGreatDoor

namespace Go.Proofs.YtpfjhehjmhkbpaaGreatDoor
open Go.RowKit
theorem fmtUint0 (w : World) : Calls Tryz.prog 113 #[.int .u64 0, .int .i64 10] w fun e w' => e = .returned (.string ⟨#[48]⟩) ∧ w' = w := by
  go_enter Tryz.func113, Tryz.ntmps113
  go_wp2
  go_ret
  exact ⟨rfl, rfl⟩
theorem itoa0 (w : World) : Calls Tryz.prog 112 #[.int .i64 0] w fun e w' => e = .returned (.string ⟨#[48]⟩) ∧ w' = w := by
  go_enter Tryz.func112, Tryz.ntmps112
  go_wp2
  go_ret
  exact ⟨rfl, rfl⟩
set_option maxRecDepth 4000 in
theorem log0 (P : Nat) (s : ByteArray) (w : World) (hs : s.size ≤ 1000) (h1 : w.cell? ⟨P, 1, none⟩ = some (.string s)) : Calls Tryz.prog 73 #[.pointer (some ⟨P, 0, none⟩), .int .u64 0] w fun e w' => e = .returned (.string (s ++ ⟨#[46, 106]⟩ ++ ⟨#[48]⟩)) ∧ ∃ n, w' = w.drewN n := by
  go_enter Tryz.func73, Tryz.ntmps73
  go_wp2
  go_quiet ((go_at_call 113; exact Calls.quiet_of_same (fmtUint0 _)))
  go_wp2
  go_ret
  exact ⟨rfl, _, rfl⟩
set_option maxRecDepth 4000 in
theorem file0 (J : Nat) (s : ByteArray) (w : World) (hs : s.size ≤ 1000) (h1 : w.cell? ⟨J, 1, none⟩ = some (.string s)) (h2 : w.cell? ⟨J, 2, none⟩ = some (.int .u64 0)) :
    Calls Tryz.prog 115 #[.pointer (some ⟨J, 0, none⟩), .int .i64 0] w fun e w' => e = .returned (.string (s ++ ⟨#[46]⟩ ++ ⟨#[48]⟩ ++ ⟨#[46]⟩ ++ ⟨#[48]⟩)) ∧ ∃ n, w' = w.drewN n := by
  go_enter Tryz.func115, Tryz.ntmps115
  go_wp2
  go_quiet ((first | (go_at_call 113; exact Calls.quiet_of_same (fmtUint0 _)) | (go_at_call 112; exact Calls.quiet_of_same (itoa0 _))))
  go_wp2
  go_ret
  exact ⟨rfl, _, rfl⟩
theorem groups0 (J : Nat) (w : World) (h5 : w.cell? ⟨J, 5, none⟩ = some (.slice none 0 0)) : Calls Tryz.prog 74 #[.pointer (some ⟨J, 0, none⟩)] w fun e w' => e = .returned (.slice none 0 0) ∧ w = w' := by
  go_enter Tryz.func74, Tryz.ntmps74
  go_wp2
  refine wp_loop_rounds 1 ?_; rw [rounds_succ]
  go_wp2
  go_ret
  exact ⟨rfl, rfl⟩
set_option maxRecDepth 4000 in
set_option maxHeartbeats 400000 in
theorem within0 (B : Nat) (F : Nat) (room : Int) (s : ByteArray) (w : World) (hs : s.size ≤ 500) (h : FS0 B w F room) :
    Calls Tryz.prog 72 #[.pointer (some ⟨F, 0, none⟩), .string s] w fun e w' => ∃ J G, e = .returned (.tuple #[.pointer (some ⟨J, 0, none⟩), .int .i64 0]) ∧ w.heap.size ≤ J ∧ w.heap.size ≤ G ∧ Below w.heap.size w w' ∧
      w'.heap[J]? = some (.cells #[.pointer (some ⟨F, 0, none⟩), .string s, .int .u64 0, .int .i64 0, .int .i64 (-1), .slice none 0 0, .int .i64 0, .pointer (some ⟨G, 0, none⟩), .int .u32 0] 200 (0, 0)) ∧
      ∃ os, w'.heap[G]? = some (.cells (#[.slice none 0 0, .int .i64 0] ++ os ++ #[.slice none 0 0]) 197 (0, 0)) ∧ os.size = 3 := by
  have HF := Lib.hid h; clear h
  go_enter Tryz.func72, Tryz.ntmps72
  go_wp2_with (go_at_call 67; refine (readMiss_any B F room _ _ (HF.out.below (((Below.refl _ _).alloc (Nat.le_refl _) _).alloc (by simp) _))).mono ?_; rintro e w' ⟨rfl, rfl⟩)
  refine wp_loop_rounds 1 ?_; rw [rounds_succ]
  go_wp2_with fail
  refine (file0 _ s _ (by omega) ?_ ?_).mono ?_
  · go_simp
  · go_simp
  rintro e w' ⟨rfl, n, rfl⟩
  go_wp2_with (go_at_call 67; refine (readMiss_any B F room _ _ ?_).mono ?_)
  · have h2 := HF.out.below (((Below.refl _ _).alloc (Nat.le_refl _) (Obj.cells #[.slice none 0 0, .int .i64 0, .int .u32 0, .int .i32 0, .int .u32 0, .slice none 0 0] 197)).alloc (by simp) (Obj.cells #[.pointer (some ⟨F, 0, none⟩), .string s, .int .u64 0, .int .i64 0, .int .i64 (-1), .slice none 0 0, .int .i64 0, .pointer (some ⟨w.heap.size, 0, none⟩), .int .u32 0] 200))
    exact h2
  · rintro e w' ⟨rfl, rfl⟩
    go_wp2
    go_ret2
    refine ⟨w.heap.size + 1, w.heap.size, rfl, by omega, by omega, ?_, ?_, ?_⟩
    · exact bel_drewN (bel_alloc (bel_alloc (Below.refl _ _) _) _) n
    · exact (heap_alloc _ _ _).trans (if_pos (by simp))
    · exact ⟨#[.int .u32 0, .int .i32 0, .int .u32 0], ((heap_alloc _ _ _).trans (if_neg (by simp))).trans (heap_new _ _), rfl⟩
end Go.Proofs.YtpfjhehjmhkbpaaGreatDoor

namespace Go.Proofs.YtpfjhehjmhkbpaaGreatDoor
open Go.RowKit
/-- 256 zeros; 256 times no. -/
def zs : List Int := List.replicate 256 0
def bs : List Bool := List.replicate 256 false
theorem zs_length : zs.length = 256 := List.length_replicate
theorem bs_length : bs.length = 256 := List.length_replicate
theorem info147 : (Tryz.prog.info? 147).map (fun i => (i.zero, i.size, i.bytes)) = some (some (.agg #[.bool false, .slice none 0 0]), 2, 32) := by kernel_rfl

set_option maxRecDepth 4000 in
theorem counts0 (B p : Nat) (g : PS) (w : World) (hB : B ≤ p) (h : PBlk w p g) (hp : g.pages = .slice none 0 0) :
    Calls Tryz.prog 103 #[.pointer (some ⟨p, 0, none⟩)] w fun e w' => e = .returned (.tuple #[]) ∧ PBlk w' p { g with free := 0 } ∧ Mut B [133] w w' := by
  have c4 : w.cell? ⟨p, 260, none⟩ = some (.slice none 0 0) := by rw [h.cell, PS.get_pages h.2, hp]
  have c5 : w.cell? ⟨p, 261, none⟩ = some (.int .i64 g.free) := by rw [h.cell, PS.get_free h.2]
  have f5 := h.unfrozen 261
  have HP := Lib.hid h; clear h
  go_enter Tryz.func103, Tryz.ntmps103
  go_wp2
  refine wp_loop_rounds 1 ?_; rw [rounds_succ]
  go_wp2
  go_end0
  exact ⟨rfl, HP.out.set_free 0, HP.out.mutSet hB _ _⟩

theorem set_take {l : List Int} {i : Nat} (hl : l.length = 256) (hi : i < 256) : (List.replicate i (0 : Int) ++ l.drop i).set i 0 = List.replicate (i + 1) 0 ++ l.drop (i + 1) := by
  rw [List.set_append_right _ _ (by simp)]
  have : l.drop i = l[i] :: l.drop (i + 1) := List.drop_eq_getElem_cons (by omega)
  rw [this, List.length_replicate, Nat.sub_self, List.set_cons_zero, List.replicate_succ', List.append_assoc]
  rfl

set_option maxRecDepth 4000 in
set_option maxHeartbeats 400000 in
theorem keeps0 (B p : Nat) (g : PS) (w : World) (hB : B ≤ p) (h : PBlk w p g) (hp : g.pages = .slice none 0 0) :
    Calls Tryz.prog 75 #[.pointer (some ⟨p, 0, none⟩)] w fun e w' => e = .returned (.tuple #[]) ∧ PBlk w' p { g with lasts := .slice none 0 0, free := 0, dirty := zs } ∧ Mut B [133] w w' := by
  have c4 : w.cell? ⟨p, 260, none⟩ = some (.slice none 0 0) := by rw [h.cell, PS.get_pages h.2, hp]
  have c6 : w.cell? ⟨p, 262, none⟩ = some g.lasts := by rw [h.cell, PS.get_lasts h.2]
  have f6 := h.unfrozen 262
  have HP := Lib.hid h; clear h
  have HG := Lib.hid hp; clear hp
  obtain ⟨i0, hi0, _, hs0, _⟩ := info_parts info147
  have ha := run_append_owned_none (P := Tryz.prog) (w := w) 0 127 127 147 i0 2 Tryz.underlying127 hi0 (.slice none 0 0) 0 [] (World.ownsRow_nil w 0 147 2)
  clear hi0 hs0
  go_enter Tryz.func75, Tryz.ntmps75
  go_wp2_with (go_at_call 103; refine (counts0 B p { g with lasts := .slice none 0 0 } _ hB (HP.out.set_lasts _) HG.out).mono ?_; rintro e w1 ⟨rfl, h1, hm1⟩)
  have hm := (HP.out.mutSet hB 262 (.slice none 0 0)).trans hm1
  have H1 := Lib.hid h1; clear h1
  have HM := Lib.hid hm; clear hm
  clear hm1 c4 c6 f6 ha
  go_loopw [2, 13] (fun _ i wr => ∃ k : Nat, k ≤ 256 ∧ i = .int .i64 k ∧ PBlk wr p { g with lasts := .slice none 0 0, free := 0, dirty := List.replicate k 0 ++ g.dirty.drop k } ∧ Mut B [133] w wr) (fun _ i _ => 256 - (intOf i).toNat)
  case atStart => exact ⟨0, by omega, rfl, by simpa using H1.out, HM.out⟩
  case round =>
    obtain ⟨k, hk, rfl, hb, hm⟩ := hrel
    by_cases hlt : k < 256
    · have hc := (hb.cell (263 + k)).trans (PS.get_dirty hb.2 hlt)
      have hf := hb.unfrozen (263 + k)
      go_wp2_with (go_at_call 104; refine (storeU64 _ _ _ _ _ hc hf).mono ?_; rintro e w2 ⟨rfl, rfl⟩)
      go_roundw
      case rel =>
        refine ⟨k + 1, by omega, by go_num, ?_, hm.trans (hb.mutSet hB _ _)⟩
        have := hb.set_dirty hlt 0
        have hl := HP.out.2.dirty
        simpa only [set_take hl hlt] using this
      case measure => simp [intOf]; omega
    · go_wp2
      go_end0
      refine ⟨rfl, ?_, hm⟩
      have : k = 256 := by omega
      subst this
      have hl := HP.out.2.dirty
      rw [List.drop_eq_nil_of_le (show g.dirty.length ≤ 256 by omega), List.append_nil] at hb
      exact hb
end Go.Proofs.YtpfjhehjmhkbpaaGreatDoor

namespace Go.Proofs.YtpfjhehjmhkbpaaGreatDoor
open Go.RowKit

/-- A pager that was just made, before anything is read. -/
def pz (f : Value) (nm : ByteArray) : PS := { f, name := nm, age := 0, ages := zs, journal := .pointer none, pages := .slice none 0 0, free := 0, lasts := .slice none 0 0, dirty := zs, behind := bs, dead := false }
def pzv (f : Value) (nm : ByteArray) : Array Value := (pz f nm).cells.toArray
theorem pz_wf (f : Value) (nm : ByteArray) : (pz f nm).Wf := ⟨zs_length, zs_length, bs_length⟩
set_option maxRecDepth 100000 in
theorem zero_pager (f : Value) (nm : ByteArray) : (Tryz.zeroCells133.setIfInBounds 0 f).setIfInBounds 1 (.string nm) = pzv f nm := by kernel_rfl

/-- 256 zero cells. -/
def az : List Value := List.replicate 256 (.int .u64 0)
theorem info123 : (Tryz.prog.info? 123).map (·.size) = some az.length := by kernel_rfl
theorem az_length : az.length = 256 := List.length_replicate
theorem run_index_az (k : Nat) (hk : k < 256) (w : World) : (Instr.index 123 (.agg az.toArray) (.int .i64 (k : Int))).run Tryz.prog w = .ok (.int .u64 0) w := by
  have h5 : (Tryz.prog.info? 122).map (fun i => (i.zero, i.size, i.bytes)) = some (some (.int .u64 0), 1, 8) := by kernel_rfl
  obtain ⟨i0, hi, _, h1, _⟩ := info_parts h5
  have hv : az.toArray[k]? = some (.int .u64 0) := by
    rw [List.getElem?_toArray]
    exact List.getElem?_replicate_of_lt hk
  generalize az.toArray = A at hv ⊢
  simp [Instr.index, asIntOf, run_underlying Tryz.underlying123, part, isAgg, run_underlying Tryz.underlying122, sizeOf, typeInfo, hi, h1, hk, hv]

theorem zs_map : zs.map (Value.int .u64) = az := List.map_replicate
theorem pz_range (f : Value) (nm : ByteArray) {w : World} {p : Nat} {fr : Nat × Nat} (h : w.heap[p]? = some (.cells (pzv f nm) 133 fr)) : w.rangeAt p 3 az := fun j v hv => by
  rw [cell_of h]
  have hj : j < 256 := by
    have := (List.getElem?_eq_some_iff.1 hv).1
    rwa [az_length] at this
  unfold pzv
  rw [List.getElem?_toArray]
  rw [PS.get_age_at (pz_wf f nm) hj, ← hv]
  show some (Value.int .u64 (zs.getD j 0)) = az[j]?
  rw [← zs_map, List.getElem?_map, List.getD, List.getElem?_eq_getElem (by rw [zs_length]; exact hj)]
  rfl

/-- A pager over a file system with nothing. -/
def Pager0 (B : Nat) (w : World) (p F : Nat) (nm : ByteArray) : Prop := B ≤ p ∧ ∃ J, PBlk w p { pz (.pointer (some ⟨F, 0, none⟩)) nm with journal := .pointer (some ⟨J, 0, none⟩) }

set_option maxRecDepth 4000 in
set_option maxHeartbeats 1000000 in
theorem popen0 (B F : Nat) (room : Int) (nm : ByteArray) (w : World) (h1 : 1 ≤ nm.size) (h100 : nm.size ≤ 100) (h : FS0 B w F room) :
    Calls Tryz.prog 31 #[.pointer (some ⟨F, 0, none⟩), .string nm] w fun e w' => ∃ p, e = .returned (.tuple #[.pointer (some ⟨p, 0, none⟩), .int .i64 0]) ∧ Pager0 w.heap.size w' p F nm ∧ Below w.heap.size w w' := by
  have HF := Lib.hid h; clear h
  have hz := heap_new w (.cells (pzv (.pointer (some ⟨F, 0, none⟩)) nm) 133)
  have hb := bel_alloc (Below.refl w.heap.size w) (.cells (pzv (.pointer (some ⟨F, 0, none⟩)) nm) 133)
  have hlt : w.heap.size < (w.alloc (.cells (pzv (.pointer (some ⟨F, 0, none⟩)) nm) 133)).heap.size := by simp
  have HF1 := Lib.hid (HF.out.below hb)
  have HR := Lib.hid (pz_range _ nm hz)
  have HP : Hid (PBlk (w.alloc (.cells (pzv (.pointer (some ⟨F, 0, none⟩)) nm) 133)) w.heap.size (pz (.pointer (some ⟨F, 0, none⟩)) nm)) := ⟨hz, pz_wf _ _⟩
  have HB := Lib.hid hb
  have c1 := (HP.out.cell 1).trans PS.get_name
  have c2 := (HP.out.cell 2).trans PS.get_age
  have c7 := (HP.out.cell 259).trans (PS.get_journal HP.out.2)
  have f7 := HP.out.unfrozen 259
  clear hz hb HF
  go_enter Tryz.func31, Tryz.ntmps31
  go_wp2_with (first | (go_at_call 67; rw [zero_pager]; generalize w.alloc (.cells (pzv (.pointer (some ⟨F, 0, none⟩)) nm) 133) = w1 at *; refine (readMiss_any B F room _ _ HF1.out).mono ?_; rintro e w' ⟨rfl, rfl⟩) | (refine wpList_load_mid rfl 123 (.tmp 58) rfl _ 3 rfl az _ HR.out Tryz.underlying123 rfl info123 ?_))
  go_loop [9, 10, 60] (fun _ _ i => ∃ k : Nat, k ≤ 256 ∧ i = .int .i64 k) (fun _ _ i => 256 - (intOf i).toNat)
  case atStart => exact ⟨0, by omega, rfl⟩
  case round =>
    obtain ⟨k, hk, rfl⟩ := hrel
    by_cases hlt : k < 256
    · have hidx := run_index_az k hlt
      go_wp2
      go_round
      case rel => exact ⟨k + 1, by omega, by go_num⟩
      case measure => simp [intOf]; omega
    · go_wp2_with (go_at_call 73; refine (log0 _ nm _ (by omega) c1).mono ?_; rintro e w' ⟨rfl, n, rfl⟩)
      refine (within0 B F room _ _ ?_ (by exact HF1.out)).mono ?_
      · simp [ByteArray.size_append]; exact Nat.le_trans (Nat.add_le_add_right h100 3) (by decide)
      rintro e w2 ⟨J, G, rfl, hJ, hG, hb2, hJb, hGb⟩
      replace hb2 : Below w1.heap.size w1 w2 := bel_undrewN hb2
      have hp2 := HP.out.below hb2
      have c7 := (hp2.cell 259).trans (PS.get_journal hp2.2)
      have f7 := hp2.unfrozen 259
      have HP2 := Lib.hid hp2
      have HB2 := Lib.hid hb2
      have HJ := Lib.hid hJb
      have j5 : (w2.setCell ⟨w.heap.size, 259, none⟩ (.pointer (some ⟨J, 0, none⟩))).cell? ⟨J, 5, none⟩ = some (.slice none 0 0) := by
        have hne : J ≠ w.heap.size := by
          have : (w1.drewN n).heap.size = w1.heap.size := rfl
          omega
        exact (cell_of (heap_far hJb (p := ⟨w.heap.size, 259, none⟩) hne _) 5).trans rfl
      clear hp2 hb2 hJb hGb c1 c2
      go_wp2_with (go_at_call 74; refine (groups0 _ _ j5).mono ?_; rintro e w' ⟨rfl, rfl⟩)
      refine wp_loop_rounds 1 ?_; rw [rounds_succ]
      go_wp2_with (go_at_call 75; refine (keeps0 w.heap.size w.heap.size _ _ (Nat.le_refl _) (HP2.out.set_journal _) rfl).mono ?_; rintro e w3 ⟨rfl, h3, hm3⟩)
      go_ret2
      refine ⟨_, rfl, ⟨Nat.le_refl _, J, h3⟩, ?_⟩
      exact ((HB.out.trans (HB2.out.mono (by omega))).setCell (p := ⟨w.heap.size, 259, none⟩) (Nat.le_refl _) _).trans (hm3.below (by have := HP2.out.lt; simp [World.setCell]; omega))
end Go.Proofs.YtpfjhehjmhkbpaaGreatDoor

namespace Go.Proofs.YtpfjhehjmhkbpaaGreatDoor
open Go.RowKit

/-- A page: is it taken; its bytes, as a value and as a list. -/
structure Pg where
  taken : Bool
  v : Value
  data : List UInt8

def pgc (ps : List Pg) : List Value := ps.flatMap fun x => [.bool x.taken, x.v]

theorem pgc_length (ps : List Pg) : (pgc ps).length = ps.length * 2 := by
  induction ps with
  | nil => rfl
  | cons x ps ih => simp only [pgc, List.flatMap_cons, List.length_append, List.length_cons, List.length_nil] at ih ⊢; omega
theorem pgc_append (a b : List Pg) : pgc (a ++ b) = pgc a ++ pgc b := by simp [pgc]
theorem pgc_get0 {ps : List Pg} {i : Nat} (h : i < ps.length) : (pgc ps)[i * 2]? = some (.bool ps[i].taken) := by
  induction ps generalizing i with
  | nil => simp at h
  | cons x ps ih =>
    cases i with
    | zero => rfl
    | succ i =>
      rw [show (i + 1) * 2 = i * 2 + 2 by omega]
      simp only [pgc, List.flatMap_cons]
      show (pgc ps)[i * 2]? = _
      rw [ih (by simpa using h)]; rfl
theorem pgc_get1 {ps : List Pg} {i : Nat} (h : i < ps.length) : (pgc ps)[i * 2 + 1]? = some ps[i].v := by
  induction ps generalizing i with
  | nil => simp at h
  | cons x ps ih =>
    cases i with
    | zero => rfl
    | succ i =>
      rw [show (i + 1) * 2 + 1 = i * 2 + 1 + 2 by omega]
      simp only [pgc, List.flatMap_cons]
      show (pgc ps)[i * 2 + 1]? = _
      rw [ih (by simpa using h)]; rfl
theorem pgc_set {ps : List Pg} {i : Nat} (h : i < ps.length) (x : Pg) : ((pgc ps).set (i * 2) (.bool x.taken)).set (i * 2 + 1) x.v = pgc (ps.set i x) := by
  induction ps generalizing i with
  | nil => simp at h
  | cons y ps ih =>
    cases i with
    | zero => rfl
    | succ i =>
      rw [show (i + 1) * 2 = (i * 2 + 1) + 1 by omega]
      simp only [pgc, List.flatMap_cons, List.set_cons_succ, List.cons_append, List.nil_append]
      have := ih (i := i) (by simpa using h)
      simp only [pgc] at this
      rw [this]

/-- The slice v holds the pages. -/
def Pages (B : Nat) (w : World) (v : Value) (ps : List Pg) : Prop := w.ownsRow B 147 2 v ps.length (pgc ps) ∧ ∀ x ∈ ps, Byt w x.v x.data

theorem Pages.mut {B B' : Nat} {L : List Nat} {w w' : World} {v : Value} {ps : List Pg} (h : Pages B w v ps) (hm : Mut B' L w w') (h1 : 147 ∉ L) (h2 : 5 ∉ L) : Pages B w' v ps :=
  ⟨own_mut h.1 hm h1, fun x hx => (h.2 x hx).mut hm h2⟩
theorem Pages.below {B : Nat} {w w' : World} {v : Value} {ps : List Pg} (h : Pages B w v ps) (hb : Below w.heap.size w w') : Pages B w' v ps := h.mut (.of_below hb 0 []) (by simp) (by simp)

/-- A slice of pages that is not empty: where its cells lie. -/
theorem Pages.open_ {B : Nat} {w : World} {v : Value} {ps : List Pg} (h : Pages B w v ps) (hl : 0 < ps.length) :
    ∃ b cap cur, v = .slice (some ⟨b, 0, none⟩) ps.length cap ∧ B ≤ b ∧ w.heap[b]? = some (.cells cur 147 (0, 0)) ∧ (∀ i, i < ps.length * 2 → cur[i]? = (pgc ps)[i]?) := by
  obtain ⟨⟨h1, h2⟩, _⟩ := h
  rcases h2 with ⟨_, h0⟩ | ⟨g, cap, cur, rfl, hb, hg, hn, hcm, hcs, ht⟩
  · omega
  · refine ⟨g, cap, cur, rfl, hb, hg, fun i hi => ?_⟩
    have : (cur.toList.take (ps.length * 2))[i]? = (pgc ps)[i]? := by rw [ht]
    rw [List.getElem?_take, if_pos hi] at this
    simpa using this
theorem Pages.slice_ {B : Nat} {w : World} {v : Value} {ps : List Pg} (h : Pages B w v ps) : ∃ A c, v = .slice A ps.length c ∧ ps.length ≤ c ∧ c ≤ maxLen := by
  obtain ⟨⟨h1, h2⟩, _⟩ := h
  rcases h2 with ⟨rfl, h0⟩ | ⟨g, cap, cur, rfl, hb, hg, hn, hcm, hcs, ht⟩
  · rw [h0]; exact ⟨_, _, rfl, Nat.le_refl _, by simp [maxLen]⟩
  · exact ⟨_, _, rfl, hn, hcm⟩

/-- One page laid anew in the pages' own row. -/
theorem Pages.set {B : Nat} {w w' : World} {v : Value} {ps : List Pg} (h : Pages B w v ps) {n : Nat} (hn : n < ps.length) (x : Pg) {b : Nat} {cur : Array Value} (hb : v.ownBlock = some b) (hbh : w.heap[b]? = some (.cells cur 147 (0, 0)))
    (hw : w'.heap[b]? = some (.cells ((cur.setIfInBounds (n * 2) (.bool x.taken)).setIfInBounds (n * 2 + 1) x.v) 147 (0, 0))) (hx : Byt w' x.v x.data) (hs : ∀ y ∈ ps, Byt w' y.v y.data) : Pages B w' v (ps.set n x) := by
  obtain ⟨⟨h1, h2⟩, _⟩ := h
  refine ⟨⟨by rw [pgc_length], ?_⟩, ?_⟩
  · rcases h2 with ⟨rfl, h0⟩ | ⟨g, cap, cur', rfl, hB, hg, hn', hcm, hcs, ht⟩
    · simp [Value.ownBlock] at hb
    · simp only [Value.ownBlock, Option.some.injEq] at hb
      subst hb
      rw [hbh] at hg
      cases hg
      refine .inr ⟨g, cap, _, by simp, hB, hw, by simpa using hn', hcm, by simpa using hcs, ?_⟩
      rw [← pgc_set hn x, ← ht]
      simp only [Array.toList_setIfInBounds, List.length_set, List.take_set]
  · intro y hy
    rcases List.mem_or_eq_of_mem_set hy with hy | rfl
    · exact hs y hy
    · exact hx

theorem Pages.step {B : Nat} {w w' : World} {v : Value} {ps : List Pg} (h : Pages B w v ps) (hk : ∀ k, v.ownBlock = some k → ∀ o, w.heap[k]? = some o → w'.heap[k]? = some o) (hx : ∀ y ∈ ps, Byt w' y.v y.data) : Pages B w' v ps := by
  obtain ⟨⟨h1, h2⟩, _⟩ := h
  refine ⟨⟨h1, ?_⟩, hx⟩
  rcases h2 with h2 | ⟨g, cap, cur, rfl, hB, hg, r⟩
  · exact .inl h2
  · exact .inr ⟨g, cap, cur, rfl, hB, hk g rfl _ hg, r⟩

theorem Pages.kind {B : Nat} {w : World} {v : Value} {ps : List Pg} (h : Pages B w v ps) {k : Nat} (hk : v.ownBlock = some k) : B ≤ k ∧ ∃ c, w.heap[k]? = some (.cells c 147 (0, 0)) := by
  obtain ⟨⟨h1, h2⟩, _⟩ := h
  rcases h2 with ⟨rfl, _⟩ | ⟨g, cap, cur, rfl, hB, hg, r⟩
  · simp [Value.ownBlock] at hk
  · simp only [Value.ownBlock, Option.some.injEq] at hk
    subst hk
    exact ⟨hB, _, hg⟩

/-- A pager in memory: its struct, its pages, and the pages that last. -/
structure PagerAt (B : Nat) (w : World) (p : Nat) (g : PS) (ls ps : List Pg) : Prop where
  base : B ≤ p
  blk : PBlk w p g
  pages : Pages B w g.pages ps
  few : ps.length ≤ 16384
  lasts : Pages B w g.lasts ls
  apart : ∀ k, g.lasts.ownBlock = some k → g.pages.ownBlock ≠ some k

theorem PagerAt.mut {B B' : Nat} {L : List Nat} {w w' : World} {p : Nat} {g : PS} {ls ps : List Pg} (h : PagerAt B w p g ls ps) (hm : Mut B' L w w') (h0 : 133 ∉ L) (h1 : 147 ∉ L) (h2 : 5 ∉ L) : PagerAt B w' p g ls ps :=
  ⟨h.base, h.blk.mut hm h0, h.pages.mut hm h1 h2, h.few, h.lasts.mut hm h1 h2, h.apart⟩
theorem PagerAt.below {B : Nat} {w w' : World} {p : Nat} {g : PS} {ls ps : List Pg} (h : PagerAt B w p g ls ps) (hb : Below w.heap.size w w') : PagerAt B w' p g ls ps := h.mut (.of_below hb 0 []) (by simp) (by simp) (by simp)

/-- A page is changed: the marks. -/
def mark (d : List Int) (n : Nat) : List Int := d.set (n / 64) (bits BinOp.or IntKind.u64 (d.getD (n / 64) 0) (IntKind.u64.wrap ((2 : Int) ^ (n % 64))))

set_option maxRecDepth 6000 in
set_option maxHeartbeats 1000000 in
theorem lay_any (B p : Nat) (g : PS) (ls ps : List Pg) (n : Nat) (t : Bool) (A : Option Addr) (c : Nat) (data : List UInt8) (w : World) (h : PagerAt B w p g ls ps) (hn : n < ps.length) (hx : Byt w (.slice A data.length c) data) :
    Calls Tryz.prog 79 #[.pointer (some ⟨p, 0, none⟩), .int .i64 n, .agg #[.bool t, .slice A data.length c]] w fun e w' => e = .returned (.tuple #[]) ∧ PagerAt B w' p { g with dirty := mark g.dirty n } ls (ps.set n ⟨t, .slice A data.length c, data⟩) ∧ Mut B [133, 147] w w' := by
  have hb := bel_alloc (Below.refl w.heap.size w) (.cells #[.bool t, .slice A data.length c] 147)
  have h1 := h.below hb
  have hx1 := hx.below hb
  have hnew := heap_new w (.cells #[.bool t, .slice A data.length c] 147)
  have hlt : w.heap.size < (w.alloc (.cells #[.bool t, .slice A data.length c] 147)).heap.size := by simp
  have H1 := Lib.hid (And.intro h1 (And.intro hx1 (And.intro hb (And.intro hnew hlt))))
  have n0 := cell_of hnew 0
  have n1 := cell_of hnew 1
  simp only [List.getElem?_toArray, List.getElem?_cons_zero, List.getElem?_cons_succ] at n0 n1
  obtain ⟨b, cap, cur, hv, hbB, hbh, hcur⟩ := h1.pages.open_ (by omega)
  have c4 := (h1.blk.cell 260).trans (PS.get_pages h1.blk.2)
  rw [hv] at c4
  have b0 := (cell_of hbh (n * 2)).trans ((hcur _ (by omega)).trans (pgc_get0 hn))
  have b1 := (cell_of hbh (n * 2 + 1)).trans ((hcur _ (by omega)).trans (pgc_get1 hn))
  have fb0 := unfrozen_of hbh (n * 2)
  have fb1 := unfrozen_of hbh (n * 2 + 1)
  have HV : Hid (g.pages.ownBlock = some b) := by rw [hv]; rfl
  have HH := Lib.hid (And.intro hbB (And.intro hbh hcur))
  clear h1 hx1 hb hnew hlt hv hbB hbh hcur
  have hn1 : (n : Int) < (ps.length : Int) := by omega
  go_enter Tryz.func79, Tryz.ntmps79
  go_wp2
  generalize w.alloc (.cells #[.bool t, .slice A data.length c] 147) = w1 at *
  go_region
  have hm2 : Mut B [133, 147] w (w1.setCell ⟨b, n * 2, none⟩ (.bool t)) := ((Mut.refl B [133, 147] w).then_below H1.out.2.2.1).setCell (p := ⟨b, n * 2, none⟩) HH.out.2.1 (by simp) HH.out.1 _
  have hbh2 := heap_set HH.out.2.1 (n * 2) (.bool t)
  have hm3 := hm2.setCell (p := ⟨b, n * 2 + 1, none⟩) hbh2 (by simp) HH.out.1 (.slice A data.length c)
  have hbh3 := heap_set hbh2 (n * 2 + 1) (.slice A data.length c)
  have hbp : p ≠ b := ne_of_kind H1.out.1.blk.1 HH.out.2.1 (by simp [oty])
  have hp3 := (H1.out.1.blk.far (q := ⟨b, n * 2, none⟩) hbp (.bool t)).far (q := ⟨b, n * 2 + 1, none⟩) hbp (.slice A data.length c)
  have hd : n / 64 < 256 := by have := h.few; omega
  have c7 := (hp3.cell (263 + n / 64)).trans (PS.get_dirty hp3.2 hd)
  have f7 := hp3.unfrozen (263 + n / 64)
  have HW : Hid (∀ k, k ≠ b → ∀ o, w1.heap[k]? = some o → ((w1.setCell ⟨b, n * 2, none⟩ (.bool t)).setCell ⟨b, n * 2 + 1, none⟩ (.slice A data.length c)).heap[k]? = some o) :=
    fun k hk o ho => heap_far (p := ⟨b, n * 2 + 1, none⟩) (heap_far (p := ⟨b, n * 2, none⟩) ho hk _) hk _
  have H2 := Lib.hid (And.intro hm3 (And.intro hbh3 (And.intro hbp hp3)))
  clear hm2 hm3 hbh2 hbh3 hbp hp3 b0 b1 fb0 fb1 n0 n1 c4
  go_wp2
  generalize (w1.setCell ⟨b, n * 2, none⟩ (.bool t)).setCell ⟨b, n * 2 + 1, none⟩ (.slice A data.length c) = w3 at *
  have ht : (n : Int).tmod 64 = ((n % 64 : Nat) : Int) := by rw [Int.tmod_eq_emod_of_nonneg (by omega)]; omega
  have hk : n % 64 < 64 := Nat.mod_lt _ (by omega)
  generalize hkn : n % 64 = k at ht hk
  have HK := Lib.hid hkn; clear hkn
  go_region_with (first | (go_at_call 117; refine (loadU64 _ _ _ _ (by exact c7)).mono ?_; rintro e w' ⟨rfl, rfl⟩) | (go_at_call 104; refine (storeU64 _ _ _ _ _ (by exact c7) (by exact f7)).mono ?_; rintro e w' ⟨rfl, rfl⟩))
  go_end0
  obtain ⟨hm3, hbh3, hbp, hp3⟩ := H2.out
  have hpg := h.pages
  have hp4 := hp3.set_dirty hd (bits BinOp.or IntKind.u64 (g.dirty.getD (n / 64) 0) (IntKind.u64.wrap ((2 : Int) ^ k)))
  have hbn : b ≠ p := fun e => hbp e.symm
  have hbh4 := heap_far hbh3 (p := ⟨p, 263 + n / 64, none⟩) hbn (.int .u64 (bits BinOp.or IntKind.u64 (g.dirty.getD (n / 64) 0) (IntKind.u64.wrap ((2 : Int) ^ k))))
  have hm4 := (hm3.trans (hp3.mutL (L := [133, 147]) h.base (by simp) (263 + n / 64) (.int .u64 (bits BinOp.or IntKind.u64 (g.dirty.getD (n / 64) 0) (IntKind.u64.wrap ((2 : Int) ^ k)))))).drew.drew
  refine ⟨rfl, ⟨h.base, ?_, ?_, by simpa using h.few, ?_, h.apart⟩, hm4⟩
  · unfold mark
    rw [HK.out]
    exact hp4
  · exact Pages.set (w := w1) H1.out.1.pages hn ⟨t, .slice A data.length c, data⟩ HV.out HH.out.2.1 hbh4 (hx.mut hm4 (by simp)) (fun y hy => (hpg.2 y hy).mut hm4 (by simp))
  · refine Pages.step H1.out.1.lasts (fun k hk o ho => ?_) (fun y hy => (h.lasts.2 y hy).mut hm4 (by simp))
    have hkb : k ≠ b := fun e => h.apart k hk (e ▸ HV.out)
    have hkp : k ≠ p := by
      obtain ⟨_, c, hc⟩ := Pages.kind H1.out.1.lasts hk
      exact ne_of_kind hc H1.out.1.blk.1 (by simp [oty])
    exact heap_far (p := ⟨p, 263 + n / 64, none⟩) (HW.out k hkb o ho) hkp _
end Go.Proofs.YtpfjhehjmhkbpaaGreatDoor
