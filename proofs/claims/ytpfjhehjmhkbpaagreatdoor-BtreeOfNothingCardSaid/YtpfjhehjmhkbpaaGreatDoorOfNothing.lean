/- BtreeOfNothing: for every input the law returns true, and each argument reads behind the call as it read before; the card that ties the listed tables to the program's text. No condition beyond the row's own. -/
import Derived.Test.YtpfjhehjmhkbpaaGreatDoorM24
import Derived.Test.YtpfjhehjmhkbpaaGreatDoorSeats
namespace Go.Proofs.YtpfjhehjmhkbpaaGreatDoor
open Go.RowKit
attribute [local go_sem] Oper.semAt_some

theorem func_nil (W : World) (f : Fn) (a b : Array Value) : (Op.equal 34 (.func f a b) .nilFunc).run Tryz.prog W = .ok false W := by
  unfold Op.equal Op.maxDepth Op.equalIn
  simp [run_underlying Tryz.underlying34]

theorem wpList_fnnil {ops : Array Oper} {rest : List Oper} {o : Oper} {a : Act} {Q : Exit → Act → World → Prop} {w : World} (hgd : o.guard = none) (x y : Operand) (ho : o.op = .binOp .eql 34 x y 34) {f : Fn} {p q : Array Value} (hx : a.eval x = .func f p q) (hy : a.eval y = .nilFunc)
    (h : wpList Tryz.prog ops Q rest (a.put o.dst (.bool false)) w) : wpList Tryz.prog ops Q (o :: rest) a w :=
  wpList_plain hgd fun _ hK => by
    unfold Oper.wp execOp
    simp only [ho, Sem.run_bind, hx, hy, eqGuard, binOp, func_nil]
    simp
    exact hK _ _ h

def NI (wS : World) (nb : Nat) (_ : List Hd) (W : World) : Prop := W.heap[nb]? = some (.cells #[.int .i64 0] 3 (0, 0)) ∧ Below wS.heap.size wS W
theorem NI_below (wS : World) (nb : Nat) : ∀ s A B', NI wS nb s A → Below A.heap.size A B' → NI wS nb s B' :=
  fun _ _ _ ⟨h1, h3⟩ hb => ⟨heap_below h1 hb (blk_lt h1), h3.trans (hb.mono h3.size)⟩
theorem NI_put {wS w0 : World} {nb : Nat} (hs : wS.heap.size ≤ w0.heap.size) : ∀ s W l o o', w0.heap.size ≤ l → W.heap[l]? = some o → o.isCells = false → NI wS nb s W → NI wS nb s (W.putObj l o') :=
  fun _ _ _ _ o' hl ho hc ⟨h1, h3⟩ => ⟨(mut_put (Nat.zero_le _) ho hc o').keepc h1 (by decide), bel_put h3 (by omega) ho hc o' (Nat.le_refl _)⟩

set_option maxRecDepth 4000 in
set_option maxHeartbeats 1000000 in
theorem nothing_big (key : ByteArray) (A : Option Addr) (n c : Nat) (w : World) (hk : key.size ≤ 1000000000000000) (hn : n ≤ 1000000000000000) (hbig : 40000 < key.size + n) : Calls Tryz.prog 8 #[.string key, .slice A n c] w fun e w' => e = .returned (.bool true) ∧ Below w.heap.size w w' := by
  have hd : decide ((40000 : Int) < (key.size : Int) + (n : Int)) = true := by rw [decide_eq_true_eq]; omega
  refine calls_marks Tryz.func8 rfl ?_
  simp only [Tryz.ntmps8, List.size_toArray, List.length_cons, List.length_nil, Nat.reduceAdd, Nat.reduceSub, Array.replicate_succ, Array.replicate_zero, List.push_toArray, List.append_toArray, List.nil_append, List.cons_append]
  go_wp2
  exact ⟨_, results_tmp rfl _ _ _, rfl, Below.refl _ _⟩

set_option maxRecDepth 4000 in
set_option maxHeartbeats 2000000 in
theorem nothing_small (key : ByteArray) (A : Option Addr) (n c : Nat) (w : World) (hsm : key.size + n ≤ 40000) : Calls Tryz.prog 8 #[.string key, .slice A n c] w fun e w' => e = .returned (.bool true) ∧ Below w.heap.size w w' := by
  have hd : decide ((40000 : Int) < (key.size : Int) + (n : Int)) = false := by rw [decide_eq_false_iff_not]; omega
  have mixed : Tryz.prog.follows .mixedOrders = true := by kernel_rfl
  refine calls_marks Tryz.func8 rfl ?_
  simp only [Tryz.ntmps8, List.size_toArray, List.length_cons, List.length_nil, Nat.reduceAdd, Nat.reduceSub, Array.replicate_succ, Array.replicate_zero, List.push_toArray, List.append_toArray, List.nil_append, List.cons_append]
  go_wp2_with (first
    | (go_at_call 24; refine (drop_nil _).mono ?_; rintro e w' ⟨rfl, rfl⟩)
    | (go_at_call 22; refine (get_nil _ _).mono ?_; rintro e w' ⟨rfl, rfl⟩)
    | (go_at_call 16; refine (shape_nil _).mono ?_; rintro e w' ⟨rfl, rfl⟩)
    | (go_at_call 14; refine (range_make_nil _ _).mono ?_; rintro e w6 ⟨q1, q2, rfl, hq1, hq2, b6⟩)
    | (refine wpList_fnnil rfl (.tmp 36) (.const .nilFunc) rfl rfl rfl ?_))
  have bw6 : Below w.heap.size w w6 := bel_then ((Below.refl _ _).alloc (Nat.le_refl _) _) (by simp) b6
  have hs6 := heap_below (heap_new w (.cells #[.int .i64 0] 3)) b6 (by simp)
  have hgv := range_nil w6 q1 q2 hq1
  have hH := Lib.hid (And.intro bw6 (And.intro hs6 hgv))
  clear bw6 hs6 hgv b6 hq1 hq2
  apply over_law (gf := 46) (lb := #[.pointer (some ⟨q1, 0, none⟩), .pointer (some ⟨q2, 0, none⟩)]) (encs := encHd) (X := stpHd []) (S := fun xs => kvh xs = []) rfl (enters_of Tryz.func46 (by kernel_rfl) rfl) hH.out.2.2 (fun x => rfl)
    (NI w w.heap.size) (NI_below w w.heap.size) (NI_put hH.out.1.size) (fun pre x W l o o' ho hc hx => ⟨hx.1.mut (mut_put (Nat.zero_le _) ho hc o') (by decide), hx.2⟩) ⟨hH.out.2.1, hH.out.1⟩
  case hassign =>
    intro l x W K hK
    simp [encHd]
    gi_wp2
    exact hK
  case hbody =>
    rintro l pre ⟨k, v, bl⟩ W _ ⟨x1, x2⟩
    have := x2.length_le
    simp [kvh] at this
  case hdone =>
    rintro D xs W hD _ ⟨i1, i3⟩ hK
    have c1 : W.cell? ⟨w.heap.size, 0, none⟩ = some (.int .i64 0) := by rw [cell_of i1]; rfl
    have i3H := Lib.hid (And.intro i3 (And.intro hD hK))
    clear i1 i3 hK
    go_wp2_with (first
      | (go_at_call 12; refine (open_nil _ _).mono ?_; rintro e w' ⟨rfl, rfl⟩))
    have c1H := Lib.hid (show W.drew.cell? ⟨w.heap.size, 0, none⟩ = some (.int .i64 0) from c1)
    go_region_held3 (fun W' => W'.cell? ⟨w.heap.size, 0, none⟩ = some (.int .i64 0)) (first | (with_reducible exact c1H.out) | (with_reducible exact hS2)) (first
      | (go_at_call 13; refine (put_nil _ _ _).mono ?_; rintro e w' ⟨rfl, rfl⟩)
      | (go_at_call 19; refine (delete_nil _ _).mono ?_; rintro e w' ⟨rfl, rfl⟩)
      | (go_at_call 18; refine (commit_nil _).mono ?_; rintro e w' ⟨rfl, rfl⟩)
      | (go_at_call 15; refine (len_nil _).mono ?_; rintro e w' ⟨rfl, rfl⟩)
      | (go_at_call 10; refine (known_any _).mono ?_; rintro e w8 ⟨rfl, b8⟩; have hS2 := bel_cell b8 c1H.out))
    all_goals
      go_wp2
      obtain ⟨i3, hD', hK⟩ := i3H.out
      have hK8 := heap_below (w := W.drew) hK b8 (blk_lt hK)
      refine ⟨by simp, .inl ⟨_, _, rfl, run_takeDeferred hK8, ?_⟩⟩
      refine ⟨_, results_tmp rfl _ _ _, rfl, ?_⟩
      exact bel_put (bel_then i3.drew i3.size b8) (by have := hH.out.1.size; omega) hK8 rfl _ (Nat.le_refl _)

theorem nothing_any (key : ByteArray) (A : Option Addr) (n c : Nat) (w : World) (hk : key.size ≤ 1000000000000000) (hn : n ≤ 1000000000000000) : Calls Tryz.prog 8 #[.string key, .slice A n c] w fun e w' => e = .returned (.bool true) ∧ Below w.heap.size w w' := by
  by_cases h : 40000 < key.size + n
  · exact nothing_big key A n c w hk hn h
  · exact nothing_small key A n c w (by omega)
end Go.Proofs.YtpfjhehjmhkbpaaGreatDoor

namespace Go.Proofs.YtpfjhehjmhkbpaaGreatDoor.btreeOfNothing
open Go.ChangeShapes Go.WideShapes Go.ChangeAt Go.RowKit
open Go.ChangeMaps (open_string shut_string)

theorem laid_met (os : Os) : laidMet Tryz.prog Rows.btreeOfNothingRow.laid ((tabWorld os).forCall (fun _ _ => 0) ⟨#[], #[.string .empty, .slice none 0 0], []⟩).memory :=
  laidMet_of_run' 8 (by kernel_rfl) (by kernel_rfl)
theorem reads (os : Os) {H : Type} (enc : TypeId × Value → H) : ∃ places, DataW.whole enc Tryz.prog ((tabWorld os).forCall (fun _ _ => 0) ⟨#[], #[.string .empty, .slice none 0 0], []⟩).memory Tryz.f8.params.toList Rows.btreeOfNothingSpec.vars false #[Value.string .empty, .slice none 0 0].toList 8 = some ([.lit (.string []), .nil], [], places) :=
  ⟨[], by kernel_rfl⟩

set_option maxRecDepth 100000 in
theorem contract (H : Type) (enc : TypeId × Value → H) (W : World) (base : Nat) (args : Array Value) (ds gs : List (DataW H)) (before : List MemPlace)
    (hval : ∀ (j : Nat) t v, Tryz.f8.params[j]? = some t → args[j]? = some v → Value.okWide Tryz.prog W .any base t v)
    (hW : DataW.Whole enc Tryz.prog Tryz.f8.params.toList Rows.btreeOfNothingSpec.vars false W args.toList ds gs before)
    (hsz : (DataW.weightsEach Tryz.prog (Tryz.f8.params.toList ++ (OpenSpec.ofChange Rows.btreeOfNothingSpec).bare.plain.varTypes Tryz.prog) (ds ++ gs)).all (· ≤ reachBytes) = true) :
    Calls Tryz.prog 8 args W fun e W' => ∃ v, e = .returned v ∧ Rows.btreeOfNothingSpec.post enc Tryz.prog Tryz.f8 false true false false W args v W' := by
  have hW' := hW
  obtain ⟨p, q, hA0, hV, rfl, hfz, hnd⟩ := hW
  have hA : DataW.TrodAll enc Tryz.prog W 0 (fun _ => true) true Tryz.f8.params.toList args.toList ds p := hA0
  rw [Tryz.params8] at hA hval
  obtain ⟨v0, vs0, d0, ds0, p0, q0, hargs, rfl, rfl, h0, r0⟩ := trodAll_cons hA
  obtain ⟨v1, vs1, d1, ds1, p1, q1, rfl, rfl, rfl, h1, r1⟩ := trodAll_cons r0
  obtain ⟨rfl, rfl, rfl⟩ := trodAll_nil r1
  obtain rfl : args = #[v0, v1] := by cases args; simp_all
  obtain ⟨rfl, rfl⟩ := trodVars_none hV
  obtain ⟨s, rfl, rfl, rfl, hmax⟩ := open_string Tryz.underlying9 (hval 0 9 v0 rfl rfl) h0
  obtain ⟨a1, len1, cap1, rfl⟩ := okWide_slice Tryz.underlying32 (hval 1 32 v1 rfl rfl)
  have k1 := h1
  have lt1 : ∀ x ∈ p1, x.block < W.heap.size := by obtain ⟨m, hm⟩ := k1; exact DataW.trod_lt m _ _ _ hm
  have hr : reachBytes < 1000000000000000 := by have := reachBytes_lt; omega
  have hl1 : len1 ≤ 1000000000000000 := by
    obtain ⟨fuel, hf⟩ := h1
    rcases open_ints Tryz.underlying32 Tryz.underlying5 (by kernel_rfl) hf with ⟨hcs, _⟩ | ⟨x, l, c, zs, hcs, _, hl, hm, hz, hx, hcell, hwz⟩
    · simp [Value.cells] at hcs
      omega
    · simp [Value.cells] at hcs
      obtain ⟨rfl, rfl, rfl⟩ := hcs
      simp only [Prod.mk.injEq] at hx
      obtain ⟨hd1, _⟩ := hx
      have h := sized_slice hsz (j := 1) (t := 32) (e := 5) rfl (by rw [hd1]; rfl) Tryz.underlying32
      have hb : Tryz.prog.bytesOf 5 = 1 := by kernel_rfl
      rw [hb] at h
      simp [lits] at h hz
      omega
  have hs1 : s.size ≤ 1000000000000000 := by
    have h := sized_string hsz (j := 0) (t := 9) rfl rfl
    have e : s.data.toList.length = s.size := by rw [Array.length_toList]; rfl
    omega
  clear hA0
  refine (nothing_any s a1 len1 cap1 W hs1 hl1).mono fun e W' ⟨he, bel⟩ => ?_
  subst he
  exact ⟨_, rfl, _, _, _, [], _, [], hW', trodAll_mk1 (shut_bool Tryz.underlying4 _), (trodAll_cons_mk (shut_string Tryz.underlying9 hmax) (trodAll_cons_mk (Below.trod seatLaidOut (by kernel_rfl) (of_decide_eq_true (by kernel_rfl)) k1 bel lt1) trodAll_mk0)), rfl, bel.frame _, fun h => by cases h⟩

set_option maxRecDepth 100000 in
theorem lifted (os : Os) (started : os.Started) (H : Type) (enc : TypeId × Value → H) (F : Stop.Interp) :
    ReturnsInHanded {} Tryz.checked os 8 .any ((OpenSpec.ofChange Rows.btreeOfNothingSpec).preRow enc Tryz.prog Tryz.f8 Rows.btreeOfNothingRow.domain false Rows.btreeOfNothingRow.laid) (((OpenSpec.ofChange Rows.btreeOfNothingSpec).at F).post enc Tryz.prog Tryz.f8 false true false false) := by
  obtain ⟨places, hx⟩ := reads os enc
  refine returnsInHanded_of_row (C := Tryz.checked) (s := OpenSpec.ofChange Rows.btreeOfNothingSpec) seatOwn started (by kernel_rfl) Tryz.func8
    (witness_row_at (enc := enc) (C := Tryz.checked) false (tabWorld os) #[.string .empty, .slice none 0 0] rfl (by kernel_rfl) (by kernel_rfl) (by kernel_rfl)
      (OpenSpec.preRow_of_cond 8 hx (by kernel_rfl) (fun k hk => by cases hk) (by kernel_rfl) (laid_met os))) ?_
  intro W base args ds gs before hval hW _ _ hsz _ _ _
  exact contract H enc W base args ds gs before hval hW hsz

theorem said : Rows.BtreeOfNothingSaid :=
  OpenClaim.holds_of_cond 8 Tryz.f8 rfl rfl rfl rfl rfl rfl rfl ⟨rfl, rfl, rfl, rfl, rfl⟩ rfl rfl rfl rfl rfl (by kernel_rfl) Tryz.func8 (by kernel_rfl)
    (of_decide_eq_true (by kernel_rfl)) (by unfold Func.isWrapper; first | (rw [if_pos (by decide +kernel)]; kernel_rfl) | (rw [if_neg (by decide +kernel)]; exact ⟨rfl, rfl⟩))
    (fun os started H enc _ F => by rw [OpenClaim.pre_eq_preRow]; exact lifted os started H enc F)

theorem plain (f : FuncId) (fn : Func) (hf : Tryz.pinned.checked.prog.funcNamed "pantry/pantrylaw10.BtreeOfNothing" = some f) (hfn : Tryz.pinned.checked.prog.funcs[f]? = some fn) :
    false = Tryz.pinned.checked.prog.looks [] ∧ ∀ (j : Nat) t, fn.params[j]? = some t → Tryz.pinned.checked.prog.wantsStandIn t = false := by
  obtain rfl : f = 8 := Option.some.inj ((show Tryz.prog.funcNamed "pantry/pantrylaw10.BtreeOfNothing" = some 8 by kernel_rfl).symm.trans hf) |>.symm
  obtain rfl : fn = Tryz.f8 := (Option.some.inj (Tryz.func8.symm.trans hfn)).symm
  refine ⟨by kernel_rfl, fun j t ht => ?_⟩
  rw [Tryz.params8] at ht
  have hm : t ∈ [9, 32] := by simpa using Array.mem_of_getElem? ht
  have hall : ([9, 32].all fun u => !Tryz.prog.wantsStandIn u) = true := by kernel_rfl
  exact (show Tryz.prog.wantsStandIn t = false by simpa using List.all_eq_true.1 hall t hm)

/-- The card. -/
theorem card : Rows.BtreeOfNothingCardSaid :=
  Claim7.holds_tied_plain_at .later [] _ _ _ _ said (fun _ h => by cases h) (by kernel_rfl) (fun _ h => by cases h) btreeOfNothing_row_tie rfl ⟨rfl, rfl⟩ (by kernel_rfl) rfl plain (by kernel_rfl)
end Go.Proofs.YtpfjhehjmhkbpaaGreatDoor.btreeOfNothing
