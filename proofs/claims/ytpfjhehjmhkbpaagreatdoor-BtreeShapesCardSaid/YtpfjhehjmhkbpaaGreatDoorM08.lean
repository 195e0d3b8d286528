/- node.bytes: the walk. -/
import Derived.Test.YtpfjhehjmhkbpaaGreatDoorM06
import Derived.Deep.RegionHeld3
import Derived.Lib.AppendStr
namespace Go.Proofs.YtpfjhehjmhkbpaaGreatDoor
open Go.RowKit

theorem own_row {w : World} {B e sz n : Nat} {A : Option Addr} {c : Nat} {xs : List Value} (h : w.ownsRow B e sz (.slice A n c) n xs) (hn : 0 < n) :
    ∃ g cur, A = some ⟨g, 0, none⟩ ∧ w.heap[g]? = some (.cells cur e (0, 0)) ∧ B ≤ g ∧ cur.size = c * sz ∧ (∀ (j : Nat) u, xs[j]? = some u → w.cell? ⟨g, j, none⟩ = some u) := by
  obtain ⟨h1, h2⟩ := h
  rcases h2 with ⟨_, h0⟩ | ⟨g, cap, cur, hv, hb, hg, h3, h4, h5, h6⟩
  · omega
  · simp only [Value.slice.injEq] at hv
    obtain ⟨rfl, _, rfl⟩ := hv
    refine ⟨g, cur, rfl, hg, hb, h5, fun j u hu => ?_⟩
    rw [cell_of hg]
    rw [← h6, List.getElem?_take] at hu
    split at hu
    · simpa using hu
    · cases hu

section
variable {P : Program} {o : Oper} {a : Act} {Q : Exit → Act → World → Prop} {w : World}
/-- append as a step of a region that draws. -/
theorem step_app {ops : Array Oper} {K : Act → World → Prop} {E : Prop} (hgd : o.guard = none) (s x : Operand) (t : TypeId) (ho : o.op = .call { callee := .builtin .append, args := #[s, x], argTypes := #[t, t] })
    (base : Nat) (e : TypeId) (z : Value) (size bytes : Nat) (ht : P.underlying t = some (.slice e)) (hinfo : (P.info? e).map (fun i => (i.zero, i.size, i.bytes)) = some (some z, size, bytes))
    (hzs : z.cells.size = size) (hsz : 0 < size) (v : Value) (n : Nat) (xs : List Value) (hs : a.eval s = v) (hown : w.ownsRow base e size v n xs)
    (A : Option Addr) (m c : Nat) (news : List Value) (hx : a.eval x = .slice A m c) (hl : news.length = m * size) (hat : At w A news) (hA : A = none → c = 0) (h1 : ∀ u ∈ news, u.oneCell' = true)
    (h63 : n + m ≤ maxLen) (hbytes : (n + m) * bytes ≤ 140737488355328) (hbase : base ≤ w.heap.size)
    (h : ∀ v' w', w'.ownsRow base e size v' (n + m) (xs ++ news) → Mut base [e] w w' → K (a.put o.dst v') w') :
    if Region.wanted o (yielded ops a.tmps) = true then Oper.wp P o a w K Q else E := by
  have hw : Region.wanted o (yielded ops a.tmps) = true := by simp [Region.wanted, hgd]
  rw [if_pos hw]
  exact wp_app s x t ho base e z size bytes ht hinfo hzs hsz v n xs hs hown A m c news hx hl hat hA h1 h63 hbytes hbase h
end

theorem cell_alloc {w : World} {g i : Nat} {v : Value} (h : w.cell? ⟨g, i, none⟩ = some v) (o : Obj) : (w.alloc o).cell? ⟨g, i, none⟩ = some v := by
  rw [World.cell?_alloc_past _ g i (block_lt_of_cell h)]; exact h

theorem own_alloc {w : World} {base e sz n : Nat} {v : Value} {xs : List Value} (h : w.ownsRow base e sz v n xs) (o : Obj) : (w.alloc o).ownsRow base e sz v n xs := own_below h ((Below.refl _ _).alloc (Nat.le_refl _) o)

theorem mut_undrew {B : Nat} {L : List Nat} {w W : World} (h : Mut B L w.drew W) : Mut B L w W := ⟨h.os, h.tape, h.output, h.size, h.block⟩

theorem one_u8 (l : List UInt8) : ∀ u ∈ l.map u8, u.oneCell' = true := by
  intro u hu
  simp [u8] at hu
  obtain ⟨y, _, rfl⟩ := hu
  rfl

/-- A string's bytes behind a row of the caller's own. -/
theorem wpList_appS {o : Oper} {a : Act} {Q : Exit → Act → World → Prop} {w : World} {ops : Array Oper} {rest : List Oper} (hgd : o.guard = none) (sl x : Operand)
    (ho : o.op = .call { callee := .builtin .append, args := #[sl, x], argTypes := #[32, 9] }) (base : Nat) (v : Value) (l : List UInt8) (hs : a.eval sl = v) (hown : w.ownsRow base 5 1 v l.length (l.map u8)) (s : ByteArray) (hx : a.eval x = .string s)
    (hb : l.length + s.size ≤ 1000000000) (hbase : base ≤ w.heap.size)
    (h : ∀ v' w', w'.ownsRow base 5 1 v' (l ++ s.data.toList).length ((l ++ s.data.toList).map u8) → Mut base [5] w w' → wpList Tryz.prog ops Q rest (a.put o.dst v') w') : wpList Tryz.prog ops Q (o :: rest) a w := by
  obtain ⟨i0, hi, hz, hz1, hz2⟩ := info_parts info5
  refine Lib.wpList_append_own_string w hgd sl x 32 9 ho base 5 i0 Tryz.underlying32 Tryz.underlying9 hi hz hz1 hz2 v l.length (l.map u8) hs hown s hx (by unfold maxLen; omega) (by omega) hbase ?_
  intro v' w' h1 h2 _
  refine h v' w' ?_ (mut_of_own hown h2)
  have e1 : Lib.strCells s = s.data.toList.map u8 := by simp [Lib.strCells, u8]
  rw [e1, ← List.map_append] at h1
  have e2 : (l ++ s.data.toList).length = l.length + s.size := by rw [List.length_append]; rfl
  rw [e2]
  exact h1

/-- What is laid ahead of the key of a number. -/
def Nd.upto (x : Nd) (k : Nat) : List UInt8 := x.head ++ (x.entries.take k).flatten

theorem Nd.upto_succ {x : Nd} {k : Nat} {l : List UInt8} (h : x.entries[k]? = some l) : x.upto (k + 1) = x.upto k ++ l := by
  unfold Nd.upto
  rw [List.take_add_one, h]
  simp

theorem Nd.upto_le (x : Nd) (k : Nat) : (x.upto k).length ≤ x.bytes.length := by
  have h := List.take_append_drop k x.entries
  have h2 := congrArg (fun l => (List.flatten l).length) h
  simp only [List.flatten_append, List.length_append] at h2
  unfold Nd.upto Nd.bytes
  simp only [List.length_append]
  omega

theorem Nd.entries_len {x : Nd} (h : x.Ok) : x.entries.length = x.keys.length := by
  unfold Nd.entries
  split
  · rename_i hl; simp [h.lf hl]
  · simp

/-- What is laid ahead of the kid of a number. -/
def Nd.upkid (x : Nd) (j : Nat) : List UInt8 := x.upto x.keys.length ++ ((x.kids.map enc).take j).flatten

theorem Nd.upkid_succ {x : Nd} {j : Nat} {k : Nat} (h : x.kids[j]? = some k) : x.upkid (j + 1) = x.upkid j ++ enc k := by
  unfold Nd.upkid
  rw [List.take_add_one, List.getElem?_map, h]
  simp

theorem Nd.upto_all {x : Nd} (h : x.Ok) : x.upto x.keys.length = x.head ++ x.entries.flatten := by
  unfold Nd.upto
  rw [List.take_of_length_le (by rw [Nd.entries_len h]; exact Nat.le_refl _)]

theorem Nd.upkid_all {x : Nd} (h : x.Ok) : x.upkid x.kids.length = x.bytes := by
  unfold Nd.upkid Nd.bytes
  rw [Nd.upto_all h, List.take_of_length_le (by simp)]

theorem Nd.upkid_le {x : Nd} (h : x.Ok) (j : Nat) : (x.upkid j).length ≤ x.bytes.length := by
  rw [← Nd.upkid_all h]
  have h1 := List.take_append_drop j (x.kids.map enc)
  have h2 := congrArg (fun l => (List.flatten l).length) h1
  simp only [List.flatten_append, List.length_append] at h2
  unfold Nd.upkid
  simp only [List.length_append]
  rw [List.take_of_length_le (i := x.kids.length) (by simp)]
  omega

theorem Nd.kids_len {x : Nd} (h : x.Ok) : x.kids.length ≤ 2001 := by
  cases hl : x.leaf with
  | true => rw [(h.lf hl).2]; simp
  | false => rw [(h.nd hl).1]; have := h.few; omega

theorem own_new (w : World) (u : Value) (e : TypeId) : (w.alloc (.cells #[u] e)).ownsRow w.heap.size e 1 (.slice (some ⟨w.heap.size, 0, none⟩) 1 1) 1 [u] :=
  ⟨rfl, .inr ⟨w.heap.size, 1, #[u], rfl, Nat.le_refl _, heap_new w _, by simp, by simp [maxLen], rfl, rfl⟩⟩

set_option maxRecDepth 4000 in
set_option maxHeartbeats 1000000 in
theorem bytes_any (B : Nat) (w : World) (q : Nat) (x : Nd) (h : NodeAt B w q x) (hok : x.Ok) (hlen : x.bytes.length ≤ 1000000) :
    Calls Tryz.prog 83 #[.pointer (some ⟨q, 0, none⟩)] w fun e w' => ∃ v, e = .returned v ∧ w'.ownsRow w.heap.size 5 1 v x.bytes.length (x.bytes.map u8) ∧ Below w.heap.size w w' := by
  obtain ⟨h0, kv, vv, iv, vc, h1, h2, h4, h6, h7⟩ := h
  obtain ⟨A1, c1, rfl, hc1, hm1, ha1⟩ := own_slice h2
  obtain ⟨A2, c2, rfl, hc2, hm2, ha2⟩ := own_slice h4
  obtain ⟨A3, c3, rfl, hc3, hm3, ha3⟩ := own_slice h7
  have e0 : w.cell? ⟨q, 0, none⟩ = some (.bool x.leaf) := by rw [cell_of h1]; rfl
  have e1 : w.cell? ⟨q, 1, none⟩ = some (.slice A1 x.keys.length c1) := by rw [cell_of h1]; rfl
  have e2 : w.cell? ⟨q, 2, none⟩ = some (.slice A2 x.vals.length c2) := by rw [cell_of h1]; rfl
  have e3 : w.cell? ⟨q, 3, none⟩ = some (.slice A3 x.kids.length c3) := by rw [cell_of h1]; rfl
  have hq := blk_lt h1
  obtain ⟨n, hn⟩ : ∃ n, n = x.keys.length := ⟨_, rfl⟩
  have hn2 : n ≤ 2000 := by rw [hn]; exact hok.few
  obtain ⟨lf, hlf⟩ : ∃ lf, lf = x.leaf := ⟨_, rfl⟩
  rw [← hlf] at e0
  rw [← hn] at e1
  have hH := Lib.hid (And.intro h1 (And.intro h2 (And.intro h4 (And.intro h6 (And.intro h7 (And.intro hok hlen))))))
  have hnH := Lib.hid (And.intro hn hlf)
  have hcH := Lib.hid (And.intro hm1 (And.intro hm2 hm3))
  clear h1 h2 h4 h6 h7 hok hlen hn hlf hm1 hm2 hm3
  go_enter Tryz.func83, Tryz.ntmps83
  have hM : n < M64 := by unfold M64; omega
  have f1 : ∀ W, Mut w.heap.size [5] w W → W.cell? ⟨q, 1, none⟩ = some (.slice A1 n c1) := fun W hm => by rw [cell_of (hm.keepc hH.out.1 (by decide)), hnH.out.1]; rfl
  have f2 : ∀ W, Mut w.heap.size [5] w W → W.cell? ⟨q, 2, none⟩ = some (.slice A2 x.vals.length c2) := fun W hm => by rw [cell_of (hm.keepc hH.out.1 (by decide))]; rfl
  have f3 : ∀ W, Mut w.heap.size [5] w W → W.cell? ⟨q, 3, none⟩ = some (.slice A3 x.kids.length c3) := fun W hm => by rw [cell_of (hm.keepc hH.out.1 (by decide))]; rfl
  have f0 : ∀ W, Mut w.heap.size [5] w W → W.cell? ⟨q, 0, none⟩ = some (.bool lf) := fun W hm => by rw [cell_of (hm.keepc hH.out.1 (by decide)), hnH.out.2]; rfl
  have hk2 : Hid (x.head = [if lf then 1 else 2] ++ enc n) := by unfold Nd.head; rw [← hnH.out.2, ← hnH.out.1]; rfl
  have hu0 : Hid (x.upto 0 = x.head) := by show x.upto 0 = x.head; simp [Nd.upto]
  have huS : ∀ k, Hid ((x.upto k).length ≤ 1000000) := fun k => Nat.le_trans (x.upto_le k) hH.out.2.2.2.2.2.2
  cases lf
  all_goals go_wp2_with (go_at_call 82; first
    | (refine (appendNum_any w.heap.size _ [2] n _ (own_new w _ 5) (by simp) hM (by rw [World.size_alloc]; omega)).mono ?_; rintro e w1 ⟨v1, rfl, o1, m1⟩; rw [show [2] ++ enc n = x.upto 0 from (hu0.out.trans hk2.out).symm] at o1; have m2 := ((Mut.refl w.heap.size [5] w).alloc _).trans m1; clear m1; have f11 := f1 w1 m2)
    | (refine (appendNum_any w.heap.size _ [1] n _ (own_new w _ 5) (by simp) hM (by rw [World.size_alloc]; omega)).mono ?_; rintro e w1 ⟨v1, rfl, o1, m1⟩; rw [show [1] ++ enc n = x.upto 0 from (hu0.out.trans hk2.out).symm] at o1; have m2 := ((Mut.refl w.heap.size [5] w).alloc _).trans m1; clear m1; have f11 := f1 w1 m2))
  all_goals
    clear f11
    go_loopw [4, 28] (fun v i wr => ∃ k : Nat, k ≤ n ∧ i = .int .i64 (k : Int) ∧ wr.ownsRow w.heap.size 5 1 v (x.upto k).length ((x.upto k).map u8) ∧ Mut w.heap.size [5] w wr) (fun _ i _ => n - (intOf i).toNat)
    case atStart => exact ⟨0, Nat.zero_le _, rfl, o1, m2⟩
  case round =>
    obtain ⟨k, hkn, rfl, o2, m3⟩ := hrel
    clear o1 m2
    by_cases hlt : k < n
    · obtain ⟨g1, cur1, rfl, hg1, hb1, hs1, hx1⟩ := own_row hH.out.2.1 (by rw [← hnH.out.1]; omega)
      have hkk : k < x.keys.length := by rw [← hnH.out.1]; exact hlt
      obtain ⟨key, hkey⟩ : ∃ key, x.keys[k]? = some key := ⟨_, List.getElem?_eq_getElem hkk⟩
      have hks : key.size ≤ 200 := hH.out.2.2.2.2.2.1.keys key (List.mem_of_getElem? hkey)
      have hc : wr.cell? ⟨g1, k, none⟩ = some (.string key) := by
        rw [cell_of (m3.keepc hg1 (by decide)), ← cell_of hg1]
        exact hx1 k _ (by rw [List.getElem?_map, hkey]; rfl)
      have hM2 : key.size < M64 := by unfold M64; omega
      have hHu := huS k
      have hHv : Hid ((x.upto k ++ enc key.size).length + key.size ≤ 1000000000) := by
        have := hHu.out; have h3 := enc_le10 hM2; show _ ≤ _; rw [List.length_append]; omega
      have hkeyH := Lib.hid hkey; clear hkey
      go_wp2_with (first
        | (go_at_call 82; refine (appendNum_any w.heap.size _ _ key.size _ o2 (Nat.le_trans hHu.out (by decide)) hM2 m3.size).mono ?_; rintro e w2 ⟨v2, rfl, o3, m4⟩; have m5 := m3.trans m4; clear m4)
        | (at_builtin; refine wpList_appS rfl (.tmp 37) (.tmp 38) rfl w.heap.size _ _ rfl o3 key rfl hHv.out m5.size ?_; intro v3 w3 o4 m6; have m7 := m5.trans m6; clear m6 m5 o3; have f03 := f0 _ m7))
      go_round
      case rel =>
        refine ⟨k + 1, by omega, by simp, ?_, m7⟩
        have hent : x.entries[k]? = some (keyBytes key) := by
          unfold Nd.entries
          rw [if_neg (by rw [← hnH.out.2]; decide), List.getElem?_map, hkeyH.out]; rfl
        rw [Nd.upto_succ hent]
        unfold keyBytes
        rw [← List.append_assoc]
        exact o4
      case measure => simp [intOf]; omega
    · have g3 := f3 _ m3
      have hkn2 : k = n := by omega
      subst hkn2
      have o3 : wr.ownsRow w.heap.size 5 1 u4 (x.upkid 0).length ((x.upkid 0).map u8) := by
        have e : x.upkid 0 = x.upto k := by unfold Nd.upkid; rw [hnH.out.1]; simp
        rw [e]; exact o2
      clear o2
      go_wp2
      go_loopw [4, 82] (fun v i wq => ∃ j : Nat, j ≤ x.kids.length ∧ i = .int .i64 (j : Int) ∧ wq.ownsRow w.heap.size 5 1 v (x.upkid j).length ((x.upkid j).map u8) ∧ Mut w.heap.size [5] w wq) (fun _ i _ => x.kids.length - (intOf i).toNat)
      case atStart => exact ⟨0, Nat.zero_le _, rfl, o3, m3⟩
      case round =>
        clear o3 m3 g3
        obtain ⟨j, hjn, rfl, o4, m4⟩ := hrel
        have hkl : x.kids.length ≤ 2001 := Nd.kids_len hH.out.2.2.2.2.2.1
        by_cases hlj : j < x.kids.length
        · obtain ⟨g4, cur4, rfl, hg4, hb4, hs4, hx4⟩ := own_row hH.out.2.2.2.2.1 (by omega)
          obtain ⟨kid, hkid⟩ : ∃ kid, x.kids[j]? = some kid := ⟨_, List.getElem?_eq_getElem hlj⟩
          have hkb : kid ≤ 65536 := hH.out.2.2.2.2.2.1.kids kid (List.mem_of_getElem? hkid)
          have hc : wr.cell? ⟨g4, j, none⟩ = some (.int .i64 (kid : Int)) := by
            rw [cell_of (m4.keepc hg4 (by decide)), ← cell_of hg4]
            exact hx4 j _ (by rw [List.getElem?_map, hkid]; rfl)
          have hM2 : kid < M64 := by unfold M64; omega
          have hHu : Hid ((x.upkid j).length ≤ 1000000000000) := Nat.le_trans (Nd.upkid_le hH.out.2.2.2.2.2.1 j) (Nat.le_trans hH.out.2.2.2.2.2.2 (by decide))
          have hkidH := Lib.hid hkid; clear hkid
          have hw2 : IntKind.u64.wrap (kid : Int) = (kid : Int) := by rw [IntKind.wrap_u64]; omega
          go_wp2_with (go_at_call 82; refine (appendNum_any w.heap.size _ _ kid _ o4 hHu.out hM2 m4.size).mono ?_; rintro e w5 ⟨v5, rfl, o5, m5⟩; have m6 := m4.trans m5; clear m5)
          go_round
          case rel => exact ⟨j + 1, by omega, by simp, by rw [Nd.upkid_succ hkidH.out]; exact o5, m6⟩
          case measure => simp [intOf]; omega
        · have hj2 : j = x.kids.length := by omega
          subst hj2
          go_wp2
          go_ret
          rw [Nd.upkid_all hH.out.2.2.2.2.2.1] at o4
          exact ⟨_, rfl, o4, m4.fresh⟩
  case round =>
    obtain ⟨k, hkn, rfl, o2, m3⟩ := hrel
    clear o1 m2
    by_cases hlt : k < n
    · obtain ⟨g1, cur1, rfl, hg1, hb1, hs1, hx1⟩ := own_row hH.out.2.1 (by rw [← hnH.out.1]; omega)
      have hkk : k < x.keys.length := by rw [← hnH.out.1]; exact hlt
      obtain ⟨key, hkey⟩ : ∃ key, x.keys[k]? = some key := ⟨_, List.getElem?_eq_getElem hkk⟩
      have hks : key.size ≤ 200 := hH.out.2.2.2.2.2.1.keys key (List.mem_of_getElem? hkey)
      have hc : wr.cell? ⟨g1, k, none⟩ = some (.string key) := by
        rw [cell_of (m3.keepc hg1 (by decide)), ← cell_of hg1]
        exact hx1 k _ (by rw [List.getElem?_map, hkey]; rfl)
      have hM2 : key.size < M64 := by unfold M64; omega
      have hHu := huS k
      have hHv : Hid ((x.upto k ++ enc key.size).length + key.size ≤ 1000000000) := by
        have := hHu.out; have h3 := enc_le10 hM2; show _ ≤ _; rw [List.length_append]; omega
      have hkeyH := Lib.hid hkey; clear hkey
      have hkv : k < x.vals.length := by rw [(hH.out.2.2.2.2.2.1.lf hnH.out.2.symm).1]; exact hkk
      obtain ⟨g2, cur2, rfl, hg2, hb2, hs2, hx2⟩ := own_row hH.out.2.2.1 (by omega)
      obtain ⟨vl, hvl⟩ : ∃ vl, x.vals[k]? = some vl := ⟨_, List.getElem?_eq_getElem hkv⟩
      have hva := hH.out.2.2.2.1.at_ hvl
      have hvok : vl.Ok := hH.out.2.2.2.2.2.1.vals vl (List.mem_of_getElem? hvl)
      have hvlH := Lib.hid hvl; clear hvl
      obtain ⟨a0, a1, a2, a3, hvc⟩ : ∃ a0 a1 a2 a3, (vc.drop (k * 4)).take 4 = [a0, a1, a2, a3] := by
        have := hva.len
        match hh : (vc.drop (k * 4)).take 4, this with
        | [a0, a1, a2, a3], _ => exact ⟨a0, a1, a2, a3, rfl⟩
      have hvk : ∀ (j : Nat) u, [a0, a1, a2, a3][j]? = some u → ∀ W, Mut w.heap.size [5] w W → W.cell? ⟨g2, k * 4 + j, none⟩ = some u := fun j u hj W hm => by
        rw [cell_of (hm.keepc hg2 (by decide)), ← cell_of hg2]
        refine hx2 _ _ ?_
        rw [← hvc, List.getElem?_take] at hj
        split at hj
        · rwa [List.getElem?_drop] at hj
        · cases hj
      rw [hvc] at hva
      cases vl with
      | inl bs =>
        obtain ⟨sv, hcs, Ab, cb, rfl, hbc, hbm, hb0, hbr⟩ := hva
        simp only [List.cons.injEq, and_true] at hcs
        obtain ⟨rfl, rfl, rfl, rfl⟩ := hcs
        go_wp2_with (first
          | (go_at_call 82; refine (appendNum_any w.heap.size _ _ key.size _ o2 (Nat.le_trans hHu.out (by decide)) hM2 m3.size).mono ?_; rintro e w2 ⟨v2, rfl, o3, m4⟩; have m5 := m3.trans m4; clear m4)
          | (at_builtin; refine wpList_appS rfl (.tmp 37) (.tmp 38) rfl w.heap.size _ _ rfl o3 key rfl hHv.out m5.size ?_; intro v3 w3 o4 m6; have m7 := m5.trans m6; clear m6 m5 o3; have f03 := f0 _ m7; have f23 := f2 _ m7; have q0 := hvk 0 _ rfl _ m7; have q1 := hvk 1 _ rfl _ m7; have q2 := hvk 2 _ rfl _ m7; have q3 := hvk 3 _ rfl _ m7; simp only [Nat.add_zero] at q0))
        have hbl : bs.length ≤ 65536 := hvok
        have hwr : IntKind.u64.wrap (bs.length : Int) = (bs.length : Int) := by rw [IntKind.wrap_u64]; omega
        have hent : x.entries[k]? = some (keyBytes key ++ (Vl.inl bs).bytes) := by
          unfold Nd.entries
          rw [if_pos hnH.out.2.symm, List.getElem?_zipWith, hkeyH.out, hvlH.out]
        have hnext := Nd.upto_succ hent
        unfold keyBytes at hnext
        rw [← List.append_assoc, ← List.append_assoc] at hnext
        have hQh := heap_new w3 (.cells #[.slice Ab bs.length cb, .bool false, .int .i64 0, .int .i64 0] 86)
        have m8 := m7.alloc (.cells #[.slice Ab bs.length cb, .bool false, .int .i64 0, .int .i64 0] 86)
        have o5 := own_alloc o4 (.cells #[.slice Ab bs.length cb, .bool false, .int .i64 0, .int .i64 0] 86)
        generalize w3.alloc (.cells #[.slice Ab bs.length cb, .bool false, .int .i64 0, .int .i64 0] 86) = w4 at *
        generalize w3.heap.size = Q at *
        generalize x.upto k ++ enc key.size ++ key.data.toList = l at *
        have hL : Hid (l.length + (1 + ((enc bs.length).length + bs.length)) ≤ 1000000) := by
          have h1 := (huS (k + 1)).out
          rw [hnext, List.length_append] at h1
          simp only [Vl.bytes, List.length_cons, List.length_append] at h1
          show _ ≤ _
          omega
        have hQg : ∀ W, Mut w.heap.size [5] w4 W → W.cell? ⟨Q, 0, none⟩ = some (.slice Ab bs.length cb) := fun W hm => by rw [cell_of (hm.keepc hQh (by decide))]; rfl
        have hQ0 := hQg _ (.refl _ _ _)
        have hM3 : Hid (bs.length < M64) := by show _ < _; unfold M64; have := hL.out; omega
        have hone1 : ∀ u ∈ [Value.int .u8 0], u.oneCell' = true := by intro u hu; simp at hu; subst hu; rfl
        have hb1 : Hid (l.length + 1 ≤ maxLen) := by have := hL.out; show _ ≤ _; unfold maxLen; omega
        have hb2 : Hid ((l.length + 1) * 1 ≤ 140737488355328) := by have := hL.out; show _ ≤ _; omega
        have hb3 : Hid ((l ++ [0] ++ enc bs.length).length + bs.length ≤ maxLen) := by have := hL.out; show _ ≤ _; simp only [List.length_append, List.length_cons, List.length_nil]; unfold maxLen; omega
        have hb4 : Hid (((l ++ [0] ++ enc bs.length).length + bs.length) * 1 ≤ 140737488355328) := by have := hL.out; show _ ≤ _; simp only [List.length_append, List.length_cons, List.length_nil]; omega
        have hb5 : Hid ((l ++ [(0 : UInt8)]).length ≤ 1000000000000) := by have := hL.out; show _ ≤ _; simp only [List.length_append, List.length_cons, List.length_nil]; omega
        have hz5 : ∀ o, w.heap.size ≤ (w4.alloc o).heap.size := fun o => by rw [World.size_alloc]; have := m8.size; omega
        have hlu : (bs.map u8).length = bs.length * 1 := by simp
        have hNH := Lib.hid hnext; clear hnext
        have hQhH := Lib.hid hQh; clear hQh
        clear m7 o4 q0 q1 q2 q3 f03 f23 hvk hbm
        have mixed : Tryz.prog.follows .mixedOrders = true := by kernel_rfl
        go_region_held3 (fun W => W.cell? ⟨Q, 0, none⟩ = some (.slice Ab bs.length cb)) (first | assumption | exact cell_alloc (by assumption) _)
          (first
            | (go_at_call 82; (try rw [hwr]); refine (appendNum_any w.heap.size _ _ bs.length _ o7 hb5.out hM3.out (Nat.le_trans m8.size m10.size)).mono ?_; rintro e w6 ⟨v6, rfl, o8, m11⟩; have m12 := m10.trans m11; have hQ6 := hQg _ m12)
            | (refine step_app rfl (.tmp 65) (.tmp 66) 32 rfl w.heap.size 5 _ 1 1 Tryz.underlying32 info5 rfl (by decide) _ _ _ rfl (by exact own_alloc o5 _) _ 1 1 [.int .u8 0] rfl rfl (by exact at_new _ _ _) (fun h => by cases h) hone1 hb1.out hb2.out (by exact hz5 _) ?_; intro v5 w5 o6 m9; have m10 : Mut w.heap.size [5] w4 w5 := ((Mut.refl _ _ _).alloc _).trans (mut_undrew m9); have hQ5 := hQg _ m10; have o7 : w5.ownsRow w.heap.size 5 1 v5 (l ++ [0]).length ((l ++ [0]).map u8) := (by rw [List.map_append, List.length_append]; exact o6))
            | (refine step_app rfl (.tmp 72) (.tmp 74) 32 rfl w.heap.size 5 _ 1 1 Tryz.underlying32 info5 rfl (by decide) _ _ _ rfl o8 _ _ _ (bs.map u8) rfl hlu (hbr.below (m8.trans m12).fresh).at_ hb0 (one_u8 bs) hb3.out hb4.out (Nat.le_trans m8.size m12.size) ?_; intro v7 w7 o9 m13; have m14 := m12.trans m13; have hQ7 := hQg _ m14))
        go_wp2
        go_round
        case rel =>
          refine ⟨k + 1, by omega, by simp, ?_, m8.trans m14⟩
          rw [hNH.out]
          have e : l ++ (Vl.inl bs).bytes = l ++ [0] ++ enc bs.length ++ bs := by simp [Vl.bytes]
          rw [e]
          rw [List.map_append, List.length_append]; exact o9
        case measure => simp [intOf]; omega
      | far sz fst =>
        simp only [VlAt, List.cons.injEq, and_true] at hva
        obtain ⟨rfl, rfl, rfl, rfl⟩ := hva
        go_wp2_with (first
          | (go_at_call 82; refine (appendNum_any w.heap.size _ _ key.size _ o2 (Nat.le_trans hHu.out (by decide)) hM2 m3.size).mono ?_; rintro e w2 ⟨v2, rfl, o3, m4⟩; have m5 := m3.trans m4; clear m4)
          | (at_builtin; refine wpList_appS rfl (.tmp 37) (.tmp 38) rfl w.heap.size _ _ rfl o3 key rfl hHv.out m5.size ?_; intro v3 w3 o4 m6; have m7 := m5.trans m6; clear m6 m5 o3; have f03 := f0 _ m7; have f23 := f2 _ m7; have q0 := hvk 0 _ rfl _ m7; have q1 := hvk 1 _ rfl _ m7; have q2 := hvk 2 _ rfl _ m7; have q3 := hvk 3 _ rfl _ m7; simp only [Nat.add_zero] at q0))
        obtain ⟨hbl, hbf⟩ : sz ≤ 65536 ∧ fst ≤ 65536 := hvok
        have hwr : Hid (IntKind.u64.wrap (sz : Int) = (sz : Int)) := by show _ = _; rw [IntKind.wrap_u64]; omega
        have hwf : Hid (IntKind.u64.wrap (fst : Int) = (fst : Int)) := by show _ = _; rw [IntKind.wrap_u64]; omega
        have hent : x.entries[k]? = some (keyBytes key ++ (Vl.far sz fst).bytes) := by
          unfold Nd.entries
          rw [if_pos hnH.out.2.symm, List.getElem?_zipWith, hkeyH.out, hvlH.out]
        have hnext := Nd.upto_succ hent
        unfold keyBytes at hnext
        rw [← List.append_assoc, ← List.append_assoc] at hnext
        have hQh := heap_new w3 (.cells #[.slice none 0 0, .bool true, .int .i64 (sz : Int), .int .i64 (fst : Int)] 86)
        have m8 := m7.alloc (.cells #[.slice none 0 0, .bool true, .int .i64 (sz : Int), .int .i64 (fst : Int)] 86)
        have o5 := own_alloc o4 (.cells #[.slice none 0 0, .bool true, .int .i64 (sz : Int), .int .i64 (fst : Int)] 86)
        generalize w3.alloc (.cells #[.slice none 0 0, .bool true, .int .i64 (sz : Int), .int .i64 (fst : Int)] 86) = w4 at *
        generalize w3.heap.size = Q at *
        generalize x.upto k ++ enc key.size ++ key.data.toList = l at *
        have hL : Hid (l.length + (1 + ((enc sz).length + (enc fst).length)) ≤ 1000000) := by
          have h1 := (huS (k + 1)).out
          rw [hnext, List.length_append] at h1
          simp only [Vl.bytes, List.length_cons, List.length_append] at h1
          show _ ≤ _
          omega
        have hQg : ∀ W, Mut w.heap.size [5] w4 W → W.cell? ⟨Q, 2, none⟩ = some (.int .i64 (sz : Int)) ∧ W.cell? ⟨Q, 3, none⟩ = some (.int .i64 (fst : Int)) := fun W hm => by rw [cell_of (hm.keepc hQh (by decide)), cell_of (hm.keepc hQh (by decide))]; exact ⟨rfl, rfl⟩
        obtain ⟨hQ0, hQ0'⟩ := hQg _ (.refl _ _ _)
        have hM3 : Hid (sz < M64) := by show _ < _; unfold M64; omega
        have hM4 : Hid (fst < M64) := by show _ < _; unfold M64; omega
        have hone1 : ∀ u ∈ [Value.int .u8 1], u.oneCell' = true := by intro u hu; simp at hu; subst hu; rfl
        have hb1 : Hid (l.length + 1 ≤ maxLen) := by have := hL.out; show _ ≤ _; unfold maxLen; omega
        have hb2 : Hid ((l.length + 1) * 1 ≤ 140737488355328) := by have := hL.out; show _ ≤ _; omega
        have hb5 : Hid ((l ++ [(1 : UInt8)]).length ≤ 1000000000000) := by have := hL.out; show _ ≤ _; simp only [List.length_append, List.length_cons, List.length_nil]; omega
        have hb6 : Hid ((l ++ [(1 : UInt8)] ++ enc sz).length ≤ 1000000000000) := by have := hL.out; show _ ≤ _; simp only [List.length_append, List.length_cons, List.length_nil]; omega
        have hz5 : ∀ o, w.heap.size ≤ (w4.alloc o).heap.size := fun o => by rw [World.size_alloc]; have := m8.size; omega
        have hNH := Lib.hid hnext; clear hnext
        have hQhH := Lib.hid hQh; clear hQh
        clear m7 o4 q0 q1 q2 q3 f03 f23 hvk
        have mixed : Tryz.prog.follows .mixedOrders = true := by kernel_rfl
        go_region_held3 (fun W => W.cell? ⟨Q, 2, none⟩ = some (.int .i64 (sz : Int)) ∧ W.cell? ⟨Q, 3, none⟩ = some (.int .i64 (fst : Int))) (first | exact ⟨by assumption, by assumption⟩ | exact ⟨cell_alloc (by assumption) _, cell_alloc (by assumption) _⟩)
          (first
            | (go_at_call 82; rw [hwr.out]; refine (appendNum_any w.heap.size _ _ sz _ o7 hb5.out hM3.out (Nat.le_trans m8.size m10.size)).mono ?_; rintro e w6 ⟨v6, rfl, o8, m11⟩; have m12 := m10.trans m11; obtain ⟨hQ6, hQ6'⟩ := hQg _ m12)
            | (go_at_call 82; rw [hwf.out]; refine (appendNum_any w.heap.size _ _ fst _ o8 hb6.out hM4.out (Nat.le_trans m8.size m12.size)).mono ?_; rintro e w7 ⟨v7, rfl, o9, m13⟩; have m14 := m12.trans m13; obtain ⟨hQ7, hQ7'⟩ := hQg _ m14)
            | (refine step_app rfl (.tmp 54) (.tmp 55) 32 rfl w.heap.size 5 _ 1 1 Tryz.underlying32 info5 rfl (by decide) _ _ _ rfl (by exact own_alloc o5 _) _ 1 1 [.int .u8 1] rfl rfl (by exact at_new _ _ _) (fun h => by cases h) hone1 hb1.out hb2.out (by exact hz5 _) ?_; intro v5 w5 o6 m9; have m10 : Mut w.heap.size [5] w4 w5 := ((Mut.refl _ _ _).alloc _).trans (mut_undrew m9); obtain ⟨hQ5, hQ5'⟩ := hQg _ m10; have o7 : w5.ownsRow w.heap.size 5 1 v5 (l ++ [1]).length ((l ++ [1]).map u8) := (by rw [List.map_append, List.length_append]; exact o6)))
        go_wp2
        go_round
        case rel =>
          refine ⟨k + 1, by omega, by simp, ?_, m8.trans m14⟩
          rw [hNH.out]
          have e : l ++ (Vl.far sz fst).bytes = l ++ [1] ++ enc sz ++ enc fst := by simp [Vl.bytes]
          rw [e]
          exact o9
        case measure => simp [intOf]; omega
    · have g3 := f3 _ m3
      have hkn2 : k = n := by omega
      subst hkn2
      have o3 : wr.ownsRow w.heap.size 5 1 u4 (x.upkid 0).length ((x.upkid 0).map u8) := by
        have e : x.upkid 0 = x.upto k := by unfold Nd.upkid; rw [hnH.out.1]; simp
        rw [e]; exact o2
      clear o2
      go_wp2
      go_loopw [4, 82] (fun v i wq => ∃ j : Nat, j ≤ x.kids.length ∧ i = .int .i64 (j : Int) ∧ wq.ownsRow w.heap.size 5 1 v (x.upkid j).length ((x.upkid j).map u8) ∧ Mut w.heap.size [5] w wq) (fun _ i _ => x.kids.length - (intOf i).toNat)
      case atStart => exact ⟨0, Nat.zero_le _, rfl, o3, m3⟩
      case round =>
        clear o3 m3 g3
        obtain ⟨j, hjn, rfl, o4, m4⟩ := hrel
        have hkl : x.kids.length ≤ 2001 := Nd.kids_len hH.out.2.2.2.2.2.1
        by_cases hlj : j < x.kids.length
        · obtain ⟨g4, cur4, rfl, hg4, hb4, hs4, hx4⟩ := own_row hH.out.2.2.2.2.1 (by omega)
          obtain ⟨kid, hkid⟩ : ∃ kid, x.kids[j]? = some kid := ⟨_, List.getElem?_eq_getElem hlj⟩
          have hkb : kid ≤ 65536 := hH.out.2.2.2.2.2.1.kids kid (List.mem_of_getElem? hkid)
          have hc : wr.cell? ⟨g4, j, none⟩ = some (.int .i64 (kid : Int)) := by
            rw [cell_of (m4.keepc hg4 (by decide)), ← cell_of hg4]
            exact hx4 j _ (by rw [List.getElem?_map, hkid]; rfl)
          have hM2 : kid < M64 := by unfold M64; omega
          have hHu : Hid ((x.upkid j).length ≤ 1000000000000) := Nat.le_trans (Nd.upkid_le hH.out.2.2.2.2.2.1 j) (Nat.le_trans hH.out.2.2.2.2.2.2 (by decide))
          have hkidH := Lib.hid hkid; clear hkid
          have hw2 : IntKind.u64.wrap (kid : Int) = (kid : Int) := by rw [IntKind.wrap_u64]; omega
          go_wp2_with (go_at_call 82; refine (appendNum_any w.heap.size _ _ kid _ o4 hHu.out hM2 m4.size).mono ?_; rintro e w5 ⟨v5, rfl, o5, m5⟩; have m6 := m4.trans m5; clear m5)
          go_round
          case rel => exact ⟨j + 1, by omega, by simp, by rw [Nd.upkid_succ hkidH.out]; exact o5, m6⟩
          case measure => simp [intOf]; omega
        · have hj2 : j = x.kids.length := by omega
          subst hj2
          go_wp2
          go_ret
          rw [Nd.upkid_all hH.out.2.2.2.2.2.1] at o4
          exact ⟨_, rfl, o4, m4.fresh⟩
end Go.Proofs.YtpfjhehjmhkbpaaGreatDoor
