/- load: a page's node, where that is a leaf; and any. -/
import Derived.Test.YtpfjhehjmhkbpaaGreatDoorM13
namespace Go.Proofs.YtpfjhehjmhkbpaaGreatDoor
open Go.RowKit

set_option maxRecDepth 4000 in
set_option maxHeartbeats 4000000 in
theorem load_leaf (B : Nat) (w : World) (T p n : Nat) (r : PS) (ls ps : List Pg) (pg : Pg) (x : Nd) (hT : w.cell? ⟨T, 0, none⟩ = some (.pointer (some ⟨p, 0, none⟩))) (hp : Pgr B w p r ls ps)
    (hn : ps[n]? = some pg) (ht : pg.taken = true) (hd : pg.data = x.bytes) (hok : x.Ok) (hlen : x.bytes.length ≤ 512) (hlf0 : x.leaf = true) :
    Calls Tryz.prog 53 #[.pointer (some ⟨T, 0, none⟩), .int .i64 (n : Int)] w fun e w' => ∃ q, e = .returned (.pointer (some ⟨q, 0, none⟩)) ∧ NodeAt w.heap.size w' q x ∧ Below w.heap.size w w' := by
  have hget := gget hp hn ht (by rw [hd]; omega)
  rw [hd] at hget
  have hlen2 := hlen
  rw [x.bytes_rest] at hlen2
  have hl1 : 1 < x.bytes.length := by rw [x.bytes_rest]; have := List.length_pos_iff.2 (enc_ne x.keys.length); simp; omega
  obtain ⟨lf, hlf⟩ : ∃ lf, lf = x.leaf := ⟨_, rfl⟩
  have hb0 : (x.bytes.map u8)[0]? = some (.int .u8 (if lf then 1 else 2)) := by rw [x.bytes_rest, hlf]; cases x.leaf <;> rfl
  have hH := Lib.hid (And.intro hlf (And.intro hok hlen))
  obtain ⟨L, hL⟩ : ∃ L, L = x.bytes.length := ⟨_, rfl⟩
  rw [← hL] at hget hl1 hlen
  have hLH := Lib.hid hL; clear hL hok hlen2 hd ht hn hlf
  go_enter Tryz.func53, Tryz.ntmps53
  have hsf : ∀ (w : World) (a : Addr) f x y m, (store a (Value.func f x y) m).run Tryz.prog w = stored Tryz.prog w a (.func f x y) m := fun w a f x y m => run_store _ _ _ _ m rfl
  have hnk : Hid (x.keys.length < 9223372036854775808) := by have := hH.out.2.1.few; show _ < _; omega
  have hnl : Hid ((enc x.keys.length ++ x.rest 0).length ≤ 1000000000) := by have := hH.out.2.2; rw [x.bytes_rest] at this; rw [List.length_cons] at this; show _ ≤ _; omega
  obtain rfl : lf = true := hH.out.1.trans hlf0
  have hlf0H := Lib.hid hlf0; clear hlf0
  all_goals go_wp2_with (first
    | (go_at_call 76; refine hget.mono ?_; rintro e w1 ⟨v1, rfl, o1, b1⟩; obtain ⟨A, c, rfl, hAc, hcm, hA0⟩ := own_slice o1; obtain ⟨g, cur, rfl, hg, hgb, hgs, hgx⟩ := own_row o1 (by omega); have hc0 := hgx 0 _ hb0; have hglt := blk_lt hg; have hc1 : ¬ c = 1 := (by omega); have hcmH := Lib.hid hcm; clear hcm hgx; have hgH := Lib.hid hg; clear hg; have oH := Lib.hid o1; clear o1)
    | (go_at_call 100; go_must (refine (number_any w.heap.size _ x.keys.length (x.rest 0) _ (ld_cur (x.bytes_rest) hLH.out oH.out hc1 hAc hcmH.out _ _) b1.size hnk.out hnl.out).mono ?_); rintro e W2 ⟨rfl, hcur, hmm⟩; have hld := ld_start (x := x) b1 hmm hcur; have hncl := hld.clo))
  all_goals
    have hpb : w.heap.size ≤ w1.heap.size := b1.size
    have hqb : w.heap.size ≤ w1.heap.size + 1 := Nat.le_succ_of_le b1.size
    clear hncl hmm hcur hc1 hA0 hgs hc0 hglt hgb hAc
    generalize w1.heap.size + 1 + 1 = nb at *
    generalize w1.heap.size + 1 = q at *
    generalize w1.heap.size = pb at *
    obtain ⟨K, hK⟩ : ∃ K, K = x.keys.length := ⟨_, rfl⟩
    have hK2 : K ≤ 2000 := by rw [hK]; exact hH.out.2.1.few
    rw [← hK]
    have hKH := Lib.hid hK; clear hK
    go_loopw [42] (fun i wr => ∃ k : Nat, k ≤ K ∧ i = .int .i64 (k : Int) ∧ Ld x x.leaf w q pb nb k wr) (fun i _ => K - (intOf i).toNat)
    case atStart => exact ⟨0, Nat.zero_le _, rfl, by rw [← hH.out.1]; exact hld⟩
  case round =>
    obtain ⟨k, hkn, rfl, hl⟩ := hrel
    rw [← hH.out.1] at hl
    clear hld hget b1 oH hgH hb0 hnl hnk
    obtain ⟨hbel, ⟨A1, c1, A2, c2, vc, hq, ho1, ho2, hva⟩, hcur, hclo⟩ := hl
    have q0 : wr.cell? ⟨q, 0, none⟩ = some (.bool true) := by rw [cell_of hq]; rfl
    have q1 : wr.cell? ⟨q, 1, none⟩ = some (.slice A1 k c1) := by rw [cell_of hq]; rfl
    by_cases hlt : k < K
    · have hkk : k < x.keys.length := by rw [← hKH.out]; exact hlt
      obtain ⟨key, hkey⟩ : ∃ key, x.keys[k]? = some key := ⟨_, List.getElem?_eq_getElem hkk⟩
      have hks : key.size ≤ 200 := hH.out.2.1.keys key (List.mem_of_getElem? hkey)
      have hvn : x.vals.length = K := by rw [(hH.out.2.1.lf hH.out.1.symm).1, hKH.out]
      obtain ⟨vl, hvl⟩ : ∃ vl, x.vals[k]? = some vl := ⟨_, List.getElem?_eq_getElem (by omega)⟩
      have hvok : vl.Ok := hH.out.2.1.vals vl (List.mem_of_getElem? hvl)
      have hent : x.entries[k]? = some (keyBytes key ++ vl.bytes) := by
        unfold Nd.entries
        rw [if_pos hH.out.1.symm, List.getElem?_zipWith, hkey, hvl]
      have hn2 : (x.vals.take k).length = k := by rw [List.length_take]; omega
      rw [hn2] at hq ho2
      have hcur2 : Cur wr pb (enc key.data.toList.length ++ (key.data.toList ++ (vl.bytes ++ x.rest (k + 1)))) := by
        have := hcur
        rw [Nd.rest_cons hent] at this
        unfold keyBytes at this
        rw [List.append_assoc, List.append_assoc] at this
        exact this
      have hcl : wr.cell? ⟨nb, 0, none⟩ = some (.func (.func 100) #[] #[.pointer (some ⟨pb, 0, none⟩)]) := by rw [cell_of hclo]; rfl
      have hlb : Hid ((enc key.data.toList.length ++ (key.data.toList ++ (vl.bytes ++ x.rest (k + 1)))).length ≤ 1000000000) := by
        have h1 := x.rest_le k
        have h2 := hH.out.2.2
        rw [Nd.rest_cons hent] at h1
        unfold keyBytes at h1
        rw [List.append_assoc, List.append_assoc] at h1
        show _ ≤ _
        have h3 : (enc key.size).length = (enc key.data.toList.length).length := rfl
        simp only [List.length_append] at h1 ⊢
        omega
      have hvlH := Lib.hid hvl; clear hvl
      have hent2 := Lib.hid hent; clear hent hcur
      have hkey2 := Lib.hid hkey; clear hkey
      have htx := text_any w.heap.size pb nb key.data.toList (vl.bytes ++ x.rest (k + 1)) wr hcur2 hcl hpb hlb.out
      have hone : ∀ u ∈ [Value.string key], u.oneCell' = true := by intro u hu; simp at hu; subst hu; rfl
      have hbd1 : Hid (k + 1 ≤ maxLen) := by show _ ≤ _; unfold maxLen; omega
      have hbd2 : Hid ((k + 1) * 16 ≤ 140737488355328) := by show _ ≤ _; omega
      have mixed : Tryz.prog.follows .mixedOrders = true := by kernel_rfl
      go_wp2_with fail
      apply cutG
      case h =>
        intro hG
        refine wp_region_noPanic ?_
        refine wp_region_B (A := (fun W => W.cell? ⟨q, 1, none⟩ = some (.slice A1 k c1) ∧ Mut w.heap.size [32] wr W)) (b := 9) (by kernel_rfl) (⟨q1, Mut.drew (Mut.refl _ _ _)⟩) (fun hHeld => ?_)
        refine wpAnyB_takeY (i := 0) (v := ?_) rfl (by kernel_rfl) (by kernel_rfl) (by kernel_rfl) (by kernel_rfl) (fun _ _ _ h => h) (Or.inl ⟨by rfl, ?_⟩) hHeld ?_
        rotate_left 1
        · ((intro w hSw; clear hSw; go_simp) <;> (with_reducible rfl))
        (try simp only [Act.put, List.setIfInBounds_toArray, List.set_cons_zero, List.set_cons_succ])
        refine wpAnyB_take (i := 1) (v := ?_) rfl (by kernel_rfl) (by kernel_rfl) (by kernel_rfl) [9, 4, 3, 2] (by kernel_rfl) (by kernel_rfl) (fun _ _ _ h => h) (Or.inl ⟨by rfl, ?_⟩) hHeld ?_
        rotate_left 1
        · ((intro w hSw; (try dsimp only at hSw); go_simp) <;> (with_reducible rfl))
        (try simp only [Act.put, List.setIfInBounds_toArray, List.set_cons_zero, List.set_cons_succ])
        refine wpAnyB_take (i := 2) (v := ?_) rfl (by kernel_rfl) (by kernel_rfl) (by kernel_rfl) [9, 4, 3] (by kernel_rfl) (by kernel_rfl) (fun _ _ _ h => h) (Or.inl ⟨by rfl, ?_⟩) hHeld ?_
        rotate_left 1
        · ((intro w hSw; (try dsimp only at hSw); go_simp) <;> (with_reducible rfl))
        (try simp only [Act.put, List.setIfInBounds_toArray, List.set_cons_zero, List.set_cons_succ])
        refine wpAnyB_take (i := 3) (v := ?_) rfl (by kernel_rfl) (by kernel_rfl) (by kernel_rfl) [9, 4] (by kernel_rfl) (by kernel_rfl) (fun _ _ _ h => h) (Or.inl ⟨by rfl, ?_⟩) hHeld ?_
        rotate_left 1
        · ((intro w hSw; (try dsimp only at hSw); go_simp) <;> (with_reducible rfl))
        (try simp only [Act.put, List.setIfInBounds_toArray, List.set_cons_zero, List.set_cons_succ])
        refine wpAnyB_take (i := 4) (v := ?_) rfl (by kernel_rfl) (by kernel_rfl) (by kernel_rfl) [9] (by kernel_rfl) (by kernel_rfl) (fun _ _ _ h => h) (Or.inl ⟨by rfl, ?_⟩) hHeld ?_
        rotate_left 1
        · ((intro w hSw; (try dsimp only at hSw); go_simp) <;> (with_reducible rfl))
        (try simp only [Act.put, List.setIfInBounds_toArray, List.set_cons_zero, List.set_cons_succ])
        refine wpAnyB_take (i := 5) (v := ?_) rfl (by kernel_rfl) (by kernel_rfl) (by kernel_rfl) [9, 6] (by kernel_rfl) (by kernel_rfl) (fun _ _ _ h => h) (Or.inl ⟨by rfl, ?_⟩) hHeld ?_
        rotate_left 1
        · ((intro w hSw; (try dsimp only at hSw); go_simp) <;> (with_reducible rfl))
        (try simp only [Act.put, List.setIfInBounds_toArray, List.set_cons_zero, List.set_cons_succ])
        refine wpAnyB_ready (rs := [6]) (by kernel_rfl) (by simp) ?_
        refine AllReadyB.pre rfl (fun Kq hKq => ?_) ?_
        · go_simp
          (go_at_call 101; refine (text_any w.heap.size pb nb key.data.toList (vl.bytes ++ x.rest (k + 1)) _ (by exact hcur2) (by exact hcl) hpb hlb.out).mono ?_; rintro e w3 ⟨v3, rfl, bv3, cur3, m3⟩; have m4 : Mut w.heap.size [32] wr w3 := (by first | exact m3 | exact mut_undrew m3 | exact mut_undrew (mut_undrew m3)); have q13 : w3.cell? ⟨q, 1, none⟩ = some (.slice A1 k c1) := (by rw [cell_of (m4.keepc hq (by decide))]; rfl); have hcv := run_conv_byt bv3; rw [ba_eta] at hcv; have o13 := own_mut ho1 m4 (by decide); have hqlt : q < w3.heap.size := Nat.lt_of_lt_of_le (blk_lt hq) m4.size; have hz3 : ∀ o, w.heap.size ≤ (w3.alloc o).heap.size := fun o => (by rw [World.size_alloc]; have := hbel.size; have := m4.size; omega))
          (try go_wp2_with fail)
          refine hKq.out _ _ (⟨q13, m4⟩) (fun hHeld => ?_)
          clear hKq Kq
          (try simp only [Act.put, List.setIfInBounds_toArray, List.set_cons_zero, List.set_cons_succ])
          refine wpAnyB_ready (rs := [7]) (by kernel_rfl) (by simp) ?_
          refine AllReadyB.pre rfl (fun Kq hKq => ?_) ?_
          · go_simp
            refine hKq.out _ _ (⟨q13, m4⟩) (fun hHeld => ?_)
            clear hKq Kq
            (try simp only [Act.put, List.setIfInBounds_toArray, List.set_cons_zero, List.set_cons_succ])
            refine wpAnyB_ready (rs := [8]) (by kernel_rfl) (by simp) ?_
            refine AllReadyB.pre rfl (fun Kq hKq => ?_) ?_
            · go_simp
              refine hKq.out _ _ (⟨cell_alloc q13 _, m4.alloc _⟩) (fun hHeld => ?_)
              clear hKq Kq
              (try simp only [Act.put, List.setIfInBounds_toArray, List.set_cons_zero, List.set_cons_succ])
              refine wpAnyB_ready (rs := [9]) (by kernel_rfl) (by simp) ?_
              refine AllReadyB.post rfl (by kernel_rfl) (fun Kq hKq => ?_) ?_
              · (refine step_app rfl (.tmp 48) (.tmp 52) 22 rfl w.heap.size 9 _ 1 16 Tryz.underlying22 infoES rfl (by decide) _ _ _ rfl (by exact own_alloc o13 _) _ 1 1 [.string key] rfl rfl (by exact at_new _ _ _) (fun h => by cases h) hone hbd1.out hbd2.out (by exact hz3 _) ?_; intro v5 w5 o6 m9; obtain ⟨A5, c5, rfl, hc5, -, -⟩ := own_slice o6; have m10 : Mut w.heap.size [9] w3 w5 := ((Mut.refl _ _ _).alloc _).trans (by first | exact m9 | exact mut_undrew m9 | exact mut_undrew (mut_undrew m9)); have hq5 := m10.keepc (m4.keepc hq (by decide)) (by decide); have q15 : w5.cell? ⟨q, 1, none⟩ = some (.slice A1 k c1) := (by rw [cell_of hq5]; rfl); have f15 := unfrozen_of hq5 1)
                refine hKq.out _ _ ?_
                clear hKq Kq
                (try simp only [Act.put, List.setIfInBounds_toArray, List.set_cons_zero, List.set_cons_succ])
                refine wpAnyB_ready (rs := [10]) (by kernel_rfl) (by simp) ?_
                refine AllReadyB.post rfl (by kernel_rfl) (fun Kq hKq => ?_) ?_
                · go_simp
                  refine hKq.out _ _ ?_
                  clear hKq Kq
                  (try simp only [Act.put, List.setIfInBounds_toArray, List.set_cons_zero, List.set_cons_succ])
                  refine wpAnyB_ready (rs := [11]) (by kernel_rfl) (by simp) ?_
                  refine AllReadyB.post rfl (by kernel_rfl) (fun Kq hKq => ?_) ?_
                  · go_simp
                    refine hKq.out _ _ ?_
                    clear hKq Kq
                    (try simp only [Act.put, List.setIfInBounds_toArray, List.set_cons_zero, List.set_cons_succ])
                    refine wpAnyB_ready (rs := [12]) (by kernel_rfl) (by simp) ?_
                    refine AllReadyB.post rfl (by kernel_rfl) (fun Kq hKq => ?_) ?_
                    · go_simp
                      refine hKq.out _ _ ?_
                      clear hKq Kq
                      (try simp only [Act.put, List.setIfInBounds_toArray, List.set_cons_zero, List.set_cons_succ])
                      refine wpAnyB_done (by kernel_rfl) ?_ _
                      refine NoPanic.normal ?_
                      have m11 : Mut w.heap.size [92] w5 (w5.setCell ⟨q, 1, none⟩ (.slice A5 (k + 1) c5)) := (Mut.refl _ _ _).setCell (p := ⟨q, 1, none⟩) hq5 (by simp) hqb _
                      have hmm : Mut w.heap.size [32, 9, 92] wr (w5.setCell ⟨q, 1, none⟩ (.slice A5 (k + 1) c5)) := ((m4.mono (Nat.le_refl _) (by simp)).trans (m10.mono (Nat.le_refl _) (by simp))).trans (m11.mono (Nat.le_refl _) (by simp))
                      have hq6 := heap_set hq5 1 (.slice A5 (k + 1) c5)
                      have cur6 := (cur3.mut m10 (by decide) (by decide)).mut m11 (by decide) (by decide)
                      have o66 := own_mut o6 m11 (by decide)
                      obtain ⟨w6, hw6⟩ : ∃ w6, w6 = w5.setCell ⟨q, 1, none⟩ (.slice A5 (k + 1) c5) := ⟨_, rfl⟩
                      rw [← hw6] at hmm hq6 cur6 o66 ⊢
                      obtain ⟨z3, hz⟩ : ∃ z, z = w3.heap.size := ⟨_, rfl⟩
                      rw [← hz]
                      clear hz hw6 m11 f15 q15 hq5 m10 m9 o6 hz3 hqlt o13 hcv q13 m4 m3 bv3 cur3 hc5
                      revert o66 cur6 hq6 hmm
                      revert A5 c5 v3 w6 z3
                      exact hG.out
                    exact AllReadyB.nil
                  exact AllReadyB.nil
                exact AllReadyB.nil
              exact AllReadyB.nil
            exact AllReadyB.nil
          exact AllReadyB.nil
        exact AllReadyB.nil
      case g =>
        show ∀ _, _
        intro v3 A5 c5 w6 z3 o6 cur6 hq6 m6
        have hq6 : w6.heap[q]? = some (.cells #[.bool true, .slice A5 (k + 1) c5, .slice A2 k c2, .slice none 0 0] 92 (0, 0)) := hq6
        have r0 : w6.cell? ⟨q, 0, none⟩ = some (.bool true) := by rw [cell_of hq6]; rfl
        cases vl with
        | inl bs =>
          obtain ⟨vb, hgb, Ab, cb, rfl, hcb1, hcb2, hcb3, hrb⟩ := cur6
          obtain ⟨tl, htl⟩ : ∃ tl, tl = enc bs.length ++ bs ++ x.rest (k + 1) := ⟨_, rfl⟩
          have hl : (Vl.inl bs).bytes ++ x.rest (k + 1) = 0 :: tl := by rw [htl]; simp [Vl.bytes]
          rw [hl] at hgb hcb1 hrb
          obtain ⟨gb, ob, rfl, hcells, -⟩ := hrb.addr? (by simp)
          have b0 : w6.cell? ⟨gb, ob, none⟩ = some (.int .u8 0) := hcells 0 0 rfl
          have p0 : w6.cell? ⟨pb, 0, none⟩ = some (.slice (some ⟨gb, ob, none⟩) (tl.length + 1) cb) := by rw [cell_of hgb]; rfl
          have f0 := unfrozen_of hgb 0
          have hcbl : tl.length + 1 ≤ cb := by simpa using hcb1
          have hcbm := Lib.hid hcb2
          have hgb2 := Lib.hid hgb
          have hrb2 := Lib.hid hrb
          have htl2 := Lib.hid htl
          clear hcb1 hcb2 hgb hrb hcells hl htl
          have htl3 : tl.length = (enc bs.length).length + bs.length + (x.rest (k + 1)).length := by rw [htl2.out, List.length_append, List.length_append]
          have htl4 : 0 < (enc bs.length).length := List.length_pos_iff.2 (enc_ne _)
          have hlb0 : tl.length ≤ 512 := by
            have h1 := x.rest_le k
            have h2 := hH.out.2.2
            rw [Nd.rest_cons hent2.out] at h1
            simp only [List.length_append, Vl.bytes, List.length_cons] at h1
            omega
          have hcb1 : ¬ cb = 1 := by omega
          have hbl : bs.length ≤ 1000000000000 := by omega
          have htl3H := Lib.hid htl3; clear htl3
          have htl4H := Lib.hid htl4; clear htl4
          go_wp2_with fail
          have byt7 : Byt w6 (.slice (some ⟨gb, ob + 1, none⟩) tl.length (cb - 1)) tl := by
            have := (byt_cut (p := [0]) (rest := tl) (k := 1) hrb2.out rfl (by omega) hcbm.out (fun h => by cases h)).2 hcb1
            simpa [Addr.add] using this
          obtain ⟨cur7, m7⟩ := cur_set hgb2.out hpb byt7
          have hq7 := m7.keepc hq6 (by decide)
          have hcl7 : (w6.setCell ⟨pb, 0, none⟩ (.slice (some ⟨gb, ob + 1, none⟩) tl.length (cb - 1))).cell? ⟨nb, 0, none⟩ = some (.func (.func 100) #[] #[.pointer (some ⟨pb, 0, none⟩)]) := by rw [cell_of ((m6.trans (m7.mono (Nat.le_refl _) (by simp))).keepc hclo (by decide))]; rfl
          have q27 : (w6.setCell ⟨pb, 0, none⟩ (.slice (some ⟨gb, ob + 1, none⟩) tl.length (cb - 1))).cell? ⟨q, 2, none⟩ = some (.slice A2 k c2) := by rw [cell_of hq7]; rfl
          generalize w6.setCell ⟨pb, 0, none⟩ (.slice (some ⟨gb, ob + 1, none⟩) tl.length (cb - 1)) = w7 at *
          rw [htl2.out, List.append_assoc] at cur7
          have hlb2 : Hid ((enc bs.length ++ (bs ++ x.rest (k + 1))).length ≤ 1000000000) := by
            show _ ≤ _
            have := htl3H.out
            simp only [List.length_append]
            omega
          have o27 := own_mut (own_mut ho2 m6 (by decide)) m7 (by decide)
          have hva7 := (hva.mut m6 (by decide)).mut m7 (by decide)
          have hz7 : w.heap.size ≤ w7.heap.size := by have := hbel.size; have := m6.size; have := m7.size; omega
          have hbd3 : Hid ((k + 1) * 48 ≤ 140737488355328) := by show _ ≤ _; omega
          clear q1 q0 hcl hcur2 htx p0 b0 f0
          refine wp_region_noPanic ?_
          refine wp_region_B (A := (fun W => W.cell? ⟨q, 2, none⟩ = some (.slice A2 k c2) ∧ Mut w.heap.size [32] w7 W)) (b := 10) (by kernel_rfl) (⟨q27, Mut.drew (Mut.refl _ _ _)⟩) (fun hHeld => ?_)
          refine wpAnyB_takeY (i := 0) (v := ?_) rfl (by kernel_rfl) (by kernel_rfl) (by kernel_rfl) (by kernel_rfl) (fun _ _ _ h => h) (Or.inl ⟨by rfl, ?_⟩) hHeld ?_
          rotate_left 1
          · ((intro w hSw; clear hSw; go_simp) <;> (with_reducible rfl))
          (try simp only [Act.put, List.setIfInBounds_toArray, List.set_cons_zero, List.set_cons_succ])
          refine wpAnyB_take (i := 1) (v := ?_) rfl (by kernel_rfl) (by kernel_rfl) (by kernel_rfl) [10, 4, 3, 2] (by kernel_rfl) (by kernel_rfl) (fun _ _ _ h => h) (Or.inl ⟨by rfl, ?_⟩) hHeld ?_
          rotate_left 1
          · ((intro w hSw; (try dsimp only at hSw); go_simp) <;> (with_reducible rfl))
          (try simp only [Act.put, List.setIfInBounds_toArray, List.set_cons_zero, List.set_cons_succ])
          refine wpAnyB_take (i := 2) (v := ?_) rfl (by kernel_rfl) (by kernel_rfl) (by kernel_rfl) [10, 4, 3] (by kernel_rfl) (by kernel_rfl) (fun _ _ _ h => h) (Or.inl ⟨by rfl, ?_⟩) hHeld ?_
          rotate_left 1
          · ((intro w hSw; (try dsimp only at hSw); go_simp) <;> (with_reducible rfl))
          (try simp only [Act.put, List.setIfInBounds_toArray, List.set_cons_zero, List.set_cons_succ])
          refine wpAnyB_take (i := 3) (v := ?_) rfl (by kernel_rfl) (by kernel_rfl) (by kernel_rfl) [10, 4] (by kernel_rfl) (by kernel_rfl) (fun _ _ _ h => h) (Or.inl ⟨by rfl, ?_⟩) hHeld ?_
          rotate_left 1
          · ((intro w hSw; (try dsimp only at hSw); go_simp) <;> (with_reducible rfl))
          (try simp only [Act.put, List.setIfInBounds_toArray, List.set_cons_zero, List.set_cons_succ])
          refine wpAnyB_take (i := 4) (v := ?_) rfl (by kernel_rfl) (by kernel_rfl) (by kernel_rfl) [10] (by kernel_rfl) (by kernel_rfl) (fun _ _ _ h => h) (Or.inl ⟨by rfl, ?_⟩) hHeld ?_
          rotate_left 1
          · ((intro w hSw; (try dsimp only at hSw); go_simp) <;> (with_reducible rfl))
          (try simp only [Act.put, List.setIfInBounds_toArray, List.set_cons_zero, List.set_cons_succ])
          refine wpAnyB_take (i := 5) (v := ?_) rfl (by kernel_rfl) (by kernel_rfl) (by kernel_rfl) [10, 7, 6] (by kernel_rfl) (by kernel_rfl) (fun _ _ _ h => h) (Or.inl ⟨by rfl, ?_⟩) hHeld ?_
          rotate_left 1
          · ((intro w hSw; (try dsimp only at hSw); go_simp) <;> (with_reducible rfl))
          (try simp only [Act.put, List.setIfInBounds_toArray, List.set_cons_zero, List.set_cons_succ])
          refine wpAnyB_ready (rs := [6]) (by kernel_rfl) (by simp) ?_
          refine AllReadyB.pre rfl (fun Kq hKq => ?_) ?_
          · go_simp
            (go_at_call 101; refine (text_any w.heap.size pb nb bs (x.rest (k + 1)) _ (by exact cur7) (by exact hcl7) hpb hlb2.out).mono ?_; rintro e w8 ⟨v8, rfl, bv8, cur8, m8⟩; have m8 : Mut w.heap.size [32] w7 w8 := (by first | exact m8 | exact mut_undrew m8 | exact mut_undrew (mut_undrew m8)); have q28 : w8.cell? ⟨q, 2, none⟩ = some (.slice A2 k c2) := (by rw [cell_of (m8.keepc hq7 (by decide))]; rfl))
            (try go_wp2_with fail)
            refine hKq.out _ _ (⟨q28, m8⟩) (fun hHeld => ?_)
            clear hKq Kq
            (try simp only [Act.put, List.setIfInBounds_toArray, List.set_cons_zero, List.set_cons_succ])
            refine wpAnyB_ready (rs := [7]) (by kernel_rfl) (by simp) ?_
            refine AllReadyB.pre rfl (fun Kq hKq => ?_) ?_
            · go_simp
              (go_at_call 80; refine (clone_any v8 bs _ (by exact bv8) hbl).mono ?_; rintro e w9 ⟨v9, rfl, o9, b9⟩; obtain ⟨A9, c9, rfl, h91, h92, h93⟩ := own_slice o9; have m9 : Mut w.heap.size [] w8 w9 := (by first | exact .of_below b9 _ _ | exact mut_undrew (.of_below b9 _ _) | exact mut_undrew (mut_undrew (.of_below b9 _ _))); have q29 : w9.cell? ⟨q, 2, none⟩ = some (.slice A2 k c2) := (by rw [cell_of ((m8.trans (m9.mono (Nat.le_refl _) (by simp))).keepc hq7 (by decide))]; rfl); have hqlt : q < w9.heap.size := Nat.lt_of_lt_of_le (blk_lt hq7) (m8.trans (m9.mono (Nat.le_refl _) (by simp))).size; have hz9 : ∀ o, w.heap.size ≤ (w9.alloc o).heap.size := fun o => (by rw [World.size_alloc]; have := (m8.trans (m9.mono (Nat.le_refl _) (by simp))).size; omega); have o29 := own_mut o27 (m8.trans (m9.mono (Nat.le_refl _) (by simp))) (by decide))
              (try go_wp2_with fail)
              refine hKq.out _ _ (⟨q29, (m8.trans (m9.mono (Nat.le_refl _) (by simp)))⟩) (fun hHeld => ?_)
              clear hKq Kq
              (try simp only [Act.put, List.setIfInBounds_toArray, List.set_cons_zero, List.set_cons_succ])
              refine wpAnyB_take (i := 8) (v := ?_) rfl (by kernel_rfl) (by kernel_rfl) (by kernel_rfl) [10, 9] (by kernel_rfl) (by kernel_rfl) (fun _ _ _ h => h) (Or.inl ⟨by rfl, ?_⟩) hHeld ?_
              rotate_left 1
              · ((intro w hSw; (try dsimp only at hSw); go_simp) <;> (with_reducible rfl))
              (try simp only [Act.put, List.setIfInBounds_toArray, List.set_cons_zero, List.set_cons_succ])
              refine wpAnyB_ready (rs := [9]) (by kernel_rfl) (by simp) ?_
              refine AllReadyB.pre rfl (fun Kq hKq => ?_) ?_
              · go_simp
                refine hKq.out _ _ (⟨cell_alloc q29 _, (m8.trans (m9.mono (Nat.le_refl _) (by simp))).alloc _⟩) (fun hHeld => ?_)
                clear hKq Kq
                (try simp only [Act.put, List.setIfInBounds_toArray, List.set_cons_zero, List.set_cons_succ])
                refine wpAnyB_ready (rs := [10]) (by kernel_rfl) (by simp) ?_
                refine AllReadyB.post rfl (by kernel_rfl) (fun Kq hKq => ?_) ?_
                · (refine step_app rfl (.tmp 95) (.tmp 100) 90 rfl w.heap.size 86 _ 4 48 Tryz.underlying90 infoEV rfl (by decide) _ _ _ rfl (by exact own_alloc o29 _) _ 1 1 [.slice A9 bs.length c9, .bool false, .int .i64 0, .int .i64 0] rfl rfl (by exact at_news _ #[.slice A9 bs.length c9, .bool false, .int .i64 0, .int .i64 0] _) (fun h => by cases h) (one_inl _ _ _) hbd1.out hbd3.out (by exact hz9 _) ?_; intro v10 w10 o10 m10; obtain ⟨A10, c10, rfl, hc10, -, -⟩ := own_slice o10; have m10 : Mut w.heap.size [86] w9 w10 := ((Mut.refl _ _ _).alloc _).trans (by first | exact m10 | exact mut_undrew m10 | exact mut_undrew (mut_undrew m10)); have hq10 := m10.keepc ((m8.trans (m9.mono (Nat.le_refl _) (by simp))).keepc hq7 (by decide)) (by decide); have q210 : w10.cell? ⟨q, 2, none⟩ = some (.slice A2 k c2) := (by rw [cell_of hq10]; rfl); have f210 := unfrozen_of hq10 2)
                  refine hKq.out _ _ ?_
                  clear hKq Kq
                  (try simp only [Act.put, List.setIfInBounds_toArray, List.set_cons_zero, List.set_cons_succ])
                  refine wpAnyB_ready (rs := [11]) (by kernel_rfl) (by simp) ?_
                  refine AllReadyB.post rfl (by kernel_rfl) (fun Kq hKq => ?_) ?_
                  · go_simp
                    refine hKq.out _ _ ?_
                    clear hKq Kq
                    (try simp only [Act.put, List.setIfInBounds_toArray, List.set_cons_zero, List.set_cons_succ])
                    refine wpAnyB_ready (rs := [12]) (by kernel_rfl) (by simp) ?_
                    refine AllReadyB.post rfl (by kernel_rfl) (fun Kq hKq => ?_) ?_
                    · go_simp
                      refine hKq.out _ _ ?_
                      clear hKq Kq
                      (try simp only [Act.put, List.setIfInBounds_toArray, List.set_cons_zero, List.set_cons_succ])
                      refine wpAnyB_ready (rs := [13]) (by kernel_rfl) (by simp) ?_
                      refine AllReadyB.post rfl (by kernel_rfl) (fun Kq hKq => ?_) ?_
                      · go_simp
                        refine hKq.out _ _ ?_
                        clear hKq Kq
                        (try simp only [Act.put, List.setIfInBounds_toArray, List.set_cons_zero, List.set_cons_succ])
                        refine wpAnyB_done (by kernel_rfl) ?_ _
                        refine NoPanic.normal ?_
                        have m11 : Mut w.heap.size [92] w10 (w10.setCell ⟨q, 2, none⟩ (.slice A10 (k + 1) c10)) := (Mut.refl _ _ _).setCell (p := ⟨q, 2, none⟩) hq10 (by simp) hqb _
                        have hq11 := heap_set hq10 2 (.slice A10 (k + 1) c10)
                        generalize w10.setCell ⟨q, 2, none⟩ (.slice A10 (k + 1) c10) = w11 at *
                        go_wp2
                        go_round
                        case rel =>
                          refine ⟨k + 1, by omega, by simp, ?_⟩
                          have m79 : Mut w.heap.size [32] w7 w9 := m8.trans (m9.mono (Nat.le_refl _) (by simp))
                          have m911 : Mut w.heap.size [86, 92] w9 w11 := (m10.mono (Nat.le_refl _) (by simp)).trans (m11.mono (Nat.le_refl _) (by simp))
                          have m611 : Mut w.heap.size [32, 86, 92] w6 w11 := ((m7.mono (Nat.le_refl _) (by simp)).trans (m79.mono (Nat.le_refl _) (by simp))).trans (m911.mono (Nat.le_refl _) (by simp))
                          have hmm : Mut w.heap.size [32, 9, 86, 92] wr w11 := (m6.mono (Nat.le_refl _) (by simp)).trans (m611.mono (Nat.le_refl _) (by simp))
                          rw [← hH.out.1]
                          have hn3 : (x.vals.take (k + 1)).length = k + 1 := by rw [List.length_take]; omega
                          refine ⟨hbel.trans (hmm.below hbel.size), ⟨A5, c5, A10, c10, vc ++ [.slice A9 bs.length c9, .bool false, .int .i64 0, .int .i64 0], ?_, ?_, ?_, ?_⟩, (cur8.mut m9 (by decide) (by decide)).mut m911 (by decide) (by decide), hmm.keepc hclo (by decide)⟩
                          · rw [hn3]; exact hq11
                          · rw [List.take_add_one, hkey2.out, Option.toList_some, List.map_append]
                            exact own_mut o6 m611 (by decide)
                          · rw [hn3]; exact own_mut o10 m11 (by decide)
                          · rw [List.take_add_one, hvlH.out, Option.toList_some]
                            refine ((hva7.mut m79 (by decide)).mut m911 (by decide)).snoc ⟨_, rfl, (byt_own o9).mut m911 (by decide)⟩
                        case measure => simp [intOf]; omega
                      exact AllReadyB.nil
                    exact AllReadyB.nil
                  exact AllReadyB.nil
                exact AllReadyB.nil
              exact AllReadyB.nil
            exact AllReadyB.nil
          exact AllReadyB.nil
        | far sz fst =>
          obtain ⟨hbz, hbf⟩ : sz ≤ 65536 ∧ fst ≤ 65536 := hvok
          obtain ⟨vb, hgb, Ab, cb, rfl, hcb1, hcb2, hcb3, hrb⟩ := cur6
          obtain ⟨tl, htl⟩ : ∃ tl, tl = enc sz ++ enc fst ++ x.rest (k + 1) := ⟨_, rfl⟩
          have hl : (Vl.far sz fst).bytes ++ x.rest (k + 1) = 1 :: tl := by rw [htl]; simp [Vl.bytes]
          rw [hl] at hgb hcb1 hrb
          obtain ⟨gb, ob, rfl, hcells, -⟩ := hrb.addr? (by simp)
          have b0 : w6.cell? ⟨gb, ob, none⟩ = some (.int .u8 1) := hcells 0 1 rfl
          have p0 : w6.cell? ⟨pb, 0, none⟩ = some (.slice (some ⟨gb, ob, none⟩) (tl.length + 1) cb) := by rw [cell_of hgb]; rfl
          have f0 := unfrozen_of hgb 0
          have hcbl : tl.length + 1 ≤ cb := by simpa using hcb1
          have hcbm := Lib.hid hcb2
          have hgb2 := Lib.hid hgb
          have hrb2 := Lib.hid hrb
          have htl2 := Lib.hid htl
          clear hcb1 hcb2 hgb hrb hcells hl htl
          have htl3 : tl.length = (enc sz).length + (enc fst).length + (x.rest (k + 1)).length := by rw [htl2.out, List.length_append, List.length_append]
          have htl4 : 0 < (enc sz).length := List.length_pos_iff.2 (enc_ne _)
          have hlb0 : tl.length ≤ 512 := by
            have h1 := x.rest_le k
            have h2 := hH.out.2.2
            rw [Nd.rest_cons hent2.out] at h1
            simp only [List.length_append, Vl.bytes, List.length_cons] at h1
            omega
          have hcb1 : ¬ cb = 1 := by omega
          have htl3H := Lib.hid htl3; clear htl3
          have htl4H := Lib.hid htl4; clear htl4
          have byt7 : Byt w6 (.slice (some ⟨gb, ob + 1, none⟩) tl.length (cb - 1)) tl := by
            have := (byt_cut (p := [1]) (rest := tl) (k := 1) hrb2.out rfl (by omega) hcbm.out (fun h => by cases h)).2 hcb1
            simpa [Addr.add] using this
          obtain ⟨cur7, m7⟩ := cur_set hgb2.out hpb byt7
          have hq7 := m7.keepc hq6 (by decide)
          have hcl7 : (w6.setCell ⟨pb, 0, none⟩ (.slice (some ⟨gb, ob + 1, none⟩) tl.length (cb - 1))).cell? ⟨nb, 0, none⟩ = some (.func (.func 100) #[] #[.pointer (some ⟨pb, 0, none⟩)]) := by rw [cell_of ((m6.trans (m7.mono (Nat.le_refl _) (by simp))).keepc hclo (by decide))]; rfl
          have q27 : (w6.setCell ⟨pb, 0, none⟩ (.slice (some ⟨gb, ob + 1, none⟩) tl.length (cb - 1))).cell? ⟨q, 2, none⟩ = some (.slice A2 k c2) := by rw [cell_of hq7]; rfl
          obtain ⟨w7, hw7⟩ : ∃ w7, w7 = w6.setCell ⟨pb, 0, none⟩ (.slice (some ⟨gb, ob + 1, none⟩) tl.length (cb - 1)) := ⟨_, rfl⟩
          rw [← hw7] at cur7
          rw [htl2.out, List.append_assoc] at cur7
          rw [hw7] at cur7
          clear hw7 w7
          have hlb2 : Hid ((enc sz ++ (enc fst ++ x.rest (k + 1))).length ≤ 1000000000) := by
            show _ ≤ _
            have := htl3H.out
            simp only [List.length_append]
            omega
          have hsz : Hid (sz < 9223372036854775808) := by show _ < _; omega
          have hfz : Hid (fst < 9223372036854775808) := by show _ < _; omega
          have hlb4 : Hid ((enc fst ++ x.rest (k + 1)).length ≤ 1000000000) := by
            show _ ≤ _
            have := htl3H.out
            simp only [List.length_append]
            omega
          have hbd3 : Hid ((k + 1) * 48 ≤ 140737488355328) := by show _ ≤ _; omega
          have hcur7 := Lib.hid cur7; clear cur7
          clear q1 q0 hcl hcur2 htx q27
          go_wp2_with (go_at_call 100; refine (number_any w.heap.size pb sz (enc fst ++ x.rest (k + 1)) _ hcur7.out hpb hsz.out hlb2.out).mono ?_; rintro e w8 ⟨rfl, cur8, m8⟩; have m68 : Mut w.heap.size [32] w6 w8 := m7.trans m8; have hq8 := m68.keepc hq6 (by decide); have hcl8 : w8.cell? ⟨nb, 0, none⟩ = some (.func (.func 100) #[] #[.pointer (some ⟨pb, 0, none⟩)]) := (by rw [cell_of ((m6.trans (m68.mono (Nat.le_refl _) (by simp))).keepc hclo (by decide))]; rfl); have q28 : w8.cell? ⟨q, 2, none⟩ = some (.slice A2 k c2) := (by rw [cell_of hq8]; rfl); have o28 := own_mut (own_mut ho2 m6 (by decide)) m68 (by decide); have hva8 := (hva.mut m6 (by decide)).mut m68 (by decide); have hz8 : w.heap.size ≤ w8.heap.size := (by have := hbel.size; have := m6.size; have := m68.size; omega))
          clear p0 b0 f0
          refine wp_region_noPanic ?_
          refine wp_region_B (A := (fun W => W.cell? ⟨q, 2, none⟩ = some (.slice A2 k c2) ∧ W.cell? ⟨nb, 0, none⟩ = some (.func (.func 100) #[] #[.pointer (some ⟨pb, 0, none⟩)]) ∧ Mut w.heap.size [32] w8 W)) (b := 10) (by kernel_rfl) (⟨q28, hcl8, Mut.drew (Mut.refl _ _ _)⟩) (fun hHeld => ?_)
          refine wpAnyB_takeY (i := 0) (v := ?_) rfl (by kernel_rfl) (by kernel_rfl) (by kernel_rfl) (by kernel_rfl) (fun _ _ _ h => h) (Or.inl ⟨by rfl, ?_⟩) hHeld ?_
          rotate_left 1
          · ((intro w hSw; clear hSw; go_simp) <;> (with_reducible rfl))
          (try simp only [Act.put, List.setIfInBounds_toArray, List.set_cons_zero, List.set_cons_succ])
          refine wpAnyB_take (i := 1) (v := ?_) rfl (by kernel_rfl) (by kernel_rfl) (by kernel_rfl) [10, 4, 3, 2] (by kernel_rfl) (by kernel_rfl) (fun _ _ _ h => h) (Or.inl ⟨by rfl, ?_⟩) hHeld ?_
          rotate_left 1
          · ((intro w hSw; (try dsimp only at hSw); go_simp) <;> (with_reducible rfl))
          (try simp only [Act.put, List.setIfInBounds_toArray, List.set_cons_zero, List.set_cons_succ])
          refine wpAnyB_take (i := 2) (v := ?_) rfl (by kernel_rfl) (by kernel_rfl) (by kernel_rfl) [10, 4, 3] (by kernel_rfl) (by kernel_rfl) (fun _ _ _ h => h) (Or.inl ⟨by rfl, ?_⟩) hHeld ?_
          rotate_left 1
          · ((intro w hSw; (try dsimp only at hSw); go_simp) <;> (with_reducible rfl))
          (try simp only [Act.put, List.setIfInBounds_toArray, List.set_cons_zero, List.set_cons_succ])
          refine wpAnyB_take (i := 3) (v := ?_) rfl (by kernel_rfl) (by kernel_rfl) (by kernel_rfl) [10, 4] (by kernel_rfl) (by kernel_rfl) (fun _ _ _ h => h) (Or.inl ⟨by rfl, ?_⟩) hHeld ?_
          rotate_left 1
          · ((intro w hSw; (try dsimp only at hSw); go_simp) <;> (with_reducible rfl))
          (try simp only [Act.put, List.setIfInBounds_toArray, List.set_cons_zero, List.set_cons_succ])
          refine wpAnyB_take (i := 4) (v := ?_) rfl (by kernel_rfl) (by kernel_rfl) (by kernel_rfl) [10] (by kernel_rfl) (by kernel_rfl) (fun _ _ _ h => h) (Or.inl ⟨by rfl, ?_⟩) hHeld ?_
          rotate_left 1
          · ((intro w hSw; (try dsimp only at hSw); go_simp) <;> (with_reducible rfl))
          (try simp only [Act.put, List.setIfInBounds_toArray, List.set_cons_zero, List.set_cons_succ])
          refine wpAnyB_take (i := 5) (v := ?_) rfl (by kernel_rfl) (by kernel_rfl) (by kernel_rfl) [10, 9, 8] (by kernel_rfl) (by kernel_rfl) (fun _ _ _ h => h) (Or.inl ⟨by rfl, ?_⟩) hHeld ?_
          rotate_left 1
          · ((intro w hSw; (try dsimp only at hSw); go_simp) <;> (with_reducible rfl))
          (try simp only [Act.put, List.setIfInBounds_toArray, List.set_cons_zero, List.set_cons_succ])
          refine wpAnyB_take (i := 6) (v := ?_) rfl (by kernel_rfl) (by kernel_rfl) (by kernel_rfl) [10, 7] (by kernel_rfl) (by kernel_rfl) (fun _ _ _ h => h) (Or.inl ⟨by rfl, ?_⟩) hHeld ?_
          rotate_left 1
          · ((intro w hSw; (try dsimp only at hSw); go_simp) <;> (with_reducible rfl))
          (try simp only [Act.put, List.setIfInBounds_toArray, List.set_cons_zero, List.set_cons_succ])
          refine wpAnyB_ready (rs := [7]) (by kernel_rfl) (by simp) ?_
          refine AllReadyB.pre rfl (fun Kq hKq => ?_) ?_
          · go_simp
            (go_at_call 100; refine (number_any w.heap.size pb fst (x.rest (k + 1)) _ (by exact cur8) hpb hfz.out hlb4.out).mono ?_; rintro e w9 ⟨rfl, cur9, m9⟩; have m9 : Mut w.heap.size [32] w8 w9 := (by first | exact m9 | exact mut_undrew m9 | exact mut_undrew (mut_undrew m9) | exact mut_undrew (mut_undrew (mut_undrew m9))); have q29 : w9.cell? ⟨q, 2, none⟩ = some (.slice A2 k c2) := (by rw [cell_of (m9.keepc hq8 (by decide))]; rfl); have hqlt : q < w9.heap.size := Nat.lt_of_lt_of_le (blk_lt hq8) m9.size; have hz9 : ∀ o, w.heap.size ≤ (w9.alloc o).heap.size := fun o => (by rw [World.size_alloc]; have := m9.size; omega); have o29 := own_mut o28 m9 (by decide))
            (try go_wp2_with fail)
            refine hKq.out _ _ (⟨q29, (by rw [cell_of (m9.keepc ((m6.trans (m68.mono (Nat.le_refl _) (by simp))).keepc hclo (by decide)) (by decide))]; rfl), m9⟩) (fun hHeld => ?_)
            clear hKq Kq
            (try simp only [Act.put, List.setIfInBounds_toArray, List.set_cons_zero, List.set_cons_succ])
            refine wpAnyB_take (i := 8) (v := ?_) rfl (by kernel_rfl) (by kernel_rfl) (by kernel_rfl) [10, 9] (by kernel_rfl) (by kernel_rfl) (fun _ _ _ h => h) (Or.inl ⟨by rfl, ?_⟩) hHeld ?_
            rotate_left 1
            · ((intro w hSw; (try dsimp only at hSw); go_simp) <;> (with_reducible rfl))
            (try simp only [Act.put, List.setIfInBounds_toArray, List.set_cons_zero, List.set_cons_succ])
            refine wpAnyB_ready (rs := [9]) (by kernel_rfl) (by simp) ?_
            refine AllReadyB.pre rfl (fun Kq hKq => ?_) ?_
            · go_simp
              refine hKq.out _ _ (⟨cell_alloc q29 _, cell_alloc (by rw [cell_of (m9.keepc ((m6.trans (m68.mono (Nat.le_refl _) (by simp))).keepc hclo (by decide)) (by decide))]; rfl) _, m9.alloc _⟩) (fun hHeld => ?_)
              clear hKq Kq
              (try simp only [Act.put, List.setIfInBounds_toArray, List.set_cons_zero, List.set_cons_succ])
              refine wpAnyB_ready (rs := [10]) (by kernel_rfl) (by simp) ?_
              refine AllReadyB.post rfl (by kernel_rfl) (fun Kq hKq => ?_) ?_
              · (refine step_app rfl (.tmp 82) (.tmp 87) 90 rfl w.heap.size 86 _ 4 48 Tryz.underlying90 infoEV rfl (by decide) _ _ _ rfl (by exact own_alloc o29 _) _ 1 1 [.slice none 0 0, .bool true, .int .i64 (sz : Int), .int .i64 (fst : Int)] rfl rfl (by exact at_news _ #[.slice none 0 0, .bool true, .int .i64 (sz : Int), .int .i64 (fst : Int)] _) (fun h => by cases h) (one_far _ _) hbd1.out hbd3.out (by exact hz9 _) ?_; intro v10 w10 o10 m10; obtain ⟨A10, c10, rfl, hc10, -, -⟩ := own_slice o10; have m10 : Mut w.heap.size [86] w9 w10 := ((Mut.refl _ _ _).alloc _).trans (by first | exact m10 | exact mut_undrew m10 | exact mut_undrew (mut_undrew m10)); have hq10 := m10.keepc (m9.keepc hq8 (by decide)) (by decide); have q210 : w10.cell? ⟨q, 2, none⟩ = some (.slice A2 k c2) := (by rw [cell_of hq10]; rfl); have f210 := unfrozen_of hq10 2)
                refine hKq.out _ _ ?_
                clear hKq Kq
                (try simp only [Act.put, List.setIfInBounds_toArray, List.set_cons_zero, List.set_cons_succ])
                refine wpAnyB_ready (rs := [11]) (by kernel_rfl) (by simp) ?_
                refine AllReadyB.post rfl (by kernel_rfl) (fun Kq hKq => ?_) ?_
                · go_simp
                  refine hKq.out _ _ ?_
                  clear hKq Kq
                  (try simp only [Act.put, List.setIfInBounds_toArray, List.set_cons_zero, List.set_cons_succ])
                  refine wpAnyB_ready (rs := [12]) (by kernel_rfl) (by simp) ?_
                  refine AllReadyB.post rfl (by kernel_rfl) (fun Kq hKq => ?_) ?_
                  · go_simp
                    refine hKq.out _ _ ?_
                    clear hKq Kq
                    (try simp only [Act.put, List.setIfInBounds_toArray, List.set_cons_zero, List.set_cons_succ])
                    refine wpAnyB_ready (rs := [13]) (by kernel_rfl) (by simp) ?_
                    refine AllReadyB.post rfl (by kernel_rfl) (fun Kq hKq => ?_) ?_
                    · go_simp
                      refine hKq.out _ _ ?_
                      clear hKq Kq
                      (try simp only [Act.put, List.setIfInBounds_toArray, List.set_cons_zero, List.set_cons_succ])
                      refine wpAnyB_done (by kernel_rfl) ?_ _
                      refine NoPanic.normal ?_
                      have m11 : Mut w.heap.size [92] w10 (w10.setCell ⟨q, 2, none⟩ (.slice A10 (k + 1) c10)) := (Mut.refl _ _ _).setCell (p := ⟨q, 2, none⟩) hq10 (by simp) hqb _
                      have hq11 := heap_set hq10 2 (.slice A10 (k + 1) c10)
                      generalize w10.setCell ⟨q, 2, none⟩ (.slice A10 (k + 1) c10) = w11 at *
                      go_wp2
                      go_round
                      case rel =>
                        refine ⟨k + 1, by omega, by simp, ?_⟩
                        have m911 : Mut w.heap.size [86, 92] w9 w11 := (m10.mono (Nat.le_refl _) (by simp)).trans (m11.mono (Nat.le_refl _) (by simp))
                        have m611 : Mut w.heap.size [32, 86, 92] w6 w11 := ((m68.mono (Nat.le_refl _) (by simp)).trans (m9.mono (Nat.le_refl _) (by simp))).trans (m911.mono (Nat.le_refl _) (by simp))
                        have hmm : Mut w.heap.size [32, 9, 86, 92] wr w11 := (m6.mono (Nat.le_refl _) (by simp)).trans (m611.mono (Nat.le_refl _) (by simp))
                        rw [← hH.out.1]
                        have hn3 : (x.vals.take (k + 1)).length = k + 1 := by rw [List.length_take]; omega
                        refine ⟨hbel.trans (hmm.below hbel.size), ⟨A5, c5, A10, c10, vc ++ [.slice none 0 0, .bool true, .int .i64 (sz : Int), .int .i64 (fst : Int)], ?_, ?_, ?_, ?_⟩, cur9.mut m911 (by decide) (by decide), hmm.keepc hclo (by decide)⟩
                        · rw [hn3]; exact hq11
                        · rw [List.take_add_one, hkey2.out, Option.toList_some, List.map_append]
                          exact own_mut o6 m611 (by decide)
                        · rw [hn3]; exact own_mut o10 m11 (by decide)
                        · rw [List.take_add_one, hvlH.out, Option.toList_some]
                          refine ((hva8.mut m9 (by decide)).mut m911 (by decide)).snoc rfl
                      case measure => simp [intOf]; omega
                    exact AllReadyB.nil
                  exact AllReadyB.nil
                exact AllReadyB.nil
              exact AllReadyB.nil
            exact AllReadyB.nil
          exact AllReadyB.nil
    · obtain rfl : k = K := by omega
      have hki : x.kids = [] := (hH.out.2.1.lf hH.out.1.symm).2
      have hvn : x.vals.length = k := by rw [(hH.out.2.1.lf hH.out.1.symm).1, hKH.out]
      rw [List.take_of_length_le (by omega)] at hq ho2 hva
      rw [List.take_of_length_le (by rw [hKH.out]; exact Nat.le_refl _)] at ho1
      go_wp2
      go_ret
      refine ⟨q, rfl, ⟨hqb, .slice A1 k c1, .slice A2 x.vals.length c2, .slice none 0 0, vc, ?_, ?_, ho2, hva, ?_⟩, hbel⟩
      · rw [← hH.out.1]; exact hq
      · rw [← hKH.out]; exact ho1
      · rw [hki]; exact ⟨by simp, .inl ⟨rfl, rfl⟩⟩

theorem load_any (B : Nat) (w : World) (T p n : Nat) (r : PS) (ls ps : List Pg) (pg : Pg) (x : Nd) (hT : w.cell? ⟨T, 0, none⟩ = some (.pointer (some ⟨p, 0, none⟩))) (hp : Pgr B w p r ls ps)
    (hn : ps[n]? = some pg) (ht : pg.taken = true) (hd : pg.data = x.bytes) (hok : x.Ok) (hlen : x.bytes.length ≤ 512) :
    Calls Tryz.prog 53 #[.pointer (some ⟨T, 0, none⟩), .int .i64 (n : Int)] w fun e w' => ∃ q, e = .returned (.pointer (some ⟨q, 0, none⟩)) ∧ NodeAt w.heap.size w' q x ∧ Below w.heap.size w w' := by
  cases h : x.leaf
  · exact load_in B w T p n r ls ps pg x hT hp hn ht hd hok hlen h
  · exact load_leaf B w T p n r ls ps pg x hT hp hn ht hd hok hlen h
end Go.Proofs.YtpfjhehjmhkbpaaGreatDoor
