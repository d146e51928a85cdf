/- The document's answers for layer 1: Sub, power. -/
import Derived.Test.YtgmhldapndhoeaaDoorRefC
set_option linter.unusedVariables false
set_option linter.unusedSimpArgs false
namespace Go.Proofs.YtgmhldapndhoeaaDoor
open Go Go.Eng Go.Proofs Go.NatM Go.RowKit

theorem cmp3_neg {x y : Nat} (h : x < y) : cmp3 x y = -1 := if_pos h
theorem cmp3_nneg {x y : Nat} (h : y ≤ x) : 0 ≤ cmp3 x y := by unfold cmp3; rw [if_neg (by omega)]; split <;> omega
theorem rorder_eq (H : Array Obj) (B B' : Nat) (A A' : Option Addr) (n c n' c' m m' : Nat) (hs : Sl n64v H B A n c (N16.dig m)) (hs' : Sl n64v H B' A' n' c' (N16.dig m')) (hn : n ≤ 35184372088832) (hn' : n' ≤ 35184372088832) {q : Int} (hq : cmp3 m m' = q) :
    Pure Tryd.prog 52 #[.slice A n c, .slice A' n' c'] H (.int .i64 q) := by rw [← hq]; exact rorder_ok H B B' A A' n c n' c' m m' hs hs' hn hn'
theorem rsub_err (w : World) (B B' : Nat) (A A' : Option Addr) (n c n' c' : Nat) (l l' : List Nat) (hs : Sl u64v w.heap B A n c l) (hs' : Sl u64v w.heap B' A' n' c' l') (hu : U64 l) (hu' : U64 l') (hn : n ≤ 1048576000) (hn' : n' ≤ 1048576000) (hlt : val l < val l') :
    Cl Tryd.prog 37 #[.slice A n c, .slice A' n' c'] w (RetNE w [] 0 3) := by
  have hq := cmp3_neg hlt
  refine enter Tryd.func37 rfl rfl rfl ?_
  repeat' (first | refine TL.ev (ev_simple rfl) rfl ?_ | refine TL.grun rfl rfl rfl ?_ | refine TL.gskip rfl rfl rfl rfl ?_ | refine TL.gskipU rfl rfl rfl ?_ | (refine TL.call rfl rfl ?_; first | (refine (split_ok _ _ _ _ _ _ hs hu (by omega)).mono ?_; rintro _ w1 ⟨A1, n1, c1, rfl, hO1, hE1, hK1⟩; refine Back.mk ?_; have hs2' := hs'.ext hE1) | (refine (split_ok _ _ _ _ _ _ hs2' hu' (by omega)).mono ?_; rintro _ w2 ⟨A2, n2, c2, rfl, hO2, hE2, hK2⟩; refine Back.mk ?_; have g1 := (hO1.ext hE2).sl (Nat.le_refl _); have g2 := hO2.sl (Nat.le_refl _)) | (refine (rorder_eq _ _ _ _ _ _ _ _ _ _ _ g1 g2 (by omega) (by omega) hq).cl.mono ?_; rintro _ _ ⟨rfl, q1, rfl⟩; refine Back.mk ?_)) | refine TL.ev (ev_len rfl) rfl ?_ | (refine TL.cmpG rfl rfl rfl rfl (fun hc => ?_) (fun hc => ?_) <;> try (exfalso; omega)) | refine TL.ev (ev_arN rfl rfl rfl (by omega)) rfl ?_ | refine TL.ev (ev_arI rfl rfl rfl (by omega)) rfl ?_ | refine TL.ev (ev_neg rfl (by omega)) rfl ?_ | refine T.seq ?_ | refine T.region ?_ | refine TL.nil ?_ | refine T.block ?_ | refine T.cond_t rfl ?_ | refine T.cond_f rfl ?_ | refine T.exit ?_ | refine T.ret ?_ | refine T.skip ?_ | refine G.next ?_ | refine G.blockN ?_ | refine G.blockE ?_ | refine G.blockE' rfl ?_ | refine G.blockR ?_ | refine G.thenE ?_ | refine G.thenR ?_ | refine T.regionQ mixed (by kernel_rfl) ?_ | refine TL.nilQ (fun _ => ?_) | refine G.only ?_ | refine G.mixed ?_ | refine TM.nil ?_ | refine TM.e rfl ?_)
  exact G.ret2 rfl rfl rfl (RetNE.mk (Ow.nil _ _ _ _) ((hE1.trans hE2).drewN _) (by omega))
set_option maxHeartbeats 4000000 in
theorem rsub_ok (w : World) (B B' : Nat) (A A' : Option Addr) (n c n' c' : Nat) (l l' : List Nat) (hs : Sl u64v w.heap B A n c l) (hs' : Sl u64v w.heap B' A' n' c' l') (hu : U64 l) (hu' : U64 l') (hn : n ≤ 1048576000) (hn' : n' ≤ 1048576000) (hge : val l' ≤ val l) :
    Cl Tryd.prog 37 #[.slice A n c, .slice A' n' c'] w (RetNE w (dig (val l - val l')) (n + 1) 0) := by
  obtain ⟨q, hq, hq0⟩ : ∃ q, cmp3 (val l) (val l') = q ∧ 0 ≤ q := ⟨_, rfl, cmp3_nneg hge⟩
  refine enter Tryd.func37 rfl rfl rfl ?_
  repeat' (first | refine TL.ev (ev_simple rfl) rfl ?_ | refine TL.grun rfl rfl rfl ?_ | refine TL.gskip rfl rfl rfl rfl ?_ | refine TL.gskipU rfl rfl rfl ?_ | (refine TL.call rfl rfl ?_; first | (refine (split_ok _ _ _ _ _ _ hs hu (by omega)).mono ?_; rintro _ w1 ⟨A1, n1, c1, rfl, hO1, hE1, hK1⟩; refine Back.mk ?_; have hs2' := hs'.ext hE1) | (refine (split_ok _ _ _ _ _ _ hs2' hu' (by omega)).mono ?_; rintro _ w2 ⟨A2, n2, c2, rfl, hO2, hE2, hK2⟩; refine Back.mk ?_; have g1 := (hO1.ext hE2).sl (Nat.le_refl _); have g2 := hO2.sl (Nat.le_refl _); have hl1 := g1.len; have hl2 := g2.len; have ux := N16.U64_dig (val l); have uy := N16.U64_dig (val l'); have vx := N16.val_dig (val l); have vy := N16.val_dig (val l')) | (refine (rorder_eq _ _ _ _ _ _ _ _ _ _ _ g1 g2 (by omega) (by omega) hq).cl.mono ?_; rintro _ _ ⟨rfl, q1, rfl⟩; refine Back.mk ?_)) | refine TL.ev (ev_len rfl) rfl ?_ | (refine TL.cmpG rfl rfl rfl rfl (fun hc => ?_) (fun hc => ?_) <;> try (exfalso; omega)) | refine TL.ev (ev_arN rfl rfl rfl (by omega)) rfl ?_ | refine TL.ev (ev_arI rfl rfl rfl (by omega)) rfl ?_ | refine TL.ev (ev_neg rfl (by omega)) rfl ?_ | (refine TL.makeN rfl rfl rfl (by omega) (by omega) (fun w3 b3 eb hB3 hE3 hz => ?_)) | refine T.seq ?_ | refine T.region ?_ | refine TL.nil ?_ | refine T.block ?_ | refine T.cond_t rfl ?_ | refine T.cond_f rfl ?_ | refine T.exit ?_ | refine T.ret ?_ | refine T.skip ?_ | refine G.next ?_ | refine G.blockN ?_ | refine G.blockE ?_ | refine G.blockE' rfl ?_ | refine G.blockR ?_ | refine G.thenE ?_ | refine G.thenR ?_ | refine T.regionQ mixed (by kernel_rfl) ?_ | refine TL.nilQ (fun _ => ?_) | refine G.only ?_ | refine G.mixed ?_ | refine TM.nil ?_ | refine TM.e rfl ?_)
  have hlen2 : n2 ≤ n1 := by
    rcases Nat.lt_or_ge n1 n2 with h | h
    · have h1 := N16.lt_of_sz_lt (l := N16.dig (val l)) (r := N16.dig (val l')) ux (by rw [N16.sz_dig, N16.sz_dig]; omega)
      rw [vx, vy] at h1; omega
    · exact h
  generalize N16.dig (val l) = X at *
  generalize N16.dig (val l') = Y at *
  simp only [World.heap_drewN] at eb hz
  have hE23 : Ext w2 w3 := (ext_drewN _ _).trans hE3
  refine T.loop (α := Nat × List Nat × Nat) (fun x => [(6, .slice A1 n1 c1), (7, .slice A2 n2 c2), (8, .slice (some ⟨b3, 0, none⟩) n1 n1), (9, .int .i64 (x.2.2 : Int)), (10, .int .i64 (x.1 : Int))])
    (fun x w' => x.1 ≤ n1 ∧ x.2.1.length = x.1 ∧ N16.U64 x.2.1 ∧ x.2.2 ≤ 1 ∧ Ext w2 w' ∧ Bk n64v w'.heap b3 3 (x.2.1 ++ List.replicate (n1 - x.1) 0) ∧ N16.val x.2.1 + N16.val (Y.take x.1) = N16.val (X.take x.1) + 65536 ^ x.1 * x.2.2)
    (fun x => n1 - x.1) (0, [], 0) (by repeat (first | exact Sub.nil _ | refine Sub.cons rfl ?_ | refine Sub.cons' rfl (int_congr (by omega)) ?_)) ⟨Nat.zero_le _, rfl, N16.U64.nil, Nat.zero_le _, hE23, by simpa using hB3, by simp [N16.val]⟩ ?_
  rintro ⟨i, D, cy⟩ w4 ⟨hi, hD, hDu, hcy, hE4, hB4, hv⟩
  dsimp only at hi hD hDu hcy hE4 hB4 hv ⊢
  have e1 := g1.ext hE4
  have e2 := g2.ext hE4
  have hW4 := (hE1.trans hE2).trans hE4
  have x1 := ux.getD i
  have x2 := uy.getD i
  have hlB : (D ++ List.replicate (n1 - i) 0).length = n1 := by simp; omega
  rcases Nat.lt_or_ge i n1 with hin | hin
  · have e3 : n1 - i = (n1 - (i + 1)) + 1 := by omega
    rcases Nat.lt_or_ge (X.getD i 0) (Y.getD i 0 + cy) with hb | hb
    · repeat' (first | refine TL.ev (ev_simple rfl) rfl ?_ | refine TL.grun rfl rfl rfl ?_ | refine TL.gskip rfl rfl rfl rfl ?_ | refine TL.gskipU rfl rfl rfl ?_ | refine TL.ev (ev_len rfl) rfl ?_ | (refine TL.cmpG rfl rfl rfl rfl (fun hc => ?_) (fun hc => ?_) <;> try (exfalso; omega)) | refine TL.ev (ev_arN rfl rfl rfl (by omega)) rfl ?_ | refine TL.ev (ev_arI rfl rfl rfl (by omega)) rfl ?_ | refine TL.ev (ev_neg rfl (by omega)) rfl ?_ | refine TL.ev (ev_indexN rfl rfl (by omega) (by first | exact Or.inr rfl | exact Sl.some (by assumption))) rfl ?_ | refine TL.ev (ev_index rfl rfl (by omega) (by first | exact Or.inr rfl | exact Sl.some (by assumption))) rfl ?_ | refine TL.ev (ev_loadU rfl (by assumption) (by omega)) rfl ?_ | refine TL.ev (ev_loadI rfl (by assumption) (by omega)) rfl ?_ | refine TL.ev (ev_loadN rfl (by assumption) (by omega)) rfl ?_ | (refine TL.callPQ rfl rfl (at_ok _ _ _ _ _ _ (by exact e2) (by omega)) ?_) | (refine TL.storeN (u := X.getD i 0 + 65536 - Y.getD i 0 - cy) (eu := ⟨by omega⟩) rfl rfl hB4 (by rw [hlB]; omega) (fun w5 hB5 hU => ?_)) | refine T.seq ?_ | refine T.region ?_ | refine TL.nil ?_ | refine T.block ?_ | refine T.cond_t rfl ?_ | refine T.cond_f rfl ?_ | refine T.exit ?_ | refine T.ret ?_ | refine T.skip ?_ | refine G.next ?_ | refine G.blockN ?_ | refine G.blockE ?_ | refine G.blockE' rfl ?_ | refine G.blockR ?_ | refine G.thenE ?_ | refine G.thenR ?_ | refine T.regionQ mixed (by kernel_rfl) ?_ | refine TL.nilQ (fun _ => ?_) | refine G.only ?_ | refine G.mixed ?_ | refine TM.nil ?_ | refine TM.e rfl ?_)
      rw [e3, ← hD, N16.set_zeros, hD] at hB5
      refine G.again (i + 1, D ++ [X.getD i 0 + 65536 - Y.getD i 0 - cy], 1) (by repeat (first | exact Sub.nil _ | refine Sub.cons rfl ?_ | refine Sub.cons' rfl (int_congr (by omega)) ?_)) ⟨by dsimp only; omega, by simp [hD], hDu.append (N16.U64.one (by omega)), by dsimp only; omega, (hE4.drewN _).upd hU (by omega), hB5, ?_⟩ (by dsimp only; omega)
      dsimp only
      rw [N16.val_snoc, N16.val_take_succ, N16.val_take_succ, hD, Nat.pow_succ]
      exact N16.sub_step hv (by omega)
    · repeat' (first | refine TL.ev (ev_simple rfl) rfl ?_ | refine TL.grun rfl rfl rfl ?_ | refine TL.gskip rfl rfl rfl rfl ?_ | refine TL.gskipU rfl rfl rfl ?_ | refine TL.ev (ev_len rfl) rfl ?_ | (refine TL.cmpG rfl rfl rfl rfl (fun hc => ?_) (fun hc => ?_) <;> try (exfalso; omega)) | refine TL.ev (ev_arN rfl rfl rfl (by omega)) rfl ?_ | refine TL.ev (ev_arI rfl rfl rfl (by omega)) rfl ?_ | refine TL.ev (ev_neg rfl (by omega)) rfl ?_ | refine TL.ev (ev_indexN rfl rfl (by omega) (by first | exact Or.inr rfl | exact Sl.some (by assumption))) rfl ?_ | refine TL.ev (ev_index rfl rfl (by omega) (by first | exact Or.inr rfl | exact Sl.some (by assumption))) rfl ?_ | refine TL.ev (ev_loadU rfl (by assumption) (by omega)) rfl ?_ | refine TL.ev (ev_loadI rfl (by assumption) (by omega)) rfl ?_ | refine TL.ev (ev_loadN rfl (by assumption) (by omega)) rfl ?_ | (refine TL.callPQ rfl rfl (at_ok _ _ _ _ _ _ (by exact e2) (by omega)) ?_) | (refine TL.storeN rfl rfl hB4 (by rw [hlB]; omega) (fun w5 hB5 hU => ?_)) | refine T.seq ?_ | refine T.region ?_ | refine TL.nil ?_ | refine T.block ?_ | refine T.cond_t rfl ?_ | refine T.cond_f rfl ?_ | refine T.exit ?_ | refine T.ret ?_ | refine T.skip ?_ | refine G.next ?_ | refine G.blockN ?_ | refine G.blockE ?_ | refine G.blockE' rfl ?_ | refine G.blockR ?_ | refine G.thenE ?_ | refine G.thenR ?_ | refine T.regionQ mixed (by kernel_rfl) ?_ | refine TL.nilQ (fun _ => ?_) | refine G.only ?_ | refine G.mixed ?_ | refine TM.nil ?_ | refine TM.e rfl ?_)
      rw [e3, ← hD, N16.set_zeros, hD] at hB5
      refine G.again (i + 1, D ++ [X.getD i 0 - Y.getD i 0 - cy], 0) (by repeat (first | exact Sub.nil _ | refine Sub.cons rfl ?_ | refine Sub.cons' rfl (int_congr (by omega)) ?_)) ⟨by dsimp only; omega, by simp [hD], hDu.append (N16.U64.one (by omega)), by dsimp only; omega, (hE4.drewN _).upd hU (by omega), hB5, ?_⟩ (by dsimp only; omega)
      dsimp only
      rw [N16.val_snoc, N16.val_take_succ, N16.val_take_succ, hD, Nat.pow_succ]
      exact N16.sub_step hv (by omega)
  · obtain rfl : i = n1 := by omega
    have e4 : X.take i = X := List.take_of_length_le (by omega)
    have e5 : Y.take i = Y := List.take_of_length_le (by omega)
    rw [e4, e5] at hv
    rw [Nat.sub_self, List.replicate_zero, List.append_nil] at hB4
    have hlt := N16.val_lt hDu
    rw [hD] at hlt
    have hc0 : cy = 0 := by
      rcases Nat.eq_zero_or_pos cy with h | h
      · exact h
      · obtain rfl : cy = 1 := by omega
        omega
    subst hc0
    have hS5 := hB4.slN hD (Nat.le_refl _) hB4.lt
    have hval : N16.val D = val l - val l' := by omega
    repeat' (first | refine TL.ev (ev_simple rfl) rfl ?_ | refine TL.grun rfl rfl rfl ?_ | refine TL.gskip rfl rfl rfl rfl ?_ | refine TL.gskipU rfl rfl rfl ?_ | (refine TL.call rfl rfl ?_; first | (refine (join_ok _ _ _ _ _ _ hS5 hDu (by omega)).mono ?_; rintro _ w6 ⟨A6, n6, c6, rfl, hO6, hE6, hK6⟩; refine Back.mk ?_; rw [hval] at hO6)) | refine TL.ev (ev_len rfl) rfl ?_ | (refine TL.cmpG rfl rfl rfl rfl (fun hc => ?_) (fun hc => ?_) <;> try (exfalso; omega)) | refine TL.ev (ev_arN rfl rfl rfl (by omega)) rfl ?_ | refine TL.ev (ev_arI rfl rfl rfl (by omega)) rfl ?_ | refine TL.ev (ev_neg rfl (by omega)) rfl ?_ | refine T.seq ?_ | refine T.region ?_ | refine TL.nil ?_ | refine T.block ?_ | refine T.cond_t rfl ?_ | refine T.cond_f rfl ?_ | refine T.exit ?_ | refine T.ret ?_ | refine T.skip ?_ | refine G.next ?_ | refine G.blockN ?_ | refine G.blockE ?_ | refine G.blockE' rfl ?_ | refine G.blockR ?_ | refine G.thenE ?_ | refine G.thenR ?_ | refine T.regionQ mixed (by kernel_rfl) ?_ | refine TL.nilQ (fun _ => ?_) | refine G.only ?_ | refine G.mixed ?_ | refine TM.nil ?_ | refine TM.e rfl ?_)
    exact G.ret2 rfl rfl rfl (RetNE.mk (hO6.mono hW4.size) (hW4.trans hE6) (by omega))

end Go.Proofs.YtgmhldapndhoeaaDoor
