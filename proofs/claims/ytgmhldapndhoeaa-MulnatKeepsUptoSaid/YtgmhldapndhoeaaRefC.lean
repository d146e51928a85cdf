/- The document's answers for layer 1: Add, Sub. -/
import Derived.Test.YtgmhldapndhoeaaRefB
set_option linter.unusedVariables false
set_option linter.unusedSimpArgs false
namespace Go.Proofs.Ytgmhldapndhoeaa
open Go Go.Eng Go.Proofs Go.NatM Go.RowKit

set_option maxHeartbeats 4000000 in
theorem radd_ok (w : World) (B B' : Nat) (A A' : Option Addr) (n c n' c' : Nat) (l l' : List Nat) (hs : Sl u64v w.heap B A n c l) (hs' : Sl u64v w.heap B' A' n' c' l') (hu : U64 l) (hu' : U64 l') (hn : n ≤ 1048576000) (hn' : n' ≤ 1048576000) :
    Cl Try.prog 65 #[.slice A n c, .slice A' n' c'] w (RetN w (dig (val l + val l')) (max n n' + 2)) := by
  refine enter Try.func65 rfl rfl rfl ?_
  repeat' (first | refine TL.ev (ev_simple rfl) rfl ?_ | refine TL.grun rfl rfl rfl ?_ | refine TL.gskip rfl rfl rfl rfl ?_ | refine TL.gskipU rfl rfl rfl ?_ | (refine TL.call rfl rfl ?_; first | (refine (split_ok _ _ _ _ _ _ hs hu (by omega)).mono ?_; rintro _ w1 ⟨A1, n1, c1, rfl, hO1, hE1, hK1⟩; refine Back.mk ?_; have hs2' := hs'.ext hE1) | (refine (split_ok _ _ _ _ _ _ hs2' hu' (by omega)).mono ?_; rintro _ w2 ⟨A2, n2, c2, rfl, hO2, hE2, hK2⟩; refine Back.mk ?_; have g1 := (hO1.ext hE2).sl (Nat.le_refl _); have g2 := hO2.sl (Nat.le_refl _); have hl1 := g1.len; have hl2 := g2.len; have ux := N16.U64_dig (val l); have uy := N16.U64_dig (val l'); have vx := N16.val_dig (val l); have vy := N16.val_dig (val l'))) | refine TL.ev (ev_len rfl) rfl ?_ | (refine TL.cmpG rfl rfl rfl rfl (fun hc => ?_) (fun hc => ?_) <;> try (exfalso; omega)) | refine TL.ev (ev_arN rfl rfl rfl (by omega)) rfl ?_ | refine TL.ev (ev_arI rfl rfl rfl (by omega)) rfl ?_ | refine TL.ev (ev_neg rfl (by omega)) rfl ?_ | (refine TL.makeN rfl rfl rfl (by omega) (by omega) (fun w3 b3 eb hB3 hE3 hz => ?_)) | refine T.seq ?_ | refine T.region ?_ | refine TL.nil ?_ | refine T.block ?_ | refine T.cond_t rfl ?_ | refine T.cond_f rfl ?_ | refine T.exit ?_ | refine T.ret ?_ | refine T.skip ?_ | refine G.next ?_ | refine G.blockN ?_ | refine G.blockE ?_ | refine G.blockE' rfl ?_ | refine G.blockR ?_ | refine G.thenE ?_ | refine G.thenR ?_ | refine T.regionQ mixed (by kernel_rfl) ?_ | refine TL.nilQ (fun _ => ?_) | refine G.only ?_ | refine G.mixed ?_ | refine TM.nil ?_ | refine TM.e rfl ?_)
  · generalize N16.dig (val l) = X at *
    generalize N16.dig (val l') = Y at *
    have hE13 := (hE1.trans hE2).trans hE3
    refine T.loop (α := Nat × List Nat × Nat) (fun x => [(5, .slice A1 n1 c1), (6, .slice A2 n2 c2), (7, .int .i64 (n2 : Int)), (8, .slice (some ⟨b3, 0, none⟩) (n2 + 1) (n2 + 1)), (9, .int .i64 (x.2.2 : Int)), (10, .int .i64 (x.1 : Int))])
      (fun x w' => x.1 ≤ n2 ∧ x.2.1.length = x.1 ∧ N16.U64 x.2.1 ∧ x.2.2 ≤ 1 ∧ Ext w2 w' ∧ (Bk n64v w'.heap b3 3 (x.2.1 ++ List.replicate (n2 - x.1 + 1) 0)  ∧ True) ∧ N16.val x.2.1 + 65536 ^ x.1 * x.2.2 = N16.val (X.take x.1) + N16.val (Y.take x.1))
      (fun x => n2 - x.1) (0, [], 0) (by repeat (first | exact Sub.nil _ | refine Sub.cons rfl ?_ | refine Sub.cons' rfl (int_congr (by omega)) ?_)) ⟨Nat.zero_le _, rfl, N16.U64.nil, Nat.zero_le _, hE3, ⟨by simpa using hB3, trivial⟩, by simp [N16.val]⟩ ?_
    rintro ⟨i, D, cy⟩ w4 ⟨hi, hD, hDu, hcy, hE4, ⟨hB4, _⟩, hv⟩
    dsimp only at hi hD hDu hcy hB4 hv ⊢
    have e1 := g1.ext hE4
    have e2 := g2.ext hE4
    have hW4 := (hE1.trans hE2).trans hE4
    have x1 := ux.getD i
    have x2 := uy.getD i
    have hlB : (D ++ List.replicate (n2 - i + 1) 0).length = n2 + 1 := by simp; omega
    have hb := eb
    have hsz := (hE1.trans hE2).size
    rcases Nat.lt_or_ge i n2 with hin | hin
    · repeat' (first | refine TL.ev (ev_simple rfl) rfl ?_ | refine TL.grun rfl rfl rfl ?_ | refine TL.gskip rfl rfl rfl rfl ?_ | refine TL.gskipU rfl rfl rfl ?_ | refine TL.ev (ev_len rfl) rfl ?_ | (refine TL.cmpG rfl rfl rfl rfl (fun hc => ?_) (fun hc => ?_) <;> try (exfalso; omega)) | refine TL.ev (ev_arN rfl rfl rfl (by omega)) rfl ?_ | refine TL.ev (ev_arI rfl rfl rfl (by omega)) rfl ?_ | refine TL.ev (ev_neg rfl (by omega)) rfl ?_ | refine TL.ev (ev_loadN rfl (by assumption) (by omega)) rfl ?_ | (refine TL.callP rfl rfl (at_ok _ _ _ _ _ _ e1 (by omega)) (fun q1 => ?_)) | (refine TL.callP rfl rfl (at_ok _ _ _ _ _ _ e2 (by omega)) (fun q2 => ?_)) | (refine TL.ev (ev_indexN rfl rfl (by omega) (Or.inr rfl)) rfl ?_) | (refine TL.storeN rfl rfl hB4 (by rw [hlB]; omega) (fun w5 hB5 hU => ?_)) | refine T.seq ?_ | refine T.region ?_ | refine TL.nil ?_ | refine T.block ?_ | refine T.cond_t rfl ?_ | refine T.cond_f rfl ?_ | refine T.exit ?_ | refine T.ret ?_ | refine T.skip ?_ | refine G.next ?_ | refine G.blockN ?_ | refine G.blockE ?_ | refine G.blockE' rfl ?_ | refine G.blockR ?_ | refine G.thenE ?_ | refine G.thenR ?_ | refine T.regionQ mixed (by kernel_rfl) ?_ | refine TL.nilQ (fun _ => ?_) | refine G.only ?_ | refine G.mixed ?_ | refine TM.nil ?_ | refine TM.e rfl ?_)
      have e3 : n2 - i + 1 = (n2 - (i + 1) + 1) + 1 := by omega
      rw [e3, ← hD, N16.set_zeros, hD] at hB5
      have hlt : (X.getD i 0 + Y.getD i 0 + cy) % 65536 < 65536 := Nat.mod_lt _ (by omega)
      refine G.again (i + 1, D ++ [(X.getD i 0 + Y.getD i 0 + cy) % 65536], (X.getD i 0 + Y.getD i 0 + cy) / 65536) (by repeat (first | exact Sub.nil _ | refine Sub.cons rfl ?_ | refine Sub.cons' rfl (int_congr (by omega)) ?_)) ⟨by dsimp only; omega, by simp [hD], hDu.append (N16.U64.one hlt), by dsimp only; omega, ((hE4.drewN _).drewN _).upd hU (by omega), ⟨hB5, trivial⟩, ?_⟩ (by dsimp only; omega)
      dsimp only
      rw [N16.val_snoc, N16.val_take_succ, N16.val_take_succ, hD, Nat.pow_succ]
      exact N16.add_step hv (by omega)
    · obtain rfl : i = n2 := by omega
      have e4 : X.take i = X := List.take_of_length_le (by omega)
      have e5 : Y.take i = Y := List.take_of_length_le (by omega)
      rw [e4, e5] at hv
      have e3 : i - i + 1 = 0 + 1 := by omega
      have e6 := N16.set_zeros D 0 cy
      have u4 : N16.U64 (D ++ [cy]) := hDu.append (N16.U64.one (by omega))
      have l4 : (D ++ [cy]).length = i + 1 := by simp [hD]
      have v4 : N16.val (D ++ [cy]) = val l + val l' := by rw [N16.val_snoc, hD, hv, vx, vy]
      repeat' (first | refine TL.ev (ev_simple rfl) rfl ?_ | refine TL.grun rfl rfl rfl ?_ | refine TL.gskip rfl rfl rfl rfl ?_ | refine TL.gskipU rfl rfl rfl ?_ | (refine TL.call rfl rfl ?_; first | (refine (join_ok _ _ _ _ _ _ hS5 u4 (by omega)).mono ?_; rintro _ w6 ⟨A6, n6, c6, rfl, hO6, hE6, hK6⟩; refine Back.mk ?_; rw [v4] at hO6)) | refine TL.ev (ev_len rfl) rfl ?_ | (refine TL.cmpG rfl rfl rfl rfl (fun hc => ?_) (fun hc => ?_) <;> try (exfalso; omega)) | refine TL.ev (ev_arN rfl rfl rfl (by omega)) rfl ?_ | refine TL.ev (ev_arI rfl rfl rfl (by omega)) rfl ?_ | refine TL.ev (ev_neg rfl (by omega)) rfl ?_ | refine TL.ev (ev_loadN rfl (by assumption) (by omega)) rfl ?_ | (refine TL.ev (ev_indexN rfl rfl (by omega) (Or.inr rfl)) rfl ?_) | (refine TL.storeN rfl rfl hB4 (by rw [hlB]; omega) (fun w5 hB5 hU => ?_); rw [e3] at hB5; rw [hD] at e6; rw [e6, List.replicate_zero, List.append_nil] at hB5; have hS5 := hB5.slN l4 (Nat.le_refl _) hB5.lt) | refine T.seq ?_ | refine T.region ?_ | refine TL.nil ?_ | refine T.block ?_ | refine T.cond_t rfl ?_ | refine T.cond_f rfl ?_ | refine T.exit ?_ | refine T.ret ?_ | refine T.skip ?_ | refine G.next ?_ | refine G.blockN ?_ | refine G.blockE ?_ | refine G.blockE' rfl ?_ | refine G.blockR ?_ | refine G.thenE ?_ | refine G.thenR ?_ | refine T.regionQ mixed (by kernel_rfl) ?_ | refine TL.nilQ (fun _ => ?_) | refine G.only ?_ | refine G.mixed ?_ | refine TM.nil ?_ | refine TM.e rfl ?_)
      exact G.ret1 rfl rfl (RetN.mk (hO6.mono (by have := hW4.size; have := hU.size; omega)) ((hW4.upd hU (by omega)).trans hE6) (by omega))
  · generalize N16.dig (val l) = X at *
    generalize N16.dig (val l') = Y at *
    have hE13 := (hE1.trans hE2).trans hE3
    refine T.loop (α := Nat × List Nat × Nat) (fun x => [(5, .slice A1 n1 c1), (6, .slice A2 n2 c2), (7, .int .i64 (n1 : Int)), (8, .slice (some ⟨b3, 0, none⟩) (n1 + 1) (n1 + 1)), (9, .int .i64 (x.2.2 : Int)), (10, .int .i64 (x.1 : Int))])
      (fun x w' => x.1 ≤ n1 ∧ x.2.1.length = x.1 ∧ N16.U64 x.2.1 ∧ x.2.2 ≤ 1 ∧ Ext w2 w' ∧ (Bk n64v w'.heap b3 3 (x.2.1 ++ List.replicate (n1 - x.1 + 1) 0)  ∧ True) ∧ N16.val x.2.1 + 65536 ^ x.1 * x.2.2 = N16.val (X.take x.1) + N16.val (Y.take x.1))
      (fun x => n1 - x.1) (0, [], 0) (by repeat (first | exact Sub.nil _ | refine Sub.cons rfl ?_ | refine Sub.cons' rfl (int_congr (by omega)) ?_)) ⟨Nat.zero_le _, rfl, N16.U64.nil, Nat.zero_le _, hE3, ⟨by simpa using hB3, trivial⟩, by simp [N16.val]⟩ ?_
    rintro ⟨i, D, cy⟩ w4 ⟨hi, hD, hDu, hcy, hE4, ⟨hB4, _⟩, hv⟩
    dsimp only at hi hD hDu hcy hB4 hv ⊢
    have e1 := g1.ext hE4
    have e2 := g2.ext hE4
    have hW4 := (hE1.trans hE2).trans hE4
    have x1 := ux.getD i
    have x2 := uy.getD i
    have hlB : (D ++ List.replicate (n1 - i + 1) 0).length = n1 + 1 := by simp; omega
    have hb := eb
    have hsz := (hE1.trans hE2).size
    rcases Nat.lt_or_ge i n1 with hin | hin
    · repeat' (first | refine TL.ev (ev_simple rfl) rfl ?_ | refine TL.grun rfl rfl rfl ?_ | refine TL.gskip rfl rfl rfl rfl ?_ | refine TL.gskipU rfl rfl rfl ?_ | refine TL.ev (ev_len rfl) rfl ?_ | (refine TL.cmpG rfl rfl rfl rfl (fun hc => ?_) (fun hc => ?_) <;> try (exfalso; omega)) | refine TL.ev (ev_arN rfl rfl rfl (by omega)) rfl ?_ | refine TL.ev (ev_arI rfl rfl rfl (by omega)) rfl ?_ | refine TL.ev (ev_neg rfl (by omega)) rfl ?_ | refine TL.ev (ev_loadN rfl (by assumption) (by omega)) rfl ?_ | (refine TL.callP rfl rfl (at_ok _ _ _ _ _ _ e1 (by omega)) (fun q1 => ?_)) | (refine TL.callP rfl rfl (at_ok _ _ _ _ _ _ e2 (by omega)) (fun q2 => ?_)) | (refine TL.ev (ev_indexN rfl rfl (by omega) (Or.inr rfl)) rfl ?_) | (refine TL.storeN rfl rfl hB4 (by rw [hlB]; omega) (fun w5 hB5 hU => ?_)) | refine T.seq ?_ | refine T.region ?_ | refine TL.nil ?_ | refine T.block ?_ | refine T.cond_t rfl ?_ | refine T.cond_f rfl ?_ | refine T.exit ?_ | refine T.ret ?_ | refine T.skip ?_ | refine G.next ?_ | refine G.blockN ?_ | refine G.blockE ?_ | refine G.blockE' rfl ?_ | refine G.blockR ?_ | refine G.thenE ?_ | refine G.thenR ?_ | refine T.regionQ mixed (by kernel_rfl) ?_ | refine TL.nilQ (fun _ => ?_) | refine G.only ?_ | refine G.mixed ?_ | refine TM.nil ?_ | refine TM.e rfl ?_)
      have e3 : n1 - i + 1 = (n1 - (i + 1) + 1) + 1 := by omega
      rw [e3, ← hD, N16.set_zeros, hD] at hB5
      have hlt : (X.getD i 0 + Y.getD i 0 + cy) % 65536 < 65536 := Nat.mod_lt _ (by omega)
      refine G.again (i + 1, D ++ [(X.getD i 0 + Y.getD i 0 + cy) % 65536], (X.getD i 0 + Y.getD i 0 + cy) / 65536) (by repeat (first | exact Sub.nil _ | refine Sub.cons rfl ?_ | refine Sub.cons' rfl (int_congr (by omega)) ?_)) ⟨by dsimp only; omega, by simp [hD], hDu.append (N16.U64.one hlt), by dsimp only; omega, ((hE4.drewN _).drewN _).upd hU (by omega), ⟨hB5, trivial⟩, ?_⟩ (by dsimp only; omega)
      dsimp only
      rw [N16.val_snoc, N16.val_take_succ, N16.val_take_succ, hD, Nat.pow_succ]
      exact N16.add_step hv (by omega)
    · obtain rfl : i = n1 := by omega
      have e4 : X.take i = X := List.take_of_length_le (by omega)
      have e5 : Y.take i = Y := List.take_of_length_le (by omega)
      rw [e4, e5] at hv
      have e3 : i - i + 1 = 0 + 1 := by omega
      have e6 := N16.set_zeros D 0 cy
      have u4 : N16.U64 (D ++ [cy]) := hDu.append (N16.U64.one (by omega))
      have l4 : (D ++ [cy]).length = i + 1 := by simp [hD]
      have v4 : N16.val (D ++ [cy]) = val l + val l' := by rw [N16.val_snoc, hD, hv, vx, vy]
      repeat' (first | refine TL.ev (ev_simple rfl) rfl ?_ | refine TL.grun rfl rfl rfl ?_ | refine TL.gskip rfl rfl rfl rfl ?_ | refine TL.gskipU rfl rfl rfl ?_ | (refine TL.call rfl rfl ?_; first | (refine (join_ok _ _ _ _ _ _ hS5 u4 (by omega)).mono ?_; rintro _ w6 ⟨A6, n6, c6, rfl, hO6, hE6, hK6⟩; refine Back.mk ?_; rw [v4] at hO6)) | refine TL.ev (ev_len rfl) rfl ?_ | (refine TL.cmpG rfl rfl rfl rfl (fun hc => ?_) (fun hc => ?_) <;> try (exfalso; omega)) | refine TL.ev (ev_arN rfl rfl rfl (by omega)) rfl ?_ | refine TL.ev (ev_arI rfl rfl rfl (by omega)) rfl ?_ | refine TL.ev (ev_neg rfl (by omega)) rfl ?_ | refine TL.ev (ev_loadN rfl (by assumption) (by omega)) rfl ?_ | (refine TL.ev (ev_indexN rfl rfl (by omega) (Or.inr rfl)) rfl ?_) | (refine TL.storeN rfl rfl hB4 (by rw [hlB]; omega) (fun w5 hB5 hU => ?_); rw [e3] at hB5; rw [hD] at e6; rw [e6, List.replicate_zero, List.append_nil] at hB5; have hS5 := hB5.slN l4 (Nat.le_refl _) hB5.lt) | refine T.seq ?_ | refine T.region ?_ | refine TL.nil ?_ | refine T.block ?_ | refine T.cond_t rfl ?_ | refine T.cond_f rfl ?_ | refine T.exit ?_ | refine T.ret ?_ | refine T.skip ?_ | refine G.next ?_ | refine G.blockN ?_ | refine G.blockE ?_ | refine G.blockE' rfl ?_ | refine G.blockR ?_ | refine G.thenE ?_ | refine G.thenR ?_ | refine T.regionQ mixed (by kernel_rfl) ?_ | refine TL.nilQ (fun _ => ?_) | refine G.only ?_ | refine G.mixed ?_ | refine TM.nil ?_ | refine TM.e rfl ?_)
      exact G.ret1 rfl rfl (RetN.mk (hO6.mono (by have := hW4.size; have := hU.size; omega)) ((hW4.upd hU (by omega)).trans hE6) (by omega))
end Go.Proofs.Ytgmhldapndhoeaa
