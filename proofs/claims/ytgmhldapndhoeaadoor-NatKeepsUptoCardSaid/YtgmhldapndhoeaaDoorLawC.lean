/- The laws of layer 2 that hold the program's calls against one another: helpers. -/
import Derived.Test.YtgmhldapndhoeaaDoorMulH
import Derived.Test.YtgmhldapndhoeaaDoorLawB
set_option linter.unusedVariables false
set_option linter.unusedSimpArgs false
namespace Go.Proofs.YtgmhldapndhoeaaDoor
open Go Go.Eng Go.Proofs Go.NatM

theorem awake2_dig : dig (val [3] * val [5, 0]) = [15] := by
  rw [show val [3] * val [5, 0] = 15 by rfl, dig_pos (by omega)]
  simp [dig_zero]
set_option maxHeartbeats 1000000 in
theorem awake2_ok (w : World) : Cl Tryd.prog 27 #[] w (Yes w) := by
  have hd := awake2_dig
  refine enter Tryd.func27 rfl rfl rfl ?_
  repeat' (first | refine TL.ev (ev_simple rfl) rfl ?_ | refine TL.grun rfl rfl rfl ?_ | refine TL.gskip rfl rfl rfl rfl ?_ | refine TL.gskipU rfl rfl rfl ?_ | (refine TL.call rfl rfl ?_; first | (refine (mul_ok _ _ _ _ _ _ _ _ _ _ _ (by repeat (first | assumption | (apply Sl.ext; assumption) | with_reducible apply Sl.undrew)) (by repeat (first | assumption | (apply Sl.ext; assumption) | with_reducible apply Sl.undrew)) (by first | assumption | exact U64_dig _ | exact U64.one (by omega) | exact U64_two (by omega) (by omega) | exact U64.nil) (by first | assumption | exact U64_dig _ | exact U64.one (by omega) | exact U64_two (by omega) (by omega) | exact U64.nil) (by omega)).mono ?_; rintro _ w1 ⟨A1, n1, c1, rfl, hO1, hE1, hK1⟩; refine Back.mk ?_; rw [hd] at hO1; have hS1 := hO1.sl (Nat.le_refl _); have hl1 : n1 = 1 := hS1.len.symm; subst hl1)) | refine TL.ev (ev_len rfl) rfl ?_ | (refine TL.cmpG rfl rfl rfl rfl (fun hc => ?_) (fun hc => ?_) <;> try (exfalso; omega)) | refine TL.ev (ev_arN rfl rfl rfl (by omega)) rfl ?_ | refine TL.ev (ev_arI rfl rfl rfl (by omega)) rfl ?_ | refine TL.ev (ev_neg rfl (by omega)) rfl ?_ | (refine TL.build1U rfl rfl (fun w1 b1 eb1 hB1 hE1 hz1 => ?_); have hS1 := hB1.slN (n := 1) (c := 1) rfl (Nat.le_refl _) hB1.lt; clear eb1 hz1 hB1) | (refine TL.build2U rfl rfl rfl (fun w1 b1 eb1 hB1 hE1 hz1 => ?_); have hS1 := hB1.slN (n := 2) (c := 2) rfl (Nat.le_refl _) hB1.lt; clear eb1 hz1 hB1) | (refine TL.ev (ev_indexN rfl rfl (by omega) (by exact Sl.some hS1)) rfl ?_) | (refine TL.ev (ev_loadU rfl hS1 (by omega)) rfl ?_) | refine T.seq ?_ | refine T.region ?_ | refine TL.nil ?_ | refine T.block ?_ | refine T.cond_t rfl ?_ | refine T.cond_f rfl ?_ | refine T.exit ?_ | refine T.ret ?_ | refine T.skip ?_ | refine G.next ?_ | refine G.blockN ?_ | refine G.blockE ?_ | refine G.blockE' rfl ?_ | refine G.blockR ?_ | refine G.thenE ?_ | refine G.thenR ?_ | refine T.regionQ mixed (by kernel_rfl) ?_ | refine TL.nilQ (fun _ => ?_) | refine G.only ?_ | refine G.mixed ?_ | refine TM.nil ?_ | refine TM.e rfl ?_)
  · exact G.ret1 rfl rfl (Yes.mk (by repeat (first | exact Ext.refl _ | refine Ext.trans ?_ (by assumption) | refine Ext.drewN ?_ _)))
  · exact absurd rfl hc

theorem sq_lt {x y : Nat} (h : y ≤ x) : y * y ≤ x * x := Nat.mul_le_mul h h
theorem sq_sum (x y : Nat) : (x + y) * (x + y) = x * x + y * y + (x * y + x * y) := by grind
theorem sq_dif (x y : Nat) (h : y ≤ x) : (x + y) * (x - y) = x * x - y * y := by
  obtain ⟨d, rfl⟩ := Nat.exists_eq_add_of_le h
  rw [Nat.add_sub_cancel_left]
  have : (y + d) * (y + d) = y * y + (y + d + y) * d := by grind
  omega
theorem sq_gap (x y : Nat) (h : y ≤ x) : (x - y) * (x - y) + (x * y + x * y) = x * x + y * y := by
  obtain ⟨d, rfl⟩ := Nat.exists_eq_add_of_le h
  rw [Nat.add_sub_cancel_left]
  grind
end Go.Proofs.YtgmhldapndhoeaaDoor
