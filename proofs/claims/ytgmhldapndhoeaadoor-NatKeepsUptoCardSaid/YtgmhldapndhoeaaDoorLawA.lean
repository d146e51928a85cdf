/- The laws of layer 1 that hold the program's calls against one another: the walks. -/
import Derived.Test.YtgmhldapndhoeaaDoorNatB
import Derived.Test.YtgmhldapndhoeaaDoorNatC
import Derived.Test.YtgmhldapndhoeaaDoorNatD
import Derived.Test.YtgmhldapndhoeaaDoorSame
set_option linter.unusedVariables false
set_option linter.unusedSimpArgs false
namespace Go.Proofs.YtgmhldapndhoeaaDoor
open Go Go.Eng Go.Proofs Go.NatM

theorem U64_two {x y : Nat} (h : x < 18446744073709551616) (k : y < 18446744073709551616) : U64 [x, y] := U64.cons h (U64.one k)
/-- the answer of a law -/
def Yes (w : World) (e : Ending) (w' : World) : Prop := e = .returned (.bool true) ∧ Ext w w'
theorem Yes.mk {w w' : World} (h : Ext w w') : Yes w (.returned (.bool true)) w' := ⟨rfl, h⟩

theorem awake_dig : dig (val [18446744073709551615] + val [1, 0]) = [0, 1] := by
  have h1 : dig 1 = [1] := by rw [dig_pos (by omega)]; simp [dig_zero]
  rw [show val [18446744073709551615] + val [1, 0] = 18446744073709551616 by rfl, dig_pos (by omega)]
  simp [h1]
theorem awake_bl : bl (val [0, 4]) = 67 := by decide
set_option maxHeartbeats 1000000 in
theorem awake_ok (w : World) : Cl Tryd.prog 8 #[] w (Yes w) := by
  have hbl := awake_bl
  refine enter Tryd.func8 rfl rfl rfl ?_
  repeat' (first | refine TL.ev (ev_simple rfl) rfl ?_ | refine TL.grun rfl rfl rfl ?_ | refine TL.gskip rfl rfl rfl rfl ?_ | refine TL.gskipU rfl rfl rfl ?_ | (refine TL.call rfl rfl ?_; first | (refine (add_ok _ _ _ _ _ _ _ _ _ _ _ (by repeat (first | assumption | (apply Sl.ext; assumption) | with_reducible apply Sl.undrew)) (by repeat (first | assumption | (apply Sl.ext; assumption) | with_reducible apply Sl.undrew)) (by first | assumption | exact U64_dig _ | exact U64.one (by omega) | exact U64_two (by omega) (by omega) | exact U64.nil) (by first | assumption | exact U64_dig _ | exact U64.one (by omega) | exact U64_two (by omega) (by omega) | exact U64.nil) (by omega) (by omega)).mono ?_; rintro _ w1 ⟨A1, n1, c1, rfl, hO1, hE1, hK1⟩; refine Back.mk ?_; have hS1 := hO1.sl (Nat.le_refl _); have hl1 := hS1.len; (try simp only [List.length_nil] at hl1); (first | replace hK1 : n1 ≤ 17592186043904 := by omega | replace hK1 : n1 ≤ 17592186043905 := by omega | replace hK1 : n1 ≤ 17592186043906 := by omega | replace hK1 : n1 ≤ 17592186043907 := by omega)) | (refine (same_t _ _ _ _ _ _ _ _ _ _ _ (by repeat (first | assumption | (apply Sl.ext; assumption) | with_reducible apply Sl.undrew)) (by repeat (first | assumption | (apply Sl.ext; assumption) | with_reducible apply Sl.undrew)) (by omega) (by omega) awake_dig).cl.mono ?_; rintro _ _ ⟨rfl, q1, rfl⟩; refine Back.mk ?_) | (refine (bitlen_ok _ _ _ _ _ _ (by repeat (first | assumption | (apply Sl.ext; assumption) | with_reducible apply Sl.undrew)) (by first | assumption | exact U64_dig _ | exact U64.one (by omega) | exact U64_two (by omega) (by omega) | exact U64.nil) (by omega)).cl.mono ?_; rintro _ _ ⟨rfl, q1, rfl⟩; refine Back.mk ?_)) | refine TL.ev (ev_len rfl) rfl ?_ | (refine TL.cmpG rfl rfl rfl rfl (fun hc => ?_) (fun hc => ?_) <;> try (exfalso; omega)) | refine TL.ev (ev_arN rfl rfl rfl (by omega)) rfl ?_ | refine TL.ev (ev_arI rfl rfl rfl (by omega)) rfl ?_ | refine TL.ev (ev_neg rfl (by omega)) rfl ?_ | (refine TL.build1U rfl rfl (fun w1 b1 eb1 hB1 hE1 hz1 => ?_); have hS1 := hB1.slN (n := 1) (c := 1) rfl (Nat.le_refl _) hB1.lt; clear eb1 hz1 hB1) | (refine TL.build2U rfl rfl rfl (fun w1 b1 eb1 hB1 hE1 hz1 => ?_); have hS1 := hB1.slN (n := 2) (c := 2) rfl (Nat.le_refl _) hB1.lt; clear eb1 hz1 hB1) | refine T.seq ?_ | refine T.region ?_ | refine TL.nil ?_ | refine T.block ?_ | refine T.cond_t rfl ?_ | refine T.cond_f rfl ?_ | refine T.exit ?_ | refine T.ret ?_ | refine T.skip ?_ | refine G.next ?_ | refine G.blockN ?_ | refine G.blockE ?_ | refine G.blockE' rfl ?_ | refine G.blockR ?_ | refine G.thenE ?_ | refine G.thenR ?_ | refine T.regionQ mixed (by kernel_rfl) ?_ | refine TL.nilQ (fun _ => ?_) | refine G.only ?_ | refine G.mixed ?_ | refine TM.nil ?_ | refine TM.e rfl ?_)
  exact G.ret1 rfl rfl (Yes.mk (by repeat (first | exact Ext.refl _ | refine Ext.trans ?_ (by assumption) | refine Ext.drewN ?_ _)))

end Go.Proofs.YtgmhldapndhoeaaDoor
