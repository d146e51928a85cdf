/- The document's answers for layer 1: at, Least, order, Cmp, Add. -/
import Derived.Test.YtgmhldapndhoeaaDoorRefA
set_option linter.unusedVariables false
set_option linter.unusedSimpArgs false
namespace Go.Proofs.YtgmhldapndhoeaaDoor
open Go Go.Eng Go.Proofs Go.NatM Go.RowKit

theorem at_ok (H : Array Obj) (B : Nat) (A : Option Addr) (n c : Nat) (l : List Nat) {z : Int} {i : Nat} [e0 : IsN z i] (hs : Sl n64v H B A n c l) (hi : i < 9223372036854775808) :
    Pure Tryd.prog 50 #[.slice A n c, .int .i64 z] H (.int .i64 ((l.getD i 0 : Nat) : Int)) := by
  obtain rfl := e0.out
  refine Pure.of fun w hw => ?_
  subst hw
  have hlen := hs.len
  refine enter Tryd.func50 rfl rfl rfl ?_
  repeat' (first | refine TL.ev (ev_simple rfl) rfl ?_ | refine TL.grun rfl rfl rfl ?_ | refine TL.gskip rfl rfl rfl rfl ?_ | refine TL.gskipU rfl rfl rfl ?_ | refine TL.ev (ev_len rfl) rfl ?_ | (refine TL.cmpG rfl rfl rfl rfl (fun hc => ?_) (fun hc => ?_) <;> try (exfalso; omega)) | refine TL.ev (ev_arN rfl rfl rfl (by omega)) rfl ?_ | refine TL.ev (ev_arI rfl rfl rfl (by omega)) rfl ?_ | refine TL.ev (ev_neg rfl (by omega)) rfl ?_ | refine TL.ev (ev_indexN rfl rfl (by omega) (by first | exact Or.inr rfl | exact Sl.some (by assumption))) rfl ?_ | refine TL.ev (ev_index rfl rfl (by omega) (by first | exact Or.inr rfl | exact Sl.some (by assumption))) rfl ?_ | refine TL.ev (ev_loadU rfl (by assumption) (by omega)) rfl ?_ | refine TL.ev (ev_loadI rfl (by assumption) (by omega)) rfl ?_ | refine TL.ev (ev_loadN rfl (by assumption) (by omega)) rfl ?_ | refine T.seq ?_ | refine T.region ?_ | refine TL.nil ?_ | refine T.block ?_ | refine T.cond_t rfl ?_ | refine T.cond_f rfl ?_ | refine T.exit ?_ | refine T.ret ?_ | refine T.skip ?_ | refine G.next ?_ | refine G.blockN ?_ | refine G.blockE ?_ | refine G.blockE' rfl ?_ | refine G.blockR ?_ | refine G.thenE ?_ | refine G.thenR ?_ | refine T.regionQ mixed (by kernel_rfl) ?_ | refine TL.nilQ (fun _ => ?_) | refine G.only ?_ | refine G.mixed ?_ | refine TM.nil ?_ | refine TM.e rfl ?_)
  · exact G.ret1 rfl rfl ⟨by rw [N16.getD_ge (by omega)]; rfl, Qt.refl _⟩
  · exact G.ret1 rfl rfl ⟨rfl, Qt.refl _⟩
theorem rleast_ok (w : World) (B : Nat) (A : Option Addr) (n c : Nat) (l : List Nat) (hs : Sl u64v w.heap B A n c l) (hu : U64 l) (hn : n ≤ 1099511627776) :
    Cl Tryd.prog 41 #[.slice A n c] w (RetN w (dig (val l)) (n + 1)) := by
  refine enter Tryd.func41 rfl rfl rfl ?_
  repeat' (first | refine TL.ev (ev_simple rfl) rfl ?_ | refine TL.grun rfl rfl rfl ?_ | refine TL.gskip rfl rfl rfl rfl ?_ | refine TL.gskipU rfl rfl rfl ?_ | (refine TL.call rfl rfl ?_; first | (refine (split_ok _ _ _ _ _ _ hs hu hn).mono ?_; rintro _ w1 ⟨A1, n1, c1, rfl, hO1, hE1, hK1⟩; refine Back.mk ?_; have hS1 := hO1.sl (Nat.le_refl _)) | (refine (join_ok _ _ _ _ _ _ hS1 (N16.U64_dig _) (by omega)).mono ?_; rintro _ w2 ⟨A2, n2, c2, rfl, hO2, hE2, hK2⟩; refine Back.mk ?_; rw [N16.val_dig] at hO2)) | refine TL.ev (ev_len rfl) rfl ?_ | (refine TL.cmpG rfl rfl rfl rfl (fun hc => ?_) (fun hc => ?_) <;> try (exfalso; omega)) | refine TL.ev (ev_arN rfl rfl rfl (by omega)) rfl ?_ | refine TL.ev (ev_arI rfl rfl rfl (by omega)) rfl ?_ | refine TL.ev (ev_neg rfl (by omega)) rfl ?_ | refine T.seq ?_ | refine T.region ?_ | refine TL.nil ?_ | refine T.block ?_ | refine T.cond_t rfl ?_ | refine T.cond_f rfl ?_ | refine T.exit ?_ | refine T.ret ?_ | refine T.skip ?_ | refine G.next ?_ | refine G.blockN ?_ | refine G.blockE ?_ | refine G.blockE' rfl ?_ | refine G.blockR ?_ | refine G.thenE ?_ | refine G.thenR ?_ | refine T.regionQ mixed (by kernel_rfl) ?_ | refine TL.nilQ (fun _ => ?_) | refine G.only ?_ | refine G.mixed ?_ | refine TM.nil ?_ | refine TM.e rfl ?_)
  exact G.ret1 rfl rfl (RetN.mk (hO2.mono hE1.size) (hE1.trans hE2) (by omega))
theorem rorder_ok (H : Array Obj) (B B' : Nat) (A A' : Option Addr) (n c n' c' m m' : Nat) (hs : Sl n64v H B A n c (N16.dig m)) (hs' : Sl n64v H B' A' n' c' (N16.dig m')) (hn : n ≤ 35184372088832) (hn' : n' ≤ 35184372088832) :
    Pure Tryd.prog 52 #[.slice A n c, .slice A' n' c'] H (.int .i64 (cmp3 m m')) := by
  refine Pure.of fun w hw => ?_
  subst hw
  have hlen := hs.len
  have hlen' := hs'.len
  have hu := N16.U64_dig m
  have hu' := N16.U64_dig m'
  have hz := N16.sz_dig m
  have hz' := N16.sz_dig m'
  have hv := N16.val_dig m
  have hv' := N16.val_dig m'
  generalize N16.dig m = l at *
  generalize N16.dig m' = l' at *
  subst hv hv'
  refine enter Tryd.func52 rfl rfl rfl ?_
  repeat' (first | refine TL.ev (ev_simple rfl) rfl ?_ | refine TL.grun rfl rfl rfl ?_ | refine TL.gskip rfl rfl rfl rfl ?_ | refine TL.gskipU rfl rfl rfl ?_ | refine TL.ev (ev_len rfl) rfl ?_ | (refine TL.cmpG rfl rfl rfl rfl (fun hc => ?_) (fun hc => ?_) <;> try (exfalso; omega)) | refine TL.ev (ev_arN rfl rfl rfl (by omega)) rfl ?_ | refine TL.ev (ev_arI rfl rfl rfl (by omega)) rfl ?_ | refine TL.ev (ev_neg rfl (by omega)) rfl ?_ | refine TL.ev (ev_indexN rfl rfl (by omega) (by first | exact Or.inr rfl | exact Sl.some (by assumption))) rfl ?_ | refine TL.ev (ev_index rfl rfl (by omega) (by first | exact Or.inr rfl | exact Sl.some (by assumption))) rfl ?_ | refine TL.ev (ev_loadU rfl (by assumption) (by omega)) rfl ?_ | refine TL.ev (ev_loadI rfl (by assumption) (by omega)) rfl ?_ | refine TL.ev (ev_loadN rfl (by assumption) (by omega)) rfl ?_ | refine T.seq ?_ | refine T.region ?_ | refine TL.nil ?_ | refine T.block ?_ | refine T.cond_t rfl ?_ | refine T.cond_f rfl ?_ | refine T.exit ?_ | refine T.ret ?_ | refine T.skip ?_ | refine G.next ?_ | refine G.blockN ?_ | refine G.blockE ?_ | refine G.blockE' rfl ?_ | refine G.blockR ?_ | refine G.thenE ?_ | refine G.thenR ?_ | refine T.regionQ mixed (by kernel_rfl) ?_ | refine TL.nilQ (fun _ => ?_) | refine G.only ?_ | refine G.mixed ?_ | refine TM.nil ?_ | refine TM.e rfl ?_)
  · have := N16.lt_of_sz_lt (l := l) (r := l') hu (by omega)
    exact G.ret1 rfl rfl ⟨by rw [cmp3, if_pos this], Qt.refl _⟩
  · have := N16.lt_of_sz_lt (l := l') (r := l) hu' (by omega)
    exact G.ret1 rfl rfl ⟨by rw [cmp3, if_neg (by omega), if_pos this], Qt.refl _⟩
  · refine T.loop (fun k : Nat => [(0, .slice A n c), (1, .slice A' n' c'), (5, .int .i64 ((k : Int) - 1))]) (fun k w' => Qt w w' ∧ k ≤ n ∧ ∀ j, k ≤ j → l.getD j 0 = l'.getD j 0) (fun k => k) n (by repeat (first | exact Sub.nil _ | refine Sub.cons rfl ?_ | refine Sub.cons' rfl (int_congr (by omega)) ?_)) ⟨Qt.refl w, Nat.le_refl _, ?_⟩ ?_
    · intro j hj; rw [N16.getD_ge (by omega), N16.getD_ge (by omega)]
    · rintro k w' ⟨⟨qq, rfl⟩, hk, hzz⟩
      have hq : Qt w (w.drewN qq) := ⟨qq, rfl⟩
      have hs2 : Sl n64v (w.drewN qq).heap B A n c l := hs
      have hs2' : Sl n64v (w.drewN qq).heap B' A' n' c' l' := hs'
      rcases Nat.eq_zero_or_pos k with h0 | h0
      · subst h0
        have := N16.val_ext (a := l) (b := l') (fun j => hzz j (by omega))
        repeat' (first | refine TL.ev (ev_simple rfl) rfl ?_ | refine TL.grun rfl rfl rfl ?_ | refine TL.gskip rfl rfl rfl rfl ?_ | refine TL.gskipU rfl rfl rfl ?_ | refine TL.ev (ev_len rfl) rfl ?_ | (refine TL.cmpG rfl rfl rfl rfl (fun hc => ?_) (fun hc => ?_) <;> try (exfalso; omega)) | refine TL.ev (ev_arN rfl rfl rfl (by omega)) rfl ?_ | refine TL.ev (ev_arI rfl rfl rfl (by omega)) rfl ?_ | refine TL.ev (ev_neg rfl (by omega)) rfl ?_ | refine T.seq ?_ | refine T.region ?_ | refine TL.nil ?_ | refine T.block ?_ | refine T.cond_t rfl ?_ | refine T.cond_f rfl ?_ | refine T.exit ?_ | refine T.ret ?_ | refine T.skip ?_ | refine G.next ?_ | refine G.blockN ?_ | refine G.blockE ?_ | refine G.blockE' rfl ?_ | refine G.blockR ?_ | refine G.thenE ?_ | refine G.thenR ?_ | refine T.regionQ mixed (by kernel_rfl) ?_ | refine TL.nilQ (fun _ => ?_) | refine G.only ?_ | refine G.mixed ?_ | refine TM.nil ?_ | refine TM.e rfl ?_)
        exact G.ret1 rfl rfl ⟨by rw [cmp3, if_neg (by omega), if_neg (by omega)], hq⟩
      · obtain ⟨i, rfl⟩ := Nat.exists_eq_add_of_le h0
        have e1 : ((1 + i : Nat) : Int) - 1 = (i : Int) := by omega
        rw [e1]
        repeat' (first | refine TL.ev (ev_simple rfl) rfl ?_ | refine TL.grun rfl rfl rfl ?_ | refine TL.gskip rfl rfl rfl rfl ?_ | refine TL.gskipU rfl rfl rfl ?_ | refine TL.ev (ev_len rfl) rfl ?_ | (refine TL.cmpG rfl rfl rfl rfl (fun hc => ?_) (fun hc => ?_) <;> try (exfalso; omega)) | refine TL.ev (ev_arN rfl rfl rfl (by omega)) rfl ?_ | refine TL.ev (ev_arI rfl rfl rfl (by omega)) rfl ?_ | refine TL.ev (ev_neg rfl (by omega)) rfl ?_ | refine TL.ev (ev_indexN rfl rfl (by omega) (by first | exact Or.inr rfl | exact Sl.some (by assumption))) rfl ?_ | refine TL.ev (ev_index rfl rfl (by omega) (by first | exact Or.inr rfl | exact Sl.some (by assumption))) rfl ?_ | refine TL.ev (ev_loadU rfl (by assumption) (by omega)) rfl ?_ | refine TL.ev (ev_loadI rfl (by assumption) (by omega)) rfl ?_ | refine TL.ev (ev_loadN rfl (by assumption) (by omega)) rfl ?_ | refine T.seq ?_ | refine T.region ?_ | refine TL.nil ?_ | refine T.block ?_ | refine T.cond_t rfl ?_ | refine T.cond_f rfl ?_ | refine T.exit ?_ | refine T.ret ?_ | refine T.skip ?_ | refine G.next ?_ | refine G.blockN ?_ | refine G.blockE ?_ | refine G.blockE' rfl ?_ | refine G.blockR ?_ | refine G.thenE ?_ | refine G.thenR ?_ | refine T.regionQ mixed (by kernel_rfl) ?_ | refine TL.nilQ (fun _ => ?_) | refine G.only ?_ | refine G.mixed ?_ | refine TM.nil ?_ | refine TM.e rfl ?_)
        · have := N16.val_lt_of hu i (fun j hj => hzz j (by omega)) (by omega)
          exact G.ret1 rfl rfl ⟨by rw [cmp3, if_pos this], hq.drewN _⟩
        · have := N16.val_lt_of hu' i (fun j hj => (hzz j (by omega)).symm) (by omega)
          exact G.ret1 rfl rfl ⟨by rw [cmp3, if_neg (by omega), if_pos this], (hq.drewN _).drewN _⟩
        · refine G.again i (by repeat (first | exact Sub.nil _ | refine Sub.cons rfl ?_ | refine Sub.cons' rfl (int_congr (by omega)) ?_)) ⟨(hq.drewN _).drewN _, by omega, fun j hj => ?_⟩ (by omega)
          rcases Nat.lt_or_ge j (1 + i) with h | h
          · obtain rfl : j = i := by omega
            omega
          · exact hzz j h
theorem rcmp_ok (w : World) (B B' : Nat) (A A' : Option Addr) (n c n' c' : Nat) (l l' : List Nat) (hs : Sl u64v w.heap B A n c l) (hs' : Sl u64v w.heap B' A' n' c' l') (hu : U64 l) (hu' : U64 l') (hn : n ≤ 1099511627776) (hn' : n' ≤ 1099511627776) :
    Cl Tryd.prog 57 #[.slice A n c, .slice A' n' c'] w (fun e w' => e = .returned (.int .i64 (cmp3 (val l) (val l'))) ∧ Ext w w') := by
  refine enter Tryd.func57 rfl rfl rfl ?_
  repeat' (first | refine TL.ev (ev_simple rfl) rfl ?_ | refine TL.grun rfl rfl rfl ?_ | refine TL.gskip rfl rfl rfl rfl ?_ | refine TL.gskipU rfl rfl rfl ?_ | (refine TL.call rfl rfl ?_; first | (refine (split_ok _ _ _ _ _ _ hs hu hn).mono ?_; rintro _ w1 ⟨A1, n1, c1, rfl, hO1, hE1, hK1⟩; refine Back.mk ?_; have hs2' := hs'.ext hE1) | (refine (split_ok _ _ _ _ _ _ hs2' hu' hn').mono ?_; rintro _ w2 ⟨A2, n2, c2, rfl, hO2, hE2, hK2⟩; refine Back.mk ?_; have g1 := (hO1.ext hE2).sl (Nat.le_refl _); have g2 := hO2.sl (Nat.le_refl _)) | (refine (rorder_ok _ _ _ _ _ _ _ _ _ _ _ g1 g2 (by omega) (by omega)).cl.mono ?_; rintro _ _ ⟨rfl, q1, rfl⟩; refine Back.mk ?_)) | refine TL.ev (ev_len rfl) rfl ?_ | (refine TL.cmpG rfl rfl rfl rfl (fun hc => ?_) (fun hc => ?_) <;> try (exfalso; omega)) | refine TL.ev (ev_arN rfl rfl rfl (by omega)) rfl ?_ | refine TL.ev (ev_arI rfl rfl rfl (by omega)) rfl ?_ | refine TL.ev (ev_neg rfl (by omega)) rfl ?_ | refine T.seq ?_ | refine T.region ?_ | refine TL.nil ?_ | refine T.block ?_ | refine T.cond_t rfl ?_ | refine T.cond_f rfl ?_ | refine T.exit ?_ | refine T.ret ?_ | refine T.skip ?_ | refine G.next ?_ | refine G.blockN ?_ | refine G.blockE ?_ | refine G.blockE' rfl ?_ | refine G.blockR ?_ | refine G.thenE ?_ | refine G.thenR ?_ | refine T.regionQ mixed (by kernel_rfl) ?_ | refine TL.nilQ (fun _ => ?_) | refine G.only ?_ | refine G.mixed ?_ | refine TM.nil ?_ | refine TM.e rfl ?_)
  exact G.ret1 rfl rfl ⟨rfl, (hE1.trans hE2).drewN _⟩
end Go.Proofs.YtgmhldapndhoeaaDoor
