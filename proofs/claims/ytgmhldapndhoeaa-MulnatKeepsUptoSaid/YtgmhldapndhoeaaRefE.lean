/- The document's answers for layer 1: power, Low. -/
import Derived.Test.YtgmhldapndhoeaaRefD
import Derived.Test.YtgmhldapndhoeaaMathT
import Derived.Test.YtgmhldapndhoeaaEngH
set_option linter.unusedVariables false
set_option linter.unusedSimpArgs false
namespace Go.Proofs.Ytgmhldapndhoeaa
open Go Go.Eng Go.Proofs Go.NatM Go.RowKit

set_option maxHeartbeats 1000000 in
theorem power_ok (H : Array Obj) {z : Int} {k : Nat} [e0 : IsN z k] (hk : k ≤ 61) : Pure Try.prog 75 #[.int .i64 z] H (.int .i64 ((2 ^ k : Nat) : Int)) := by
  obtain rfl := e0.out
  refine Pure.of fun w hw => ?_
  subst hw
  refine enter Try.func75 rfl rfl rfl ?_
  repeat' (first | refine TL.ev (ev_simple rfl) rfl ?_ | refine TL.grun rfl rfl rfl ?_ | refine TL.gskip rfl rfl rfl rfl ?_ | refine TL.gskipU rfl rfl rfl ?_ | refine TL.ev (ev_len rfl) rfl ?_ | (refine TL.cmpG rfl rfl rfl rfl (fun hc => ?_) (fun hc => ?_) <;> try (exfalso; omega)) | refine TL.ev (ev_arN rfl rfl rfl (by omega)) rfl ?_ | refine TL.ev (ev_arI rfl rfl rfl (by omega)) rfl ?_ | refine TL.ev (ev_neg rfl (by omega)) rfl ?_ | refine T.seq ?_ | refine T.region ?_ | refine TL.nil ?_ | refine T.block ?_ | refine T.cond_t rfl ?_ | refine T.cond_f rfl ?_ | refine T.exit ?_ | refine T.ret ?_ | refine T.skip ?_ | refine G.next ?_ | refine G.blockN ?_ | refine G.blockE ?_ | refine G.blockE' rfl ?_ | refine G.blockR ?_ | refine G.thenE ?_ | refine G.thenR ?_ | refine T.regionQ mixed (by kernel_rfl) ?_ | refine TL.nilQ (fun _ => ?_) | refine G.only ?_ | refine G.mixed ?_ | refine TM.nil ?_ | refine TM.e rfl ?_)
  refine T.loop (α := Nat) (fun i => [(0, .int .i64 (k : Int)), (3, .int .i64 ((2 ^ i : Nat) : Int)), (4, .int .i64 (i : Int))]) (fun i w' => w' = w ∧ i ≤ k) (fun i => k - i) 0 (by rw [Nat.pow_zero]; exact (by repeat (first | exact Sub.nil _ | refine Sub.cons rfl ?_ | refine Sub.cons' rfl (int_congr (by omega)) ?_))) ⟨rfl, Nat.zero_le _⟩ ?_
  rintro i w' ⟨rfl, hi⟩
  have hp : 2 ^ i ≤ 2 ^ 61 := Nat.pow_le_pow_right (by omega) (by omega)
  have e : 2 ^ (i + 1) = 2 * 2 ^ i := by rw [Nat.pow_succ]; omega
  have hi' := hi
  generalize hq : 2 ^ i = p at *
  repeat' (first | refine TL.ev (ev_simple rfl) rfl ?_ | refine TL.grun rfl rfl rfl ?_ | refine TL.gskip rfl rfl rfl rfl ?_ | refine TL.gskipU rfl rfl rfl ?_ | refine TL.ev (ev_len rfl) rfl ?_ | (refine TL.cmpG rfl rfl rfl rfl (fun hc => ?_) (fun hc => ?_) <;> try (exfalso; omega)) | refine TL.ev (ev_arN rfl rfl rfl (by omega)) rfl ?_ | refine TL.ev (ev_arI rfl rfl rfl (by omega)) rfl ?_ | refine TL.ev (ev_neg rfl (by omega)) rfl ?_ | refine T.seq ?_ | refine T.region ?_ | refine TL.nil ?_ | refine T.block ?_ | refine T.cond_t rfl ?_ | refine T.cond_f rfl ?_ | refine T.exit ?_ | refine T.ret ?_ | refine T.skip ?_ | refine G.next ?_ | refine G.blockN ?_ | refine G.blockE ?_ | refine G.blockE' rfl ?_ | refine G.blockR ?_ | refine G.thenE ?_ | refine G.thenR ?_ | refine T.regionQ mixed (by kernel_rfl) ?_ | refine TL.nilQ (fun _ => ?_) | refine G.only ?_ | refine G.mixed ?_ | refine TM.nil ?_ | refine TM.e rfl ?_)
  · exact G.again (i + 1) (by rw [e]; exact (by repeat (first | exact Sub.nil _ | refine Sub.cons rfl ?_ | refine Sub.cons' rfl (int_congr (by omega)) ?_))) ⟨rfl, by omega⟩ (by omega)
  · obtain rfl : i = k := by omega
    rw [hq]
    exact G.ret1 rfl rfl ⟨rfl, Qt.refl _⟩
theorem pow15 {k : Nat} : 2 ^ (k % 16) ≤ 32768 ∧ 0 < 2 ^ (k % 16) := ⟨show 2 ^ (k % 16) ≤ 2 ^ 15 from Nat.pow_le_pow_right (by omega) (by omega), Nat.two_pow_pos _⟩
theorem rlow_neg (w : World) (A : Option Addr) (n c : Nat) (z : Int) (hz : z < 0) : Cl Try.prog 66 #[.slice A n c, .int .i64 z] w (RetNE w [] 0 3) := by
  refine enter Try.func66 rfl rfl rfl ?_
  repeat' (first | refine TL.ev (ev_simple rfl) rfl ?_ | refine TL.grun rfl rfl rfl ?_ | refine TL.gskip rfl rfl rfl rfl ?_ | refine TL.gskipU rfl rfl rfl ?_ | refine TL.ev (ev_len rfl) rfl ?_ | (refine TL.cmpG rfl rfl rfl rfl (fun hc => ?_) (fun hc => ?_) <;> try (exfalso; omega)) | refine TL.ev (ev_arN rfl rfl rfl (by omega)) rfl ?_ | refine TL.ev (ev_arI rfl rfl rfl (by omega)) rfl ?_ | refine TL.ev (ev_neg rfl (by omega)) rfl ?_ | refine T.seq ?_ | refine T.region ?_ | refine TL.nil ?_ | refine T.block ?_ | refine T.cond_t rfl ?_ | refine T.cond_f rfl ?_ | refine T.exit ?_ | refine T.ret ?_ | refine T.skip ?_ | refine G.next ?_ | refine G.blockN ?_ | refine G.blockE ?_ | refine G.blockE' rfl ?_ | refine G.blockR ?_ | refine G.thenE ?_ | refine G.thenR ?_ | refine T.regionQ mixed (by kernel_rfl) ?_ | refine TL.nilQ (fun _ => ?_) | refine G.only ?_ | refine G.mixed ?_ | refine TM.nil ?_ | refine TM.e rfl ?_)
  exact G.ret2 rfl rfl rfl (RetNE.mk (Ow.nil _ _ _ _) (Ext.refl _) (by omega))
theorem take16_succ {X : List Nat} {i : Nat} (h : i < X.length) : X.take (i + 1) = X.take i ++ [X.getD i 0] := by
  rw [List.take_succ_eq_append_getElem h]; simp [List.getD, h]
set_option maxHeartbeats 4000000 in
theorem rlow_ok (w : World) (B : Nat) (A : Option Addr) (n c : Nat) (l : List Nat) {z : Int} {k : Nat} [e0 : IsN z k] (hs : Sl u64v w.heap B A n c l) (hu : U64 l) (hn : n ≤ 1048576000) (hk : k < 9223372036854775808) :
    Cl Try.prog 66 #[.slice A n c, .int .i64 z] w (RetNE w (dig (val l % 2 ^ k)) (n + 1) 0) := by
  obtain rfl := e0.out
  refine enter Try.func66 rfl rfl rfl ?_
  repeat' (first | refine TL.ev (ev_simple rfl) rfl ?_ | refine TL.grun rfl rfl rfl ?_ | refine TL.gskip rfl rfl rfl rfl ?_ | refine TL.gskipU rfl rfl rfl ?_ | (refine TL.call rfl rfl ?_; first | (refine (split_ok _ _ _ _ _ _ hs hu (by omega)).mono ?_; rintro _ w1 ⟨A1, n1, c1, rfl, hO1, hE1, hK1⟩; refine Back.mk ?_; have hS1 := hO1.sl (Nat.le_refl _); have hl1 := hS1.len; have hcap1 := hS1.cap; have ux := N16.U64_dig (val l); have vx := N16.val_dig (val l); have sx := N16.sz_dig (val l)) | (refine (join_ok _ _ _ _ _ _ hS1 ux (by omega)).mono ?_; rintro _ w6 ⟨A6, n6, c6, rfl, hO6, hE6, hK6⟩; refine Back.mk ?_)) | refine TL.ev (ev_len rfl) rfl ?_ | (refine TL.cmpG rfl rfl rfl rfl (fun hc => ?_) (fun hc => ?_) <;> try (exfalso; omega)) | refine TL.ev (ev_arN rfl rfl rfl (by omega)) rfl ?_ | refine TL.ev (ev_arI rfl rfl rfl (by omega)) rfl ?_ | refine TL.ev (ev_neg rfl (by omega)) rfl ?_ | (refine TL.makeN rfl rfl rfl (by omega) (by omega) (fun w2 b2 eb hB2 hE2 hz => ?_)) | refine T.seq ?_ | refine T.region ?_ | refine TL.nil ?_ | refine T.block ?_ | refine T.cond_t rfl ?_ | refine T.cond_f rfl ?_ | refine T.exit ?_ | refine T.ret ?_ | refine T.skip ?_ | refine G.next ?_ | refine G.blockN ?_ | refine G.blockE ?_ | refine G.blockE' rfl ?_ | refine G.blockR ?_ | refine G.thenE ?_ | refine G.thenR ?_ | refine T.regionQ mixed (by kernel_rfl) ?_ | refine TL.nilQ (fun _ => ?_) | refine G.only ?_ | refine G.mixed ?_ | refine TM.nil ?_ | refine TM.e rfl ?_)
  · have e := N16.low_big (n := k) ux (by rw [sx]; omega)
    rw [vx] at e
    rw [vx, ← e] at hO6
    exact G.ret2 rfl rfl rfl (RetNE.mk (hO6.mono hE1.size) (hE1.trans hE6) (by omega))
  · have hlow := N16.low_val (l := N16.dig (val l)) ux (n := k) (by omega)
    rw [vx] at hlow
    generalize N16.dig (val l) = X at *
    refine T.loop (α := Nat) (fun i => [(1, .int .i64 (k : Int)), (6, .slice A1 n1 c1), (7, .slice (some ⟨b2, 0, none⟩) (k / 16 + 1) (k / 16 + 1)), (8, .int .i64 (i : Int))])
      (fun i w' => i ≤ k / 16 ∧ Ext w1 w' ∧ Bk n64v w'.heap b2 3 (X.take i ++ List.replicate (k / 16 + 1 - i) 0))
      (fun i => k / 16 - i) 0 (by repeat (first | exact Sub.nil _ | refine Sub.cons rfl ?_ | refine Sub.cons' rfl (int_congr (by omega)) ?_)) ⟨Nat.zero_le _, hE2, by simpa using hB2⟩ ?_
    rintro i w4 ⟨hi, hE4, hB4⟩
    have e1 := hS1.ext hE4
    have hlB : (X.take i ++ List.replicate (k / 16 + 1 - i) 0).length = k / 16 + 1 := by simp; omega
    have hlt : (X.take i).length = i := by simp; omega
    rcases Nat.lt_or_ge i (k / 16) with hin | hin
    · repeat' (first | refine TL.ev (ev_simple rfl) rfl ?_ | refine TL.grun rfl rfl rfl ?_ | refine TL.gskip rfl rfl rfl rfl ?_ | refine TL.gskipU rfl rfl rfl ?_ | refine TL.ev (ev_len rfl) rfl ?_ | (refine TL.cmpG rfl rfl rfl rfl (fun hc => ?_) (fun hc => ?_) <;> try (exfalso; omega)) | refine TL.ev (ev_arN rfl rfl rfl (by omega)) rfl ?_ | refine TL.ev (ev_arI rfl rfl rfl (by omega)) rfl ?_ | refine TL.ev (ev_neg rfl (by omega)) rfl ?_ | refine TL.ev (ev_loadN rfl (by assumption) (by omega)) rfl ?_ | (refine TL.ev (ev_indexN rfl rfl (by omega) (by first | exact Or.inr rfl | exact e1.some)) rfl ?_) | (refine TL.storeN rfl rfl hB4 (by rw [hlB]; omega) (fun w5 hB5 hU => ?_)) | refine T.seq ?_ | refine T.region ?_ | refine TL.nil ?_ | refine T.block ?_ | refine T.cond_t rfl ?_ | refine T.cond_f rfl ?_ | refine T.exit ?_ | refine T.ret ?_ | refine T.skip ?_ | refine G.next ?_ | refine G.blockN ?_ | refine G.blockE ?_ | refine G.blockE' rfl ?_ | refine G.blockR ?_ | refine G.thenE ?_ | refine G.thenR ?_ | refine T.regionQ mixed (by kernel_rfl) ?_ | refine TL.nilQ (fun _ => ?_) | refine G.only ?_ | refine G.mixed ?_ | refine TM.nil ?_ | refine TM.e rfl ?_)
      have e3 : k / 16 + 1 - i = (k / 16 + 1 - (i + 1)) + 1 := by omega
      have e6 := N16.set_zeros (X.take i) (k / 16 + 1 - (i + 1)) (X.getD i 0)
      rw [hlt] at e6
      rw [e3, e6, ← take16_succ (by omega)] at hB5
      exact G.again (i + 1) (by repeat (first | exact Sub.nil _ | refine Sub.cons rfl ?_ | refine Sub.cons' rfl (int_congr (by omega)) ?_)) ⟨by omega, hE4.upd hU (by omega), hB5⟩ (by omega)
    · obtain rfl : i = k / 16 := by omega
      obtain ⟨hp1, hp0⟩ := pow15 (k := k)
      have ux4 := ux.getD (k / 16)
      have e3 : k / 16 + 1 - k / 16 = 0 + 1 := by omega
      have e6 := N16.set_zeros (X.take (k / 16)) 0 (X.getD (k / 16) 0 % 2 ^ (k % 16))
      rw [hlt, List.replicate_zero, List.append_nil] at e6
      have u4 : N16.U64 (X.take (k / 16) ++ [X.getD (k / 16) 0 % 2 ^ (k % 16)]) := (ux.take _).append (N16.U64.one (Nat.lt_of_le_of_lt (Nat.mod_le _ _) ux4))
      have l4 : (X.take (k / 16) ++ [X.getD (k / 16) 0 % 2 ^ (k % 16)]).length = k / 16 + 1 := by simp; omega
      have hb : b2 = w1.heap.size := eb
      repeat' (first | refine TL.ev (ev_simple rfl) rfl ?_ | refine TL.grun rfl rfl rfl ?_ | refine TL.gskip rfl rfl rfl rfl ?_ | refine TL.gskipU rfl rfl rfl ?_ | (refine TL.call rfl rfl ?_; first | (refine (join_ok _ _ _ _ _ _ hS5 u4 (by omega)).mono ?_; rintro _ w6 ⟨A6, n6, c6, rfl, hO6, hE6, hK6⟩; refine Back.mk ?_; rw [hlow] at hO6)) | refine TL.ev (ev_len rfl) rfl ?_ | (refine TL.cmpG rfl rfl rfl rfl (fun hc => ?_) (fun hc => ?_) <;> try (exfalso; omega)) | refine TL.ev (ev_arN rfl rfl rfl (by omega)) rfl ?_ | refine TL.ev (ev_arI rfl rfl rfl (by omega)) rfl ?_ | refine TL.ev (ev_neg rfl (by omega)) rfl ?_ | refine TL.ev (ev_loadN rfl (by assumption) (by omega)) rfl ?_ | refine TH.nil ?_ | refine TH.e rfl ?_ | refine G.held (by repeat (first | assumption | exact Ext.refl _ | exact RowKit.Below.refl _ _ | refine Ext.drewN ?_ _ | refine below_drewN ?_ _ | refine below_upd ?_ (by assumption) (by omega) | refine below_ext ?_ (by assumption) (by omega) | refine Ext.trans ?_ (by assumption))) ?_ | refine TH.s rfl (fun _ hh => ev_simple rfl) rfl ?_ | refine TH.s rfl (fun _ hh => ev_len rfl) rfl ?_ | refine TH.s rfl (fun _ hh => ev_arN rfl rfl rfl (by omega)) rfl ?_ | refine TH.s rfl (fun _ hh => ev_arI rfl rfl rfl (by omega)) rfl ?_ | refine TH.s rfl (fun _ hh => ev_neg rfl (by omega)) rfl ?_ | refine TH.s rfl (fun _ hh => ev_loadN rfl (by first | assumption | exact Sl.ext hh (by assumption) | exact Sl.below hh (by assumption) | exact Sm.ext hh (by assumption) | exact Sm.below hh (by assumption)) (by omega)) rfl ?_ | refine TH.s rfl (fun _ hh => ev_indexN rfl rfl (by omega) (Or.inr rfl)) rfl ?_ | refine TH.s rfl (fun _ hh => ev_indexN rfl rfl (by omega) e1.some) rfl ?_ | refine T.regionH (fun w' => RowKit.Below b2 w4 w') [(0, 0), (1, 0), (2, 0), (3, 0), (4, 0), (5, 0), (6, 0), (7, 0), (8, 0), (9, 0), (10, 1), (11, 0), (12, 0), (13, 1)] mixed (by kernel_rfl) (by repeat (first | assumption | exact Ext.refl _ | exact RowKit.Below.refl _ _ | refine Ext.drewN ?_ _ | refine below_drewN ?_ _ | refine below_upd ?_ (by assumption) (by omega) | refine below_ext ?_ (by assumption) (by omega) | refine Ext.trans ?_ (by assumption))) ?_ | (refine TL.ev (ev_indexN rfl rfl (by omega) (Or.inr rfl)) rfl ?_) | (refine TL.ev (ev_indexN rfl rfl (by omega) e1.some) rfl ?_) | (refine TH.s rfl (fun _ hh => ev_loadN rfl (Sl.below (RowKit.Below.mono hh (by omega)) e1) (by omega)) rfl ?_) | (refine TL.callP rfl rfl (power_ok _ (by omega)) (fun q => ?_)) | (refine TL.storeN rfl rfl (by exact hB4) (by rw [hlB]; omega) (fun w5 hB5 hU => ?_); rw [e3] at hB5; rw [e6] at hB5; have hS5 := hB5.slN l4 (Nat.le_refl _) hB5.lt; have hW5 := (((hE4.drewN 1).drewN q).upd hU (by omega))) | refine T.seq ?_ | refine T.region ?_ | refine TL.nil ?_ | refine T.block ?_ | refine T.cond_t rfl ?_ | refine T.cond_f rfl ?_ | refine T.exit ?_ | refine T.ret ?_ | refine T.skip ?_ | refine G.next ?_ | refine G.blockN ?_ | refine G.blockE ?_ | refine G.blockE' rfl ?_ | refine G.blockR ?_ | refine G.thenE ?_ | refine G.thenR ?_ | refine T.regionQ mixed (by kernel_rfl) ?_ | refine TL.nilQ (fun _ => ?_) | refine G.only ?_ | refine G.mixed ?_ | refine TM.nil ?_ | refine TM.e rfl ?_)
      exact G.ret2 rfl rfl rfl (RetNE.mk (hO6.mono (hE1.trans hW5).size) ((hE1.trans hW5).trans hE6) (by omega))
end Go.Proofs.Ytgmhldapndhoeaa
