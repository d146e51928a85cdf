/- The walks of MulnatOrder and NatHalves. -/
import Derived.Test.YtgmhldapndhoeaaDoorDoorB
import Derived.Test.YtgmhldapndhoeaaDoorLawC
set_option linter.unusedVariables false
set_option linter.unusedSimpArgs false
namespace Go.Proofs.YtgmhldapndhoeaaDoor
open Go Go.Eng Go.Proofs Go.NatM

theorem Tab.undrew {w : World} {k : Nat} (h : Tab w.heap) : Tab (w.drewN k).heap := h
theorem twos_eq (H : Array Obj) (hT : Tab H) (B : Nat) (A : Option Addr) (n c : Nat) (l : List Nat) (hs : Sl u64v H B A n c l) (hu : U64 l) (hn : n ≤ 35184372088832) {q : Int} (hq : twosI (val l) = q) :
    Pure Tryd.prog 10 #[.slice A n c] H (.int .i64 q) := by rw [← hq]; exact twos_ok H hT B A n c l hs hu hn
theorem bitlen_eq (H : Array Obj) (B : Nat) (A : Option Addr) (n c : Nat) (l : List Nat) (hs : Sl u64v H B A n c l) (hu : U64 l) (hn : n ≤ 35184372088832) {q : Nat} (hq : bl (val l) = q) :
    Pure Tryd.prog 11 #[.slice A n c] H (.int .i64 (q : Int)) := by rw [← hq]; exact bitlen_ok H B A n c l hs hu hn
theorem bl_pos {n : Nat} (h : n ≠ 0) : 0 < bl n := by
  rcases Nat.eq_zero_or_pos (bl n) with h0 | h0
  · have := lt_two_pow_bl n
    rw [h0] at this
    omega
  · exact h0
theorem bl_mul {m n : Nat} (hm : m ≠ 0) (hn : n ≠ 0) : bl (m * n) = bl m + bl n ∨ bl (m * n) = bl m + bl n - 1 := by
  have h1 := two_pow_bl_le hm
  have h2 := two_pow_bl_le hn
  have h3 := lt_two_pow_bl m
  have h4 := lt_two_pow_bl n
  have p1 := bl_pos hm
  have p2 := bl_pos hn
  have h5 : m * n < 2 ^ (bl m + bl n) := by rw [Nat.pow_add]; exact Nat.mul_lt_mul'' h3 h4
  have h6 : 2 ^ (bl m + bl n - 2) ≤ m * n := by
    have := Nat.mul_le_mul h1 h2
    rwa [← Nat.pow_add, show bl m - 1 + (bl n - 1) = bl m + bl n - 2 by omega] at this
  have h7 : bl (m * n) ≤ bl m + bl n := bl_le.2 h5
  have h8 : ¬ bl (m * n) ≤ bl m + bl n - 2 := fun h => by have := bl_le.1 h; omega
  omega
theorem cmp3_mul {x y z : Nat} (hz : z ≠ 0) : cmp3 (x * z) (y * z) = cmp3 x y := by
  have hp : 0 < z := Nat.pos_of_ne_zero hz
  unfold cmp3
  simp only [Nat.mul_lt_mul_right hp]
theorem twosI_ne {n : Nat} (h : n ≠ 0) : twosI n = (tz n : Int) := if_neg h
theorem tz_lt64 {l : List Nat} (hu : U64 l) (h : val l ≠ 0) : tz (val l) < 64 * l.length := by
  refine tz_lt h ?_
  rw [← W_pow]
  exact val_lt hu
theorem dig_len0 {n : Nat} (h : n = 0) : (dig n).length = 0 := by rw [h, dig_zero]; rfl

set_option maxHeartbeats 8000000 in
theorem morder_walk (w : World) (hT : Tab w.heap) (A : Option Addr) (na ca : Nat) (a : List Nat) (ha : Sl u64v w.heap w.heap.size A na ca a) (ua : U64 a) (ka : na ≤ 17592186043904) (B : Option Addr) (nb cb : Nat) (b : List Nat) (hb : Sl u64v w.heap w.heap.size B nb cb b) (ub : U64 b) (kb : nb ≤ 17592186043904)
    (C : Option Addr) (nc cc : Nat) (c : List Nat) (hc : Sl u64v w.heap w.heap.size C nc cc c) (uc : U64 c) (kc : nc ≤ 17592186043904) : Cl Tryd.prog 7 #[.slice A na ca, .slice B nb cb, .slice C nc cc] w (Yes w) := by
  have v1 : val [1] = 1 := rfl
  have v0 : val [0, 0] = 0 := rfl
  have la := ha.len
  have lc := hc.len
  rcases Nat.eq_zero_or_pos (val c) with h0 | h0
  · have d1 := dig_len0 (show val a * val c = 0 by rw [h0, Nat.mul_zero])
    have d2 := dig_len0 (show val b * val c = 0 by rw [h0, Nat.mul_zero])
    have b0 : bl (val c) = 0 := by rw [h0]; rfl
    refine enter Tryd.func7 rfl rfl rfl ?_
    repeat' (first | refine TL.ev (ev_simple rfl) rfl ?_ | refine TL.grun rfl rfl rfl ?_ | refine TL.gskip rfl rfl rfl rfl ?_ | refine TL.gskipU rfl rfl rfl ?_ | (refine TL.call rfl rfl ?_; first | (refine (awake2_ok _).mono ?_; rintro _ w1 ⟨rfl, hE1⟩; refine Back.mk ?_) | (refine (mul_ok _ _ _ _ _ _ _ _ _ _ _ (by repeat (first | assumption | (apply Sl.ext; assumption) | with_reducible apply Sl.undrew)) (by repeat (first | assumption | (apply Sl.ext; assumption) | with_reducible apply Sl.undrew)) (by first | assumption | exact U64_dig _ | exact U64.one (by omega) | exact U64_two (by omega) (by omega) | exact U64.nil) (by first | assumption | exact U64_dig _ | exact U64.one (by omega) | exact U64_two (by omega) (by omega) | exact U64.nil) (by omega)).mono ?_; rintro _ w1 ⟨A1, n1, c1, rfl, hO1, hE1, hK1⟩; refine Back.mk ?_; (try simp only [val_dig, v1, v0, Nat.mul_zero, Nat.mul_one] at hO1); have hS1 := hO1.sl (Nat.le_refl _); have hl1 := hS1.len; (try simp only [List.length_nil] at hl1)) | (refine (bitlen_eq _ _ _ _ _ _ (by repeat (first | assumption | (apply Sl.ext; assumption) | with_reducible apply Sl.undrew)) (by first | assumption | exact U64_dig _ | exact U64.one (by omega) | exact U64_two (by omega) (by omega) | exact U64.nil) (by omega) (by first | assumption | (simp only [val_dig]; assumption))).cl.mono ?_; rintro _ _ ⟨rfl, q1, rfl⟩; refine Back.mk ?_)) | refine TL.ev (ev_len rfl) rfl ?_ | (refine TL.cmpG rfl rfl rfl rfl (fun hc => ?_) (fun hc => ?_) <;> try (exfalso; omega)) | refine TL.ev (ev_arN rfl rfl rfl (by omega)) rfl ?_ | refine TL.ev (ev_arI rfl rfl rfl (by omega)) rfl ?_ | refine TL.ev (ev_neg rfl (by omega)) rfl ?_ | refine T.seq ?_ | refine T.region ?_ | refine TL.nil ?_ | refine T.block ?_ | refine T.cond_t rfl ?_ | refine T.cond_f rfl ?_ | refine T.exit ?_ | refine T.ret ?_ | refine T.skip ?_ | refine G.next ?_ | refine G.blockN ?_ | refine G.blockE ?_ | refine G.blockE' rfl ?_ | refine G.blockR ?_ | refine G.thenE ?_ | refine G.thenR ?_ | refine T.regionQ mixed (by kernel_rfl) ?_ | refine TL.nilQ (fun _ => ?_) | refine G.only ?_ | refine G.mixed ?_ | refine TM.nil ?_ | refine TM.e rfl ?_)
    exact G.ret1 rfl rfl (Yes.mk (by repeat (first | exact Ext.refl _ | refine Ext.trans ?_ (by assumption) | refine Ext.drewN ?_ _)))
  · have hne : val c ≠ 0 := by omega
    have bc0 := bl_pos hne
    have bcu : bl (val c) ≤ 64 * nc := bl_le.2 (by rw [← W_pow, ← lc]; exact val_lt uc)
    have bau : bl (val a) ≤ 64 * na := bl_le.2 (by rw [← W_pow, ← la]; exact val_lt ua)
    obtain ⟨q, hq, ⟨q1, q2⟩, q3, q4, q5⟩ := cmp3_spec (val a) (val b)
    have hq' : cmp3 (val a * val c) (val b * val c) = q := by rw [cmp3_mul hne, hq]
    clear q3 q4 q5
    rcases Nat.eq_zero_or_pos (val a) with h1 | h1
    · have d1 := dig_len0 (show val a * val c = 0 by rw [h1, Nat.zero_mul])
      have b0 : bl (val a) = 0 := by rw [h1]; rfl
      refine enter Tryd.func7 rfl rfl rfl ?_
      repeat' (first | refine TL.ev (ev_simple rfl) rfl ?_ | refine TL.grun rfl rfl rfl ?_ | refine TL.gskip rfl rfl rfl rfl ?_ | refine TL.gskipU rfl rfl rfl ?_ | (refine TL.call rfl rfl ?_; first | (refine (awake2_ok _).mono ?_; rintro _ w1 ⟨rfl, hE1⟩; refine Back.mk ?_) | (refine (mul_ok _ _ _ _ _ _ _ _ _ _ _ (by repeat (first | assumption | (apply Sl.ext; assumption) | with_reducible apply Sl.undrew)) (by repeat (first | assumption | (apply Sl.ext; assumption) | with_reducible apply Sl.undrew)) (by first | assumption | exact U64_dig _ | exact U64.one (by omega) | exact U64_two (by omega) (by omega) | exact U64.nil) (by first | assumption | exact U64_dig _ | exact U64.one (by omega) | exact U64_two (by omega) (by omega) | exact U64.nil) (by omega)).mono ?_; rintro _ w1 ⟨A1, n1, c1, rfl, hO1, hE1, hK1⟩; refine Back.mk ?_; (try simp only [val_dig, v1, v0, Nat.mul_zero, Nat.mul_one] at hO1); have hS1 := hO1.sl (Nat.le_refl _); have hl1 := hS1.len; (try simp only [List.length_nil] at hl1)) | (refine (bitlen_ok _ _ _ _ _ _ (by repeat (first | assumption | (apply Sl.ext; assumption) | with_reducible apply Sl.undrew)) (by first | assumption | exact U64_dig _ | exact U64.one (by omega) | exact U64_two (by omega) (by omega) | exact U64.nil) (by omega)).cl.mono ?_; rintro _ _ ⟨rfl, q1, rfl⟩; refine Back.mk ?_; (try simp only [val_dig])) | (refine (cmp_eq _ _ _ _ _ _ _ _ _ _ _ (by repeat (first | assumption | (apply Sl.ext; assumption) | with_reducible apply Sl.undrew)) (by repeat (first | assumption | (apply Sl.ext; assumption) | with_reducible apply Sl.undrew)) (by first | assumption | exact U64_dig _ | exact U64.one (by omega) | exact U64_two (by omega) (by omega) | exact U64.nil) (by first | assumption | exact U64_dig _ | exact U64.one (by omega) | exact U64_two (by omega) (by omega) | exact U64.nil) (by omega) (by omega) (by first | assumption | (simp only [val_dig]; assumption))).cl.mono ?_; rintro _ _ ⟨rfl, q1, rfl⟩; refine Back.mk ?_)) | refine TL.ev (ev_len rfl) rfl ?_ | (refine TL.cmpG rfl rfl rfl rfl (fun hc => ?_) (fun hc => ?_) <;> try (exfalso; omega)) | refine TL.ev (ev_arN rfl rfl rfl (by omega)) rfl ?_ | refine TL.ev (ev_arI rfl rfl rfl (by omega)) rfl ?_ | refine TL.ev (ev_neg rfl (by omega)) rfl ?_ | refine T.seq ?_ | refine T.region ?_ | refine TL.nil ?_ | refine T.block ?_ | refine T.cond_t rfl ?_ | refine T.cond_f rfl ?_ | refine T.exit ?_ | refine T.ret ?_ | refine T.skip ?_ | refine G.next ?_ | refine G.blockN ?_ | refine G.blockE ?_ | refine G.blockE' rfl ?_ | refine G.blockR ?_ | refine G.thenE ?_ | refine G.thenR ?_ | refine T.regionQ mixed (by kernel_rfl) ?_ | refine TL.nilQ (fun _ => ?_) | refine G.only ?_ | refine G.mixed ?_ | refine TM.nil ?_ | refine TM.e rfl ?_)
      exact G.ret1 rfl rfl (Yes.mk (by repeat (first | exact Ext.refl _ | refine Ext.trans ?_ (by assumption) | refine Ext.drewN ?_ _)))
    · have hna : val a ≠ 0 := by omega
      have ba0 := bl_pos hna
      have hm := bl_mul hna hne
      have hmn : val a * val c ≠ 0 := Nat.mul_ne_zero hna hne
      have t1 := twosI_ne hna
      have t2 := twosI_ne hne
      have t3 := twosI_ne hmn
      rw [tz_mul hna hne] at t3
      have t4 := tz_lt64 ua hna
      have t5 := tz_lt64 uc hne
      refine enter Tryd.func7 rfl rfl rfl ?_
      repeat' (first | refine TL.ev (ev_simple rfl) rfl ?_ | refine TL.grun rfl rfl rfl ?_ | refine TL.gskip rfl rfl rfl rfl ?_ | refine TL.gskipU rfl rfl rfl ?_ | (refine TL.call rfl rfl ?_; first | (refine (awake2_ok _).mono ?_; rintro _ w1 ⟨rfl, hE1⟩; refine Back.mk ?_) | (refine (mul_ok _ _ _ _ _ _ _ _ _ _ _ (by repeat (first | assumption | (apply Sl.ext; assumption) | with_reducible apply Sl.undrew)) (by repeat (first | assumption | (apply Sl.ext; assumption) | with_reducible apply Sl.undrew)) (by first | assumption | exact U64_dig _ | exact U64.one (by omega) | exact U64_two (by omega) (by omega) | exact U64.nil) (by first | assumption | exact U64_dig _ | exact U64.one (by omega) | exact U64_two (by omega) (by omega) | exact U64.nil) (by omega)).mono ?_; rintro _ w1 ⟨A1, n1, c1, rfl, hO1, hE1, hK1⟩; refine Back.mk ?_; (try simp only [val_dig, v1, v0, Nat.mul_zero, Nat.mul_one] at hO1); have hS1 := hO1.sl (Nat.le_refl _); have hl1 := hS1.len; (try simp only [List.length_nil] at hl1)) | (refine (bitlen_ok _ _ _ _ _ _ (by repeat (first | assumption | (apply Sl.ext; assumption) | with_reducible apply Sl.undrew)) (by first | assumption | exact U64_dig _ | exact U64.one (by omega) | exact U64_two (by omega) (by omega) | exact U64.nil) (by omega)).cl.mono ?_; rintro _ _ ⟨rfl, q1, rfl⟩; refine Back.mk ?_; (try simp only [val_dig])) | (refine (cmp_eq _ _ _ _ _ _ _ _ _ _ _ (by repeat (first | assumption | (apply Sl.ext; assumption) | with_reducible apply Sl.undrew)) (by repeat (first | assumption | (apply Sl.ext; assumption) | with_reducible apply Sl.undrew)) (by first | assumption | exact U64_dig _ | exact U64.one (by omega) | exact U64_two (by omega) (by omega) | exact U64.nil) (by first | assumption | exact U64_dig _ | exact U64.one (by omega) | exact U64_two (by omega) (by omega) | exact U64.nil) (by omega) (by omega) (by first | assumption | (simp only [val_dig]; assumption))).cl.mono ?_; rintro _ _ ⟨rfl, q1, rfl⟩; refine Back.mk ?_) | (refine (twos_eq _ (by repeat (first | assumption | refine Tab.ext ?_ (by assumption) | with_reducible refine Tab.undrew ?_)) _ _ _ _ _ (by repeat (first | assumption | (apply Sl.ext; assumption) | with_reducible apply Sl.undrew)) (by first | assumption | exact U64_dig _ | exact U64.one (by omega) | exact U64_two (by omega) (by omega) | exact U64.nil) (by omega) (by first | assumption | (simp only [val_dig]; assumption))).cl.mono ?_; rintro _ _ ⟨rfl, q1, rfl⟩; refine Back.mk ?_)) | refine TL.ev (ev_len rfl) rfl ?_ | (refine TL.cmpG rfl rfl rfl rfl (fun hc => ?_) (fun hc => ?_) <;> try (exfalso; omega)) | refine TL.ev (ev_arN rfl rfl rfl (by omega)) rfl ?_ | refine TL.ev (ev_arI rfl rfl rfl (by omega)) rfl ?_ | refine TL.ev (ev_neg rfl (by omega)) rfl ?_ | refine TL.ev (ev_eqlB (r := true) rfl rfl rfl) rfl ?_ | refine TL.ev (ev_eqlB (r := false) rfl rfl rfl) rfl ?_ | refine TL.ev (ev_neqB (r := true) rfl rfl rfl) rfl ?_ | refine TL.ev (ev_neqB (r := false) rfl rfl rfl) rfl ?_ | refine T.seq ?_ | refine T.region ?_ | refine TL.nil ?_ | refine T.block ?_ | refine T.cond_t rfl ?_ | refine T.cond_f rfl ?_ | refine T.exit ?_ | refine T.ret ?_ | refine T.skip ?_ | refine G.next ?_ | refine G.blockN ?_ | refine G.blockE ?_ | refine G.blockE' rfl ?_ | refine G.blockR ?_ | refine G.thenE ?_ | refine G.thenR ?_ | refine T.regionQ mixed (by kernel_rfl) ?_ | refine TL.nilQ (fun _ => ?_) | refine G.only ?_ | refine G.mixed ?_ | refine TM.nil ?_ | refine TM.e rfl ?_)
      all_goals exact G.ret1 rfl rfl (Yes.mk (by repeat (first | exact Ext.refl _ | refine Ext.trans ?_ (by assumption) | refine Ext.drewN ?_ _)))
end Go.Proofs.YtgmhldapndhoeaaDoor
