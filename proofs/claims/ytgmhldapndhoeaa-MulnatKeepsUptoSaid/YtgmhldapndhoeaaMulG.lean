/- Layer 2: contracts of math/bits.Len, mulnat.Pow. -/
import Derived.Test.YtgmhldapndhoeaaMulF
set_option linter.unusedVariables false
set_option linter.unusedSimpArgs false
namespace Go.Proofs.Ytgmhldapndhoeaa
open Go Go.Eng Go.Proofs Go.NatM

theorem len_ok (H : Array Obj) {z : Int} {x : Nat} [e0 : IsN z x] (hx : x < 18446744073709551616) : Pure Try.prog 45 #[.int .u64 z] H (.int .i64 (bl x : Int)) := by
  obtain rfl := e0.out
  refine Pure.of fun w hw => ?_
  subst hw
  refine enter Try.func45 rfl rfl rfl ?_
  repeat' (first | refine TL.ev (ev_simple rfl) rfl ?_ | refine TL.grun rfl rfl rfl ?_ | refine TL.gskip rfl rfl rfl rfl ?_ | refine TL.gskipU rfl rfl rfl ?_ | refine TL.ev (ev_len rfl) rfl ?_ | (refine TL.cmpG rfl rfl rfl rfl (fun hc => ?_) (fun hc => ?_) <;> try (exfalso; omega)) | refine TL.ev (ev_arN rfl rfl rfl (by omega)) rfl ?_ | refine TL.ev (ev_arI rfl rfl rfl (by omega)) rfl ?_ | refine TL.ev (ev_neg rfl (by omega)) rfl ?_ | (refine TL.callP rfl rfl (len64_ok _ hx) (fun q1 => ?_)) | refine T.seq ?_ | refine T.region ?_ | refine TL.nil ?_ | refine T.block ?_ | refine T.cond_t rfl ?_ | refine T.cond_f rfl ?_ | refine T.exit ?_ | refine T.ret ?_ | refine T.skip ?_ | refine G.next ?_ | refine G.blockN ?_ | refine G.blockE ?_ | refine G.blockE' rfl ?_ | refine G.blockR ?_ | refine G.thenE ?_ | refine G.thenR ?_ | refine T.regionQ mixed (by kernel_rfl) ?_ | refine TL.nilQ (fun _ => ?_) | refine G.only ?_ | refine G.mixed ?_ | refine TM.nil ?_ | refine TM.e rfl ?_)
  exact G.ret1 rfl rfl ⟨rfl, (Qt.refl w).drewN _⟩

theorem pow_neg (w : World) (v : Value) (z : Int) (hz : z < 0) :
    Cl Try.prog 25 #[v, .int .i64 z] w (RetNE w [] 0 3) := by
  refine enter Try.func25 rfl rfl rfl ?_
  repeat' (first | refine TL.ev (ev_simple rfl) rfl ?_ | refine TL.grun rfl rfl rfl ?_ | refine TL.gskip rfl rfl rfl rfl ?_ | refine TL.gskipU rfl rfl rfl ?_ | refine TL.ev (ev_len rfl) rfl ?_ | (refine TL.cmpG rfl rfl rfl rfl (fun hc => ?_) (fun hc => ?_) <;> try (exfalso; omega)) | refine TL.ev (ev_arN rfl rfl rfl (by omega)) rfl ?_ | refine TL.ev (ev_arI rfl rfl rfl (by omega)) rfl ?_ | refine TL.ev (ev_neg rfl (by omega)) rfl ?_ | refine T.seq ?_ | refine T.region ?_ | refine TL.nil ?_ | refine T.block ?_ | refine T.cond_t rfl ?_ | refine T.cond_f rfl ?_ | refine T.exit ?_ | refine T.ret ?_ | refine T.skip ?_ | refine G.next ?_ | refine G.blockN ?_ | refine G.blockE ?_ | refine G.blockE' rfl ?_ | refine G.blockR ?_ | refine G.thenE ?_ | refine G.thenR ?_ | refine T.regionQ mixed (by kernel_rfl) ?_ | refine TL.nilQ (fun _ => ?_) | refine G.only ?_ | refine G.mixed ?_ | refine TM.nil ?_ | refine TM.e rfl ?_)
  exact G.ret2 rfl rfl rfl (RetNE.mk (Ow.nil _ _ _ _) (Ext.refl _) (by omega))
theorem pow_big (w : World) (v : Value) (z : Int) (hz : 256 < z) :
    Cl Try.prog 25 #[v, .int .i64 z] w (RetNE w [] 0 5) := by
  refine enter Try.func25 rfl rfl rfl ?_
  repeat' (first | refine TL.ev (ev_simple rfl) rfl ?_ | refine TL.grun rfl rfl rfl ?_ | refine TL.gskip rfl rfl rfl rfl ?_ | refine TL.gskipU rfl rfl rfl ?_ | refine TL.ev (ev_len rfl) rfl ?_ | (refine TL.cmpG rfl rfl rfl rfl (fun hc => ?_) (fun hc => ?_) <;> try (exfalso; omega)) | refine TL.ev (ev_arN rfl rfl rfl (by omega)) rfl ?_ | refine TL.ev (ev_arI rfl rfl rfl (by omega)) rfl ?_ | refine TL.ev (ev_neg rfl (by omega)) rfl ?_ | refine T.seq ?_ | refine T.region ?_ | refine TL.nil ?_ | refine T.block ?_ | refine T.cond_t rfl ?_ | refine T.cond_f rfl ?_ | refine T.exit ?_ | refine T.ret ?_ | refine T.skip ?_ | refine G.next ?_ | refine G.blockN ?_ | refine G.blockE ?_ | refine G.blockE' rfl ?_ | refine G.blockR ?_ | refine G.thenE ?_ | refine G.thenR ?_ | refine T.regionQ mixed (by kernel_rfl) ?_ | refine TL.nilQ (fun _ => ?_) | refine G.only ?_ | refine G.mixed ?_ | refine TM.nil ?_ | refine TM.e rfl ?_)
  exact G.ret2 rfl rfl rfl (RetNE.mk (Ow.nil _ _ _ _) (Ext.refl _) (by omega))
theorem dig_pow_len {l : List Nat} (h : U64 l) (e : Nat) : (dig (val l ^ e)).length ≤ l.length * e + 1 := by
  refine dig_length_le ?_
  rw [Nat.pow_succ, Nat.pow_mul]
  have h1 : val l ^ e ≤ (18446744073709551616 ^ l.length) ^ e := Nat.pow_le_pow_left (Nat.le_of_lt (val_lt h)) e
  have h2 : 0 < (18446744073709551616 ^ l.length) ^ e := Nat.pow_pos (Nat.pow_pos (by omega))
  omega
theorem dig_one : dig 1 = [1] := by rw [dig_pos (by omega)]; simp [dig_zero]
theorem div_two_pow (k m : Nat) : k / 2 ^ m = 2 * (k / 2 ^ (m + 1)) + k / 2 ^ m % 2 := by
  rw [Nat.pow_succ, ← Nat.div_div_eq_div_mul]; omega
theorem pow_even {v e e' : Nat} (h : e' = 2 * e) : v ^ e' = v ^ e * v ^ e := by rw [h, Nat.two_mul, Nat.pow_add]
theorem pow_odd {v e e' : Nat} (h : e' = 2 * e + 1) : v ^ e' = v ^ e * v ^ e * v := by rw [h, Nat.pow_succ, Nat.two_mul, Nat.pow_add]

set_option maxHeartbeats 1000000 in
theorem pow_ok (w : World) (B : Nat) (A : Option Addr) (n c : Nat) (l : List Nat) {z : Int} {k : Nat} [e0 : IsN z k] (hs : Sl u64v w.heap B A n c l) (hu : U64 l) (hn : n ≤ 1073741824) (hk : k ≤ 256) :
    Cl Try.prog 25 #[.slice A n c, .int .i64 z] w (RetNE w (dig (val l ^ k)) (n * k + 1) 0) := by
  obtain rfl := e0.out
  have hlen := hs.len
  replace hs := hs.size
  have hb := bl_le64 (n := k) (by omega)
  have hbl := lt_two_pow_bl k
  refine enter Try.func25 rfl rfl rfl ?_
  repeat' (first | refine TL.ev (ev_simple rfl) rfl ?_ | refine TL.grun rfl rfl rfl ?_ | refine TL.gskip rfl rfl rfl rfl ?_ | refine TL.gskipU rfl rfl rfl ?_ | refine TL.ev (ev_len rfl) rfl ?_ | (refine TL.cmpG rfl rfl rfl rfl (fun hc => ?_) (fun hc => ?_) <;> try (exfalso; omega)) | refine TL.ev (ev_arN rfl rfl rfl (by omega)) rfl ?_ | refine TL.ev (ev_arI rfl rfl rfl (by omega)) rfl ?_ | refine TL.ev (ev_neg rfl (by omega)) rfl ?_ | refine TL.ev (ev_shrU rfl rfl (by first | omega | exact U64.getD (by assumption) _)) rfl ?_ | refine TL.ev (ev_shlU rfl rfl) rfl ?_ | refine TL.ev (ev_andU rfl rfl (by first | omega | exact U64.getD (by assumption) _) (by first | omega | exact U64.getD (by assumption) _)) rfl ?_ | refine TL.ev (ev_orU rfl rfl (by first | omega | exact U64.getD (by assumption) _) (by first | omega | exact U64.getD (by assumption) _)) rfl ?_ | refine TL.ev (ev_xorU rfl rfl (by first | omega | exact U64.getD (by assumption) _) (by first | omega | exact U64.getD (by assumption) _)) rfl ?_ | refine TL.ev (ev_convU rfl (by omega)) rfl ?_ | refine TL.ev (ev_convI rfl (by omega)) rfl ?_ | refine TL.ev (ev_arU rfl rfl rfl (by first | exact True.intro | omega)) rfl ?_ | (refine TL.callP rfl rfl (len_ok _ (by omega)) (fun q1 => ?_)) | (refine TL.build1U rfl rfl (fun w1 b1 eb1 hB1 hE1 hz1 => ?_)) | refine T.seq ?_ | refine T.region ?_ | refine TL.nil ?_ | refine T.block ?_ | refine T.cond_t rfl ?_ | refine T.cond_f rfl ?_ | refine T.exit ?_ | refine T.ret ?_ | refine T.skip ?_ | refine G.next ?_ | refine G.blockN ?_ | refine G.blockE ?_ | refine G.blockE' rfl ?_ | refine G.blockR ?_ | refine G.thenE ?_ | refine G.thenR ?_ | refine T.regionQ mixed (by kernel_rfl) ?_ | refine TL.nilQ (fun _ => ?_) | refine G.only ?_ | refine G.mixed ?_ | refine TM.nil ?_ | refine TM.e rfl ?_)
  have hw0 : Ow u64v w1.heap w.heap.size 25 (some ⟨b1, 0, none⟩) 1 1 (dig (val l ^ (k / 2 ^ (bl k)))) := by
    have := hB1.ow (lo := w.heap.size) (k := 1) (c := 1) (Nat.le_refl _) rfl (by unfold maxLen; simp) (by omega)
    rw [Nat.div_eq_of_lt hbl, Nat.pow_zero, dig_one]
    exact this
  refine T.loop (α := Int × SA Nat) (fun x => [(0, .slice A n c), (1, .int .i64 (k : Int)), (6, .slice x.2.A x.2.n x.2.c), (7, .int .i64 x.1)])
    (fun x w' => -1 ≤ x.1 ∧ x.1 < 64 ∧ Ext w w' ∧ Ow u64v w'.heap w.heap.size 25 x.2.A x.2.n x.2.c (dig (val l ^ (k / 2 ^ (x.1 + 1).toNat))))
    (fun x => (x.1 + 1).toNat) ((bl k : Int) - 1, ⟨some ⟨b1, 0, none⟩, 1, 1, []⟩) (by repeat (first | exact Sub.nil _ | refine Sub.cons rfl ?_ | refine Sub.cons' rfl (int_congr (by omega)) ?_)) ⟨by dsimp only; omega, by dsimp only; omega, hE1.drewN _, ?_⟩ ?_
  · dsimp only
    rw [show ((bl k : Int) - 1 + 1).toNat = bl k by omega]
    exact hw0
  rintro ⟨x, ⟨A1, n1, c1, l1⟩⟩ w2 ⟨hx0, hx1, hE2, hO⟩
  dsimp only at hx0 hx1 hE2 hO ⊢
  have hl := hO.len
  rcases (show x = -1 ∨ 0 ≤ x by omega) with rfl | hx
  · repeat' (first | refine TL.ev (ev_simple rfl) rfl ?_ | refine TL.grun rfl rfl rfl ?_ | refine TL.gskip rfl rfl rfl rfl ?_ | refine TL.gskipU rfl rfl rfl ?_ | refine TL.ev (ev_len rfl) rfl ?_ | (refine TL.cmpG rfl rfl rfl rfl (fun hc => ?_) (fun hc => ?_) <;> try (exfalso; omega)) | refine TL.ev (ev_arN rfl rfl rfl (by omega)) rfl ?_ | refine TL.ev (ev_arI rfl rfl rfl (by omega)) rfl ?_ | refine TL.ev (ev_neg rfl (by omega)) rfl ?_ | refine T.seq ?_ | refine T.region ?_ | refine TL.nil ?_ | refine T.block ?_ | refine T.cond_t rfl ?_ | refine T.cond_f rfl ?_ | refine T.exit ?_ | refine T.ret ?_ | refine T.skip ?_ | refine G.next ?_ | refine G.blockN ?_ | refine G.blockE ?_ | refine G.blockE' rfl ?_ | refine G.blockR ?_ | refine G.thenE ?_ | refine G.thenR ?_ | refine T.regionQ mixed (by kernel_rfl) ?_ | refine TL.nilQ (fun _ => ?_) | refine G.only ?_ | refine G.mixed ?_ | refine TM.nil ?_ | refine TM.e rfl ?_)
    have e : (-1 + 1 : Int).toNat = 0 := rfl
    rw [e, Nat.pow_zero, Nat.div_one] at hO hl
    have := dig_pow_len hu k
    rw [hlen] at this
    exact G.ret2 rfl rfl rfl (RetNE.mk hO hE2 (by omega))
  · obtain ⟨m, rfl⟩ := Int.eq_ofNat_of_zero_le hx
    rw [show ((m : Int) + 1).toNat = m + 1 by omega] at hO hl
    have hq := dig_pow_len hu (k / 2 ^ (m + 1))
    have hd : k / 2 ^ (m + 1) ≤ k := Nat.div_le_self _ _
    have hm : n * (k / 2 ^ (m + 1)) ≤ 1073741824 * 256 := Nat.mul_le_mul hn (by omega)
    rw [hlen] at hq
    have hs1 := hO.sl (Nat.le_refl _)
    have hd2 := div_two_pow k m
    have hlt : k / 2 ^ m < 9223372036854775808 := Nat.lt_of_le_of_lt (Nat.div_le_self _ _) (by omega)
    repeat' (first | refine TL.ev (ev_simple rfl) rfl ?_ | refine TL.grun rfl rfl rfl ?_ | refine TL.gskip rfl rfl rfl rfl ?_ | refine TL.gskipU rfl rfl rfl ?_ | (refine TL.call rfl rfl ?_; first | (refine (square_ok _ _ _ _ _ _ hs1 (U64_dig _) (by omega)).mono ?_; rintro _ w3 ⟨A3, n3, c3, rfl, hO3, hE3, hK3⟩; refine Back.mk ?_; rw [val_dig] at hO3; have hs3 := hO3.sl (Nat.le_refl _)) | (refine (mul_ok _ _ _ _ _ _ _ _ _ _ _ hs3 (hs.ext (hE2.trans hE3)) (U64_dig _) hu (by omega)).mono ?_; rintro _ w4 ⟨A4, n4, c4, rfl, hO4, hE4, hK4⟩; refine Back.mk ?_; rw [val_dig] at hO4)) | refine TL.ev (ev_len rfl) rfl ?_ | (refine TL.cmpG rfl rfl rfl rfl (fun hc => ?_) (fun hc => ?_) <;> try (exfalso; omega)) | refine TL.ev (ev_arN rfl rfl rfl (by omega)) rfl ?_ | refine TL.ev (ev_arI rfl rfl rfl (by omega)) rfl ?_ | refine TL.ev (ev_neg rfl (by omega)) rfl ?_ | refine TL.ev (ev_subU rfl rfl (by omega)) rfl ?_ | refine TL.ev (ev_shrI rfl rfl (by omega)) rfl ?_ | refine TL.ev (ev_andI rfl rfl (by omega) (by omega)) rfl ?_ | refine TL.ev (ev_max2 rfl rfl) rfl ?_ | refine TL.ev (ev_min2 rfl rfl) rfl ?_ | refine T.seq ?_ | refine T.region ?_ | refine TL.nil ?_ | refine T.block ?_ | refine T.cond_t rfl ?_ | refine T.cond_f rfl ?_ | refine T.exit ?_ | refine T.ret ?_ | refine T.skip ?_ | refine G.next ?_ | refine G.blockN ?_ | refine G.blockE ?_ | refine G.blockE' rfl ?_ | refine G.blockR ?_ | refine G.thenE ?_ | refine G.thenR ?_ | refine T.regionQ mixed (by kernel_rfl) ?_ | refine TL.nilQ (fun _ => ?_) | refine G.only ?_ | refine G.mixed ?_ | refine TM.nil ?_ | refine TM.e rfl ?_)
    · have hodd : k / 2 ^ m % 2 = 1 := by rw [← Nat.and_one_is_mod]; omega
      refine G.again ((m : Int) - 1, ⟨A4, n4, c4, []⟩) (by repeat (first | exact Sub.nil _ | refine Sub.cons rfl ?_ | refine Sub.cons' rfl (int_congr (by omega)) ?_)) ⟨by dsimp only; omega, by dsimp only; omega, (hE2.trans hE3).trans hE4, ?_⟩ (by dsimp only; omega)
      dsimp only
      rw [show ((m : Int) - 1 + 1).toNat = m by omega, pow_odd (show k / 2 ^ m = 2 * (k / 2 ^ (m + 1)) + 1 by omega)]
      exact hO4.mono (hE2.trans hE3).size
    · have hodd : k / 2 ^ m % 2 = 0 := by
        have : ¬ (k / 2 ^ m &&& 1) = 1 := fun h => by simp [h] at *
        rw [Nat.and_one_is_mod] at this
        omega
      refine G.again ((m : Int) - 1, ⟨A3, n3, c3, []⟩) (by repeat (first | exact Sub.nil _ | refine Sub.cons rfl ?_ | refine Sub.cons' rfl (int_congr (by omega)) ?_)) ⟨by dsimp only; omega, by dsimp only; omega, hE2.trans hE3, ?_⟩ (by dsimp only; omega)
      dsimp only
      rw [show ((m : Int) - 1 + 1).toNat = m by omega, pow_even (show k / 2 ^ m = 2 * (k / 2 ^ (m + 1)) by omega)]
      exact hO3.mono hE2.size
end Go.Proofs.Ytgmhldapndhoeaa
