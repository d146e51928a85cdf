/- Layers 1 and 2: contracts of nat.Low, nat.Shl, mulnat.Mul, Word, MulAdd, MulLow, Square. -/
import Derived.Test.YtgmhldapndhoeaaDoorMulD
import Derived.Test.YtgmhldapndhoeaaDoorNatC
import Derived.Test.YtgmhldapndhoeaaDoorNatD
set_option linter.unusedVariables false
set_option linter.unusedSimpArgs false
namespace Go.Proofs.YtgmhldapndhoeaaDoor
open Go Go.Eng Go.Proofs Go.NatM

theorem mul_ok (w : World) (B B' : Nat) (A A' : Option Addr) (n c n' c' : Nat) (l l' : List Nat) (hs : Sl u64v w.heap B A n c l) (hs' : Sl u64v w.heap B' A' n' c' l') (hu : U64 l) (hu' : U64 l') (hn : n + n' ≤ 35184372088832) :
    Cl Tryd.prog 28 #[.slice A n c, .slice A' n' c'] w (RetN w (dig (val l * val l')) (n + n')) := by
  have h1 := sz_le l
  have h2 := sz_le l'
  rw [hs.len] at h1
  rw [hs'.len] at h2
  refine enter Tryd.func28 rfl rfl rfl ?_
  repeat' (first | refine TL.ev (ev_simple rfl) rfl ?_ | refine TL.grun rfl rfl rfl ?_ | refine TL.gskip rfl rfl rfl rfl ?_ | refine TL.gskipU rfl rfl rfl ?_ | (refine TL.call rfl rfl ?_; first | (refine (product_ok _ _ _ _ _ _ _ _ _ _ _ hs hs' hu hu' hn).mono ?_; rintro _ w1 ⟨b1, D1, rfl, k1, B1, L1, u1, v1, E1⟩; refine Back.mk ?_; rw [← v1]) | (refine (least_ok _ _ _ _ _ _ (B1.slN L1 (Nat.le_refl _) B1.lt) u1 (by omega)).mono ?_; rintro _ w2 ⟨A2, n2, c2, rfl, hO2, hE2, hK2⟩; refine Back.mk ?_)) | refine TL.ev (ev_len rfl) rfl ?_ | (refine TL.cmpG rfl rfl rfl rfl (fun hc => ?_) (fun hc => ?_) <;> try (exfalso; omega)) | refine TL.ev (ev_arN rfl rfl rfl (by omega)) rfl ?_ | refine TL.ev (ev_arI rfl rfl rfl (by omega)) rfl ?_ | refine TL.ev (ev_neg rfl (by omega)) rfl ?_ | refine T.seq ?_ | refine T.region ?_ | refine TL.nil ?_ | refine T.block ?_ | refine T.cond_t rfl ?_ | refine T.cond_f rfl ?_ | refine T.exit ?_ | refine T.ret ?_ | refine T.skip ?_ | refine G.next ?_ | refine G.blockN ?_ | refine G.blockE ?_ | refine G.blockE' rfl ?_ | refine G.blockR ?_ | refine G.thenE ?_ | refine G.thenR ?_ | refine T.regionQ mixed (by kernel_rfl) ?_ | refine TL.nilQ (fun _ => ?_) | refine G.only ?_ | refine G.mixed ?_ | refine TM.nil ?_ | refine TM.e rfl ?_)
  exact G.ret1 rfl rfl (RetN.mk (hO2.mono E1.size) (E1.trans hE2) (by omega))
set_option maxHeartbeats 1000000 in
theorem low_ok (w : World) (B : Nat) (A : Option Addr) (n c : Nat) (l : List Nat) {z : Int} {k : Nat} [e0 : IsN z k] (hs : Sl u64v w.heap B A n c l) (hu : U64 l) (hn : n ≤ 35184372088832) (hk : k < 9223372036854775808) :
    Cl Tryd.prog 14 #[.slice A n c, .int .i64 z] w (RetNE w (dig (val l % 2 ^ k)) n 0) := by
  obtain rfl := e0.out
  have hlen := hs.len
  have hcap := hs.cap
  have hsz := sz_le l
  have hx := hu.getD (k / 64)
  have hpos := shl_one_pos (n := k % 64) (Nat.mod_lt _ (by omega))
  refine enter Tryd.func14 rfl rfl rfl ?_
  repeat' (first | refine TL.ev (ev_simple rfl) rfl ?_ | refine TL.grun rfl rfl rfl ?_ | refine TL.gskip rfl rfl rfl rfl ?_ | refine TL.gskipU rfl rfl rfl ?_ | (refine TL.call rfl rfl ?_; first | (refine (own_ok _ _ _ _ _ _ (by exact hs) hu hn).mono ?_; rintro _ w1 ⟨A1, n1, c1, rfl, hO, hE, hK⟩; refine Back.mk ?_)) | refine TL.ev (ev_len rfl) rfl ?_ | (refine TL.cmpG rfl rfl rfl rfl (fun hc => ?_) (fun hc => ?_) <;> try (exfalso; omega)) | refine TL.ev (ev_arN rfl rfl rfl (by omega)) rfl ?_ | refine TL.ev (ev_arI rfl rfl rfl (by omega)) rfl ?_ | refine TL.ev (ev_neg rfl (by omega)) rfl ?_ | refine TL.ev (ev_indexN rfl rfl (by omega) (by first | exact Or.inr rfl | exact Sl.some (by assumption))) rfl ?_ | refine TL.ev (ev_index rfl rfl (by omega) (by first | exact Or.inr rfl | exact Sl.some (by assumption))) rfl ?_ | refine TL.ev (ev_loadU rfl (by assumption) (by omega)) rfl ?_ | refine TL.ev (ev_loadI rfl (by assumption) (by omega)) rfl ?_ | refine TL.ev (ev_sl_h rfl rfl (by omega)) rfl ?_ | refine TL.ev (ev_sl_l rfl rfl (by omega) (by omega)) rfl ?_ | refine TL.ev (ev_sl_lh rfl rfl rfl (by omega) (by omega)) rfl ?_ | refine TL.ev (ev_sl_hm rfl rfl rfl (by omega) (by omega)) rfl ?_ | refine TL.ev (ev_sl_lhm rfl rfl rfl rfl (by omega) (by omega) (by omega)) rfl ?_ | refine TL.ev (ev_subU rfl rfl (by omega)) rfl ?_ | refine TL.ev (ev_shrI rfl rfl (by omega)) rfl ?_ | refine TL.ev (ev_andI rfl rfl (by omega) (by omega)) rfl ?_ | refine TL.ev (ev_max2 rfl rfl) rfl ?_ | refine TL.ev (ev_min2 rfl rfl) rfl ?_ | refine TL.ev (ev_shrU rfl rfl (by first | omega | exact U64.getD (by assumption) _)) rfl ?_ | refine TL.ev (ev_shlU rfl rfl) rfl ?_ | refine TL.ev (ev_andU rfl rfl (by first | omega | exact U64.getD (by assumption) _) (by first | omega | exact U64.getD (by assumption) _)) rfl ?_ | refine TL.ev (ev_orU rfl rfl (by first | omega | exact U64.getD (by assumption) _) (by first | omega | exact U64.getD (by assumption) _)) rfl ?_ | refine TL.ev (ev_xorU rfl rfl (by first | omega | exact U64.getD (by assumption) _) (by first | omega | exact U64.getD (by assumption) _)) rfl ?_ | refine TL.ev (ev_convU rfl (by omega)) rfl ?_ | refine TL.ev (ev_convI rfl (by omega)) rfl ?_ | refine TL.ev (ev_arU rfl rfl rfl (by first | exact True.intro | omega)) rfl ?_ | (refine TL.callP rfl rfl (size_ok _ _ _ _ _ _ hs (by omega)) (fun q1 => ?_)) | (refine TL.makeU rfl rfl rfl (by omega) (by omega) (fun w1 b1 eb hB hE hz => ?_); simp only [World.heap_drewN] at eb hz; have hs1 := hs.ext ((ext_drewN w q1).trans hE); have hs2 := hs1.take (k := k / 64) (m := c) (by omega) (by omega)) | (refine TL.copy (f := u64v) (fun _ => rfl) rfl rfl rfl hB hs2 (by simp) (fun w2 hB2 hU => ?_); have hs3 := (hs.size.ext ((ext_drewN w q1).trans hE)).upd hU (by omega)) | (refine TL.storeU rfl rfl hB2 (by simp; omega) (fun w3 hB3 hU3 => ?_)) | refine T.seq ?_ | refine T.region ?_ | refine TL.nil ?_ | refine T.block ?_ | refine T.cond_t rfl ?_ | refine T.cond_f rfl ?_ | refine T.exit ?_ | refine T.ret ?_ | refine T.skip ?_ | refine G.next ?_ | refine G.blockN ?_ | refine G.blockE ?_ | refine G.blockE' rfl ?_ | refine G.blockR ?_ | refine G.thenE ?_ | refine G.thenR ?_ | refine T.regionQ mixed (by kernel_rfl) ?_ | refine TL.nilQ (fun _ => ?_) | refine G.only ?_ | refine G.mixed ?_ | refine TM.nil ?_ | refine TM.e rfl ?_)
  · rw [low_big hu (by omega)]
    exact G.ret2 rfl rfl rfl (RetNE.mk hO ((ext_drewN _ _).trans hE) hK)
  · have e : (List.take 0 (List.replicate (k / 64 + 1) 0) ++ List.take (min (k / 64) (k / 64 + 1)) (List.take (k / 64) l) ++ List.drop (0 + min (k / 64) (k / 64 + 1)) (List.replicate (k / 64 + 1) 0)).set (k / 64) (l.getD (k / 64) 0 &&& (1 * 2 ^ (k % 64) % 18446744073709551616 - 1)) = l.take (k / 64) ++ [l.getD (k / 64) 0 % 2 ^ (k % 64)] := by
      rw [Nat.min_eq_left (by omega), shl_one (Nat.mod_lt _ (by omega)), and_low]
      have := set_zeros (l.take (k / 64)) 0 (l.getD (k / 64) 0 % 2 ^ (k % 64))
      rw [List.length_take, Nat.min_eq_left (by omega)] at this
      simpa [List.take_take, List.drop_replicate] using this
    rw [e] at hB3
    have u3 : U64 (l.take (k / 64) ++ [l.getD (k / 64) 0 % 2 ^ (k % 64)]) := (hu.take _).append (U64.one (Nat.lt_of_le_of_lt (Nat.mod_le _ _) (hu.getD _)))
    have v3 := low_val hu (n := k) (by omega)
    have l3 : (l.take (k / 64) ++ [l.getD (k / 64) 0 % 2 ^ (k % 64)]).length = k / 64 + 1 := by simp; omega
    generalize l.take (k / 64) ++ [l.getD (k / 64) 0 % 2 ^ (k % 64)] = D at *
    have hS := hB3.slN l3 (Nat.le_refl _) hB3.lt
    have hs0 := sz_le D
    repeat' (first | refine TL.ev (ev_simple rfl) rfl ?_ | refine TL.grun rfl rfl rfl ?_ | refine TL.gskip rfl rfl rfl rfl ?_ | refine TL.gskipU rfl rfl rfl ?_ | refine TL.ev (ev_len rfl) rfl ?_ | (refine TL.cmpG rfl rfl rfl rfl (fun hc => ?_) (fun hc => ?_) <;> try (exfalso; omega)) | refine TL.ev (ev_arN rfl rfl rfl (by omega)) rfl ?_ | refine TL.ev (ev_arI rfl rfl rfl (by omega)) rfl ?_ | refine TL.ev (ev_neg rfl (by omega)) rfl ?_ | refine TL.ev (ev_indexN rfl rfl (by omega) (by first | exact Or.inr rfl | exact Sl.some (by assumption))) rfl ?_ | refine TL.ev (ev_index rfl rfl (by omega) (by first | exact Or.inr rfl | exact Sl.some (by assumption))) rfl ?_ | refine TL.ev (ev_loadU rfl (by assumption) (by omega)) rfl ?_ | refine TL.ev (ev_loadI rfl (by assumption) (by omega)) rfl ?_ | refine TL.ev (ev_sl_h rfl rfl (by omega)) rfl ?_ | refine TL.ev (ev_sl_l rfl rfl (by omega) (by omega)) rfl ?_ | refine TL.ev (ev_sl_lh rfl rfl rfl (by omega) (by omega)) rfl ?_ | refine TL.ev (ev_sl_hm rfl rfl rfl (by omega) (by omega)) rfl ?_ | refine TL.ev (ev_sl_lhm rfl rfl rfl rfl (by omega) (by omega) (by omega)) rfl ?_ | (refine TL.callP rfl rfl (size_ok _ _ _ _ _ _ hS (by omega)) (fun _ => ?_)) | refine T.seq ?_ | refine T.region ?_ | refine TL.nil ?_ | refine T.block ?_ | refine T.cond_t rfl ?_ | refine T.cond_f rfl ?_ | refine T.exit ?_ | refine T.ret ?_ | refine T.skip ?_ | refine G.next ?_ | refine G.blockN ?_ | refine G.blockE ?_ | refine G.blockE' rfl ?_ | refine G.blockR ?_ | refine G.thenE ?_ | refine G.thenR ?_ | refine T.regionQ mixed (by kernel_rfl) ?_ | refine TL.nilQ (fun _ => ?_) | refine G.only ?_ | refine G.mixed ?_ | refine TM.nil ?_ | refine TM.e rfl ?_)
    have := hB3.ow (lo := w.heap.size) (k := sz D) (c := k / 64 + 1) hs0 (by omega) (by unfold maxLen; omega) (by omega)
    rw [take_sz u3, v3] at this
    exact G.ret2 rfl rfl rfl (RetNE.mk this (((((ext_drewN w q1).trans hE).upd hU (by omega)).upd hU3 (by omega)).drewN _) (by omega))
end Go.Proofs.YtgmhldapndhoeaaDoor
