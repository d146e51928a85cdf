/- Layer 2: contract of mulnat.Product. -/
import Derived.Test.YtgmhldapndhoeaaMulG
set_option linter.unusedVariables false
set_option linter.unusedSimpArgs false
namespace Go.Proofs.Ytgmhldapndhoeaa
open Go Go.Eng Go.Proofs Go.NatM

/-- the words of each -/
def LS (H : Array Obj) (B : Nat) (L : List (SA Nat)) : Prop := ∀ x ∈ L, Sl u64v H B x.A x.n x.c x.l ∧ U64 x.l
theorem LS.ext {w w' : World} {B : Nat} {L : List (SA Nat)} (hb : Ext w w') (h : LS w.heap B L) : LS w'.heap B L := fun x hx => ⟨(h x hx).1.ext hb, (h x hx).2⟩
theorem LS.take {H : Array Obj} {B : Nat} {L : List (SA Nat)} (h : LS H B L) (k : Nat) : LS H B (L.take k) := fun x hx => h x (List.mem_of_mem_take hx)
theorem LS.drop {H : Array Obj} {B : Nat} {L : List (SA Nat)} (h : LS H B L) (k : Nat) : LS H B (L.drop k) := fun x hx => h x (List.mem_of_mem_drop hx)
def tot : List (SA Nat) → Nat
  | [] => 0
  | x :: L => x.n + tot L
def prodV : List (SA Nat) → Nat
  | [] => 1
  | x :: L => val x.l * prodV L
theorem tot_append (L R : List (SA Nat)) : tot (L ++ R) = tot L + tot R := by
  induction L with
  | nil => simp [tot]
  | cons x L ih => simp only [List.cons_append, tot, ih]; omega
theorem prodV_append (L R : List (SA Nat)) : prodV (L ++ R) = prodV L * prodV R := by
  induction L with
  | nil => simp [prodV]
  | cons x L ih => simp only [List.cons_append, prodV, ih, Nat.mul_assoc]
theorem prodV_lt {H : Array Obj} {B : Nat} : ∀ {L : List (SA Nat)}, LS H B L → prodV L ≤ 18446744073709551616 ^ tot L
  | [], _ => by simp [prodV, tot]
  | x :: L, h => by
    have h1 := h x (by simp)
    have h2 := prodV_lt (L := L) (fun y hy => h y (by simp [hy]))
    have h3 := val_lt h1.2
    rw [h1.1.len] at h3
    simp only [prodV, tot, Nat.pow_add]
    exact Nat.mul_le_mul (Nat.le_of_lt h3) h2
theorem prodV_len {H : Array Obj} {B : Nat} {L : List (SA Nat)} (h : LS H B L) : (dig (prodV L)).length ≤ tot L + 1 := by
  refine dig_length_le ?_
  have h1 := prodV_lt h
  rw [Nat.pow_succ]
  have h2 : 0 < 18446744073709551616 ^ tot L := Nat.pow_pos (by omega)
  omega

theorem lprod_two {L : List (SA Nat)} (k : Nat) : prodV (L.take k) * prodV (L.drop k) = prodV L ∧ tot (L.take k) + tot (L.drop k) = tot L := by
  rw [← prodV_append, ← tot_append, List.take_append_drop]; exact ⟨rfl, rfl⟩

set_option maxHeartbeats 1000000 in
theorem lprod_all : ∀ (N n : Nat) (w : World) (B B' : Nat) (A : Option Addr) (c : Nat) (L : List (SA Nat)), n ≤ N → Sl sav w.heap B A n c L → LS w.heap B' L → tot L ≤ 35184372088800 → n ≤ 35184372088800 →
    Cl Try.prog 20 #[.slice A n c] w (RetN w (dig (prodV L)) (tot L + 1)) := by
  intro N
  induction N with
  | zero =>
    intro n w B B' A c L hN hs hL ht hn
    have hlen := hs.len
    obtain rfl : n = 0 := by omega
    obtain rfl : L = [] := List.eq_nil_of_length_eq_zero hlen
    refine enter Try.func20 rfl rfl rfl ?_
    repeat' (first | refine TL.ev (ev_simple rfl) rfl ?_ | refine TL.grun rfl rfl rfl ?_ | refine TL.gskip rfl rfl rfl rfl ?_ | refine TL.gskipU rfl rfl rfl ?_ | refine TL.ev (ev_len rfl) rfl ?_ | (refine TL.cmpG rfl rfl rfl rfl (fun hc => ?_) (fun hc => ?_) <;> try (exfalso; omega)) | refine TL.ev (ev_arN rfl rfl rfl (by omega)) rfl ?_ | refine TL.ev (ev_arI rfl rfl rfl (by omega)) rfl ?_ | refine TL.ev (ev_neg rfl (by omega)) rfl ?_ | (refine TL.build1U rfl rfl (fun w1 b1 eb1 hB1 hE1 hz1 => ?_)) | refine T.seq ?_ | refine T.region ?_ | refine TL.nil ?_ | refine T.block ?_ | refine T.cond_t rfl ?_ | refine T.cond_f rfl ?_ | refine T.exit ?_ | refine T.ret ?_ | refine T.skip ?_ | refine G.next ?_ | refine G.blockN ?_ | refine G.blockE ?_ | refine G.blockE' rfl ?_ | refine G.blockR ?_ | refine G.thenE ?_ | refine G.thenR ?_ | refine T.regionQ mixed (by kernel_rfl) ?_ | refine TL.nilQ (fun _ => ?_) | refine G.only ?_ | refine G.mixed ?_ | refine TM.nil ?_ | refine TM.e rfl ?_)
    have := hB1.ow (lo := w.heap.size) (k := 1) (c := 1) (Nat.le_refl _) rfl (by unfold maxLen; simp) (by omega)
    refine G.ret1 rfl rfl (RetN.mk ?_ hE1 (by simp [tot]))
    simp only [prodV, dig_one]
    exact this
  | succ N IH =>
    intro n w B B' A c L hN hs hL ht hn
    have hlen := hs.len
    have hcap := hs.cap
    rcases (show n = 0 ∨ n = 1 ∨ 2 ≤ n by omega) with h | h | h
    · exact IH n w B B' A c L (by omega) hs hL ht hn
    · subst h
      obtain ⟨x, rfl⟩ : ∃ x, L = [x] := List.length_eq_one_iff.1 hlen
      have hx := hL x (by simp)
      have e1 : prodV [x] = val x.l := by simp [prodV]
      have e2 : tot [x] = x.n := by simp [tot]
      rw [e1, e2]
      rw [e2] at ht
      refine enter Try.func20 rfl rfl rfl ?_
      repeat' (first | refine TL.ev (ev_simple rfl) rfl ?_ | refine TL.grun rfl rfl rfl ?_ | refine TL.gskip rfl rfl rfl rfl ?_ | refine TL.gskipU rfl rfl rfl ?_ | (refine TL.call rfl rfl ?_; first | (refine (least_ok _ _ _ _ _ _ (by exact hx.1) hx.2 (show x.n ≤ 35184372088832 by omega)).mono ?_; rintro _ w2 ⟨A2, n2, c2, rfl, hO2, hE2, hK2⟩; refine Back.mk ?_)) | refine TL.ev (ev_len rfl) rfl ?_ | (refine TL.cmpG rfl rfl rfl rfl (fun hc => ?_) (fun hc => ?_) <;> try (exfalso; omega)) | refine TL.ev (ev_arN rfl rfl rfl (by omega)) rfl ?_ | refine TL.ev (ev_arI rfl rfl rfl (by omega)) rfl ?_ | refine TL.ev (ev_neg rfl (by omega)) rfl ?_ | refine TL.ev (ev_indexN rfl rfl (by omega) (by first | exact Or.inr rfl | exact Sl.some (by assumption))) rfl ?_ | refine TL.ev (ev_index rfl rfl (by omega) (by first | exact Or.inr rfl | exact Sl.some (by assumption))) rfl ?_ | refine TL.ev (ev_loadU rfl (by assumption) (by omega)) rfl ?_ | refine TL.ev (ev_loadI rfl (by assumption) (by omega)) rfl ?_ | (refine TL.ev (ev_loadS rfl hs (by omega)) rfl ?_) | refine T.seq ?_ | refine T.region ?_ | refine TL.nil ?_ | refine T.block ?_ | refine T.cond_t rfl ?_ | refine T.cond_f rfl ?_ | refine T.exit ?_ | refine T.ret ?_ | refine T.skip ?_ | refine G.next ?_ | refine G.blockN ?_ | refine G.blockE ?_ | refine G.blockE' rfl ?_ | refine G.blockR ?_ | refine G.thenE ?_ | refine G.thenR ?_ | refine T.regionQ mixed (by kernel_rfl) ?_ | refine TL.nilQ (fun _ => ?_) | refine G.only ?_ | refine G.mixed ?_ | refine TM.nil ?_ | refine TM.e rfl ?_)
      exact G.ret1 rfl rfl (RetN.mk hO2 hE2 (show n2 ≤ x.n + 1 from Nat.le_succ_of_le hK2))
    · obtain ⟨p1, p2⟩ := lprod_two (L := L) (n / 2)
      have hs1 := hs.take (k := n / 2) (m := n / 2) (by omega) (Nat.le_refl _)
      have hs2 := hs.dropC (k := n / 2) (m := c) (m' := c - n / 2) (by omega) (by omega) (by omega)
      refine enter Try.func20 rfl rfl rfl ?_
      repeat' (first | refine TL.ev (ev_simple rfl) rfl ?_ | refine TL.grun rfl rfl rfl ?_ | refine TL.gskip rfl rfl rfl rfl ?_ | refine TL.gskipU rfl rfl rfl ?_ | (refine TL.call rfl rfl ?_; first | (refine (IH _ _ _ _ _ _ _ (by omega) (by exact hs1) (by exact hL.take _) (by omega) (by omega)).mono ?_; rintro _ w2 ⟨A2, n2, c2, rfl, hO2, hE2, hK2⟩; refine Back.mk ?_; have hE2' := (ext_drewN w 1).trans hE2) | (refine (IH _ _ _ _ _ _ _ (by omega) (by exact hs2.ext hE2') (by exact LS.ext hE2' (hL.drop _)) (by omega) (by omega)).mono ?_; rintro _ w3 ⟨A3, n3, c3, rfl, hO3, hE3, hK3⟩; refine Back.mk ?_) | (refine (mul_ok _ _ _ _ _ _ _ _ _ _ _ ((hO2.ext hE3).sl (Nat.le_refl _)) (hO3.sl (Nat.le_refl _)) (U64_dig _) (U64_dig _) (by omega)).mono ?_; rintro _ w4 ⟨A4, n4, c4, rfl, hO4, hE4, hK4⟩; refine Back.mk ?_)) | refine TL.ev (ev_len rfl) rfl ?_ | (refine TL.cmpG rfl rfl rfl rfl (fun hc => ?_) (fun hc => ?_) <;> try (exfalso; omega)) | refine TL.ev (ev_arN rfl rfl rfl (by omega)) rfl ?_ | refine TL.ev (ev_arI rfl rfl rfl (by omega)) rfl ?_ | refine TL.ev (ev_neg rfl (by omega)) rfl ?_ | refine TL.ev (ev_sl_h rfl rfl (by omega)) rfl ?_ | refine TL.ev (ev_sl_l rfl rfl (by omega) (by omega)) rfl ?_ | refine TL.ev (ev_sl_lh rfl rfl rfl (by omega) (by omega)) rfl ?_ | refine TL.ev (ev_sl_hm rfl rfl rfl (by omega) (by omega)) rfl ?_ | refine TL.ev (ev_sl_lhm rfl rfl rfl rfl (by omega) (by omega) (by omega)) rfl ?_ | refine TM.f rfl (fun _ => ev_simple rfl) rfl ?_ | refine TM.s rfl (ev_simple rfl) rfl ?_ | refine TM.f rfl (fun _ => ev_len rfl) rfl ?_ | refine TM.s rfl (ev_len rfl) rfl ?_ | refine TM.f rfl (fun _ => ev_arN rfl rfl rfl (by omega)) rfl ?_ | refine TM.s rfl (ev_arN rfl rfl rfl (by omega)) rfl ?_ | refine TM.f rfl (fun _ => ev_arI rfl rfl rfl (by omega)) rfl ?_ | refine TM.s rfl (ev_arI rfl rfl rfl (by omega)) rfl ?_ | refine TM.f rfl (fun _ => ev_neg rfl (by omega)) rfl ?_ | refine TM.s rfl (ev_neg rfl (by omega)) rfl ?_ | refine TM.f rfl (fun _ => ev_sl_h rfl rfl (by omega)) rfl ?_ | refine TM.s rfl (ev_sl_h rfl rfl (by omega)) rfl ?_ | refine TM.f rfl (fun _ => ev_sl_l rfl rfl (by omega) (by omega)) rfl ?_ | refine TM.s rfl (ev_sl_l rfl rfl (by omega) (by omega)) rfl ?_ | refine TM.f rfl (fun _ => ev_sl_lh rfl rfl rfl (by omega) (by omega)) rfl ?_ | refine TM.s rfl (ev_sl_lh rfl rfl rfl (by omega) (by omega)) rfl ?_ | refine TM.f rfl (fun _ => ev_sl_hm rfl rfl rfl (by omega) (by omega)) rfl ?_ | refine TM.s rfl (ev_sl_hm rfl rfl rfl (by omega) (by omega)) rfl ?_ | refine TM.f rfl (fun _ => ev_sl_lhm rfl rfl rfl rfl (by omega) (by omega) (by omega)) rfl ?_ | refine TM.s rfl (ev_sl_lhm rfl rfl rfl rfl (by omega) (by omega) (by omega)) rfl ?_ | refine TM.f rfl (fun _ => ev_loadS rfl hs (by omega)) rfl ?_ | refine TM.s rfl (ev_loadS rfl hs (by omega)) rfl ?_ | refine T.regionM [(0, 0), (1, 0), (2, 0), (3, 0), (5, 0), (6, 0), (7, 0), (4, 2), (8, 2), (9, 2), (10, 0)] mixed (by kernel_rfl) ?_ | (refine TL.ev (ev_loadS rfl hs (by omega)) rfl ?_) | refine T.seq ?_ | refine T.region ?_ | refine TL.nil ?_ | refine T.block ?_ | refine T.cond_t rfl ?_ | refine T.cond_f rfl ?_ | refine T.exit ?_ | refine T.ret ?_ | refine T.skip ?_ | refine G.next ?_ | refine G.blockN ?_ | refine G.blockE ?_ | refine G.blockE' rfl ?_ | refine G.blockR ?_ | refine G.thenE ?_ | refine G.thenR ?_ | refine T.regionQ mixed (by kernel_rfl) ?_ | refine TL.nilQ (fun _ => ?_) | refine G.only ?_ | refine G.mixed ?_ | refine TM.nil ?_ | refine TM.e rfl ?_)
      rw [val_dig, val_dig, p1] at hO4
      have := hO4.len
      have := prodV_len hL
      exact G.ret1 rfl rfl (RetN.mk (hO4.mono (by have := hE2'.size; have := hE3.size; omega)) ((hE2'.trans hE3).trans hE4) (by omega))
theorem lprod_ok (w : World) (B B' : Nat) (A : Option Addr) (n c : Nat) (L : List (SA Nat)) (hs : Sl sav w.heap B A n c L) (hL : LS w.heap B' L) (ht : tot L ≤ 35184372088800) (hn : n ≤ 35184372088800) :
    Cl Try.prog 20 #[.slice A n c] w (RetN w (dig (prodV L)) (tot L + 1)) := lprod_all n n w B B' A c L (Nat.le_refl _) hs hL ht hn
end Go.Proofs.Ytgmhldapndhoeaa
