/- The walk of MulnatLists. -/
import Derived.Test.YtgmhldapndhoeaaLawD
set_option linter.unusedVariables false
set_option linter.unusedSimpArgs false
namespace Go.Proofs.Ytgmhldapndhoeaa
open Go Go.Eng Go.Proofs Go.NatM Go.RowKit

/-- slices of their own, of two types, lie in two blocks -/
theorem ow_grown {α β : Type} {f : α → Value} {g : β → Value} {w w' : World} {lo lo' n c n' c' : Nat} {t t' : TypeId} {A A' : Option Addr} {l : List α} {l' : List β}
    (h : Ow f w.heap lo t A n c l) (h' : Ow g w.heap lo' t' A' n' c' l') (hne : t ≠ t') (hg : w.grownBy w' (Value.slice A' n' c').ownBlock) : Ow f w'.heap lo t A n c l := by
  unfold Ow at h h' ⊢
  refine ⟨h.1, ?_⟩
  rcases h.2 with ⟨e, r⟩ | ⟨b, cur, e, hlo, hb, r⟩
  · exact .inl ⟨e, r⟩
  · refine .inr ⟨b, cur, e, hlo, ?_, r⟩
    have hlt := (Array.getElem?_eq_some_iff.1 hb).1
    rw [hg.block b hlt ?_, hb]
    rcases h'.2 with ⟨e', _⟩ | ⟨b', cur', e', _, hb', _⟩
    · subst e'; simp [Value.ownBlock]
    · subst e'
      intro e2
      simp [Value.ownBlock] at e2
      subst e2
      rw [hb] at hb'
      injection hb' with hb'
      injection hb' with _ ht
      exact hne ht
/-- lists of their own -/
def LO (H : Array Obj) (lo : Nat) (L : List (SA Nat)) : Prop := ∀ x ∈ L, Ow u64v H lo 25 x.A x.n x.c x.l ∧ U64 x.l
theorem LO.ls {H : Array Obj} {lo : Nat} {L : List (SA Nat)} (h : LO H lo L) : LS H H.size L := fun x hx => ⟨(h x hx).1.sl (Nat.le_refl _), (h x hx).2⟩
theorem LO.ext {w w' : World} {lo : Nat} {L : List (SA Nat)} (hb : Ext w w') (h : LO w.heap lo L) : LO w'.heap lo L := fun x hx => ⟨(h x hx).1.ext hb, (h x hx).2⟩
theorem LO.grown {β : Type} {g : β → Value} {w w' : World} {lo lo' n' c' : Nat} {t' : TypeId} {A' : Option Addr} {l' : List β} {L : List (SA Nat)} (h : LO w.heap lo L) (h' : Ow g w.heap lo' t' A' n' c' l') (hne : 25 ≠ t') (hg : w.grownBy w' (Value.slice A' n' c').ownBlock) : LO w'.heap lo L :=
  fun x hx => ⟨ow_grown (h x hx).1 h' hne hg, (h x hx).2⟩
theorem drop_at {L : List (SA Nat)} {i : Nat} (h : i < L.length) : L.drop i = L.getD i default :: L.drop (i + 1) := by
  rw [List.drop_eq_getElem_cons h]; simp [List.getD, h]
theorem getD_mem {L : List (SA Nat)} {i : Nat} (h : i < L.length) : L.getD i default ∈ L := by
  simp [List.getD, h]
theorem tot_mem {L : List (SA Nat)} {x : SA Nat} (h : x ∈ L) : x.n ≤ tot L := by
  induction L with
  | nil => cases h
  | cons y L ih =>
    simp only [tot]
    rcases List.mem_cons.1 h with rfl | h'
    · omega
    · have := ih h'; omega
theorem ow_empty {w w' : World} {b1 : Nat} {t : TypeId} (e1 : b1 = w.heap.size) (hB : Bk u64v w'.heap b1 t []) : Ow u64v w'.heap w.heap.size t (some ⟨b1, 0, none⟩) 0 0 [] := by
  have := hB.ow (lo := w.heap.size) (k := 0) (c := 0) (Nat.le_refl _) rfl (by unfold maxLen; simp) (by omega)
  simpa using this
theorem prodV_take_succ {L : List (SA Nat)} {i : Nat} (h : i < L.length) : prodV (L.take (i + 1)) = prodV (L.take i) * val (L.getD i default).l ∧ tot (L.take (i + 1)) = tot (L.take i) + (L.getD i default).n := by
  have e : L.take (i + 1) = L.take i ++ [L.getD i default] := by rw [List.take_succ_eq_append_getElem h]; simp [List.getD, h]
  rw [e, prodV_append, tot_append]
  simp [prodV, tot]
theorem lprod_1 (w : World) (H : w.heap = w.heap) : Cl Try.prog 20 #[.slice none 0 0] w (fun e w' => ∃ A c, e = .returned (.slice A 1 c) ∧ Sl u64v w'.heap w'.heap.size A 1 c [1] ∧ Ext w w') := by
  refine (lprod_ok w 0 0 none 0 0 [] (Sl.nil _ _ _ _ _) (fun x hx => by cases hx) (by simp [tot]) (by omega)).mono ?_
  rintro _ w' ⟨A1, n1, c1, rfl, hO, hE, _⟩
  simp only [prodV, dig_one] at hO
  have hS := hO.sl (Nat.le_refl _)
  obtain rfl : 1 = n1 := hS.len
  exact ⟨A1, c1, rfl, hS, hE⟩

set_option maxHeartbeats 8000000 in
theorem lists_walk (w : World) (A : Option Addr) (n c : Nat) (L : List (SA Nat)) (hs : Sl sav w.heap w.heap.size A n c L) (hL : LS w.heap w.heap.size L) (ht : tot L + n ≤ 1048576)
    (k : Int) (k1 : -9223372036854775808 ≤ k) (k2 : k < 9223372036854775808) : Cl Try.prog 6 #[.slice A n c, .int .i64 k] w (Yes w) := by
  have hlen := hs.len
  have hcap := hs.cap
  refine enter Try.func6 rfl rfl rfl ?_
  repeat' (first | refine TL.ev (ev_simple rfl) rfl ?_ | refine TL.grun rfl rfl rfl ?_ | refine TL.gskip rfl rfl rfl rfl ?_ | refine TL.gskipU rfl rfl rfl ?_ | (refine TL.call rfl rfl ?_; first | (refine (awake2_ok _).mono ?_; rintro _ w1 ⟨rfl, hE1⟩; refine Back.mk ?_) | (refine (lprod_1 _ rfl).mono ?_; rintro _ w2 ⟨A2, c2, rfl, hS2, hE2⟩; refine Back.mk ?_) | (refine (lprod_ok _ _ _ _ _ _ _ (by exact hs.ext (hE1.trans hE2)) (by exact hL.ext (hE1.trans hE2)) (by omega) (by omega)).mono ?_; rintro _ w3 ⟨A3, n3, c3, rfl, hO3, hE3, hK3⟩; refine Back.mk ?_)) | refine TL.ev (ev_len rfl) rfl ?_ | (refine TL.cmpG rfl rfl rfl rfl (fun hc => ?_) (fun hc => ?_) <;> try first | (exfalso; omega) | exact absurd rfl hc) | refine TL.ev (ev_arN rfl rfl rfl (by omega)) rfl ?_ | refine TL.ev (ev_arI rfl rfl rfl (by omega)) rfl ?_ | refine TL.ev (ev_neg rfl (by omega)) rfl ?_ | refine TL.ev (ev_indexN rfl rfl (by omega) (by first | exact Or.inr rfl | exact Sl.some (by assumption))) rfl ?_ | refine TL.ev (ev_index rfl rfl (by omega) (by first | exact Or.inr rfl | exact Sl.some (by assumption))) rfl ?_ | refine TL.ev (ev_loadU rfl (by assumption) (by omega)) rfl ?_ | refine TL.ev (ev_loadI rfl (by assumption) (by omega)) rfl ?_ | refine T.seq ?_ | refine T.region ?_ | refine TL.nil ?_ | refine T.block ?_ | refine T.cond_t rfl ?_ | refine T.cond_f rfl ?_ | refine T.exit ?_ | refine T.ret ?_ | refine T.skip ?_ | refine G.next ?_ | refine G.blockN ?_ | refine G.blockE ?_ | refine G.blockE' rfl ?_ | refine G.blockR ?_ | refine G.thenE ?_ | refine G.thenR ?_ | refine T.regionQ mixed (by kernel_rfl) ?_ | refine TL.nilQ (fun _ => ?_) | refine G.only ?_ | refine G.mixed ?_ | refine TM.nil ?_ | refine TM.e rfl ?_)
  have hE13 := (hE1.trans hE2).trans hE3
  have hP := hO3.sl (Nat.le_refl _)
  refine T.loop (α := Int × Option Addr × Nat × Nat × List (SA Nat)) (fun x => [(0, .slice A n c), (1, .int .i64 k), (6, .slice A3 n3 c3), (7, .slice x.2.1 x.2.2.1 x.2.2.2.1), (8, .int .i64 x.1)])
    (fun x w' => -1 ≤ x.1 ∧ x.1 < n ∧ Ext w3 w' ∧ Ow sav w'.heap w3.heap.size 23 x.2.1 x.2.2.1 x.2.2.2.1 x.2.2.2.2 ∧ LO w'.heap w3.heap.size x.2.2.2.2 ∧ (x.2.2.1 : Int) + x.1 + 1 = n ∧ prodV x.2.2.2.2 * prodV (L.take (x.1 + 1).toNat) = prodV L ∧ tot x.2.2.2.2 + tot (L.take (x.1 + 1).toNat) = tot L)
    (fun x => (x.1 + 1).toNat) ((n : Int) - 1, none, 0, 0, []) (by repeat (first | exact Sub.nil _ | refine Sub.cons rfl ?_ | refine Sub.cons' rfl (int_congr (by omega)) ?_)) ⟨by dsimp only; omega, by dsimp only; omega, Ext.refl _, Ow.nil _ _ _ _, fun x hx => (by cases hx), by dsimp only; omega, ?_, ?_⟩ ?_
  · dsimp only
    rw [show ((n : Int) - 1 + 1).toNat = n by omega, List.take_of_length_le (by omega)]
    simp [prodV]
  · dsimp only
    rw [show ((n : Int) - 1 + 1).toNat = n by omega, List.take_of_length_le (by omega)]
    simp [tot]
  rintro ⟨x, B, nb, cb, R⟩ w4 ⟨hx0, hx1, hE4, hO4, hR, hnb, hpr, htot⟩
  dsimp only at hx0 hx1 hE4 hO4 hR hnb hpr htot ⊢
  have hE14 := hE13.trans hE4
  rcases (show x = -1 ∨ 0 ≤ x by omega) with rfl | hx
  · rw [show (-1 + 1 : Int).toNat = 0 by rfl, List.take_zero] at hpr htot
    simp only [prodV, tot, Nat.mul_one, Nat.add_zero] at hpr htot
    have hnb2 := hO4.len
    have hR4 := hR.ls
    have hSR := hO4.sl (Nat.le_refl _)
    have hl3 := hO3.len
    by_cases hk : 0 ≤ k ∧ k ≤ n
    · obtain ⟨m, rfl⟩ := Int.eq_ofNat_of_zero_le hk.1
      replace hk : m ≤ n := by omega

      have hq := lprod_two (L := L) (m)
      have ht1 := prodV_len (hL.take (m))
      have ht2 := prodV_len (hL.drop (m))
      have hs1 := hs.take (k := m) (m := c) (by omega) (by omega)
      have hs2 := hs.dropC (k := m) (m := c) (m' := c - m) (by omega) (by omega) (by omega)
      repeat' (first | refine TL.ev (ev_simple rfl) rfl ?_ | refine TL.grun rfl rfl rfl ?_ | refine TL.gskip rfl rfl rfl rfl ?_ | refine TL.gskipU rfl rfl rfl ?_ | (refine TL.call rfl rfl ?_; first | (refine (lprod_ok _ _ _ _ _ _ _ (by exact hSR) (by exact hR4) (by omega) (by omega)).mono ?_; rintro _ w5 ⟨A5, n5, c5, rfl, hO5, hE5, hK5⟩; refine Back.mk ?_; rw [hpr] at hO5; have hS5 := hO5.sl (Nat.le_refl _); have hP5 := hP.ext (hE4.trans hE5)) | (refine (same_t _ _ _ _ _ _ _ _ _ _ _ (by exact hS5) (by exact hP5) (by omega) (by omega) rfl).cl.mono ?_; rintro _ _ ⟨rfl, q1, rfl⟩; refine Back.mk ?_; have hE15 : Ext w (w5.drewN q1) := (hE14.trans hE5).drewN q1) | (refine (lprod_ok _ _ _ _ _ _ _ (by exact hs1.ext hE15) (by exact (hL.take _).ext hE15) (by omega) (by omega)).mono ?_; rintro _ w6 ⟨A6, n6, c6, rfl, hO6, hE6, hK6⟩; refine Back.mk ?_; have hE16 := hE15.trans hE6) | (refine (lprod_ok _ _ _ _ _ _ _ (by exact hs2.ext hE16) (by exact (hL.drop _).ext hE16) (by omega) (by omega)).mono ?_; rintro _ w7 ⟨A7, n7, c7, rfl, hO7, hE7, hK7⟩; refine Back.mk ?_; have hE17 := hE16.trans hE7; have hS6 := (hO6.ext hE7).sl (Nat.le_refl _); have hS7 := hO7.sl (Nat.le_refl _)) | (refine (mul_ok _ _ _ _ _ _ _ _ _ _ _ hS6 hS7 (U64_dig _) (U64_dig _) (by omega)).mono ?_; rintro _ w9 ⟨A9, n9, c9, rfl, hO9, hE9, hK9⟩; refine Back.mk ?_; rw [val_dig, val_dig, hq.1] at hO9; have hS9 := hO9.sl (Nat.le_refl _); have hE19 := hE17.trans hE9; have hP9 := ((hP.ext (hE4.trans hE5)).undrew (k := q1)).ext ((hE6.trans hE7).trans hE9)) | (refine (same_t _ _ _ _ _ _ _ _ _ _ _ (by exact hS9) (by exact hP9) (by omega) (by omega) rfl).cl.mono ?_; rintro _ _ ⟨rfl, q2, rfl⟩; refine Back.mk ?_)) | refine TL.ev (ev_len rfl) rfl ?_ | (refine TL.cmpG rfl rfl rfl rfl (fun hc => ?_) (fun hc => ?_) <;> try (exfalso; omega)) | refine TL.ev (ev_arN rfl rfl rfl (by omega)) rfl ?_ | refine TL.ev (ev_arI rfl rfl rfl (by omega)) rfl ?_ | refine TL.ev (ev_neg rfl (by omega)) rfl ?_ | refine TL.ev (ev_indexN rfl rfl (by omega) (by first | exact Or.inr rfl | exact Sl.some (by assumption))) rfl ?_ | refine TL.ev (ev_index rfl rfl (by omega) (by first | exact Or.inr rfl | exact Sl.some (by assumption))) rfl ?_ | refine TL.ev (ev_loadU rfl (by assumption) (by omega)) rfl ?_ | refine TL.ev (ev_loadI rfl (by assumption) (by omega)) rfl ?_ | refine TL.ev (ev_sl_h rfl rfl (by omega)) rfl ?_ | refine TL.ev (ev_sl_l rfl rfl (by omega) (by omega)) rfl ?_ | refine TL.ev (ev_sl_lh rfl rfl rfl (by omega) (by omega)) rfl ?_ | refine TL.ev (ev_sl_hm rfl rfl rfl (by omega) (by omega)) rfl ?_ | refine TL.ev (ev_sl_lhm rfl rfl rfl rfl (by omega) (by omega) (by omega)) rfl ?_ | refine TL.ev (ev_eqlB (r := true) rfl rfl rfl) rfl ?_ | refine TL.ev (ev_eqlB (r := false) rfl rfl rfl) rfl ?_ | refine TL.ev (ev_neqB (r := true) rfl rfl rfl) rfl ?_ | refine TL.ev (ev_neqB (r := false) rfl rfl rfl) rfl ?_ | (refine TL.build1U rfl rfl (fun w8 b8 eb8 hB8 hE8 hz8 => ?_)) | refine T.seq ?_ | refine T.region ?_ | refine TL.nil ?_ | refine T.block ?_ | refine T.cond_t rfl ?_ | refine T.cond_f rfl ?_ | refine T.exit ?_ | refine T.ret ?_ | refine T.skip ?_ | refine G.next ?_ | refine G.blockN ?_ | refine G.blockE ?_ | refine G.blockE' rfl ?_ | refine G.blockR ?_ | refine G.thenE ?_ | refine G.thenR ?_ | refine T.regionQ mixed (by kernel_rfl) ?_ | refine TL.nilQ (fun _ => ?_) | refine G.only ?_ | refine G.mixed ?_ | refine TM.nil ?_ | refine TM.e rfl ?_)
      have hE18 := (hE19.drewN q2).trans hE8
      have hP8 := (hP9.undrew (k := q2)).ext hE8
      have hw0 : Ow u64v w8.heap w.heap.size 25 (some ⟨b8, 0, none⟩) 1 1 (dig (prodV (L.take 0))) := by
        have := hB8.ow (lo := w.heap.size) (k := 1) (c := 1) (Nat.le_refl _) rfl (by unfold maxLen; simp) (by have := (hE19.drewN q2).size; omega)
        simp only [List.take_zero, prodV, dig_one]
        exact this
      refine T.loop (α := Nat × SA Nat) (fun x => [(0, .slice A n c), (6, .slice A3 n3 c3), (11, .slice x.2.A x.2.n x.2.c), (12, .int .i64 (x.1 : Int))])
        (fun x w' => x.1 ≤ n ∧ Ext w8 w' ∧ Ow u64v w'.heap w.heap.size 25 x.2.A x.2.n x.2.c (dig (prodV (L.take x.1))))
        (fun x => n - x.1) (0, ⟨some ⟨b8, 0, none⟩, 1, 1, []⟩) (by repeat (first | exact Sub.nil _ | refine Sub.cons rfl ?_ | refine Sub.cons' rfl (int_congr (by omega)) ?_)) ⟨Nat.zero_le _, Ext.refl _, hw0⟩ ?_
      rintro ⟨i, ⟨Az, nz, cz, lz⟩⟩ wz ⟨hi, hEz, hOz⟩
      dsimp only at hi hEz hOz ⊢
      have hlz := hOz.len
      have hkz := prodV_len (hL.take i)
      have hsz := hs.ext (hE18.trans hEz)
      have hSz := hOz.sl (Nat.le_refl _)
      have hPz := hP8.ext hEz
      have htz : tot (L.take i) ≤ tot L := by have := (lprod_two (L := L) i).2; omega
      rcases Nat.lt_or_ge i n with hin | hin
      · have hm := getD_mem (L := L) (i := i) (by omega)
        have hx2 := hL _ hm
        have hx3 := tot_mem hm
        obtain ⟨p1, p2⟩ := prodV_take_succ (L := L) (i := i) (by omega)
        repeat' (first | refine TL.ev (ev_simple rfl) rfl ?_ | refine TL.grun rfl rfl rfl ?_ | refine TL.gskip rfl rfl rfl rfl ?_ | refine TL.gskipU rfl rfl rfl ?_ | (refine TL.call rfl rfl ?_; first | (refine (mul_ok _ _ _ _ _ _ _ _ _ _ _ (by exact hSz) (by exact hx2.1.ext (hE18.trans hEz)) (U64_dig _) hx2.2 (by omega)).mono ?_; rintro _ wy ⟨Ay, ny, cy, rfl, hOy, hEy, hKy⟩; refine Back.mk ?_; rw [val_dig, ← p1] at hOy)) | refine TL.ev (ev_len rfl) rfl ?_ | (refine TL.cmpG rfl rfl rfl rfl (fun hc => ?_) (fun hc => ?_) <;> try (exfalso; omega)) | refine TL.ev (ev_arN rfl rfl rfl (by omega)) rfl ?_ | refine TL.ev (ev_arI rfl rfl rfl (by omega)) rfl ?_ | refine TL.ev (ev_neg rfl (by omega)) rfl ?_ | refine TL.ev (ev_indexN rfl rfl (by omega) (by first | exact Or.inr rfl | exact Sl.some (by assumption))) rfl ?_ | refine TL.ev (ev_index rfl rfl (by omega) (by first | exact Or.inr rfl | exact Sl.some (by assumption))) rfl ?_ | refine TL.ev (ev_loadU rfl (by assumption) (by omega)) rfl ?_ | refine TL.ev (ev_loadI rfl (by assumption) (by omega)) rfl ?_ | refine TL.ev (ev_sl_h rfl rfl (by omega)) rfl ?_ | refine TL.ev (ev_sl_l rfl rfl (by omega) (by omega)) rfl ?_ | refine TL.ev (ev_sl_lh rfl rfl rfl (by omega) (by omega)) rfl ?_ | refine TL.ev (ev_sl_hm rfl rfl rfl (by omega) (by omega)) rfl ?_ | refine TL.ev (ev_sl_lhm rfl rfl rfl rfl (by omega) (by omega) (by omega)) rfl ?_ | (refine TL.ev (ev_loadS rfl hsz (by omega)) rfl ?_) | refine T.seq ?_ | refine T.region ?_ | refine TL.nil ?_ | refine T.block ?_ | refine T.cond_t rfl ?_ | refine T.cond_f rfl ?_ | refine T.exit ?_ | refine T.ret ?_ | refine T.skip ?_ | refine G.next ?_ | refine G.blockN ?_ | refine G.blockE ?_ | refine G.blockE' rfl ?_ | refine G.blockR ?_ | refine G.thenE ?_ | refine G.thenR ?_ | refine T.regionQ mixed (by kernel_rfl) ?_ | refine TL.nilQ (fun _ => ?_) | refine G.only ?_ | refine G.mixed ?_ | refine TM.nil ?_ | refine TM.e rfl ?_)
        exact G.again (i + 1, ⟨Ay, ny, cy, []⟩) (by repeat (first | exact Sub.nil _ | refine Sub.cons rfl ?_ | refine Sub.cons' rfl (int_congr (by omega)) ?_)) ⟨by dsimp only; omega, hEz.trans hEy, hOy.mono (hE18.trans hEz).size⟩ (by dsimp only; omega)
      · have e : L.take i = L := List.take_of_length_le (by omega)
        rw [e] at hOz hSz hlz
        repeat' (first | refine TL.ev (ev_simple rfl) rfl ?_ | refine TL.grun rfl rfl rfl ?_ | refine TL.gskip rfl rfl rfl rfl ?_ | refine TL.gskipU rfl rfl rfl ?_ | (refine TL.call rfl rfl ?_; first | (refine (same_t _ _ _ _ _ _ _ _ _ _ _ (by exact hSz) (by exact hPz) (by omega) (by omega) rfl).cl.mono ?_; rintro _ _ ⟨rfl, q3, rfl⟩; refine Back.mk ?_)) | refine TL.ev (ev_len rfl) rfl ?_ | (refine TL.cmpG rfl rfl rfl rfl (fun hc => ?_) (fun hc => ?_) <;> try (exfalso; omega)) | refine TL.ev (ev_arN rfl rfl rfl (by omega)) rfl ?_ | refine TL.ev (ev_arI rfl rfl rfl (by omega)) rfl ?_ | refine TL.ev (ev_neg rfl (by omega)) rfl ?_ | refine TL.ev (ev_indexN rfl rfl (by omega) (by first | exact Or.inr rfl | exact Sl.some (by assumption))) rfl ?_ | refine TL.ev (ev_index rfl rfl (by omega) (by first | exact Or.inr rfl | exact Sl.some (by assumption))) rfl ?_ | refine TL.ev (ev_loadU rfl (by assumption) (by omega)) rfl ?_ | refine TL.ev (ev_loadI rfl (by assumption) (by omega)) rfl ?_ | refine TL.ev (ev_sl_h rfl rfl (by omega)) rfl ?_ | refine TL.ev (ev_sl_l rfl rfl (by omega) (by omega)) rfl ?_ | refine TL.ev (ev_sl_lh rfl rfl rfl (by omega) (by omega)) rfl ?_ | refine TL.ev (ev_sl_hm rfl rfl rfl (by omega) (by omega)) rfl ?_ | refine TL.ev (ev_sl_lhm rfl rfl rfl rfl (by omega) (by omega) (by omega)) rfl ?_ | refine T.seq ?_ | refine T.region ?_ | refine TL.nil ?_ | refine T.block ?_ | refine T.cond_t rfl ?_ | refine T.cond_f rfl ?_ | refine T.exit ?_ | refine T.ret ?_ | refine T.skip ?_ | refine G.next ?_ | refine G.blockN ?_ | refine G.blockE ?_ | refine G.blockE' rfl ?_ | refine G.blockR ?_ | refine G.thenE ?_ | refine G.thenR ?_ | refine T.regionQ mixed (by kernel_rfl) ?_ | refine TL.nilQ (fun _ => ?_) | refine G.only ?_ | refine G.mixed ?_ | refine TM.nil ?_ | refine TM.e rfl ?_)
        exact G.ret1 rfl rfl (Yes.mk ((hE18.trans hEz).drewN _))

    · replace hk : k < 0 ∨ n < k := by omega
      rcases hk with hk | hk
      · have hq := lprod_two (L := L) (n / 2)
        have ht1 := prodV_len (hL.take (n / 2))
        have ht2 := prodV_len (hL.drop (n / 2))
        have hs1 := hs.take (k := n / 2) (m := c) (by omega) (by omega)
        have hs2 := hs.dropC (k := n / 2) (m := c) (m' := c - n / 2) (by omega) (by omega) (by omega)
        repeat' (first | refine TL.ev (ev_simple rfl) rfl ?_ | refine TL.grun rfl rfl rfl ?_ | refine TL.gskip rfl rfl rfl rfl ?_ | refine TL.gskipU rfl rfl rfl ?_ | (refine TL.call rfl rfl ?_; first | (refine (lprod_ok _ _ _ _ _ _ _ (by exact hSR) (by exact hR4) (by omega) (by omega)).mono ?_; rintro _ w5 ⟨A5, n5, c5, rfl, hO5, hE5, hK5⟩; refine Back.mk ?_; rw [hpr] at hO5; have hS5 := hO5.sl (Nat.le_refl _); have hP5 := hP.ext (hE4.trans hE5)) | (refine (same_t _ _ _ _ _ _ _ _ _ _ _ (by exact hS5) (by exact hP5) (by omega) (by omega) rfl).cl.mono ?_; rintro _ _ ⟨rfl, q1, rfl⟩; refine Back.mk ?_; have hE15 : Ext w (w5.drewN q1) := (hE14.trans hE5).drewN q1) | (refine (lprod_ok _ _ _ _ _ _ _ (by exact hs1.ext hE15) (by exact (hL.take _).ext hE15) (by omega) (by omega)).mono ?_; rintro _ w6 ⟨A6, n6, c6, rfl, hO6, hE6, hK6⟩; refine Back.mk ?_; have hE16 := hE15.trans hE6) | (refine (lprod_ok _ _ _ _ _ _ _ (by exact hs2.ext hE16) (by exact (hL.drop _).ext hE16) (by omega) (by omega)).mono ?_; rintro _ w7 ⟨A7, n7, c7, rfl, hO7, hE7, hK7⟩; refine Back.mk ?_; have hE17 := hE16.trans hE7; have hS6 := (hO6.ext hE7).sl (Nat.le_refl _); have hS7 := hO7.sl (Nat.le_refl _)) | (refine (mul_ok _ _ _ _ _ _ _ _ _ _ _ hS6 hS7 (U64_dig _) (U64_dig _) (by omega)).mono ?_; rintro _ w9 ⟨A9, n9, c9, rfl, hO9, hE9, hK9⟩; refine Back.mk ?_; rw [val_dig, val_dig, hq.1] at hO9; have hS9 := hO9.sl (Nat.le_refl _); have hE19 := hE17.trans hE9; have hP9 := ((hP.ext (hE4.trans hE5)).undrew (k := q1)).ext ((hE6.trans hE7).trans hE9)) | (refine (same_t _ _ _ _ _ _ _ _ _ _ _ (by exact hS9) (by exact hP9) (by omega) (by omega) rfl).cl.mono ?_; rintro _ _ ⟨rfl, q2, rfl⟩; refine Back.mk ?_)) | refine TL.ev (ev_len rfl) rfl ?_ | (refine TL.cmpG rfl rfl rfl rfl (fun hc => ?_) (fun hc => ?_) <;> try (exfalso; omega)) | refine TL.ev (ev_arN rfl rfl rfl (by omega)) rfl ?_ | refine TL.ev (ev_arI rfl rfl rfl (by omega)) rfl ?_ | refine TL.ev (ev_neg rfl (by omega)) rfl ?_ | refine TL.ev (ev_indexN rfl rfl (by omega) (by first | exact Or.inr rfl | exact Sl.some (by assumption))) rfl ?_ | refine TL.ev (ev_index rfl rfl (by omega) (by first | exact Or.inr rfl | exact Sl.some (by assumption))) rfl ?_ | refine TL.ev (ev_loadU rfl (by assumption) (by omega)) rfl ?_ | refine TL.ev (ev_loadI rfl (by assumption) (by omega)) rfl ?_ | refine TL.ev (ev_sl_h rfl rfl (by omega)) rfl ?_ | refine TL.ev (ev_sl_l rfl rfl (by omega) (by omega)) rfl ?_ | refine TL.ev (ev_sl_lh rfl rfl rfl (by omega) (by omega)) rfl ?_ | refine TL.ev (ev_sl_hm rfl rfl rfl (by omega) (by omega)) rfl ?_ | refine TL.ev (ev_sl_lhm rfl rfl rfl rfl (by omega) (by omega) (by omega)) rfl ?_ | refine TL.ev (ev_eqlB (r := true) rfl rfl rfl) rfl ?_ | refine TL.ev (ev_eqlB (r := false) rfl rfl rfl) rfl ?_ | refine TL.ev (ev_neqB (r := true) rfl rfl rfl) rfl ?_ | refine TL.ev (ev_neqB (r := false) rfl rfl rfl) rfl ?_ | (refine TL.build1U rfl rfl (fun w8 b8 eb8 hB8 hE8 hz8 => ?_)) | refine T.seq ?_ | refine T.region ?_ | refine TL.nil ?_ | refine T.block ?_ | refine T.cond_t rfl ?_ | refine T.cond_f rfl ?_ | refine T.exit ?_ | refine T.ret ?_ | refine T.skip ?_ | refine G.next ?_ | refine G.blockN ?_ | refine G.blockE ?_ | refine G.blockE' rfl ?_ | refine G.blockR ?_ | refine G.thenE ?_ | refine G.thenR ?_ | refine T.regionQ mixed (by kernel_rfl) ?_ | refine TL.nilQ (fun _ => ?_) | refine G.only ?_ | refine G.mixed ?_ | refine TM.nil ?_ | refine TM.e rfl ?_)
        have hE18 := (hE19.drewN q2).trans hE8
        have hP8 := (hP9.undrew (k := q2)).ext hE8
        have hw0 : Ow u64v w8.heap w.heap.size 25 (some ⟨b8, 0, none⟩) 1 1 (dig (prodV (L.take 0))) := by
          have := hB8.ow (lo := w.heap.size) (k := 1) (c := 1) (Nat.le_refl _) rfl (by unfold maxLen; simp) (by have := (hE19.drewN q2).size; omega)
          simp only [List.take_zero, prodV, dig_one]
          exact this
        refine T.loop (α := Nat × SA Nat) (fun x => [(0, .slice A n c), (6, .slice A3 n3 c3), (11, .slice x.2.A x.2.n x.2.c), (12, .int .i64 (x.1 : Int))])
          (fun x w' => x.1 ≤ n ∧ Ext w8 w' ∧ Ow u64v w'.heap w.heap.size 25 x.2.A x.2.n x.2.c (dig (prodV (L.take x.1))))
          (fun x => n - x.1) (0, ⟨some ⟨b8, 0, none⟩, 1, 1, []⟩) (by repeat (first | exact Sub.nil _ | refine Sub.cons rfl ?_ | refine Sub.cons' rfl (int_congr (by omega)) ?_)) ⟨Nat.zero_le _, Ext.refl _, hw0⟩ ?_
        rintro ⟨i, ⟨Az, nz, cz, lz⟩⟩ wz ⟨hi, hEz, hOz⟩
        dsimp only at hi hEz hOz ⊢
        have hlz := hOz.len
        have hkz := prodV_len (hL.take i)
        have hsz := hs.ext (hE18.trans hEz)
        have hSz := hOz.sl (Nat.le_refl _)
        have hPz := hP8.ext hEz
        have htz : tot (L.take i) ≤ tot L := by have := (lprod_two (L := L) i).2; omega
        rcases Nat.lt_or_ge i n with hin | hin
        · have hm := getD_mem (L := L) (i := i) (by omega)
          have hx2 := hL _ hm
          have hx3 := tot_mem hm
          obtain ⟨p1, p2⟩ := prodV_take_succ (L := L) (i := i) (by omega)
          repeat' (first | refine TL.ev (ev_simple rfl) rfl ?_ | refine TL.grun rfl rfl rfl ?_ | refine TL.gskip rfl rfl rfl rfl ?_ | refine TL.gskipU rfl rfl rfl ?_ | (refine TL.call rfl rfl ?_; first | (refine (mul_ok _ _ _ _ _ _ _ _ _ _ _ (by exact hSz) (by exact hx2.1.ext (hE18.trans hEz)) (U64_dig _) hx2.2 (by omega)).mono ?_; rintro _ wy ⟨Ay, ny, cy, rfl, hOy, hEy, hKy⟩; refine Back.mk ?_; rw [val_dig, ← p1] at hOy)) | refine TL.ev (ev_len rfl) rfl ?_ | (refine TL.cmpG rfl rfl rfl rfl (fun hc => ?_) (fun hc => ?_) <;> try (exfalso; omega)) | refine TL.ev (ev_arN rfl rfl rfl (by omega)) rfl ?_ | refine TL.ev (ev_arI rfl rfl rfl (by omega)) rfl ?_ | refine TL.ev (ev_neg rfl (by omega)) rfl ?_ | refine TL.ev (ev_indexN rfl rfl (by omega) (by first | exact Or.inr rfl | exact Sl.some (by assumption))) rfl ?_ | refine TL.ev (ev_index rfl rfl (by omega) (by first | exact Or.inr rfl | exact Sl.some (by assumption))) rfl ?_ | refine TL.ev (ev_loadU rfl (by assumption) (by omega)) rfl ?_ | refine TL.ev (ev_loadI rfl (by assumption) (by omega)) rfl ?_ | refine TL.ev (ev_sl_h rfl rfl (by omega)) rfl ?_ | refine TL.ev (ev_sl_l rfl rfl (by omega) (by omega)) rfl ?_ | refine TL.ev (ev_sl_lh rfl rfl rfl (by omega) (by omega)) rfl ?_ | refine TL.ev (ev_sl_hm rfl rfl rfl (by omega) (by omega)) rfl ?_ | refine TL.ev (ev_sl_lhm rfl rfl rfl rfl (by omega) (by omega) (by omega)) rfl ?_ | (refine TL.ev (ev_loadS rfl hsz (by omega)) rfl ?_) | refine T.seq ?_ | refine T.region ?_ | refine TL.nil ?_ | refine T.block ?_ | refine T.cond_t rfl ?_ | refine T.cond_f rfl ?_ | refine T.exit ?_ | refine T.ret ?_ | refine T.skip ?_ | refine G.next ?_ | refine G.blockN ?_ | refine G.blockE ?_ | refine G.blockE' rfl ?_ | refine G.blockR ?_ | refine G.thenE ?_ | refine G.thenR ?_ | refine T.regionQ mixed (by kernel_rfl) ?_ | refine TL.nilQ (fun _ => ?_) | refine G.only ?_ | refine G.mixed ?_ | refine TM.nil ?_ | refine TM.e rfl ?_)
          exact G.again (i + 1, ⟨Ay, ny, cy, []⟩) (by repeat (first | exact Sub.nil _ | refine Sub.cons rfl ?_ | refine Sub.cons' rfl (int_congr (by omega)) ?_)) ⟨by dsimp only; omega, hEz.trans hEy, hOy.mono (hE18.trans hEz).size⟩ (by dsimp only; omega)
        · have e : L.take i = L := List.take_of_length_le (by omega)
          rw [e] at hOz hSz hlz
          repeat' (first | refine TL.ev (ev_simple rfl) rfl ?_ | refine TL.grun rfl rfl rfl ?_ | refine TL.gskip rfl rfl rfl rfl ?_ | refine TL.gskipU rfl rfl rfl ?_ | (refine TL.call rfl rfl ?_; first | (refine (same_t _ _ _ _ _ _ _ _ _ _ _ (by exact hSz) (by exact hPz) (by omega) (by omega) rfl).cl.mono ?_; rintro _ _ ⟨rfl, q3, rfl⟩; refine Back.mk ?_)) | refine TL.ev (ev_len rfl) rfl ?_ | (refine TL.cmpG rfl rfl rfl rfl (fun hc => ?_) (fun hc => ?_) <;> try (exfalso; omega)) | refine TL.ev (ev_arN rfl rfl rfl (by omega)) rfl ?_ | refine TL.ev (ev_arI rfl rfl rfl (by omega)) rfl ?_ | refine TL.ev (ev_neg rfl (by omega)) rfl ?_ | refine TL.ev (ev_indexN rfl rfl (by omega) (by first | exact Or.inr rfl | exact Sl.some (by assumption))) rfl ?_ | refine TL.ev (ev_index rfl rfl (by omega) (by first | exact Or.inr rfl | exact Sl.some (by assumption))) rfl ?_ | refine TL.ev (ev_loadU rfl (by assumption) (by omega)) rfl ?_ | refine TL.ev (ev_loadI rfl (by assumption) (by omega)) rfl ?_ | refine TL.ev (ev_sl_h rfl rfl (by omega)) rfl ?_ | refine TL.ev (ev_sl_l rfl rfl (by omega) (by omega)) rfl ?_ | refine TL.ev (ev_sl_lh rfl rfl rfl (by omega) (by omega)) rfl ?_ | refine TL.ev (ev_sl_hm rfl rfl rfl (by omega) (by omega)) rfl ?_ | refine TL.ev (ev_sl_lhm rfl rfl rfl rfl (by omega) (by omega) (by omega)) rfl ?_ | refine T.seq ?_ | refine T.region ?_ | refine TL.nil ?_ | refine T.block ?_ | refine T.cond_t rfl ?_ | refine T.cond_f rfl ?_ | refine T.exit ?_ | refine T.ret ?_ | refine T.skip ?_ | refine G.next ?_ | refine G.blockN ?_ | refine G.blockE ?_ | refine G.blockE' rfl ?_ | refine G.blockR ?_ | refine G.thenE ?_ | refine G.thenR ?_ | refine T.regionQ mixed (by kernel_rfl) ?_ | refine TL.nilQ (fun _ => ?_) | refine G.only ?_ | refine G.mixed ?_ | refine TM.nil ?_ | refine TM.e rfl ?_)
          exact G.ret1 rfl rfl (Yes.mk ((hE18.trans hEz).drewN _))
  
      · have hq := lprod_two (L := L) (n / 2)
        have ht1 := prodV_len (hL.take (n / 2))
        have ht2 := prodV_len (hL.drop (n / 2))
        have hs1 := hs.take (k := n / 2) (m := c) (by omega) (by omega)
        have hs2 := hs.dropC (k := n / 2) (m := c) (m' := c - n / 2) (by omega) (by omega) (by omega)
        repeat' (first | refine TL.ev (ev_simple rfl) rfl ?_ | refine TL.grun rfl rfl rfl ?_ | refine TL.gskip rfl rfl rfl rfl ?_ | refine TL.gskipU rfl rfl rfl ?_ | (refine TL.call rfl rfl ?_; first | (refine (lprod_ok _ _ _ _ _ _ _ (by exact hSR) (by exact hR4) (by omega) (by omega)).mono ?_; rintro _ w5 ⟨A5, n5, c5, rfl, hO5, hE5, hK5⟩; refine Back.mk ?_; rw [hpr] at hO5; have hS5 := hO5.sl (Nat.le_refl _); have hP5 := hP.ext (hE4.trans hE5)) | (refine (same_t _ _ _ _ _ _ _ _ _ _ _ (by exact hS5) (by exact hP5) (by omega) (by omega) rfl).cl.mono ?_; rintro _ _ ⟨rfl, q1, rfl⟩; refine Back.mk ?_; have hE15 : Ext w (w5.drewN q1) := (hE14.trans hE5).drewN q1) | (refine (lprod_ok _ _ _ _ _ _ _ (by exact hs1.ext hE15) (by exact (hL.take _).ext hE15) (by omega) (by omega)).mono ?_; rintro _ w6 ⟨A6, n6, c6, rfl, hO6, hE6, hK6⟩; refine Back.mk ?_; have hE16 := hE15.trans hE6) | (refine (lprod_ok _ _ _ _ _ _ _ (by exact hs2.ext hE16) (by exact (hL.drop _).ext hE16) (by omega) (by omega)).mono ?_; rintro _ w7 ⟨A7, n7, c7, rfl, hO7, hE7, hK7⟩; refine Back.mk ?_; have hE17 := hE16.trans hE7; have hS6 := (hO6.ext hE7).sl (Nat.le_refl _); have hS7 := hO7.sl (Nat.le_refl _)) | (refine (mul_ok _ _ _ _ _ _ _ _ _ _ _ hS6 hS7 (U64_dig _) (U64_dig _) (by omega)).mono ?_; rintro _ w9 ⟨A9, n9, c9, rfl, hO9, hE9, hK9⟩; refine Back.mk ?_; rw [val_dig, val_dig, hq.1] at hO9; have hS9 := hO9.sl (Nat.le_refl _); have hE19 := hE17.trans hE9; have hP9 := ((hP.ext (hE4.trans hE5)).undrew (k := q1)).ext ((hE6.trans hE7).trans hE9)) | (refine (same_t _ _ _ _ _ _ _ _ _ _ _ (by exact hS9) (by exact hP9) (by omega) (by omega) rfl).cl.mono ?_; rintro _ _ ⟨rfl, q2, rfl⟩; refine Back.mk ?_)) | refine TL.ev (ev_len rfl) rfl ?_ | (refine TL.cmpG rfl rfl rfl rfl (fun hc => ?_) (fun hc => ?_) <;> try (exfalso; omega)) | refine TL.ev (ev_arN rfl rfl rfl (by omega)) rfl ?_ | refine TL.ev (ev_arI rfl rfl rfl (by omega)) rfl ?_ | refine TL.ev (ev_neg rfl (by omega)) rfl ?_ | refine TL.ev (ev_indexN rfl rfl (by omega) (by first | exact Or.inr rfl | exact Sl.some (by assumption))) rfl ?_ | refine TL.ev (ev_index rfl rfl (by omega) (by first | exact Or.inr rfl | exact Sl.some (by assumption))) rfl ?_ | refine TL.ev (ev_loadU rfl (by assumption) (by omega)) rfl ?_ | refine TL.ev (ev_loadI rfl (by assumption) (by omega)) rfl ?_ | refine TL.ev (ev_sl_h rfl rfl (by omega)) rfl ?_ | refine TL.ev (ev_sl_l rfl rfl (by omega) (by omega)) rfl ?_ | refine TL.ev (ev_sl_lh rfl rfl rfl (by omega) (by omega)) rfl ?_ | refine TL.ev (ev_sl_hm rfl rfl rfl (by omega) (by omega)) rfl ?_ | refine TL.ev (ev_sl_lhm rfl rfl rfl rfl (by omega) (by omega) (by omega)) rfl ?_ | refine TL.ev (ev_eqlB (r := true) rfl rfl rfl) rfl ?_ | refine TL.ev (ev_eqlB (r := false) rfl rfl rfl) rfl ?_ | refine TL.ev (ev_neqB (r := true) rfl rfl rfl) rfl ?_ | refine TL.ev (ev_neqB (r := false) rfl rfl rfl) rfl ?_ | (refine TL.build1U rfl rfl (fun w8 b8 eb8 hB8 hE8 hz8 => ?_)) | refine T.seq ?_ | refine T.region ?_ | refine TL.nil ?_ | refine T.block ?_ | refine T.cond_t rfl ?_ | refine T.cond_f rfl ?_ | refine T.exit ?_ | refine T.ret ?_ | refine T.skip ?_ | refine G.next ?_ | refine G.blockN ?_ | refine G.blockE ?_ | refine G.blockE' rfl ?_ | refine G.blockR ?_ | refine G.thenE ?_ | refine G.thenR ?_ | refine T.regionQ mixed (by kernel_rfl) ?_ | refine TL.nilQ (fun _ => ?_) | refine G.only ?_ | refine G.mixed ?_ | refine TM.nil ?_ | refine TM.e rfl ?_)
        have hE18 := (hE19.drewN q2).trans hE8
        have hP8 := (hP9.undrew (k := q2)).ext hE8
        have hw0 : Ow u64v w8.heap w.heap.size 25 (some ⟨b8, 0, none⟩) 1 1 (dig (prodV (L.take 0))) := by
          have := hB8.ow (lo := w.heap.size) (k := 1) (c := 1) (Nat.le_refl _) rfl (by unfold maxLen; simp) (by have := (hE19.drewN q2).size; omega)
          simp only [List.take_zero, prodV, dig_one]
          exact this
        refine T.loop (α := Nat × SA Nat) (fun x => [(0, .slice A n c), (6, .slice A3 n3 c3), (11, .slice x.2.A x.2.n x.2.c), (12, .int .i64 (x.1 : Int))])
          (fun x w' => x.1 ≤ n ∧ Ext w8 w' ∧ Ow u64v w'.heap w.heap.size 25 x.2.A x.2.n x.2.c (dig (prodV (L.take x.1))))
          (fun x => n - x.1) (0, ⟨some ⟨b8, 0, none⟩, 1, 1, []⟩) (by repeat (first | exact Sub.nil _ | refine Sub.cons rfl ?_ | refine Sub.cons' rfl (int_congr (by omega)) ?_)) ⟨Nat.zero_le _, Ext.refl _, hw0⟩ ?_
        rintro ⟨i, ⟨Az, nz, cz, lz⟩⟩ wz ⟨hi, hEz, hOz⟩
        dsimp only at hi hEz hOz ⊢
        have hlz := hOz.len
        have hkz := prodV_len (hL.take i)
        have hsz := hs.ext (hE18.trans hEz)
        have hSz := hOz.sl (Nat.le_refl _)
        have hPz := hP8.ext hEz
        have htz : tot (L.take i) ≤ tot L := by have := (lprod_two (L := L) i).2; omega
        rcases Nat.lt_or_ge i n with hin | hin
        · have hm := getD_mem (L := L) (i := i) (by omega)
          have hx2 := hL _ hm
          have hx3 := tot_mem hm
          obtain ⟨p1, p2⟩ := prodV_take_succ (L := L) (i := i) (by omega)
          repeat' (first | refine TL.ev (ev_simple rfl) rfl ?_ | refine TL.grun rfl rfl rfl ?_ | refine TL.gskip rfl rfl rfl rfl ?_ | refine TL.gskipU rfl rfl rfl ?_ | (refine TL.call rfl rfl ?_; first | (refine (mul_ok _ _ _ _ _ _ _ _ _ _ _ (by exact hSz) (by exact hx2.1.ext (hE18.trans hEz)) (U64_dig _) hx2.2 (by omega)).mono ?_; rintro _ wy ⟨Ay, ny, cy, rfl, hOy, hEy, hKy⟩; refine Back.mk ?_; rw [val_dig, ← p1] at hOy)) | refine TL.ev (ev_len rfl) rfl ?_ | (refine TL.cmpG rfl rfl rfl rfl (fun hc => ?_) (fun hc => ?_) <;> try (exfalso; omega)) | refine TL.ev (ev_arN rfl rfl rfl (by omega)) rfl ?_ | refine TL.ev (ev_arI rfl rfl rfl (by omega)) rfl ?_ | refine TL.ev (ev_neg rfl (by omega)) rfl ?_ | refine TL.ev (ev_indexN rfl rfl (by omega) (by first | exact Or.inr rfl | exact Sl.some (by assumption))) rfl ?_ | refine TL.ev (ev_index rfl rfl (by omega) (by first | exact Or.inr rfl | exact Sl.some (by assumption))) rfl ?_ | refine TL.ev (ev_loadU rfl (by assumption) (by omega)) rfl ?_ | refine TL.ev (ev_loadI rfl (by assumption) (by omega)) rfl ?_ | refine TL.ev (ev_sl_h rfl rfl (by omega)) rfl ?_ | refine TL.ev (ev_sl_l rfl rfl (by omega) (by omega)) rfl ?_ | refine TL.ev (ev_sl_lh rfl rfl rfl (by omega) (by omega)) rfl ?_ | refine TL.ev (ev_sl_hm rfl rfl rfl (by omega) (by omega)) rfl ?_ | refine TL.ev (ev_sl_lhm rfl rfl rfl rfl (by omega) (by omega) (by omega)) rfl ?_ | (refine TL.ev (ev_loadS rfl hsz (by omega)) rfl ?_) | refine T.seq ?_ | refine T.region ?_ | refine TL.nil ?_ | refine T.block ?_ | refine T.cond_t rfl ?_ | refine T.cond_f rfl ?_ | refine T.exit ?_ | refine T.ret ?_ | refine T.skip ?_ | refine G.next ?_ | refine G.blockN ?_ | refine G.blockE ?_ | refine G.blockE' rfl ?_ | refine G.blockR ?_ | refine G.thenE ?_ | refine G.thenR ?_ | refine T.regionQ mixed (by kernel_rfl) ?_ | refine TL.nilQ (fun _ => ?_) | refine G.only ?_ | refine G.mixed ?_ | refine TM.nil ?_ | refine TM.e rfl ?_)
          exact G.again (i + 1, ⟨Ay, ny, cy, []⟩) (by repeat (first | exact Sub.nil _ | refine Sub.cons rfl ?_ | refine Sub.cons' rfl (int_congr (by omega)) ?_)) ⟨by dsimp only; omega, hEz.trans hEy, hOy.mono (hE18.trans hEz).size⟩ (by dsimp only; omega)
        · have e : L.take i = L := List.take_of_length_le (by omega)
          rw [e] at hOz hSz hlz
          repeat' (first | refine TL.ev (ev_simple rfl) rfl ?_ | refine TL.grun rfl rfl rfl ?_ | refine TL.gskip rfl rfl rfl rfl ?_ | refine TL.gskipU rfl rfl rfl ?_ | (refine TL.call rfl rfl ?_; first | (refine (same_t _ _ _ _ _ _ _ _ _ _ _ (by exact hSz) (by exact hPz) (by omega) (by omega) rfl).cl.mono ?_; rintro _ _ ⟨rfl, q3, rfl⟩; refine Back.mk ?_)) | refine TL.ev (ev_len rfl) rfl ?_ | (refine TL.cmpG rfl rfl rfl rfl (fun hc => ?_) (fun hc => ?_) <;> try (exfalso; omega)) | refine TL.ev (ev_arN rfl rfl rfl (by omega)) rfl ?_ | refine TL.ev (ev_arI rfl rfl rfl (by omega)) rfl ?_ | refine TL.ev (ev_neg rfl (by omega)) rfl ?_ | refine TL.ev (ev_indexN rfl rfl (by omega) (by first | exact Or.inr rfl | exact Sl.some (by assumption))) rfl ?_ | refine TL.ev (ev_index rfl rfl (by omega) (by first | exact Or.inr rfl | exact Sl.some (by assumption))) rfl ?_ | refine TL.ev (ev_loadU rfl (by assumption) (by omega)) rfl ?_ | refine TL.ev (ev_loadI rfl (by assumption) (by omega)) rfl ?_ | refine TL.ev (ev_sl_h rfl rfl (by omega)) rfl ?_ | refine TL.ev (ev_sl_l rfl rfl (by omega) (by omega)) rfl ?_ | refine TL.ev (ev_sl_lh rfl rfl rfl (by omega) (by omega)) rfl ?_ | refine TL.ev (ev_sl_hm rfl rfl rfl (by omega) (by omega)) rfl ?_ | refine TL.ev (ev_sl_lhm rfl rfl rfl rfl (by omega) (by omega) (by omega)) rfl ?_ | refine T.seq ?_ | refine T.region ?_ | refine TL.nil ?_ | refine T.block ?_ | refine T.cond_t rfl ?_ | refine T.cond_f rfl ?_ | refine T.exit ?_ | refine T.ret ?_ | refine T.skip ?_ | refine G.next ?_ | refine G.blockN ?_ | refine G.blockE ?_ | refine G.blockE' rfl ?_ | refine G.blockR ?_ | refine G.thenE ?_ | refine G.thenR ?_ | refine T.regionQ mixed (by kernel_rfl) ?_ | refine TL.nilQ (fun _ => ?_) | refine G.only ?_ | refine G.mixed ?_ | refine TM.nil ?_ | refine TM.e rfl ?_)
          exact G.ret1 rfl rfl (Yes.mk ((hE18.trans hEz).drewN _))
  
  · obtain ⟨i, rfl⟩ := Int.eq_ofNat_of_zero_le hx
    rw [show ((i : Int) + 1).toNat = i + 1 by omega] at hpr htot
    have hi : i < L.length := by omega
    have hm := getD_mem hi
    have hx2 := hL _ hm
    have hx3 := tot_mem hm
    obtain ⟨p1, p2⟩ := prodV_take_succ hi
    have hsi := hs.ext hE14
    have hsz3 : w3.heap.size ≤ w4.heap.size := hE4.size
    repeat' (first | refine TL.ev (ev_simple rfl) rfl ?_ | refine TL.grun rfl rfl rfl ?_ | refine TL.gskip rfl rfl rfl rfl ?_ | refine TL.gskipU rfl rfl rfl ?_ | refine TL.ev (ev_len rfl) rfl ?_ | (refine TL.cmpG rfl rfl rfl rfl (fun hc => ?_) (fun hc => ?_) <;> try (exfalso; omega)) | refine TL.ev (ev_arN rfl rfl rfl (by omega)) rfl ?_ | refine TL.ev (ev_arI rfl rfl rfl (by omega)) rfl ?_ | refine TL.ev (ev_neg rfl (by omega)) rfl ?_ | refine TL.ev (ev_indexN rfl rfl (by omega) (by first | exact Or.inr rfl | exact Sl.some (by assumption))) rfl ?_ | refine TL.ev (ev_index rfl rfl (by omega) (by first | exact Or.inr rfl | exact Sl.some (by assumption))) rfl ?_ | refine TL.ev (ev_loadU rfl (by assumption) (by omega)) rfl ?_ | refine TL.ev (ev_loadI rfl (by assumption) (by omega)) rfl ?_ | refine TL.ev (ev_sl_h rfl rfl (by omega)) rfl ?_ | refine TL.ev (ev_sl_l rfl rfl (by omega) (by omega)) rfl ?_ | refine TL.ev (ev_sl_lh rfl rfl rfl (by omega) (by omega)) rfl ?_ | refine TL.ev (ev_sl_hm rfl rfl rfl (by omega) (by omega)) rfl ?_ | refine TL.ev (ev_sl_lhm rfl rfl rfl rfl (by omega) (by omega) (by omega)) rfl ?_ | (refine TL.build0 u64v rfl rfl (fun w5 b5 eb5 hB5 hE5 hz5 => ?_); have hO5 := ow_empty eb5 hB5; have hx5 := hx2.1.ext (hE14.trans hE5); have hs5 := hsi.ext hE5) | (refine TL.ev (ev_loadS rfl hs5 (by omega)) rfl ?_) | (refine TL.append (f := u64v) (fun _ => rfl) rfl rfl rfl rfl hO5 hx5 (by omega) (by omega) (fun w6 A6 c6 hO6 hg6 hL6 => ?_); rw [List.nil_append] at hO6; have hE46 : Ext w4 w6 := RowKit.Below.trans hE5 hL6) | (refine TL.build1 (f := sav) (fun _ => rfl) rfl (u := ⟨A6, 0 + (L.getD i default).n, c6, (L.getD i default).l⟩) rfl rfl (fun w7 b7 eb7 hB7 hE7 hz7 => ?_); have hE47 := hE46.trans hE7; have hO47 := hO4.ext hE47; have hB7' := hB7.slN (n := 1) (c := 1) rfl (Nat.le_refl _) hB7.lt) | (refine TL.append (f := sav) (fun _ => rfl) rfl rfl rfl rfl hO47 hB7' (Nat.le_trans hsz3 hE47.size) (by omega) (fun w8 A8 c8 hO8 hg8 hL8 => ?_)) | refine T.seq ?_ | refine T.region ?_ | refine TL.nil ?_ | refine T.block ?_ | refine T.cond_t rfl ?_ | refine T.cond_f rfl ?_ | refine T.exit ?_ | refine T.ret ?_ | refine T.skip ?_ | refine G.next ?_ | refine G.blockN ?_ | refine G.blockE ?_ | refine G.blockE' rfl ?_ | refine G.blockR ?_ | refine G.thenE ?_ | refine G.thenR ?_ | refine T.regionQ mixed (by kernel_rfl) ?_ | refine TL.nilQ (fun _ => ?_) | refine G.only ?_ | refine G.mixed ?_ | refine TM.nil ?_ | refine TM.e rfl ?_)
    have hN := ow_grown (hO6.ext hE7) hO47 (by decide) hg8
    refine G.again ((i : Int) - 1, A8, nb + 1, c8, R ++ [⟨A6, 0 + (L.getD i default).n, c6, (L.getD i default).l⟩]) (by repeat (first | exact Sub.nil _ | refine Sub.cons rfl ?_ | refine Sub.cons' rfl (int_congr (by omega)) ?_)) ⟨by dsimp only; omega, by dsimp only; omega, RowKit.Below.trans (hE4.trans hE47) hL8, hO8, ?_, by dsimp only; omega, ?_, ?_⟩ (by dsimp only; omega)
    · intro y hy
      rcases List.mem_append.1 hy with h | h
      · exact (LO.grown (hR.ext hE47) hO47 (by decide) hg8) y h
      · rw [List.mem_singleton] at h
        subst h
        exact ⟨hN.mono hsz3, hx2.2⟩
    · dsimp only
      rw [show ((i : Int) - 1 + 1).toNat = i by omega, prodV_append, ← hpr, p1]
      simp only [prodV, Nat.mul_one]
      rw [Nat.mul_assoc, Nat.mul_comm (val _)]
    · dsimp only
      rw [show ((i : Int) - 1 + 1).toNat = i by omega, tot_append]
      simp only [tot]
      omega
end Go.Proofs.Ytgmhldapndhoeaa
