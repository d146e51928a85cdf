/- Layer 2: contract of mulnat.product. -/
import Derived.Test.YtgmhldapndhoeaaMulC
set_option linter.unusedVariables false
set_option linter.unusedSimpArgs false
namespace Go.Proofs.Ytgmhldapndhoeaa
open Go Go.Eng Go.Proofs Go.NatM

theorem ProdSpec.mono {j k : Nat} (h : ProdSpec k) (hj : j ≤ k) : ProdSpec j := fun w B B' A A' n c n' c' l l' h1 h2 h3 h4 h5 h6 => h w B B' A A' n c n' c' l l' h1 h2 h3 h4 h5 (by omega)
theorem sz_take (l : List Nat) : sz (l.take (sz l)) = sz l := by
  refine sz_eq _ _ (by rw [List.length_take]; have := sz_le l; omega) (fun j hj => getD_ge (by rw [List.length_take]; omega)) ?_
  rcases sz_top l with h | h
  · exact .inl h
  · rcases Nat.eq_zero_or_pos (sz l) with h0 | h0
    · exact .inl h0
    · refine .inr ?_
      have e : (l.take (sz l)).getD (sz l - 1) 0 = l.getD (sz l - 1) 0 := by simp [List.getD, List.getElem?_take, show sz l - 1 < sz l by omega]
      rwa [e]

set_option maxHeartbeats 2000000 in
theorem prod_step (k : Nat) (IH : ProdSpec k) : ProdSpec (k + 1) := by
  intro w B B' A A' n c n' c' l l' hs hs' hu hu' hnn hk
  have hlen := hs.len
  have hlen' := hs'.len
  replace hs := hs.size
  replace hs' := hs'.size
  have z1 := sz_le l
  have z2 := sz_le l'
  have g1 := hs.take (k := sz l) (m := sz l) (by omega) (Nat.le_refl _)
  have g2 := hs'.take (k := sz l') (m := sz l') (by omega) (Nat.le_refl _)
  have v1 := val_sz l
  have v2 := val_sz l'
  refine enter Try.func44 rfl rfl rfl ?_
  repeat' (first | refine TL.ev (ev_simple rfl) rfl ?_ | refine TL.grun rfl rfl rfl ?_ | refine TL.gskip rfl rfl rfl rfl ?_ | refine TL.gskipU rfl rfl rfl ?_ | refine TL.ev (ev_len rfl) rfl ?_ | (refine TL.cmpG rfl rfl rfl rfl (fun hc => ?_) (fun hc => ?_) <;> try (exfalso; omega)) | refine TL.ev (ev_arN rfl rfl rfl (by omega)) rfl ?_ | refine TL.ev (ev_arI rfl rfl rfl (by omega)) rfl ?_ | refine TL.ev (ev_neg rfl (by omega)) rfl ?_ | refine TL.ev (ev_indexN rfl rfl (by omega) (by first | exact Or.inr rfl | exact Sl.some (by assumption))) rfl ?_ | refine TL.ev (ev_index rfl rfl (by omega) (by first | exact Or.inr rfl | exact Sl.some (by assumption))) rfl ?_ | refine TL.ev (ev_loadU rfl (by assumption) (by omega)) rfl ?_ | refine TL.ev (ev_loadI rfl (by assumption) (by omega)) rfl ?_ | refine T.region ?_ | refine TL.nil ?_ | refine T.block ?_ | refine T.cond_t rfl ?_ | refine T.cond_f rfl ?_ | refine T.exit ?_ | refine T.ret ?_ | refine T.skip ?_ | refine G.next ?_ | refine G.blockN ?_ | refine G.blockE ?_ | refine G.blockE' rfl ?_ | refine G.blockR ?_ | refine G.thenE ?_ | refine G.thenR ?_ | refine T.regionQ mixed (by kernel_rfl) ?_ | refine TL.nilQ (fun _ => ?_) | refine G.only ?_ | refine G.mixed ?_ | refine TM.nil ?_ | refine TM.e rfl ?_)
  refine T.seq (T.region ?_)
  repeat' (first | refine TL.ev (ev_simple rfl) rfl ?_ | refine TL.grun rfl rfl rfl ?_ | refine TL.gskip rfl rfl rfl rfl ?_ | refine TL.gskipU rfl rfl rfl ?_ | refine TL.ev (ev_len rfl) rfl ?_ | (refine TL.cmpG rfl rfl rfl rfl (fun hc => ?_) (fun hc => ?_) <;> try (exfalso; omega)) | refine TL.ev (ev_arN rfl rfl rfl (by omega)) rfl ?_ | refine TL.ev (ev_arI rfl rfl rfl (by omega)) rfl ?_ | refine TL.ev (ev_neg rfl (by omega)) rfl ?_ | refine TL.ev (ev_indexN rfl rfl (by omega) (by first | exact Or.inr rfl | exact Sl.some (by assumption))) rfl ?_ | refine TL.ev (ev_index rfl rfl (by omega) (by first | exact Or.inr rfl | exact Sl.some (by assumption))) rfl ?_ | refine TL.ev (ev_loadU rfl (by assumption) (by omega)) rfl ?_ | refine TL.ev (ev_loadI rfl (by assumption) (by omega)) rfl ?_ | (refine TL.callP rfl rfl (trim_ok _ _ _ _ _ _ hs (by omega)) (fun q1 => ?_)) | (refine TL.callP rfl rfl (trim_ok _ _ _ _ _ _ hs' (by omega)) (fun q2 => ?_)) | refine T.region ?_ | refine TL.nil ?_ | refine T.block ?_ | refine T.cond_t rfl ?_ | refine T.cond_f rfl ?_ | refine T.exit ?_ | refine T.ret ?_ | refine T.skip ?_ | refine G.next ?_ | refine G.blockN ?_ | refine G.blockE ?_ | refine G.blockE' rfl ?_ | refine G.blockR ?_ | refine G.thenE ?_ | refine G.thenR ?_ | refine T.regionQ mixed (by kernel_rfl) ?_ | refine TL.nilQ (fun _ => ?_) | refine G.only ?_ | refine G.mixed ?_ | refine TM.nil ?_ | refine TM.e rfl ?_)
  refine T.seq (T.region ?_)
  repeat' (first | refine TL.ev (ev_simple rfl) rfl ?_ | refine TL.grun rfl rfl rfl ?_ | refine TL.gskip rfl rfl rfl rfl ?_ | refine TL.gskipU rfl rfl rfl ?_ | refine TL.ev (ev_len rfl) rfl ?_ | (refine TL.cmpG rfl rfl rfl rfl (fun hc => ?_) (fun hc => ?_) <;> try (exfalso; omega)) | refine TL.ev (ev_arN rfl rfl rfl (by omega)) rfl ?_ | refine TL.ev (ev_arI rfl rfl rfl (by omega)) rfl ?_ | refine TL.ev (ev_neg rfl (by omega)) rfl ?_ | refine TL.ev (ev_indexN rfl rfl (by omega) (by first | exact Or.inr rfl | exact Sl.some (by assumption))) rfl ?_ | refine TL.ev (ev_index rfl rfl (by omega) (by first | exact Or.inr rfl | exact Sl.some (by assumption))) rfl ?_ | refine TL.ev (ev_loadU rfl (by assumption) (by omega)) rfl ?_ | refine TL.ev (ev_loadI rfl (by assumption) (by omega)) rfl ?_ | (refine TL.callP rfl rfl (trim_ok _ _ _ _ _ _ hs (by omega)) (fun q1 => ?_)) | (refine TL.callP rfl rfl (trim_ok _ _ _ _ _ _ hs' (by omega)) (fun q2 => ?_)) | refine T.region ?_ | refine TL.nil ?_ | refine T.block ?_ | refine T.cond_t rfl ?_ | refine T.cond_f rfl ?_ | refine T.exit ?_ | refine T.ret ?_ | refine T.skip ?_ | refine G.next ?_ | refine G.blockN ?_ | refine G.blockE ?_ | refine G.blockE' rfl ?_ | refine G.blockR ?_ | refine G.thenE ?_ | refine G.thenR ?_ | refine T.regionQ mixed (by kernel_rfl) ?_ | refine TL.nilQ (fun _ => ?_) | refine G.only ?_ | refine G.mixed ?_ | refine TM.nil ?_ | refine TM.e rfl ?_)
  refine T.cut (α := SA Nat × SA Nat) (fun x => [(0, .slice x.1.A x.1.n x.1.n), (1, .slice x.2.A x.2.n x.2.n)]) (fun x w' => Qt w w' ∧ Sl u64v w.heap w.heap.size x.1.A x.1.n x.1.n x.1.l ∧ Sl u64v w.heap w.heap.size x.2.A x.2.n x.2.n x.2.l ∧ U64 x.1.l ∧ U64 x.2.l ∧
    x.1.n + x.2.n = sz l + sz l' ∧ x.2.n ≤ x.1.n ∧ sz x.1.l = x.1.n ∧ sz x.2.l = x.2.n ∧ val x.1.l * val x.2.l = val l * val l') ?_ ?_
  · repeat' (first | refine TL.ev (ev_simple rfl) rfl ?_ | refine TL.grun rfl rfl rfl ?_ | refine TL.gskip rfl rfl rfl rfl ?_ | refine TL.gskipU rfl rfl rfl ?_ | refine TL.ev (ev_len rfl) rfl ?_ | (refine TL.cmpG rfl rfl rfl rfl (fun hc => ?_) (fun hc => ?_) <;> try (exfalso; omega)) | refine TL.ev (ev_arN rfl rfl rfl (by omega)) rfl ?_ | refine TL.ev (ev_arI rfl rfl rfl (by omega)) rfl ?_ | refine TL.ev (ev_neg rfl (by omega)) rfl ?_ | refine TL.ev (ev_indexN rfl rfl (by omega) (by first | exact Or.inr rfl | exact Sl.some (by assumption))) rfl ?_ | refine TL.ev (ev_index rfl rfl (by omega) (by first | exact Or.inr rfl | exact Sl.some (by assumption))) rfl ?_ | refine TL.ev (ev_loadU rfl (by assumption) (by omega)) rfl ?_ | refine TL.ev (ev_loadI rfl (by assumption) (by omega)) rfl ?_ | refine T.seq ?_ | refine T.region ?_ | refine TL.nil ?_ | refine T.block ?_ | refine T.cond_t rfl ?_ | refine T.cond_f rfl ?_ | refine T.exit ?_ | refine T.ret ?_ | refine T.skip ?_ | refine G.next ?_ | refine G.blockN ?_ | refine G.blockE ?_ | refine G.blockE' rfl ?_ | refine G.blockR ?_ | refine G.thenE ?_ | refine G.thenR ?_ | refine T.regionQ mixed (by kernel_rfl) ?_ | refine TL.nilQ (fun _ => ?_) | refine G.only ?_ | refine G.mixed ?_ | refine TM.nil ?_ | refine TM.e rfl ?_)
    · exact G.cut (⟨A', sz l', c', l'.take (sz l')⟩, ⟨A, sz l, c, l.take (sz l)⟩) (by repeat (first | exact Sub.nil _ | refine Sub.cons rfl ?_ | refine Sub.cons' rfl (int_congr (by omega)) ?_)) ⟨((Qt.refl w).drewN _).drewN _, g2, g1, hu'.take _, hu.take _, Nat.add_comm _ _, by dsimp only; omega, sz_take _, sz_take _, by dsimp only; rw [v1, v2, Nat.mul_comm]⟩
    · exact G.cut (⟨A, sz l, c, l.take (sz l)⟩, ⟨A', sz l', c', l'.take (sz l')⟩) (by repeat (first | exact Sub.nil _ | refine Sub.cons rfl ?_ | refine Sub.cons' rfl (int_congr (by omega)) ?_)) ⟨((Qt.refl w).drewN _).drewN _, g1, g2, hu.take _, hu'.take _, rfl, by dsimp only; omega, sz_take _, sz_take _, by dsimp only; rw [v1, v2]⟩
  rintro ⟨⟨A1, n1, c1, l1⟩, ⟨A2, n2, c2, l2⟩⟩ w0 ⟨⟨q, rfl⟩, s1, s2, u1, u2, hsum, hle, hz1, hz2, hval⟩
  dsimp only at s1 s2 u1 u2 hsum hle hz1 hz2 hval ⊢
  have hl1 := s1.len
  have hl2 := s2.len
  have hsum' : n1 + n2 ≤ n + n' := by omega
  clear hs hs' g1 g2 v1 v2 hlen hlen' hu hu'
  rw [← hsum, ← hval]
  clear hval
  repeat' (first | refine TL.ev (ev_simple rfl) rfl ?_ | refine TL.grun rfl rfl rfl ?_ | refine TL.gskip rfl rfl rfl rfl ?_ | refine TL.gskipU rfl rfl rfl ?_ | refine TL.ev (ev_len rfl) rfl ?_ | (refine TL.cmpG rfl rfl rfl rfl (fun hc => ?_) (fun hc => ?_) <;> try (exfalso; omega)) | refine TL.ev (ev_arN rfl rfl rfl (by omega)) rfl ?_ | refine TL.ev (ev_arI rfl rfl rfl (by omega)) rfl ?_ | refine TL.ev (ev_neg rfl (by omega)) rfl ?_ | refine TL.ev (ev_indexN rfl rfl (by omega) (by first | exact Or.inr rfl | exact Sl.some (by assumption))) rfl ?_ | refine TL.ev (ev_index rfl rfl (by omega) (by first | exact Or.inr rfl | exact Sl.some (by assumption))) rfl ?_ | refine TL.ev (ev_loadU rfl (by assumption) (by omega)) rfl ?_ | refine TL.ev (ev_loadI rfl (by assumption) (by omega)) rfl ?_ | (refine TL.makeU rfl rfl rfl (by omega) (by omega) (fun w1 b1 eb hB hE hz => ?_); simp only [World.heap_drewN] at eb hz; have hE1 : Ext w w1 := (ext_drewN _ _).trans hE; clear hE; have t1 := s1.ext hE1; have t2 := s2.ext hE1; have hg := off_lt t1 (g := b1) (by omega); have hg' := off_lt t2 (g := b1) (by omega)) | refine T.seq ?_ | refine T.region ?_ | refine TL.nil ?_ | refine T.block ?_ | refine T.cond_t rfl ?_ | refine T.cond_f rfl ?_ | refine T.exit ?_ | refine T.ret ?_ | refine T.skip ?_ | refine G.next ?_ | refine G.blockN ?_ | refine G.blockE ?_ | refine G.blockE' rfl ?_ | refine G.blockR ?_ | refine G.thenE ?_ | refine G.thenR ?_ | refine T.regionQ mixed (by kernel_rfl) ?_ | refine TL.nilQ (fun _ => ?_) | refine G.only ?_ | refine G.mixed ?_ | refine TM.nil ?_ | refine TM.e rfl ?_)
  · refine TL.call rfl rfl ((rows_ok w1 _ _ b1 _ _ _ _ _ _ l1 l2 t1 t2 hg hg' u1 u2 (by omega) (by omega) hB).mono ?_)
    rintro _ w2 ⟨rfl, ⟨D, B2, L2, U2, V2⟩, E2⟩
    refine Back.mk ?_
    repeat' (first | refine TL.ev (ev_simple rfl) rfl ?_ | refine TL.grun rfl rfl rfl ?_ | refine TL.gskip rfl rfl rfl rfl ?_ | refine TL.gskipU rfl rfl rfl ?_ | refine TL.ev (ev_len rfl) rfl ?_ | (refine TL.cmpG rfl rfl rfl rfl (fun hc => ?_) (fun hc => ?_) <;> try (exfalso; omega)) | refine TL.ev (ev_arN rfl rfl rfl (by omega)) rfl ?_ | refine TL.ev (ev_arI rfl rfl rfl (by omega)) rfl ?_ | refine TL.ev (ev_neg rfl (by omega)) rfl ?_ | refine T.seq ?_ | refine T.region ?_ | refine TL.nil ?_ | refine T.block ?_ | refine T.cond_t rfl ?_ | refine T.cond_f rfl ?_ | refine T.exit ?_ | refine T.ret ?_ | refine T.skip ?_ | refine G.next ?_ | refine G.blockN ?_ | refine G.blockE ?_ | refine G.blockE' rfl ?_ | refine G.blockR ?_ | refine G.thenE ?_ | refine G.thenR ?_ | refine T.regionQ mixed (by kernel_rfl) ?_ | refine TL.nilQ (fun _ => ?_) | refine G.only ?_ | refine G.mixed ?_ | refine TM.nil ?_ | refine TM.e rfl ?_)
    exact G.ret1 rfl rfl (RetB.mk (by omega) B2 L2 U2 V2 (hE1.upd E2 (by omega)))
  · have h24 : 24 ≤ n2 := by omega
    refine T.loop (α := Nat × List Nat) (fun x => [(5, .slice (some ⟨b1, 0, none⟩) (n1 + n2) (n1 + n2)), (0, .slice A1 n1 n1), (1, .slice A2 n2 n2), (6, .int .i64 (x.1 : Int))])
      (fun x w' => x.1 < n1 + n2 ∧ x.2.length = n1 + n2 ∧ U64 x.2 ∧ Ext w w' ∧ Bk u64v w'.heap b1 25 x.2 ∧ val x.2 = val (l1.take x.1) * val l2)
      (fun x => n1 + n2 - x.1) (0, List.replicate (n1 + n2) 0) (by repeat (first | exact Sub.nil _ | refine Sub.cons rfl ?_ | refine Sub.cons' rfl (int_congr (by omega)) ?_)) ⟨by dsimp only; omega, by simp, U64.replicate _, hE1, hB, by simp [val, val_zeros]⟩ ?_
    rintro ⟨i, Z⟩ w2 ⟨hi, hZ, hZu, hE2, hB2, hv⟩
    dsimp only at hi hZ hZu hE2 hB2 hv ⊢
    clear hB t1 t2 hE1
    have t1 := s1.ext hE2
    have t2 := s2.ext hE2
    repeat' (first | refine TL.ev (ev_simple rfl) rfl ?_ | refine TL.grun rfl rfl rfl ?_ | refine TL.gskip rfl rfl rfl rfl ?_ | refine TL.gskipU rfl rfl rfl ?_ | refine TL.ev (ev_len rfl) rfl ?_ | (refine TL.cmpG rfl rfl rfl rfl (fun hc => ?_) (fun hc => ?_) <;> try (exfalso; omega)) | refine TL.ev (ev_arN rfl rfl rfl (by omega)) rfl ?_ | refine TL.ev (ev_arI rfl rfl rfl (by omega)) rfl ?_ | refine TL.ev (ev_neg rfl (by omega)) rfl ?_ | refine TL.ev (ev_indexN rfl rfl (by omega) (by first | exact Or.inr rfl | exact Sl.some (by assumption))) rfl ?_ | refine TL.ev (ev_index rfl rfl (by omega) (by first | exact Or.inr rfl | exact Sl.some (by assumption))) rfl ?_ | refine TL.ev (ev_loadU rfl (by assumption) (by omega)) rfl ?_ | refine TL.ev (ev_loadI rfl (by assumption) (by omega)) rfl ?_ | refine TL.ev (ev_sl_h rfl rfl (by omega)) rfl ?_ | refine TL.ev (ev_sl_l rfl rfl (by omega) (by omega)) rfl ?_ | refine TL.ev (ev_sl_lh rfl rfl rfl (by omega) (by omega)) rfl ?_ | refine TL.ev (ev_sl_hm rfl rfl rfl (by omega) (by omega)) rfl ?_ | refine TL.ev (ev_sl_lhm rfl rfl rfl rfl (by omega) (by omega) (by omega)) rfl ?_ | refine TM.f rfl (fun _ => ev_simple rfl) rfl ?_ | refine TM.s rfl (ev_simple rfl) rfl ?_ | refine TM.f rfl (fun _ => ev_len rfl) rfl ?_ | refine TM.s rfl (ev_len rfl) rfl ?_ | refine TM.f rfl (fun _ => ev_arN rfl rfl rfl (by omega)) rfl ?_ | refine TM.s rfl (ev_arN rfl rfl rfl (by omega)) rfl ?_ | refine TM.f rfl (fun _ => ev_arI rfl rfl rfl (by omega)) rfl ?_ | refine TM.s rfl (ev_arI rfl rfl rfl (by omega)) rfl ?_ | refine TM.f rfl (fun _ => ev_neg rfl (by omega)) rfl ?_ | refine TM.s rfl (ev_neg rfl (by omega)) rfl ?_ | refine TM.f rfl (fun _ => ev_indexN rfl rfl (by omega) (by first | exact Or.inr rfl | exact Sl.some (by assumption))) rfl ?_ | refine TM.s rfl (ev_indexN rfl rfl (by omega) (by first | exact Or.inr rfl | exact Sl.some (by assumption))) rfl ?_ | refine TM.f rfl (fun _ => ev_index rfl rfl (by omega) (by first | exact Or.inr rfl | exact Sl.some (by assumption))) rfl ?_ | refine TM.s rfl (ev_index rfl rfl (by omega) (by first | exact Or.inr rfl | exact Sl.some (by assumption))) rfl ?_ | refine TM.f rfl (fun _ => ev_loadU rfl (by assumption) (by omega)) rfl ?_ | refine TM.s rfl (ev_loadU rfl (by assumption) (by omega)) rfl ?_ | refine TM.f rfl (fun _ => ev_loadI rfl (by assumption) (by omega)) rfl ?_ | refine TM.s rfl (ev_loadI rfl (by assumption) (by omega)) rfl ?_ | refine TM.f rfl (fun _ => ev_sl_h rfl rfl (by omega)) rfl ?_ | refine TM.s rfl (ev_sl_h rfl rfl (by omega)) rfl ?_ | refine TM.f rfl (fun _ => ev_sl_l rfl rfl (by omega) (by omega)) rfl ?_ | refine TM.s rfl (ev_sl_l rfl rfl (by omega) (by omega)) rfl ?_ | refine TM.f rfl (fun _ => ev_sl_lh rfl rfl rfl (by omega) (by omega)) rfl ?_ | refine TM.s rfl (ev_sl_lh rfl rfl rfl (by omega) (by omega)) rfl ?_ | refine TM.f rfl (fun _ => ev_sl_hm rfl rfl rfl (by omega) (by omega)) rfl ?_ | refine TM.s rfl (ev_sl_hm rfl rfl rfl (by omega) (by omega)) rfl ?_ | refine TM.f rfl (fun _ => ev_sl_lhm rfl rfl rfl rfl (by omega) (by omega) (by omega)) rfl ?_ | refine TM.s rfl (ev_sl_lhm rfl rfl rfl rfl (by omega) (by omega) (by omega)) rfl ?_ | refine TM.f rfl (fun _ => ev_min2 rfl rfl) rfl ?_ | refine TM.s rfl (ev_min2 rfl rfl) rfl ?_ | refine T.regionM [(0, 0), (1, 0), (2, 0), (3, 0), (4, 0), (5, 0), (6, 0), (7, 0), (8, 0), (9, 2), (10, 2), (11, 2)] mixed (by kernel_rfl) ?_ | (refine TL.ev (ev_min2 rfl rfl) rfl ?_) | refine T.seq ?_ | refine T.region ?_ | refine TL.nil ?_ | refine T.block ?_ | refine T.cond_t rfl ?_ | refine T.cond_f rfl ?_ | refine T.exit ?_ | refine T.ret ?_ | refine T.skip ?_ | refine G.next ?_ | refine G.blockN ?_ | refine G.blockE ?_ | refine G.blockE' rfl ?_ | refine G.blockR ?_ | refine G.thenE ?_ | refine G.thenR ?_ | refine T.regionQ mixed (by kernel_rfl) ?_ | refine TL.nilQ (fun _ => ?_) | refine G.only ?_ | refine G.mixed ?_ | refine TM.nil ?_ | refine TM.e rfl ?_)
    · have f1 : i < min (i + n2) n1 := by omega
      have f2 : min (i + n2) n1 ≤ n1 := Nat.min_le_right _ _
      have f3 : min (i + n2) n1 ≤ i + n2 := Nat.min_le_left _ _
      have f4 : i + n2 = min (i + n2) n1 ∨ n1 = min (i + n2) n1 := by omega
      generalize min (i + n2) n1 = e at *
      have t3 := (t1.take (k := e) (m := e) (by omega) (Nat.le_refl _)).dropC (k := i) (m := e) (m' := e - i) (by omega) (Nat.le_refl _) (Nat.le_refl _)
      have u3 := (u1.take e).drop i
      have lv := val_split (l1.take e) i
      rw [List.take_take, Nat.min_eq_left (by omega)] at lv
      refine TL.call rfl rfl ((IH _ _ _ _ _ _ _ _ _ _ _ (by exact t3) (by exact t2) u3 u2 (by omega) (by omega)).mono ?_)
      rintro _ w3 ⟨b3, D3, rfl, k3, B3, L3, U3, V3, E3⟩
      refine Back.mk ?_
      have hE3 : Ext w w3 := (hE2.drewN _).trans E3
      have hB3 : Bk u64v w3.heap b1 25 Z := hB2.ext ((ext_drewN _ _).trans E3)
      have l3 := t3.len
      have zz1 := sz_le ((l1.take e).drop i)
      have zz3 := sz_le D3
      have hb2 := hB2.lt
      simp only [World.heap_drewN] at k3
      repeat' (first | refine TL.ev (ev_simple rfl) rfl ?_ | refine TL.grun rfl rfl rfl ?_ | refine TL.gskip rfl rfl rfl rfl ?_ | refine TL.gskipU rfl rfl rfl ?_ | refine TL.ev (ev_len rfl) rfl ?_ | (refine TL.cmpG rfl rfl rfl rfl (fun hc => ?_) (fun hc => ?_) <;> try (exfalso; omega)) | refine TL.ev (ev_arN rfl rfl rfl (by omega)) rfl ?_ | refine TL.ev (ev_arI rfl rfl rfl (by omega)) rfl ?_ | refine TL.ev (ev_neg rfl (by omega)) rfl ?_ | refine TL.ev (ev_indexN rfl rfl (by omega) (by first | exact Or.inr rfl | exact Sl.some (by assumption))) rfl ?_ | refine TL.ev (ev_index rfl rfl (by omega) (by first | exact Or.inr rfl | exact Sl.some (by assumption))) rfl ?_ | refine TL.ev (ev_loadU rfl (by assumption) (by omega)) rfl ?_ | refine TL.ev (ev_loadI rfl (by assumption) (by omega)) rfl ?_ | refine TL.ev (ev_sl_h rfl rfl (by omega)) rfl ?_ | refine TL.ev (ev_sl_l rfl rfl (by omega) (by omega)) rfl ?_ | refine TL.ev (ev_sl_lh rfl rfl rfl (by omega) (by omega)) rfl ?_ | refine TL.ev (ev_sl_hm rfl rfl rfl (by omega) (by omega)) rfl ?_ | refine TL.ev (ev_sl_lhm rfl rfl rfl rfl (by omega) (by omega) (by omega)) rfl ?_ | refine TM.f rfl (fun _ => ev_simple rfl) rfl ?_ | refine TM.s rfl (ev_simple rfl) rfl ?_ | refine TM.f rfl (fun _ => ev_len rfl) rfl ?_ | refine TM.s rfl (ev_len rfl) rfl ?_ | refine TM.f rfl (fun _ => ev_arN rfl rfl rfl (by omega)) rfl ?_ | refine TM.s rfl (ev_arN rfl rfl rfl (by omega)) rfl ?_ | refine TM.f rfl (fun _ => ev_arI rfl rfl rfl (by omega)) rfl ?_ | refine TM.s rfl (ev_arI rfl rfl rfl (by omega)) rfl ?_ | refine TM.f rfl (fun _ => ev_neg rfl (by omega)) rfl ?_ | refine TM.s rfl (ev_neg rfl (by omega)) rfl ?_ | refine TM.f rfl (fun _ => ev_indexN rfl rfl (by omega) (by first | exact Or.inr rfl | exact Sl.some (by assumption))) rfl ?_ | refine TM.s rfl (ev_indexN rfl rfl (by omega) (by first | exact Or.inr rfl | exact Sl.some (by assumption))) rfl ?_ | refine TM.f rfl (fun _ => ev_index rfl rfl (by omega) (by first | exact Or.inr rfl | exact Sl.some (by assumption))) rfl ?_ | refine TM.s rfl (ev_index rfl rfl (by omega) (by first | exact Or.inr rfl | exact Sl.some (by assumption))) rfl ?_ | refine TM.f rfl (fun _ => ev_loadU rfl (by assumption) (by omega)) rfl ?_ | refine TM.s rfl (ev_loadU rfl (by assumption) (by omega)) rfl ?_ | refine TM.f rfl (fun _ => ev_loadI rfl (by assumption) (by omega)) rfl ?_ | refine TM.s rfl (ev_loadI rfl (by assumption) (by omega)) rfl ?_ | refine TM.f rfl (fun _ => ev_sl_h rfl rfl (by omega)) rfl ?_ | refine TM.s rfl (ev_sl_h rfl rfl (by omega)) rfl ?_ | refine TM.f rfl (fun _ => ev_sl_l rfl rfl (by omega) (by omega)) rfl ?_ | refine TM.s rfl (ev_sl_l rfl rfl (by omega) (by omega)) rfl ?_ | refine TM.f rfl (fun _ => ev_sl_lh rfl rfl rfl (by omega) (by omega)) rfl ?_ | refine TM.s rfl (ev_sl_lh rfl rfl rfl (by omega) (by omega)) rfl ?_ | refine TM.f rfl (fun _ => ev_sl_hm rfl rfl rfl (by omega) (by omega)) rfl ?_ | refine TM.s rfl (ev_sl_hm rfl rfl rfl (by omega) (by omega)) rfl ?_ | refine TM.f rfl (fun _ => ev_sl_lhm rfl rfl rfl rfl (by omega) (by omega) (by omega)) rfl ?_ | refine TM.s rfl (ev_sl_lhm rfl rfl rfl rfl (by omega) (by omega) (by omega)) rfl ?_ | (refine TL.callP rfl rfl (trim_ok _ _ _ _ _ _ (B3.slN L3 (Nat.le_refl _) B3.lt) (by omega)) (fun q1 => ?_)) | refine T.seq ?_ | refine T.region ?_ | refine TL.nil ?_ | refine T.block ?_ | refine T.cond_t rfl ?_ | refine T.cond_f rfl ?_ | refine T.exit ?_ | refine T.ret ?_ | refine T.skip ?_ | refine G.next ?_ | refine G.blockN ?_ | refine G.blockE ?_ | refine G.blockE' rfl ?_ | refine G.blockR ?_ | refine G.thenE ?_ | refine G.thenR ?_ | refine T.regionQ mixed (by kernel_rfl) ?_ | refine TL.nilQ (fun _ => ?_) | refine G.only ?_ | refine G.mixed ?_ | refine TM.nil ?_ | refine TM.e rfl ?_)
      have e1 := List.take_append_drop i Z
      have zv := val_split Z i
      have hnew : val Z + 18446744073709551616 ^ i * val D3 = val (l1.take e) * val l2 := by
        rw [lv, hv, V3, Nat.add_mul, Nat.mul_assoc]
      have hle2 : val (l1.take e) * val l2 < 18446744073709551616 ^ (n1 + n2) := by
        have p1 := u1.take_lt e
        have p2 := val_lt u2
        rw [hl2] at p2
        have p3 := Nat.mul_lt_mul'' p1 p2
        rw [← Nat.pow_add] at p3
        exact Nat.lt_of_lt_of_le p3 (Nat.pow_le_pow_right (by omega) (by omega))
      have hlt : val (Z.drop i) + val D3 < 18446744073709551616 ^ (n1 + n2 - i) := by
        have hp : 18446744073709551616 ^ (n1 + n2) = 18446744073709551616 ^ i * 18446744073709551616 ^ (n1 + n2 - i) := by
          rw [← Nat.pow_add, show i + (n1 + n2 - i) = n1 + n2 by omega]
        rw [← hnew, zv, hp] at hle2
        refine Nat.lt_of_mul_lt_mul_left (a := 18446744073709551616 ^ i) ?_
        rw [Nat.mul_add]
        omega
      have hs3 := sz_le_of U3 (k := n1 + n2 - i) (by omega)
      have S3 := B3.sl (sz_le D3) (Nat.le_refl _) B3.lt
      have vl3 := val_sz D3
      rw [cutA_some (by omega), Nat.zero_add]
      refine TL.call rfl rfl ((addTo_ok _ _ b1 i (n1 + n2 - i) (n1 + n2 - i) _ _ _ (Z.take i) (Z.drop i) _ (by rw [e1]; exact hB3) (by simp; omega) (by simp; omega) (Nat.le_refl _) (by exact S3) (off_ne (by omega)) (hZu.drop _) (U3.take _) (by omega) (by omega) (by rw [vl3]; exact hlt)).mono ?_)
      rintro _ w4 ⟨rfl, ⟨F, B4, L4, U4, V4⟩, E4⟩
      refine Back.mk ?_
      repeat' (first | refine TL.ev (ev_simple rfl) rfl ?_ | refine TL.grun rfl rfl rfl ?_ | refine TL.gskip rfl rfl rfl rfl ?_ | refine TL.gskipU rfl rfl rfl ?_ | refine TL.ev (ev_len rfl) rfl ?_ | (refine TL.cmpG rfl rfl rfl rfl (fun hc => ?_) (fun hc => ?_) <;> try (exfalso; omega)) | refine TL.ev (ev_arN rfl rfl rfl (by omega)) rfl ?_ | refine TL.ev (ev_arI rfl rfl rfl (by omega)) rfl ?_ | refine TL.ev (ev_neg rfl (by omega)) rfl ?_ | refine TL.ev (ev_indexN rfl rfl (by omega) (by first | exact Or.inr rfl | exact Sl.some (by assumption))) rfl ?_ | refine TL.ev (ev_index rfl rfl (by omega) (by first | exact Or.inr rfl | exact Sl.some (by assumption))) rfl ?_ | refine TL.ev (ev_loadU rfl (by assumption) (by omega)) rfl ?_ | refine TL.ev (ev_loadI rfl (by assumption) (by omega)) rfl ?_ | refine T.seq ?_ | refine T.region ?_ | refine TL.nil ?_ | refine T.block ?_ | refine T.cond_t rfl ?_ | refine T.cond_f rfl ?_ | refine T.exit ?_ | refine T.ret ?_ | refine T.skip ?_ | refine G.next ?_ | refine G.blockN ?_ | refine G.blockE ?_ | refine G.blockE' rfl ?_ | refine G.blockR ?_ | refine G.thenE ?_ | refine G.thenR ?_ | refine T.regionQ mixed (by kernel_rfl) ?_ | refine TL.nilQ (fun _ => ?_) | refine G.only ?_ | refine G.mixed ?_ | refine TM.nil ?_ | refine TM.e rfl ?_)
      refine G.again (i + n2, Z.take i ++ F) (by repeat (first | exact Sub.nil _ | refine Sub.cons rfl ?_ | refine Sub.cons' rfl (int_congr (by omega)) ?_)) ⟨by dsimp only; omega, by simp; omega, (hZu.take _).append U4, (hE3.drewN _).upd E4 (by omega), B4, ?_⟩ (by dsimp only; omega)
      dsimp only
      have h5 : val (l1.take (i + n2)) = val (l1.take e) := by
        rcases f4 with h | h
        · rw [h]
        · rw [List.take_of_length_le (show l1.length ≤ i + n2 by omega), List.take_of_length_le (show l1.length ≤ e by omega)]
      rw [h5, ← hnew, val_append, List.length_take, Nat.min_eq_left (by omega), V4, vl3, zv, Nat.mul_add, Nat.add_assoc]
    · have h2 : val (l1.take i) = val l1 := by rw [List.take_of_length_le (by omega)]
      exact G.ret1 rfl rfl (RetB.mk (by omega) hB2 hZ hZu (by rw [hv, h2]) hE2)
  · refine TL.call rfl rfl ((halves_ok w1 _ _ b1 _ _ _ _ l1 l2 (IH.mono (by omega)) t1 t2 hg hg' u1 u2 (by omega) (by omega) (by omega) (by omega) hB).mono ?_)
    rintro _ w2 ⟨rfl, ⟨D, B2, L2, U2, V2⟩, E2⟩
    refine Back.mk ?_
    repeat' (first | refine TL.ev (ev_simple rfl) rfl ?_ | refine TL.grun rfl rfl rfl ?_ | refine TL.gskip rfl rfl rfl rfl ?_ | refine TL.gskipU rfl rfl rfl ?_ | refine TL.ev (ev_len rfl) rfl ?_ | (refine TL.cmpG rfl rfl rfl rfl (fun hc => ?_) (fun hc => ?_) <;> try (exfalso; omega)) | refine TL.ev (ev_arN rfl rfl rfl (by omega)) rfl ?_ | refine TL.ev (ev_arI rfl rfl rfl (by omega)) rfl ?_ | refine TL.ev (ev_neg rfl (by omega)) rfl ?_ | refine T.seq ?_ | refine T.region ?_ | refine TL.nil ?_ | refine T.block ?_ | refine T.cond_t rfl ?_ | refine T.cond_f rfl ?_ | refine T.exit ?_ | refine T.ret ?_ | refine T.skip ?_ | refine G.next ?_ | refine G.blockN ?_ | refine G.blockE ?_ | refine G.blockE' rfl ?_ | refine G.blockR ?_ | refine G.thenE ?_ | refine G.thenR ?_ | refine T.regionQ mixed (by kernel_rfl) ?_ | refine TL.nilQ (fun _ => ?_) | refine G.only ?_ | refine G.mixed ?_ | refine TM.nil ?_ | refine TM.e rfl ?_)
    exact G.ret1 rfl rfl (RetB.mk (by omega) B2 L2 U2 V2 (Ext.turn hE1 E2 (by omega)))
theorem prod_all : ∀ k, ProdSpec k
  | 0 => fun w B B' A A' n c n' c' l l' h1 h2 h3 h4 h5 h6 => absurd h6 (Nat.not_lt_zero _)
  | k + 1 => prod_step k (prod_all k)
theorem product_ok (w : World) (B B' : Nat) (A A' : Option Addr) (n c n' c' : Nat) (l l' : List Nat) (hs : Sl u64v w.heap B A n c l) (hs' : Sl u64v w.heap B' A' n' c' l') (hu : U64 l) (hu' : U64 l') (hn : n + n' ≤ 35184372088832) :
    Cl Try.prog 44 #[.slice A n c, .slice A' n' c'] w (RetB w (sz l + sz l') (val l * val l')) := prod_all (n + n' + 1) w B B' A A' n c n' c' l l' hs hs' hu hu' hn (by omega)
end Go.Proofs.Ytgmhldapndhoeaa
