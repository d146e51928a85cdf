/- Layer 1: contracts of nat.Add and nat.Sub. -/
import Derived.Test.YtgmhldapndhoeaaNatA
set_option linter.unusedVariables false
set_option linter.unusedSimpArgs false
namespace Go.Proofs.Ytgmhldapndhoeaa
open Go Go.Eng Go.Proofs Go.NatM

set_option maxHeartbeats 1000000 in
theorem add_ok (w : World) (B B' : Nat) (A A' : Option Addr) (n c n' c' : Nat) (l l' : List Nat) (hs : Sl u64v w.heap B A n c l) (hs' : Sl u64v w.heap B' A' n' c' l') (hu : U64 l) (hu' : U64 l') (hn : n ≤ 35184372088831) (hn' : n' ≤ 35184372088831) :
    Cl Try.prog 18 #[.slice A n c, .slice A' n' c'] w (RetN w (dig (val l + val l')) (max n n' + 1)) := by
  have hlen := hs.len
  have hlen' := hs'.len
  replace hs := hs.size
  replace hs' := hs'.size
  refine enter Try.func18 rfl rfl rfl ?_
  refine T.seq (T.region ?_)
  repeat' (first | refine TL.ev (ev_simple rfl) rfl ?_ | refine TL.grun rfl rfl rfl ?_ | refine TL.gskip rfl rfl rfl rfl ?_ | refine TL.gskipU rfl rfl rfl ?_ | refine TL.ev (ev_len rfl) rfl ?_ | (refine TL.cmpG rfl rfl rfl rfl (fun hc => ?_) (fun hc => ?_) <;> try (exfalso; omega)) | refine TL.ev (ev_arN rfl rfl rfl (by omega)) rfl ?_ | refine TL.ev (ev_arI rfl rfl rfl (by omega)) rfl ?_ | refine TL.ev (ev_neg rfl (by omega)) rfl ?_ | refine TL.ev (ev_indexN rfl rfl (by omega) (by first | exact Or.inr rfl | exact Sl.some (by assumption))) rfl ?_ | refine TL.ev (ev_index rfl rfl (by omega) (by first | exact Or.inr rfl | exact Sl.some (by assumption))) rfl ?_ | refine TL.ev (ev_loadU rfl (by assumption) (by omega)) rfl ?_ | refine TL.ev (ev_loadI rfl (by assumption) (by omega)) rfl ?_ | refine T.region ?_ | refine TL.nil ?_ | refine T.block ?_ | refine T.cond_t rfl ?_ | refine T.cond_f rfl ?_ | refine T.exit ?_ | refine T.ret ?_ | refine T.skip ?_ | refine G.next ?_ | refine G.blockN ?_ | refine G.blockE ?_ | refine G.blockE' rfl ?_ | refine G.blockR ?_ | refine G.thenE ?_ | refine G.thenR ?_ | refine T.regionQ mixed (by kernel_rfl) ?_ | refine TL.nilQ (fun _ => ?_) | refine G.only ?_ | refine G.mixed ?_ | refine TM.nil ?_ | refine TM.e rfl ?_)
  refine T.cut (α := SA Nat × SA Nat) (fun x => [(0, .slice x.1.A x.1.n x.1.c), (1, .slice x.2.A x.2.n x.2.c)]) (fun x w' => Qt w w' ∧ Sl u64v w.heap w.heap.size x.1.A x.1.n x.1.c x.1.l ∧ Sl u64v w.heap w.heap.size x.2.A x.2.n x.2.c x.2.l ∧ U64 x.1.l ∧ U64 x.2.l ∧
    x.1.n ≤ 35184372088831 ∧ x.2.n ≤ 35184372088831 ∧ x.1.n ≤ max n n' ∧ sz x.2.l ≤ sz x.1.l ∧ val x.1.l + val x.2.l = val l + val l') ?_ ?_
  · repeat' (first | refine TL.ev (ev_simple rfl) rfl ?_ | refine TL.grun rfl rfl rfl ?_ | refine TL.gskip rfl rfl rfl rfl ?_ | refine TL.gskipU rfl rfl rfl ?_ | refine TL.ev (ev_len rfl) rfl ?_ | (refine TL.cmpG rfl rfl rfl rfl (fun hc => ?_) (fun hc => ?_) <;> try (exfalso; omega)) | refine TL.ev (ev_arN rfl rfl rfl (by omega)) rfl ?_ | refine TL.ev (ev_arI rfl rfl rfl (by omega)) rfl ?_ | refine TL.ev (ev_neg rfl (by omega)) rfl ?_ | refine TL.ev (ev_indexN rfl rfl (by omega) (by first | exact Or.inr rfl | exact Sl.some (by assumption))) rfl ?_ | refine TL.ev (ev_index rfl rfl (by omega) (by first | exact Or.inr rfl | exact Sl.some (by assumption))) rfl ?_ | refine TL.ev (ev_loadU rfl (by assumption) (by omega)) rfl ?_ | refine TL.ev (ev_loadI rfl (by assumption) (by omega)) rfl ?_ | (refine TL.callP rfl rfl (size_ok _ _ _ _ _ _ hs (by omega)) (fun _ => ?_)) | (refine TL.callP rfl rfl (size_ok _ _ _ _ _ _ hs' (by omega)) (fun _ => ?_)) | refine T.seq ?_ | refine T.region ?_ | refine TL.nil ?_ | refine T.block ?_ | refine T.cond_t rfl ?_ | refine T.cond_f rfl ?_ | refine T.exit ?_ | refine T.ret ?_ | refine T.skip ?_ | refine G.next ?_ | refine G.blockN ?_ | refine G.blockE ?_ | refine G.blockE' rfl ?_ | refine G.blockR ?_ | refine G.thenE ?_ | refine G.thenR ?_ | refine T.regionQ mixed (by kernel_rfl) ?_ | refine TL.nilQ (fun _ => ?_) | refine G.only ?_ | refine G.mixed ?_ | refine TM.nil ?_ | refine TM.e rfl ?_)
    · exact G.cut (⟨A', n', c', l'⟩, ⟨A, n, c, l⟩) (by repeat (first | exact Sub.nil _ | refine Sub.cons rfl ?_ | refine Sub.cons' rfl (int_congr (by omega)) ?_)) ⟨((Qt.refl w).drewN _).drewN _, hs', hs, hu', hu, hn', hn, by dsimp only; omega, by dsimp only; omega, Nat.add_comm _ _⟩
    · exact G.cut (⟨A, n, c, l⟩, ⟨A', n', c', l'⟩) (by repeat (first | exact Sub.nil _ | refine Sub.cons rfl ?_ | refine Sub.cons' rfl (int_congr (by omega)) ?_)) ⟨((Qt.refl w).drewN _).drewN _, hs, hs', hu, hu', hn, hn', by dsimp only; omega, by dsimp only; omega, rfl⟩
  · rintro ⟨⟨A1, n1, c1, l1⟩, ⟨A2, n2, c2, l2⟩⟩ w0 ⟨⟨q, rfl⟩, g1, g2, u1, u2, m1, m2, mx, hle, hval⟩
    dsimp only at g1 g2 u1 u2 m1 m2 mx hle hval ⊢
    have hl1 := g1.len
    have hl2 := g2.len
    have z1 := sz_le l1
    have z2 := sz_le l2
    repeat' (first | refine TL.ev (ev_simple rfl) rfl ?_ | refine TL.grun rfl rfl rfl ?_ | refine TL.gskip rfl rfl rfl rfl ?_ | refine TL.gskipU rfl rfl rfl ?_ | refine TL.ev (ev_len rfl) rfl ?_ | (refine TL.cmpG rfl rfl rfl rfl (fun hc => ?_) (fun hc => ?_) <;> try (exfalso; omega)) | refine TL.ev (ev_arN rfl rfl rfl (by omega)) rfl ?_ | refine TL.ev (ev_arI rfl rfl rfl (by omega)) rfl ?_ | refine TL.ev (ev_neg rfl (by omega)) rfl ?_ | refine TL.ev (ev_indexN rfl rfl (by omega) (by first | exact Or.inr rfl | exact Sl.some (by assumption))) rfl ?_ | refine TL.ev (ev_index rfl rfl (by omega) (by first | exact Or.inr rfl | exact Sl.some (by assumption))) rfl ?_ | refine TL.ev (ev_loadU rfl (by assumption) (by omega)) rfl ?_ | refine TL.ev (ev_loadI rfl (by assumption) (by omega)) rfl ?_ | (refine TL.callP rfl rfl (size_ok _ _ _ _ _ _ g1 (by omega)) (fun _ => ?_)) | (refine TL.callP rfl rfl (size_ok _ _ _ _ _ _ g2 (by omega)) (fun _ => ?_)) | (refine TL.makeU rfl rfl rfl (by omega) (by omega) (fun w1 b1 eb hB hE hz => ?_); simp only [World.heap_drewN] at eb hz; have hE1 : Ext w w1 := ((ext_drewN _ _).trans (ext_drewN _ _)).trans ((ext_drewN _ _).trans hE)) | refine T.seq ?_ | refine T.region ?_ | refine TL.nil ?_ | refine T.block ?_ | refine T.cond_t rfl ?_ | refine T.cond_f rfl ?_ | refine T.exit ?_ | refine T.ret ?_ | refine T.skip ?_ | refine G.next ?_ | refine G.blockN ?_ | refine G.blockE ?_ | refine G.blockE' rfl ?_ | refine G.blockR ?_ | refine G.thenE ?_ | refine G.thenR ?_ | refine T.regionQ mixed (by kernel_rfl) ?_ | refine TL.nilQ (fun _ => ?_) | refine G.only ?_ | refine G.mixed ?_ | refine TM.nil ?_ | refine TM.e rfl ?_)
    clear hE
    refine T.loop (α := Nat × List Nat × Nat) (fun x => [(0, .slice A1 n1 c1), (1, .slice A2 n2 c2), (5, .int .i64 (sz l1 : Int)), (6, .int .i64 (sz l2 : Int)), (7, .slice (some ⟨b1, 0, none⟩) (sz l1 + 1) (sz l1 + 1)), (8, .int .u64 (x.2.2 : Int)), (25, .int .i64 (sz l1 : Int)), (26, .int .i64 (x.1 : Int))])
      (fun x w' => x.1 ≤ sz l1 ∧ x.2.1.length = x.1 ∧ U64 x.2.1 ∧ x.2.2 ≤ 1 ∧ Ext w w' ∧ Bk u64v w'.heap b1 25 (x.2.1 ++ List.replicate (sz l1 - x.1 + 1) 0) ∧ val x.2.1 + 18446744073709551616 ^ x.1 * x.2.2 = val (l1.take x.1) + val (l2.take x.1))
      (fun x => sz l1 - x.1) (0, [], 0) (by repeat (first | exact Sub.nil _ | refine Sub.cons rfl ?_ | refine Sub.cons' rfl (int_congr (by omega)) ?_)) ⟨Nat.zero_le _, rfl, U64.nil, Nat.zero_le _, hE1, by simpa using hB, by simp [val]⟩ ?_
    rintro ⟨i, D, cy⟩ w2 ⟨hi, hD, hDu, hcy, hE2, hB2, hv⟩
    dsimp only at hi hD hDu hcy hE2 hB2 hv ⊢
    have k1 := g1.ext hE2
    have k2 := g2.ext hE2
    have x1 := u1.getD i
    have x2 := u2.getD i
    have hlB : (D ++ List.replicate (sz l1 - i + 1) 0).length = sz l1 + 1 := by simp; omega
    repeat' (first | refine TL.ev (ev_simple rfl) rfl ?_ | refine TL.grun rfl rfl rfl ?_ | refine TL.gskip rfl rfl rfl rfl ?_ | refine TL.gskipU rfl rfl rfl ?_ | refine TL.ev (ev_len rfl) rfl ?_ | (refine TL.cmpG rfl rfl rfl rfl (fun hc => ?_) (fun hc => ?_) <;> try (exfalso; omega)) | refine TL.ev (ev_arN rfl rfl rfl (by omega)) rfl ?_ | refine TL.ev (ev_arI rfl rfl rfl (by omega)) rfl ?_ | refine TL.ev (ev_neg rfl (by omega)) rfl ?_ | refine TL.ev (ev_indexN rfl rfl (by omega) (by first | exact Or.inr rfl | exact Sl.some (by assumption))) rfl ?_ | refine TL.ev (ev_index rfl rfl (by omega) (by first | exact Or.inr rfl | exact Sl.some (by assumption))) rfl ?_ | refine TL.ev (ev_loadU rfl (by assumption) (by omega)) rfl ?_ | refine TL.ev (ev_loadI rfl (by assumption) (by omega)) rfl ?_ | refine TL.ev (ev_sl_h rfl rfl (by omega)) rfl ?_ | refine TL.ev (ev_sl_l rfl rfl (by omega) (by omega)) rfl ?_ | refine TL.ev (ev_sl_lh rfl rfl rfl (by omega) (by omega)) rfl ?_ | refine TL.ev (ev_sl_hm rfl rfl rfl (by omega) (by omega)) rfl ?_ | refine TL.ev (ev_sl_lhm rfl rfl rfl rfl (by omega) (by omega) (by omega)) rfl ?_ | (refine TL.ev (ev_callx rfl (fun w => add64_run w (by omega))) rfl ?_) | (refine TL.storeU rfl rfl hB2 (by rw [hlB]; omega) (fun w3 hB3 hU => ?_)) | refine T.seq ?_ | refine T.region ?_ | refine TL.nil ?_ | refine T.block ?_ | refine T.cond_t rfl ?_ | refine T.cond_f rfl ?_ | refine T.exit ?_ | refine T.ret ?_ | refine T.skip ?_ | refine G.next ?_ | refine G.blockN ?_ | refine G.blockE ?_ | refine G.blockE' rfl ?_ | refine G.blockR ?_ | refine G.thenE ?_ | refine G.thenR ?_ | refine T.regionQ mixed (by kernel_rfl) ?_ | refine TL.nilQ (fun _ => ?_) | refine G.only ?_ | refine G.mixed ?_ | refine TM.nil ?_ | refine TM.e rfl ?_)
    · have e1 : sz l1 - i + 1 = (sz l1 - (i + 1) + 1) + 1 := by omega
      rw [e1, ← hD, set_zeros, hD] at hB3
      have hlt : (l1.getD i 0 + l2.getD i 0 + cy) % 18446744073709551616 < 18446744073709551616 := Nat.mod_lt _ (by omega)
      refine G.again (i + 1, D ++ [(l1.getD i 0 + l2.getD i 0 + cy) % 18446744073709551616], (l1.getD i 0 + l2.getD i 0 + cy) / 18446744073709551616) (by repeat (first | exact Sub.nil _ | refine Sub.cons rfl ?_ | refine Sub.cons' rfl (int_congr (by omega)) ?_)) ⟨by dsimp only; omega, by simp [hD], hDu.append (U64.one hlt), by dsimp only; omega, hE2.upd hU (by omega), hB3, ?_⟩ (by dsimp only; omega)
      dsimp only
      rw [val_snoc, val_take_succ, val_take_succ, hD, Nat.pow_succ]
      exact add_step hv (by omega)
    · have e1 : sz l1 - i + 1 = (sz l1 - (i + 1) + 1) + 1 := by omega
      have e2 : l2.getD i 0 = 0 := sz_zero l2 i (by omega)
      rw [e1, ← hD, set_zeros, hD] at hB3
      have hlt : (l1.getD i 0 + 0 + cy) % 18446744073709551616 < 18446744073709551616 := Nat.mod_lt _ (by omega)
      refine G.again (i + 1, D ++ [(l1.getD i 0 + 0 + cy) % 18446744073709551616], (l1.getD i 0 + 0 + cy) / 18446744073709551616) (by repeat (first | exact Sub.nil _ | refine Sub.cons rfl ?_ | refine Sub.cons' rfl (int_congr (by omega)) ?_)) ⟨by dsimp only; omega, by simp [hD], hDu.append (U64.one hlt), by dsimp only; omega, hE2.upd hU (by omega), hB3, ?_⟩ (by dsimp only; omega)
      dsimp only
      rw [val_snoc, val_take_succ, val_take_succ, hD, Nat.pow_succ, e2]
      exact add_step hv (by omega)
    · have hi' : i = sz l1 := by omega
      subst hi'
      have e1 : sz l1 - sz l1 + 1 = 0 + 1 := by omega
      rw [e1] at hB3
      have e3 := set_zeros D 0 cy
      rw [hD] at e3
      rw [e3, List.replicate_zero, List.append_nil] at hB3
      have hval2 : val (D ++ [cy]) = val l + val l' := by
        rw [val_snoc, hD, hv, val_sz, val_take_ge l2 _ hle, hval]
      have hu3 : U64 (D ++ [cy]) := hDu.append (U64.one (by omega))
      have hs0 := sz_le (D ++ [cy])
      have hl3 : (D ++ [cy]).length = sz l1 + 1 := by simp [hD]
      have hS := hB3.slN hl3 (Nat.le_refl _) hB3.lt
      repeat' (first | refine TL.ev (ev_simple rfl) rfl ?_ | refine TL.grun rfl rfl rfl ?_ | refine TL.gskip rfl rfl rfl rfl ?_ | refine TL.gskipU rfl rfl rfl ?_ | refine TL.ev (ev_len rfl) rfl ?_ | (refine TL.cmpG rfl rfl rfl rfl (fun hc => ?_) (fun hc => ?_) <;> try (exfalso; omega)) | refine TL.ev (ev_arN rfl rfl rfl (by omega)) rfl ?_ | refine TL.ev (ev_arI rfl rfl rfl (by omega)) rfl ?_ | refine TL.ev (ev_neg rfl (by omega)) rfl ?_ | refine TL.ev (ev_indexN rfl rfl (by omega) (by first | exact Or.inr rfl | exact Sl.some (by assumption))) rfl ?_ | refine TL.ev (ev_index rfl rfl (by omega) (by first | exact Or.inr rfl | exact Sl.some (by assumption))) rfl ?_ | refine TL.ev (ev_loadU rfl (by assumption) (by omega)) rfl ?_ | refine TL.ev (ev_loadI rfl (by assumption) (by omega)) rfl ?_ | refine TL.ev (ev_sl_h rfl rfl (by omega)) rfl ?_ | refine TL.ev (ev_sl_l rfl rfl (by omega) (by omega)) rfl ?_ | refine TL.ev (ev_sl_lh rfl rfl rfl (by omega) (by omega)) rfl ?_ | refine TL.ev (ev_sl_hm rfl rfl rfl (by omega) (by omega)) rfl ?_ | refine TL.ev (ev_sl_lhm rfl rfl rfl rfl (by omega) (by omega) (by omega)) rfl ?_ | (refine TL.callP rfl rfl (size_ok _ _ _ _ _ _ hS (by omega)) (fun _ => ?_)) | refine T.seq ?_ | refine T.region ?_ | refine TL.nil ?_ | refine T.block ?_ | refine T.cond_t rfl ?_ | refine T.cond_f rfl ?_ | refine T.exit ?_ | refine T.ret ?_ | refine T.skip ?_ | refine G.next ?_ | refine G.blockN ?_ | refine G.blockE ?_ | refine G.blockE' rfl ?_ | refine G.blockR ?_ | refine G.thenE ?_ | refine G.thenR ?_ | refine T.regionQ mixed (by kernel_rfl) ?_ | refine TL.nilQ (fun _ => ?_) | refine G.only ?_ | refine G.mixed ?_ | refine TM.nil ?_ | refine TM.e rfl ?_)
      have := hB3.ow (lo := w.heap.size) (k := sz (D ++ [cy])) (c := sz l1 + 1) hs0 (by omega) (by unfold maxLen; omega) (by omega)
      rw [take_sz hu3, hval2] at this
      exact G.ret1 rfl rfl (RetN.mk this ((hE2.upd hU (by omega)).drewN _) (by omega))
end Go.Proofs.Ytgmhldapndhoeaa
