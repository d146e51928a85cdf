/- Layer 1: contract of nat.Sub. -/
import Derived.Test.YtgmhldapndhoeaaNatA
set_option linter.unusedVariables false
set_option linter.unusedSimpArgs false
namespace Go.Proofs.Ytgmhldapndhoeaa
open Go Go.Eng Go.Proofs Go.NatM

theorem sub_err (w : World) (B B' : Nat) (A A' : Option Addr) (n c n' c' : Nat) (l l' : List Nat) (hs : Sl u64v w.heap B A n c l) (hs' : Sl u64v w.heap B' A' n' c' l') (hu : U64 l) (hu' : U64 l') (hn : n ≤ 35184372088831) (hn' : n' ≤ 35184372088831)
    (hlt : val l < val l') : Cl Try.prog 17 #[.slice A n c, .slice A' n' c'] w (RetNE w [] n 3) := by
  have e : cmp3 (val l) (val l') = -1 := if_pos hlt
  have hcmp := cmp_ok w.heap B B' A A' n c n' c' l l' hs hs' hu hu' (by omega) (by omega)
  rw [e] at hcmp
  refine enter Try.func17 rfl rfl rfl ?_
  repeat' (first | refine TL.ev (ev_simple rfl) rfl ?_ | refine TL.grun rfl rfl rfl ?_ | refine TL.gskip rfl rfl rfl rfl ?_ | refine TL.gskipU rfl rfl rfl ?_ | refine TL.ev (ev_len rfl) rfl ?_ | (refine TL.cmpG rfl rfl rfl rfl (fun hc => ?_) (fun hc => ?_) <;> try (exfalso; omega)) | refine TL.ev (ev_arN rfl rfl rfl (by omega)) rfl ?_ | refine TL.ev (ev_arI rfl rfl rfl (by omega)) rfl ?_ | refine TL.ev (ev_neg rfl (by omega)) rfl ?_ | refine TL.ev (ev_indexN rfl rfl (by omega) (by first | exact Or.inr rfl | exact Sl.some (by assumption))) rfl ?_ | refine TL.ev (ev_index rfl rfl (by omega) (by first | exact Or.inr rfl | exact Sl.some (by assumption))) rfl ?_ | refine TL.ev (ev_loadU rfl (by assumption) (by omega)) rfl ?_ | refine TL.ev (ev_loadI rfl (by assumption) (by omega)) rfl ?_ | (refine TL.callP rfl rfl hcmp (fun _ => ?_)) | refine T.seq ?_ | refine T.region ?_ | refine TL.nil ?_ | refine T.block ?_ | refine T.cond_t rfl ?_ | refine T.cond_f rfl ?_ | refine T.exit ?_ | refine T.ret ?_ | refine T.skip ?_ | refine G.next ?_ | refine G.blockN ?_ | refine G.blockE ?_ | refine G.blockE' rfl ?_ | refine G.blockR ?_ | refine G.thenE ?_ | refine G.thenR ?_ | refine T.regionQ mixed (by kernel_rfl) ?_ | refine TL.nilQ (fun _ => ?_) | refine G.only ?_ | refine G.mixed ?_ | refine TM.nil ?_ | refine TM.e rfl ?_)
  exact G.ret2 rfl rfl rfl (RetNE.mk (Ow.nil _ _ _ _) (ext_drewN _ _) (by omega))

set_option maxHeartbeats 1000000 in
theorem sub_ok (w : World) (B B' : Nat) (A A' : Option Addr) (n c n' c' : Nat) (l l' : List Nat) (hs : Sl u64v w.heap B A n c l) (hs' : Sl u64v w.heap B' A' n' c' l') (hu : U64 l) (hu' : U64 l') (hn : n ≤ 35184372088831) (hn' : n' ≤ 35184372088831)
    (hge : val l' ≤ val l) : Cl Try.prog 17 #[.slice A n c, .slice A' n' c'] w (RetNE w (dig (val l - val l')) n 0) := by
  have hlen := hs.len
  have hlen' := hs'.len
  replace hs := hs.size
  replace hs' := hs'.size
  obtain ⟨q, hq, hq0⟩ : ∃ q, cmp3 (val l) (val l') = q ∧ 0 ≤ q := ⟨_, rfl, by unfold cmp3; rw [if_neg (by omega)]; split <;> omega⟩
  have hcmp := cmp_ok w.heap _ _ A A' n c n' c' l l' hs hs' hu hu' (by omega) (by omega)
  rw [hq] at hcmp
  have z1 := sz_le l
  have z2 := sz_le l'
  have hle : sz l' ≤ sz l := by
    rcases Nat.lt_or_ge (sz l) (sz l') with h | h
    · have := lt_of_sz_lt hu h; omega
    · exact h
  refine enter Try.func17 rfl rfl rfl ?_
  repeat' (first | refine TL.ev (ev_simple rfl) rfl ?_ | refine TL.grun rfl rfl rfl ?_ | refine TL.gskip rfl rfl rfl rfl ?_ | refine TL.gskipU rfl rfl rfl ?_ | refine TL.ev (ev_len rfl) rfl ?_ | (refine TL.cmpG rfl rfl rfl rfl (fun hc => ?_) (fun hc => ?_) <;> try (exfalso; omega)) | refine TL.ev (ev_arN rfl rfl rfl (by omega)) rfl ?_ | refine TL.ev (ev_arI rfl rfl rfl (by omega)) rfl ?_ | refine TL.ev (ev_neg rfl (by omega)) rfl ?_ | refine TL.ev (ev_indexN rfl rfl (by omega) (by first | exact Or.inr rfl | exact Sl.some (by assumption))) rfl ?_ | refine TL.ev (ev_index rfl rfl (by omega) (by first | exact Or.inr rfl | exact Sl.some (by assumption))) rfl ?_ | refine TL.ev (ev_loadU rfl (by assumption) (by omega)) rfl ?_ | refine TL.ev (ev_loadI rfl (by assumption) (by omega)) rfl ?_ | (refine TL.callP rfl rfl hcmp (fun _ => ?_)) | (refine TL.callP rfl rfl (size_ok _ _ _ _ _ _ hs (by omega)) (fun _ => ?_)) | (refine TL.callP rfl rfl (size_ok _ _ _ _ _ _ hs' (by omega)) (fun _ => ?_)) | (refine TL.makeU rfl rfl rfl (by omega) (by omega) (fun w1 b1 eb hB hE hz => ?_); simp only [World.heap_drewN] at eb hz; have hE1 : Ext w w1 := ((ext_drewN _ _).trans (ext_drewN _ _)).trans ((ext_drewN _ _).trans hE)) | refine T.seq ?_ | refine T.region ?_ | refine TL.nil ?_ | refine T.block ?_ | refine T.cond_t rfl ?_ | refine T.cond_f rfl ?_ | refine T.exit ?_ | refine T.ret ?_ | refine T.skip ?_ | refine G.next ?_ | refine G.blockN ?_ | refine G.blockE ?_ | refine G.blockE' rfl ?_ | refine G.blockR ?_ | refine G.thenE ?_ | refine G.thenR ?_ | refine T.regionQ mixed (by kernel_rfl) ?_ | refine TL.nilQ (fun _ => ?_) | refine G.only ?_ | refine G.mixed ?_ | refine TM.nil ?_ | refine TM.e rfl ?_)
  clear hE
  refine T.loop (α := Nat × List Nat × Nat) (fun x => [(0, .slice A n c), (1, .slice A' n' c'), (6, .int .i64 (sz l : Int)), (7, .int .i64 (sz l' : Int)), (8, .slice (some ⟨b1, 0, none⟩) (sz l) (sz l)), (9, .int .u64 (x.2.2 : Int)), (22, .int .i64 (sz l : Int)), (23, .int .i64 (x.1 : Int))])
    (fun x w' => x.1 ≤ sz l ∧ x.2.1.length = x.1 ∧ U64 x.2.1 ∧ x.2.2 ≤ 1 ∧ Ext w w' ∧ Bk u64v w'.heap b1 25 (x.2.1 ++ List.replicate (sz l - x.1) 0) ∧ val x.2.1 + val (l'.take x.1) = val (l.take x.1) + 18446744073709551616 ^ x.1 * x.2.2)
    (fun x => sz l - x.1) (0, [], 0) (by repeat (first | exact Sub.nil _ | refine Sub.cons rfl ?_ | refine Sub.cons' rfl (int_congr (by omega)) ?_)) ⟨Nat.zero_le _, rfl, U64.nil, Nat.zero_le _, hE1, by simpa using hB, by simp [val]⟩ ?_
  rintro ⟨i, D, cy⟩ w2 ⟨hi, hD, hDu, hcy, hE2, hB2, hv⟩
  dsimp only at hi hD hDu hcy hE2 hB2 hv ⊢
  have k1 := hs.ext hE2
  have k2 := hs'.ext hE2
  have x1 := hu.getD i
  have x2 := hu'.getD i
  have hlB : (D ++ List.replicate (sz l - i) 0).length = sz l := by simp; omega
  repeat' (first | refine TL.ev (ev_simple rfl) rfl ?_ | refine TL.grun rfl rfl rfl ?_ | refine TL.gskip rfl rfl rfl rfl ?_ | refine TL.gskipU rfl rfl rfl ?_ | refine TL.ev (ev_len rfl) rfl ?_ | (refine TL.cmpG rfl rfl rfl rfl (fun hc => ?_) (fun hc => ?_) <;> try (exfalso; omega)) | refine TL.ev (ev_arN rfl rfl rfl (by omega)) rfl ?_ | refine TL.ev (ev_arI rfl rfl rfl (by omega)) rfl ?_ | refine TL.ev (ev_neg rfl (by omega)) rfl ?_ | refine TL.ev (ev_indexN rfl rfl (by omega) (by first | exact Or.inr rfl | exact Sl.some (by assumption))) rfl ?_ | refine TL.ev (ev_index rfl rfl (by omega) (by first | exact Or.inr rfl | exact Sl.some (by assumption))) rfl ?_ | refine TL.ev (ev_loadU rfl (by assumption) (by omega)) rfl ?_ | refine TL.ev (ev_loadI rfl (by assumption) (by omega)) rfl ?_ | refine TL.ev (ev_sl_h rfl rfl (by omega)) rfl ?_ | refine TL.ev (ev_sl_l rfl rfl (by omega) (by omega)) rfl ?_ | refine TL.ev (ev_sl_lh rfl rfl rfl (by omega) (by omega)) rfl ?_ | refine TL.ev (ev_sl_hm rfl rfl rfl (by omega) (by omega)) rfl ?_ | refine TL.ev (ev_sl_lhm rfl rfl rfl rfl (by omega) (by omega) (by omega)) rfl ?_ | (refine TL.ev (ev_callx rfl (fun w => sub64_run w (by omega))) rfl ?_) | (refine TL.storeU rfl rfl hB2 (by rw [hlB]; omega) (fun w3 hB3 hU => ?_)) | refine T.seq ?_ | refine T.region ?_ | refine TL.nil ?_ | refine T.block ?_ | refine T.cond_t rfl ?_ | refine T.cond_f rfl ?_ | refine T.exit ?_ | refine T.ret ?_ | refine T.skip ?_ | refine G.next ?_ | refine G.blockN ?_ | refine G.blockE ?_ | refine G.blockE' rfl ?_ | refine G.blockR ?_ | refine G.thenE ?_ | refine G.thenR ?_ | refine T.regionQ mixed (by kernel_rfl) ?_ | refine TL.nilQ (fun _ => ?_) | refine G.only ?_ | refine G.mixed ?_ | refine TM.nil ?_ | refine TM.e rfl ?_)
  · have e1 : sz l - i = (sz l - (i + 1)) + 1 := by omega
    rw [e1, ← hD, set_zeros, hD] at hB3
    have hlt : (l.getD i 0 + 18446744073709551616 - l'.getD i 0 - cy) % 18446744073709551616 < 18446744073709551616 := Nat.mod_lt _ (by omega)
    refine G.again (i + 1, D ++ [(l.getD i 0 + 18446744073709551616 - l'.getD i 0 - cy) % 18446744073709551616], if l.getD i 0 < l'.getD i 0 + cy then 1 else 0) (by repeat (first | exact Sub.nil _ | refine Sub.cons rfl ?_ | refine Sub.cons' rfl (int_congr (by omega)) ?_)) ⟨by dsimp only; omega, by simp [hD], hDu.append (U64.one hlt), by dsimp only; split <;> omega, hE2.upd hU (by omega), hB3, ?_⟩ (by dsimp only; omega)
    dsimp only
    rw [val_snoc, val_take_succ, val_take_succ, hD, Nat.pow_succ]
    exact sub_step hv (by split <;> omega)
  · have e1 : sz l - i = (sz l - (i + 1)) + 1 := by omega
    have e2 : l'.getD i 0 = 0 := sz_zero l' i (by omega)
    rw [e1, ← hD, set_zeros, hD] at hB3
    have hlt : (l.getD i 0 + 18446744073709551616 - 0 - cy) % 18446744073709551616 < 18446744073709551616 := Nat.mod_lt _ (by omega)
    refine G.again (i + 1, D ++ [(l.getD i 0 + 18446744073709551616 - 0 - cy) % 18446744073709551616], if l.getD i 0 < 0 + cy then 1 else 0) (by repeat (first | exact Sub.nil _ | refine Sub.cons rfl ?_ | refine Sub.cons' rfl (int_congr (by omega)) ?_)) ⟨by dsimp only; omega, by simp [hD], hDu.append (U64.one hlt), by dsimp only; split <;> omega, hE2.upd hU (by omega), hB3, ?_⟩ (by dsimp only; omega)
    dsimp only
    rw [val_snoc, val_take_succ, val_take_succ, hD, Nat.pow_succ, e2]
    exact sub_step hv (by split <;> omega)
  · have hi' : i = sz l := by omega
    subst hi'
    rw [Nat.sub_self, List.replicate_zero, List.append_nil] at hB2
    rw [val_sz, val_take_ge l' _ hle] at hv
    have hb := val_lt hDu
    rw [hD] at hb
    have hcy0 : cy = 0 := by
      rcases Nat.eq_zero_or_pos cy with h | h
      · exact h
      · obtain rfl : cy = 1 := by omega
        omega
    subst hcy0
    have hval2 : val D = val l - val l' := by omega
    have hs0 := sz_le D
    have hS := hB2.slN hD (Nat.le_refl _) hB2.lt
    repeat' (first | refine TL.ev (ev_simple rfl) rfl ?_ | refine TL.grun rfl rfl rfl ?_ | refine TL.gskip rfl rfl rfl rfl ?_ | refine TL.gskipU rfl rfl rfl ?_ | refine TL.ev (ev_len rfl) rfl ?_ | (refine TL.cmpG rfl rfl rfl rfl (fun hc => ?_) (fun hc => ?_) <;> try (exfalso; omega)) | refine TL.ev (ev_arN rfl rfl rfl (by omega)) rfl ?_ | refine TL.ev (ev_arI rfl rfl rfl (by omega)) rfl ?_ | refine TL.ev (ev_neg rfl (by omega)) rfl ?_ | refine TL.ev (ev_indexN rfl rfl (by omega) (by first | exact Or.inr rfl | exact Sl.some (by assumption))) rfl ?_ | refine TL.ev (ev_index rfl rfl (by omega) (by first | exact Or.inr rfl | exact Sl.some (by assumption))) rfl ?_ | refine TL.ev (ev_loadU rfl (by assumption) (by omega)) rfl ?_ | refine TL.ev (ev_loadI rfl (by assumption) (by omega)) rfl ?_ | refine TL.ev (ev_sl_h rfl rfl (by omega)) rfl ?_ | refine TL.ev (ev_sl_l rfl rfl (by omega) (by omega)) rfl ?_ | refine TL.ev (ev_sl_lh rfl rfl rfl (by omega) (by omega)) rfl ?_ | refine TL.ev (ev_sl_hm rfl rfl rfl (by omega) (by omega)) rfl ?_ | refine TL.ev (ev_sl_lhm rfl rfl rfl rfl (by omega) (by omega) (by omega)) rfl ?_ | (refine TL.callP rfl rfl (size_ok _ _ _ _ _ _ hS (by omega)) (fun _ => ?_)) | refine T.seq ?_ | refine T.region ?_ | refine TL.nil ?_ | refine T.block ?_ | refine T.cond_t rfl ?_ | refine T.cond_f rfl ?_ | refine T.exit ?_ | refine T.ret ?_ | refine T.skip ?_ | refine G.next ?_ | refine G.blockN ?_ | refine G.blockE ?_ | refine G.blockE' rfl ?_ | refine G.blockR ?_ | refine G.thenE ?_ | refine G.thenR ?_ | refine T.regionQ mixed (by kernel_rfl) ?_ | refine TL.nilQ (fun _ => ?_) | refine G.only ?_ | refine G.mixed ?_ | refine TM.nil ?_ | refine TM.e rfl ?_)
    have := hB2.ow (lo := w.heap.size) (k := sz D) (c := sz l) hs0 (by omega) (by unfold maxLen; omega) (by omega)
    rw [take_sz hDu, hval2] at this
    exact G.ret2 rfl rfl rfl (RetNE.mk this (hE2.drewN _) (by omega))
end Go.Proofs.Ytgmhldapndhoeaa
