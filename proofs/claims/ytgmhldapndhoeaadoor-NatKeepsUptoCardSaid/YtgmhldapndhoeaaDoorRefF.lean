/- The document's answers for layer 1: Shl, Shr, BitLen, Twos, Bit. -/
import Derived.Test.YtgmhldapndhoeaaDoorRefE
import Derived.Test.YtgmhldapndhoeaaDoorDoorC
set_option linter.unusedVariables false
set_option linter.unusedSimpArgs false
namespace Go.Proofs.YtgmhldapndhoeaaDoor
open Go Go.Eng Go.Proofs Go.NatM Go.RowKit

theorem rshl_neg (w : World) (A : Option Addr) (n c : Nat) (z : Int) (hz : z < 0) : Cl Tryd.prog 38 #[.slice A n c, .int .i64 z] w (RetNE w [] 0 3) := by
  refine enter Tryd.func38 rfl rfl rfl ?_
  repeat' (first | refine TL.ev (ev_simple rfl) rfl ?_ | refine TL.grun rfl rfl rfl ?_ | refine TL.gskip rfl rfl rfl rfl ?_ | refine TL.gskipU rfl rfl rfl ?_ | refine TL.ev (ev_len rfl) rfl ?_ | (refine TL.cmpG rfl rfl rfl rfl (fun hc => ?_) (fun hc => ?_) <;> try (exfalso; omega)) | refine TL.ev (ev_arN rfl rfl rfl (by omega)) rfl ?_ | refine TL.ev (ev_arI rfl rfl rfl (by omega)) rfl ?_ | refine TL.ev (ev_neg rfl (by omega)) rfl ?_ | refine T.seq ?_ | refine T.region ?_ | refine TL.nil ?_ | refine T.block ?_ | refine T.cond_t rfl ?_ | refine T.cond_f rfl ?_ | refine T.exit ?_ | refine T.ret ?_ | refine T.skip ?_ | refine G.next ?_ | refine G.blockN ?_ | refine G.blockE ?_ | refine G.blockE' rfl ?_ | refine G.blockR ?_ | refine G.thenE ?_ | refine G.thenR ?_ | refine T.regionQ mixed (by kernel_rfl) ?_ | refine TL.nilQ (fun _ => ?_) | refine G.only ?_ | refine G.mixed ?_ | refine TM.nil ?_ | refine TM.e rfl ?_)
  exact G.ret2 rfl rfl rfl (RetNE.mk (Ow.nil _ _ _ _) (Ext.refl _) (by omega))
theorem rshl_big (w : World) (A : Option Addr) (n c : Nat) (z : Int) (hz : 1048576 < z) : Cl Tryd.prog 38 #[.slice A n c, .int .i64 z] w (RetNE w [] 0 5) := by
  refine enter Tryd.func38 rfl rfl rfl ?_
  repeat' (first | refine TL.ev (ev_simple rfl) rfl ?_ | refine TL.grun rfl rfl rfl ?_ | refine TL.gskip rfl rfl rfl rfl ?_ | refine TL.gskipU rfl rfl rfl ?_ | refine TL.ev (ev_len rfl) rfl ?_ | (refine TL.cmpG rfl rfl rfl rfl (fun hc => ?_) (fun hc => ?_) <;> try (exfalso; omega)) | refine TL.ev (ev_arN rfl rfl rfl (by omega)) rfl ?_ | refine TL.ev (ev_arI rfl rfl rfl (by omega)) rfl ?_ | refine TL.ev (ev_neg rfl (by omega)) rfl ?_ | refine T.seq ?_ | refine T.region ?_ | refine TL.nil ?_ | refine T.block ?_ | refine T.cond_t rfl ?_ | refine T.cond_f rfl ?_ | refine T.exit ?_ | refine T.ret ?_ | refine T.skip ?_ | refine G.next ?_ | refine G.blockN ?_ | refine G.blockE ?_ | refine G.blockE' rfl ?_ | refine G.blockR ?_ | refine G.thenE ?_ | refine G.thenR ?_ | refine T.regionQ mixed (by kernel_rfl) ?_ | refine TL.nilQ (fun _ => ?_) | refine G.only ?_ | refine G.mixed ?_ | refine TM.nil ?_ | refine TM.e rfl ?_)
  exact G.ret2 rfl rfl rfl (RetNE.mk (Ow.nil _ _ _ _) (Ext.refl _) (by omega))
theorem rshr_neg (w : World) (A : Option Addr) (n c : Nat) (z : Int) (hz : z < 0) : Cl Tryd.prog 39 #[.slice A n c, .int .i64 z] w (RetNE w [] 0 3) := by
  refine enter Tryd.func39 rfl rfl rfl ?_
  repeat' (first | refine TL.ev (ev_simple rfl) rfl ?_ | refine TL.grun rfl rfl rfl ?_ | refine TL.gskip rfl rfl rfl rfl ?_ | refine TL.gskipU rfl rfl rfl ?_ | refine TL.ev (ev_len rfl) rfl ?_ | (refine TL.cmpG rfl rfl rfl rfl (fun hc => ?_) (fun hc => ?_) <;> try (exfalso; omega)) | refine TL.ev (ev_arN rfl rfl rfl (by omega)) rfl ?_ | refine TL.ev (ev_arI rfl rfl rfl (by omega)) rfl ?_ | refine TL.ev (ev_neg rfl (by omega)) rfl ?_ | refine T.seq ?_ | refine T.region ?_ | refine TL.nil ?_ | refine T.block ?_ | refine T.cond_t rfl ?_ | refine T.cond_f rfl ?_ | refine T.exit ?_ | refine T.ret ?_ | refine T.skip ?_ | refine G.next ?_ | refine G.blockN ?_ | refine G.blockE ?_ | refine G.blockE' rfl ?_ | refine G.blockR ?_ | refine G.thenE ?_ | refine G.thenR ?_ | refine T.regionQ mixed (by kernel_rfl) ?_ | refine TL.nilQ (fun _ => ?_) | refine G.only ?_ | refine G.mixed ?_ | refine TM.nil ?_ | refine TM.e rfl ?_)
  exact G.ret2 rfl rfl rfl (RetNE.mk (Ow.nil _ _ _ _) (Ext.refl _) (by omega))
theorem rbit_neg (w : World) (A : Option Addr) (n c : Nat) (z : Int) (hz : z < 0) : Cl Tryd.prog 60 #[.slice A n c, .int .i64 z] w (fun e w' => e = .returned (.int .i64 0) ∧ Ext w w') := by
  refine enter Tryd.func60 rfl rfl rfl ?_
  repeat' (first | refine TL.ev (ev_simple rfl) rfl ?_ | refine TL.grun rfl rfl rfl ?_ | refine TL.gskip rfl rfl rfl rfl ?_ | refine TL.gskipU rfl rfl rfl ?_ | refine TL.ev (ev_len rfl) rfl ?_ | (refine TL.cmpG rfl rfl rfl rfl (fun hc => ?_) (fun hc => ?_) <;> try (exfalso; omega)) | refine TL.ev (ev_arN rfl rfl rfl (by omega)) rfl ?_ | refine TL.ev (ev_arI rfl rfl rfl (by omega)) rfl ?_ | refine TL.ev (ev_neg rfl (by omega)) rfl ?_ | refine T.seq ?_ | refine T.region ?_ | refine TL.nil ?_ | refine T.block ?_ | refine T.cond_t rfl ?_ | refine T.cond_f rfl ?_ | refine T.exit ?_ | refine T.ret ?_ | refine T.skip ?_ | refine G.next ?_ | refine G.blockN ?_ | refine G.blockE ?_ | refine G.blockE' rfl ?_ | refine G.blockR ?_ | refine G.thenE ?_ | refine G.thenR ?_ | refine T.regionQ mixed (by kernel_rfl) ?_ | refine TL.nilQ (fun _ => ?_) | refine G.only ?_ | refine G.mixed ?_ | refine TM.nil ?_ | refine TM.e rfl ?_)
  exact G.ret1 rfl rfl ⟨rfl, Ext.refl _⟩
theorem dig16_nil {x : Nat} {n : Nat} (h : (N16.dig x).length = n) (h0 : n = 0) : x = 0 := by
  have e := N16.val_dig x
  have h1 : N16.dig x = [] := List.eq_nil_of_length_eq_zero (by omega)
  rw [h1] at e
  exact e.symm
theorem div16_drop {X : List Nat} {v k : Nat} (ux : N16.U64 X) (vx : N16.val X = v) : v / 65536 ^ k = N16.val (X.drop k) := by
  have e := N16.val_split X k
  have h1 := ux.take_lt k
  rw [← vx, e, Nat.add_mul_div_left _ _ (Nat.pow_pos (by omega)), Nat.div_eq_of_lt h1, Nat.zero_add]
set_option maxHeartbeats 4000000 in
theorem rshl_ok (w : World) (B : Nat) (A : Option Addr) (n c : Nat) (l : List Nat) {z : Int} {k : Nat} [e0 : IsN z k] (hs : Sl u64v w.heap B A n c l) (hu : U64 l) (hn : n ≤ 1048576000) (hk : k ≤ 1048576) :
    Cl Tryd.prog 38 #[.slice A n c, .int .i64 z] w (RetNE w (dig (val l * 2 ^ k)) (n + 16386) 0) := by
  obtain rfl := e0.out
  refine enter Tryd.func38 rfl rfl rfl ?_
  repeat' (first | refine TL.ev (ev_simple rfl) rfl ?_ | refine TL.grun rfl rfl rfl ?_ | refine TL.gskip rfl rfl rfl rfl ?_ | refine TL.gskipU rfl rfl rfl ?_ | (refine TL.call rfl rfl ?_; first | (refine (split_ok _ _ _ _ _ _ hs hu (by omega)).mono ?_; rintro _ w1 ⟨A1, n1, c1, rfl, hO1, hE1, hK1⟩; refine Back.mk ?_; have hS1 := hO1.sl (Nat.le_refl _); have hl1 := hS1.len; have hcap1 := hS1.cap; have ux := N16.U64_dig (val l); have vx := N16.val_dig (val l); have sx := N16.sz_dig (val l))) | refine TL.ev (ev_len rfl) rfl ?_ | (refine TL.cmpG rfl rfl rfl rfl (fun hc => ?_) (fun hc => ?_) <;> try (exfalso; omega)) | refine TL.ev (ev_arN rfl rfl rfl (by omega)) rfl ?_ | refine TL.ev (ev_arI rfl rfl rfl (by omega)) rfl ?_ | refine TL.ev (ev_neg rfl (by omega)) rfl ?_ | (refine TL.makeN rfl rfl rfl (by omega) (by omega) (fun w2 b2 eb hB2 hE2 hz => ?_)) | (refine TL.callP rfl rfl (power_ok _ (by omega)) (fun q => ?_)) | refine T.seq ?_ | refine T.region ?_ | refine TL.nil ?_ | refine T.block ?_ | refine T.cond_t rfl ?_ | refine T.cond_f rfl ?_ | refine T.exit ?_ | refine T.ret ?_ | refine T.skip ?_ | refine G.next ?_ | refine G.blockN ?_ | refine G.blockE ?_ | refine G.blockE' rfl ?_ | refine G.blockR ?_ | refine G.thenE ?_ | refine G.thenR ?_ | refine T.regionQ mixed (by kernel_rfl) ?_ | refine TL.nilQ (fun _ => ?_) | refine G.only ?_ | refine G.mixed ?_ | refine TM.nil ?_ | refine TM.e rfl ?_)
  · have h0 := dig16_nil hl1 (by omega)
    exact G.ret2 rfl rfl rfl (RetNE.mk (by rw [h0, Nat.zero_mul, dig_zero]; exact Ow.nil _ _ _ _) hE1 (by omega))
  · obtain ⟨hp1, hp0⟩ := pow15 (k := k)
    have hsz1 := hE1.size
    have hO2 := hB2.ow (lo := w1.heap.size) (k := k / 16) (c := k / 16 + n1 + 1) (by simp; omega) (by simp) (by unfold maxLen; simp; omega) (by omega)
    have eW : 2 ^ k = 65536 ^ (k / 16) * 2 ^ (k % 16) := N16.W_split k
    rw [List.take_replicate, Nat.min_eq_left (by omega)] at hO2
    generalize hX : N16.dig (val l) = X at *
    generalize hp : 2 ^ (k % 16) = p at *
    refine T.loop (α := Nat × Option Addr × Nat × List Nat × Nat) (fun x => [(6, .slice A1 n1 c1), (7, .slice x.2.1 (k / 16 + x.1) x.2.2.1), (8, .int .i64 (p : Int)), (9, .int .i64 (x.2.2.2.2 : Int)), (10, .int .i64 (x.1 : Int))])
      (fun x w' => x.1 ≤ n1 ∧ Ext w1 w' ∧ Ow n64v w'.heap w1.heap.size 3 x.2.1 (k / 16 + x.1) x.2.2.1 x.2.2.2.1 ∧ N16.U64 x.2.2.2.1 ∧ x.2.2.2.2 < p ∧ N16.val x.2.2.2.1 + 65536 ^ (k / 16 + x.1) * x.2.2.2.2 = 65536 ^ (k / 16) * (p * N16.val (X.take x.1)))
      (fun x => n1 - x.1) (0, some ⟨b2, 0, none⟩, k / 16 + n1 + 1, List.replicate (k / 16) 0, 0) (by repeat (first | exact Sub.nil _ | refine Sub.cons rfl ?_ | refine Sub.cons' rfl (int_congr (by omega)) ?_)) ⟨Nat.zero_le _, hE2.drewN _, hO2, N16.U64.replicate _, hp0, by dsimp only; rw [N16.val_zeros, List.take_zero]; simp [N16.val]⟩ ?_
    rintro ⟨i, A3, c3, D, cy⟩ w3 ⟨hi, hE3, hO3, hDu, hcy, hv⟩
    dsimp only at hi hE3 hO3 hDu hcy hv ⊢
    have e1 := hS1.ext hE3
    have hsz3 := hE3.size
    have hDl := hO3.len
    rcases Nat.lt_or_ge i n1 with hin | hin
    · have hx := ux.getD i
      have hm : X.getD i 0 * p ≤ 65535 * p := Nat.mul_le_mul_right p (by omega)
      repeat' (first | refine TL.ev (ev_simple rfl) rfl ?_ | refine TL.grun rfl rfl rfl ?_ | refine TL.gskip rfl rfl rfl rfl ?_ | refine TL.gskipU rfl rfl rfl ?_ | refine TL.ev (ev_len rfl) rfl ?_ | (refine TL.cmpG rfl rfl rfl rfl (fun hc => ?_) (fun hc => ?_) <;> try (exfalso; omega)) | refine TL.ev (ev_arN rfl rfl rfl (by omega)) rfl ?_ | refine TL.ev (ev_arI rfl rfl rfl (by omega)) rfl ?_ | refine TL.ev (ev_neg rfl (by omega)) rfl ?_ | refine TL.ev (ev_indexN rfl rfl (by omega) (by first | exact Or.inr rfl | exact Sl.some (by assumption))) rfl ?_ | refine TL.ev (ev_index rfl rfl (by omega) (by first | exact Or.inr rfl | exact Sl.some (by assumption))) rfl ?_ | refine TL.ev (ev_loadU rfl (by assumption) (by omega)) rfl ?_ | refine TL.ev (ev_loadI rfl (by assumption) (by omega)) rfl ?_ | refine TL.ev (ev_loadN rfl (by assumption) (by omega)) rfl ?_ | (refine TL.build1N rfl rfl (fun w4 b4 eb4 hB4 hE4 hz4 => ?_); have hO4 := hO3.ext hE4; have hS4 := hB4.slN (n := 1) (c := 1) rfl (Nat.le_refl _) hB4.lt; have hsz4 := hE4.size) | (refine TL.append (f := n64v) (fun _ => rfl) rfl rfl rfl rfl hO4 hS4 (by omega) (by omega) (fun w5 A5 c5 hO5 hg5 hL5 => ?_)) | refine T.seq ?_ | refine T.region ?_ | refine TL.nil ?_ | refine T.block ?_ | refine T.cond_t rfl ?_ | refine T.cond_f rfl ?_ | refine T.exit ?_ | refine T.ret ?_ | refine T.skip ?_ | refine G.next ?_ | refine G.blockN ?_ | refine G.blockE ?_ | refine G.blockE' rfl ?_ | refine G.blockR ?_ | refine G.thenE ?_ | refine G.thenR ?_ | refine T.regionQ mixed (by kernel_rfl) ?_ | refine TL.nilQ (fun _ => ?_) | refine G.only ?_ | refine G.mixed ?_ | refine TM.nil ?_ | refine TM.e rfl ?_)
      refine G.again (i + 1, A5, c5, D ++ [(X.getD i 0 * p + cy) % 65536], (X.getD i 0 * p + cy) / 65536) (by repeat (first | exact Sub.nil _ | refine Sub.cons rfl ?_ | refine Sub.cons' rfl (int_congr (by omega)) ?_)) ⟨by dsimp only; omega, RowKit.Below.trans (hE3.trans hE4) hL5, hO5, hDu.append (N16.U64.one (Nat.mod_lt _ (by omega))), ?_, ?_⟩ (by dsimp only; omega)
      · dsimp only; omega
      · dsimp only
        rw [N16.val_snoc, N16.val_take_succ, hDl, ← Nat.add_assoc, Nat.pow_succ]
        exact N16.shl_step hv (Nat.pow_add _ _ _) rfl
    · obtain rfl : i = n1 := by omega
      have u4 : N16.U64 (D ++ [cy]) := hDu.append (N16.U64.one (by omega))
      have v4 : N16.val (D ++ [cy]) = val l * 2 ^ k := by
        rw [N16.val_snoc, hDl, hv, List.take_of_length_le (by omega), vx, eW, Nat.mul_comm (val l), Nat.mul_assoc]
      repeat' (first | refine TL.ev (ev_simple rfl) rfl ?_ | refine TL.grun rfl rfl rfl ?_ | refine TL.gskip rfl rfl rfl rfl ?_ | refine TL.gskipU rfl rfl rfl ?_ | (refine TL.call rfl rfl ?_; first | (refine (join_ok _ _ _ _ _ _ hS5 u4 (by omega)).mono ?_; rintro _ w6 ⟨A6, n6, c6, rfl, hO6, hE6, hK6⟩; refine Back.mk ?_; rw [v4] at hO6)) | refine TL.ev (ev_len rfl) rfl ?_ | (refine TL.cmpG rfl rfl rfl rfl (fun hc => ?_) (fun hc => ?_) <;> try (exfalso; omega)) | refine TL.ev (ev_arN rfl rfl rfl (by omega)) rfl ?_ | refine TL.ev (ev_arI rfl rfl rfl (by omega)) rfl ?_ | refine TL.ev (ev_neg rfl (by omega)) rfl ?_ | (refine TL.build1N rfl rfl (fun w4 b4 eb4 hB4 hE4 hz4 => ?_); have hO4 := hO3.ext hE4; have hS4 := hB4.slN (n := 1) (c := 1) rfl (Nat.le_refl _) hB4.lt; have hsz4 := hE4.size) | (refine TL.append (f := n64v) (fun _ => rfl) rfl rfl rfl rfl hO4 hS4 (by omega) (by omega) (fun w5 A5 c5 hO5 hg5 hL5 => ?_); have hS5 := hO5.sl (Nat.le_refl _); have hE5 := RowKit.Below.trans (hE3.trans hE4) hL5) | refine T.seq ?_ | refine T.region ?_ | refine TL.nil ?_ | refine T.block ?_ | refine T.cond_t rfl ?_ | refine T.cond_f rfl ?_ | refine T.exit ?_ | refine T.ret ?_ | refine T.skip ?_ | refine G.next ?_ | refine G.blockN ?_ | refine G.blockE ?_ | refine G.blockE' rfl ?_ | refine G.blockR ?_ | refine G.thenE ?_ | refine G.thenR ?_ | refine T.regionQ mixed (by kernel_rfl) ?_ | refine TL.nilQ (fun _ => ?_) | refine G.only ?_ | refine G.mixed ?_ | refine TM.nil ?_ | refine TM.e rfl ?_)
      have hE15 : Ext w w5 := hE1.trans hE5
      exact G.ret2 rfl rfl rfl (RetNE.mk (hO6.mono hE15.size) (hE15.trans hE6) (by omega))
set_option maxRecDepth 4000 in
set_option maxHeartbeats 4000000 in
theorem rshr_ok (w : World) (B : Nat) (A : Option Addr) (n c : Nat) (l : List Nat) {z : Int} {k : Nat} [e0 : IsN z k] (hs : Sl u64v w.heap B A n c l) (hu : U64 l) (hn : n ≤ 1048576000) (hk : k < 9223372036854775808) :
    Cl Tryd.prog 39 #[.slice A n c, .int .i64 z] w (RetNE w (dig (val l / 2 ^ k)) (n + 1) 0) := by
  obtain rfl := e0.out
  refine enter Tryd.func39 rfl rfl rfl ?_
  repeat' (first | refine TL.ev (ev_simple rfl) rfl ?_ | refine TL.grun rfl rfl rfl ?_ | refine TL.gskip rfl rfl rfl rfl ?_ | refine TL.gskipU rfl rfl rfl ?_ | (refine TL.call rfl rfl ?_; first | (refine (split_ok _ _ _ _ _ _ hs hu (by omega)).mono ?_; rintro _ w1 ⟨A1, n1, c1, rfl, hO1, hE1, hK1⟩; refine Back.mk ?_; have hS1 := hO1.sl (Nat.le_refl _); have hl1 := hS1.len; have hcap1 := hS1.cap; have ux := N16.U64_dig (val l); have vx := N16.val_dig (val l); have sx := N16.sz_dig (val l))) | refine TL.ev (ev_len rfl) rfl ?_ | (refine TL.cmpG rfl rfl rfl rfl (fun hc => ?_) (fun hc => ?_) <;> try (exfalso; omega)) | refine TL.ev (ev_arN rfl rfl rfl (by omega)) rfl ?_ | refine TL.ev (ev_arI rfl rfl rfl (by omega)) rfl ?_ | refine TL.ev (ev_neg rfl (by omega)) rfl ?_ | refine TL.ev (ev_sl_h rfl rfl (by omega)) rfl ?_ | refine TL.ev (ev_sl_l rfl rfl (by omega) (by omega)) rfl ?_ | refine TL.ev (ev_sl_lh rfl rfl rfl (by omega) (by omega)) rfl ?_ | refine TL.ev (ev_sl_hm rfl rfl rfl (by omega) (by omega)) rfl ?_ | refine TL.ev (ev_sl_lhm rfl rfl rfl rfl (by omega) (by omega) (by omega)) rfl ?_ | (refine TL.makeN rfl rfl rfl (by omega) (by omega) (fun w2 b2 eb hB2 hE2 hz => ?_)) | (refine TL.callP rfl rfl (power_ok _ (by omega)) (fun q => ?_)) | refine T.seq ?_ | refine T.region ?_ | refine TL.nil ?_ | refine T.block ?_ | refine T.cond_t rfl ?_ | refine T.cond_f rfl ?_ | refine T.exit ?_ | refine T.ret ?_ | refine T.skip ?_ | refine G.next ?_ | refine G.blockN ?_ | refine G.blockE ?_ | refine G.blockE' rfl ?_ | refine G.blockR ?_ | refine G.thenE ?_ | refine G.thenR ?_ | refine T.regionQ mixed (by kernel_rfl) ?_ | refine TL.nilQ (fun _ => ?_) | refine G.only ?_ | refine G.mixed ?_ | refine TM.nil ?_ | refine TM.e rfl ?_)
  · have h0 : val l / 2 ^ k = 0 := by
      have h1 := N16.val_lt ux
      rw [vx, hl1] at h1
      have h2 : 65536 ^ n1 ≤ 2 ^ k := by rw [N16.W_pow]; exact Nat.pow_le_pow_right (by omega) (by omega)
      exact Nat.div_eq_of_lt (by omega)
    exact G.ret2 rfl rfl rfl (RetNE.mk (by rw [h0, dig_zero]; exact Ow.nil _ _ _ _) hE1 (by omega))
  · obtain ⟨hp1, hp0⟩ := pow15 (k := k)
    have hSd := (hS1.dropC (k := k / 16) (m := c1) (m' := c1 - k / 16) (by omega) (by omega) (by omega)).undrew (k := q)
    have eW : 2 ^ k = 65536 ^ (k / 16) * 2 ^ (k % 16) := N16.W_split k
    have hX := div16_drop (k := k / 16) ux vx
    have uX := ux.drop (k / 16)
    have hm1 : 1 ≤ n1 - k / 16 := by omega
    have hm2 : n1 - k / 16 ≤ n1 := Nat.sub_le _ _
    simp only [World.heap_drewN] at eb
    have lX := hSd.len
    generalize (N16.dig (val l)).drop (k / 16) = X at *
    generalize hp : 2 ^ (k % 16) = p at *
    generalize n1 - k / 16 = m at *
    refine T.loop (α := Nat × List Nat × Nat) (fun x => [(6, .slice (cutA A1 c1 (k / 16)) m (c1 - k / 16)), (7, .int .i64 (p : Int)), (8, .slice (some ⟨b2, 0, none⟩) m m), (9, .int .i64 (x.2.2 : Int)), (10, .int .i64 ((x.1 : Int) - 1))])
      (fun x w' => x.1 ≤ m ∧ x.2.1.length = m - x.1 ∧ N16.U64 x.2.1 ∧ x.2.2 < p ∧ Ext w1 w' ∧ Bk n64v w'.heap b2 3 (List.replicate x.1 0 ++ x.2.1) ∧ p * N16.val x.2.1 + x.2.2 = N16.val (X.drop x.1))
      (fun x => x.1) (m, [], 0) (by repeat (first | exact Sub.nil _ | refine Sub.cons rfl ?_ | refine Sub.cons' rfl (int_congr (by omega)) ?_)) ⟨Nat.le_refl _, by simp, N16.U64.nil, hp0, (ext_drewN _ _).trans hE2, by simpa using hB2, by dsimp only; rw [List.drop_of_length_le (by omega)]; simp [N16.val]⟩ ?_
    rintro ⟨i, D, r⟩ w3 ⟨hi, hD, hDu, hr, hE3, hB3, hv⟩
    dsimp only at hi hD hDu hr hE3 hB3 hv ⊢
    have e1 := hSd.ext hE3
    have hlB : (List.replicate i 0 ++ D).length = m := by simp; omega
    rcases Nat.eq_zero_or_pos i with h0 | h0
    · subst h0
      rw [List.drop_zero] at hv
      rw [List.replicate_zero, List.nil_append] at hB3
      have hS5 := hB3.slN (n := m) (c := m) (by omega) (Nat.le_refl _) hB3.lt
      have u4 := hDu
      have v4 : N16.val D = val l / 2 ^ k := by
        rw [eW, ← Nat.div_div_eq_div_mul, hX, ← hv, Nat.mul_add_div hp0, Nat.div_eq_of_lt hr, Nat.add_zero]
      repeat' (first | refine TL.ev (ev_simple rfl) rfl ?_ | refine TL.grun rfl rfl rfl ?_ | refine TL.gskip rfl rfl rfl rfl ?_ | refine TL.gskipU rfl rfl rfl ?_ | (refine TL.call rfl rfl ?_; first | (refine (join_ok _ _ _ _ _ _ hS5 u4 (by omega)).mono ?_; rintro _ w6 ⟨A6, n6, c6, rfl, hO6, hE6, hK6⟩; refine Back.mk ?_; rw [v4] at hO6)) | refine TL.ev (ev_len rfl) rfl ?_ | (refine TL.cmpG rfl rfl rfl rfl (fun hc => ?_) (fun hc => ?_) <;> try (exfalso; omega)) | refine TL.ev (ev_arN rfl rfl rfl (by omega)) rfl ?_ | refine TL.ev (ev_arI rfl rfl rfl (by omega)) rfl ?_ | refine TL.ev (ev_neg rfl (by omega)) rfl ?_ | refine T.seq ?_ | refine T.region ?_ | refine TL.nil ?_ | refine T.block ?_ | refine T.cond_t rfl ?_ | refine T.cond_f rfl ?_ | refine T.exit ?_ | refine T.ret ?_ | refine T.skip ?_ | refine G.next ?_ | refine G.blockN ?_ | refine G.blockE ?_ | refine G.blockE' rfl ?_ | refine G.blockR ?_ | refine G.thenE ?_ | refine G.thenR ?_ | refine T.regionQ mixed (by kernel_rfl) ?_ | refine TL.nilQ (fun _ => ?_) | refine G.only ?_ | refine G.mixed ?_ | refine TM.nil ?_ | refine TM.e rfl ?_)
      exact G.ret2 rfl rfl rfl (RetNE.mk (hO6.mono (hE1.trans hE3).size) ((hE1.trans hE3).trans hE6) (by omega))
    · obtain ⟨j, rfl⟩ : ∃ j, i = j + 1 := ⟨i - 1, by omega⟩
      have hx := uX.getD j
      have hdr := N16.val_drop X j
      rw [show ((j + 1 : Nat) : Int) - 1 = (j : Int) by omega]
      clear hX eW hp hdr
      repeat' (first | refine TL.ev (ev_simple rfl) rfl ?_ | refine TL.grun rfl rfl rfl ?_ | refine TL.gskip rfl rfl rfl rfl ?_ | refine TL.gskipU rfl rfl rfl ?_ | (refine TL.ev (ev_mulN rfl rfl (by omega)) rfl ?_) | (refine TL.ev (ev_indexN rfl rfl (by omega) (by first | exact Or.inr rfl | exact e1.some)) rfl ?_) | (refine TL.storeN rfl rfl hB3 (by rw [hlB]; omega) (fun w5 hB5 hU => ?_)) | refine TL.ev (ev_len rfl) rfl ?_ | (refine TL.cmpG rfl rfl rfl rfl (fun hc => ?_) (fun hc => ?_) <;> try (exfalso; omega)) | refine TL.ev (ev_arN rfl rfl rfl (by omega)) rfl ?_ | refine TL.ev (ev_arI rfl rfl rfl (by omega)) rfl ?_ | refine TL.ev (ev_neg rfl (by omega)) rfl ?_ | refine TL.ev (ev_indexN rfl rfl (by omega) (by first | exact Or.inr rfl | exact Sl.some (by assumption))) rfl ?_ | refine TL.ev (ev_index rfl rfl (by omega) (by first | exact Or.inr rfl | exact Sl.some (by assumption))) rfl ?_ | refine TL.ev (ev_loadU rfl (by assumption) (by omega)) rfl ?_ | refine TL.ev (ev_loadI rfl (by assumption) (by omega)) rfl ?_ | refine TL.ev (ev_loadN rfl (by assumption) (by omega)) rfl ?_ | refine T.seq ?_ | refine T.region ?_ | refine TL.nil ?_ | refine T.block ?_ | refine T.cond_t rfl ?_ | refine T.cond_f rfl ?_ | refine T.exit ?_ | refine T.ret ?_ | refine T.skip ?_ | refine G.next ?_ | refine G.blockN ?_ | refine G.blockE ?_ | refine G.blockE' rfl ?_ | refine G.blockR ?_ | refine G.thenE ?_ | refine G.thenR ?_ | refine T.regionQ mixed (by kernel_rfl) ?_ | refine TL.nilQ (fun _ => ?_) | refine G.only ?_ | refine G.mixed ?_ | refine TM.nil ?_ | refine TM.e rfl ?_)
      rw [N16.set_front] at hB5
      have hq : (r * 65536 + X.getD j 0) / p < 65536 := Nat.div_lt_of_lt_mul (by omega)
      have hdr := N16.val_drop X j
      have hl5 : ((r * 65536 + X.getD j 0) / p :: D).length = m - j := by rw [List.length_cons]; omega
      refine G.again (j, (r * 65536 + X.getD j 0) / p :: D, (r * 65536 + X.getD j 0) % p) (by repeat (first | exact Sub.nil _ | refine Sub.cons rfl ?_ | refine Sub.cons' rfl (int_congr (by omega)) ?_)) ⟨by dsimp only; omega, hl5, .cons hq hDu, Nat.mod_lt _ hp0, hE3.upd hU (by omega), hB5, ?_⟩ (by dsimp only; omega)
      dsimp only
      rw [hdr, ← N16.shr_step hv rfl]
      rfl
theorem bl_zero_iff {x j : Nat} : x / 2 ^ j = 0 ↔ bl x ≤ j := by
  rw [bl_le, Nat.div_eq_zero_iff]
  have := Nat.two_pow_pos j
  omega
set_option maxHeartbeats 4000000 in
theorem rbitlen_ok (w : World) (B : Nat) (A : Option Addr) (n c : Nat) (l : List Nat) (hs : Sl u64v w.heap B A n c l) (hu : U64 l) (hn : n ≤ 1048576000) :
    Cl Tryd.prog 58 #[.slice A n c] w (fun e w' => e = .returned (.int .i64 (bl (val l) : Int)) ∧ Ext w w') := by
  refine enter Tryd.func58 rfl rfl rfl ?_
  repeat' (first | refine TL.ev (ev_simple rfl) rfl ?_ | refine TL.grun rfl rfl rfl ?_ | refine TL.gskip rfl rfl rfl rfl ?_ | refine TL.gskipU rfl rfl rfl ?_ | (refine TL.call rfl rfl ?_; first | (refine (split_ok _ _ _ _ _ _ hs hu (by omega)).mono ?_; rintro _ w1 ⟨A1, n1, c1, rfl, hO1, hE1, hK1⟩; refine Back.mk ?_; have hS1 := hO1.sl (Nat.le_refl _); have hl1 := hS1.len; have hcap1 := hS1.cap; have ux := N16.U64_dig (val l); have vx := N16.val_dig (val l); have sx := N16.sz_dig (val l))) | refine TL.ev (ev_len rfl) rfl ?_ | (refine TL.cmpG rfl rfl rfl rfl (fun hc => ?_) (fun hc => ?_) <;> try (exfalso; omega)) | refine TL.ev (ev_arN rfl rfl rfl (by omega)) rfl ?_ | refine TL.ev (ev_arI rfl rfl rfl (by omega)) rfl ?_ | refine TL.ev (ev_neg rfl (by omega)) rfl ?_ | refine TL.ev (ev_indexN rfl rfl (by omega) (by first | exact Or.inr rfl | exact Sl.some (by assumption))) rfl ?_ | refine TL.ev (ev_index rfl rfl (by omega) (by first | exact Or.inr rfl | exact Sl.some (by assumption))) rfl ?_ | refine TL.ev (ev_loadU rfl (by assumption) (by omega)) rfl ?_ | refine TL.ev (ev_loadI rfl (by assumption) (by omega)) rfl ?_ | refine TL.ev (ev_loadN rfl (by assumption) (by omega)) rfl ?_ | refine T.seq ?_ | refine T.region ?_ | refine TL.nil ?_ | refine T.block ?_ | refine T.cond_t rfl ?_ | refine T.cond_f rfl ?_ | refine T.exit ?_ | refine T.ret ?_ | refine T.skip ?_ | refine G.next ?_ | refine G.blockN ?_ | refine G.blockE ?_ | refine G.blockE' rfl ?_ | refine G.blockR ?_ | refine G.thenE ?_ | refine G.thenR ?_ | refine T.regionQ mixed (by kernel_rfl) ?_ | refine TL.nilQ (fun _ => ?_) | refine G.only ?_ | refine G.mixed ?_ | refine TM.nil ?_ | refine TM.e rfl ?_)
  · have h0 := dig16_nil hl1 (by omega)
    exact G.ret1 rfl rfl ⟨by rw [h0]; rfl, hE1⟩
  · have hb := N16.bl_val ux (by omega)
    rw [vx, sx, hl1] at hb
    have hx := ux.getD (n1 - 1)
    have hb16 : bl ((N16.dig (val l)).getD (n1 - 1) 0) ≤ 16 := bl_le.2 hx
    rw [hb]
    generalize (N16.dig (val l)).getD (n1 - 1) 0 = x at *
    refine T.loop (α := Nat) (fun j => [(4, .int .i64 ((16 * (n1 - 1) + j : Nat) : Int)), (5, .int .i64 ((x / 2 ^ j : Nat) : Int))]) (fun j w' => w' = w1 ∧ j ≤ bl x) (fun j => 16 - j) 0 (by rw [Nat.pow_zero, Nat.div_one]; exact (by repeat (first | exact Sub.nil _ | refine Sub.cons rfl ?_ | refine Sub.cons' rfl (int_congr (by omega)) ?_))) ⟨rfl, Nat.zero_le _⟩ ?_
    rintro j w' ⟨rfl, hj⟩
    have hlt : x / 2 ^ j < 65536 := Nat.lt_of_le_of_lt (Nat.div_le_self _ _) hx
    have hz := bl_zero_iff (x := x) (j := j)
    rcases Nat.eq_zero_or_pos (x / 2 ^ j) with h0 | h0
    · obtain rfl : j = bl x := by omega
      repeat' (first | refine TL.ev (ev_simple rfl) rfl ?_ | refine TL.grun rfl rfl rfl ?_ | refine TL.gskip rfl rfl rfl rfl ?_ | refine TL.gskipU rfl rfl rfl ?_ | refine TL.ev (ev_len rfl) rfl ?_ | (refine TL.cmpG rfl rfl rfl rfl (fun hc => ?_) (fun hc => ?_) <;> try (exfalso; omega)) | refine TL.ev (ev_arN rfl rfl rfl (by omega)) rfl ?_ | refine TL.ev (ev_arI rfl rfl rfl (by omega)) rfl ?_ | refine TL.ev (ev_neg rfl (by omega)) rfl ?_ | refine T.seq ?_ | refine T.region ?_ | refine TL.nil ?_ | refine T.block ?_ | refine T.cond_t rfl ?_ | refine T.cond_f rfl ?_ | refine T.exit ?_ | refine T.ret ?_ | refine T.skip ?_ | refine G.next ?_ | refine G.blockN ?_ | refine G.blockE ?_ | refine G.blockE' rfl ?_ | refine G.blockR ?_ | refine G.thenE ?_ | refine G.thenR ?_ | refine T.regionQ mixed (by kernel_rfl) ?_ | refine TL.nilQ (fun _ => ?_) | refine G.only ?_ | refine G.mixed ?_ | refine TM.nil ?_ | refine TM.e rfl ?_)
      exact G.ret1 rfl rfl ⟨rfl, hE1⟩
    · have h2 : ¬ bl x ≤ j := fun h => by have := hz.2 h; omega
      repeat' (first | refine TL.ev (ev_simple rfl) rfl ?_ | refine TL.grun rfl rfl rfl ?_ | refine TL.gskip rfl rfl rfl rfl ?_ | refine TL.gskipU rfl rfl rfl ?_ | refine TL.ev (ev_len rfl) rfl ?_ | (refine TL.cmpG rfl rfl rfl rfl (fun hc => ?_) (fun hc => ?_) <;> try (exfalso; omega)) | refine TL.ev (ev_arN rfl rfl rfl (by omega)) rfl ?_ | refine TL.ev (ev_arI rfl rfl rfl (by omega)) rfl ?_ | refine TL.ev (ev_neg rfl (by omega)) rfl ?_ | refine T.seq ?_ | refine T.region ?_ | refine TL.nil ?_ | refine T.block ?_ | refine T.cond_t rfl ?_ | refine T.cond_f rfl ?_ | refine T.exit ?_ | refine T.ret ?_ | refine T.skip ?_ | refine G.next ?_ | refine G.blockN ?_ | refine G.blockE ?_ | refine G.blockE' rfl ?_ | refine G.blockR ?_ | refine G.thenE ?_ | refine G.thenR ?_ | refine T.regionQ mixed (by kernel_rfl) ?_ | refine TL.nilQ (fun _ => ?_) | refine G.only ?_ | refine G.mixed ?_ | refine TM.nil ?_ | refine TM.e rfl ?_)
      exact G.again (j + 1) (by rw [Nat.pow_succ, ← Nat.div_div_eq_div_mul]; exact (by repeat (first | exact Sub.nil _ | refine Sub.cons rfl ?_ | refine Sub.cons' rfl (int_congr (by omega)) ?_))) ⟨rfl, by omega⟩ (by omega)
theorem tz_even_iff {x j : Nat} (h0 : x ≠ 0) (hj : j ≤ tz x) : x / 2 ^ j % 2 = 0 ↔ j < tz x := by
  obtain ⟨q, hq⟩ := tz_spec x h0
  have e : x / 2 ^ j = 2 ^ (tz x - j) * (2 * q + 1) := by
    conv => lhs; rw [hq]
    rw [show 2 ^ tz x = 2 ^ j * 2 ^ (tz x - j) by rw [← Nat.pow_add]; congr 1; omega, Nat.mul_assoc, Nat.mul_div_cancel_left _ (Nat.two_pow_pos j)]
  rw [e]
  rcases Nat.lt_or_ge j (tz x) with h | h
  · rw [show tz x - j = (tz x - j - 1) + 1 by omega, Nat.pow_succ, Nat.mul_comm (2 ^ (tz x - j - 1)), Nat.mul_assoc]
    omega
  · rw [show tz x - j = 0 by omega]; omega
set_option maxHeartbeats 4000000 in
theorem rtwos_ok (w : World) (B : Nat) (A : Option Addr) (n c : Nat) (l : List Nat) (hs : Sl u64v w.heap B A n c l) (hu : U64 l) (hn : n ≤ 1048576000) :
    Cl Tryd.prog 59 #[.slice A n c] w (fun e w' => e = .returned (.int .i64 (twosI (val l))) ∧ Ext w w') := by
  refine enter Tryd.func59 rfl rfl rfl ?_
  repeat' (first | refine TL.ev (ev_simple rfl) rfl ?_ | refine TL.grun rfl rfl rfl ?_ | refine TL.gskip rfl rfl rfl rfl ?_ | refine TL.gskipU rfl rfl rfl ?_ | (refine TL.call rfl rfl ?_; first | (refine (split_ok _ _ _ _ _ _ hs hu (by omega)).mono ?_; rintro _ w1 ⟨A1, n1, c1, rfl, hO1, hE1, hK1⟩; refine Back.mk ?_; have hS1 := hO1.sl (Nat.le_refl _); have hl1 := hS1.len; have hcap1 := hS1.cap; have ux := N16.U64_dig (val l); have vx := N16.val_dig (val l); have sx := N16.sz_dig (val l))) | refine TL.ev (ev_len rfl) rfl ?_ | (refine TL.cmpG rfl rfl rfl rfl (fun hc => ?_) (fun hc => ?_) <;> try (exfalso; omega)) | refine TL.ev (ev_arN rfl rfl rfl (by omega)) rfl ?_ | refine TL.ev (ev_arI rfl rfl rfl (by omega)) rfl ?_ | refine TL.ev (ev_neg rfl (by omega)) rfl ?_ | refine T.seq ?_ | refine T.region ?_ | refine TL.nil ?_ | refine T.block ?_ | refine T.cond_t rfl ?_ | refine T.cond_f rfl ?_ | refine T.exit ?_ | refine T.ret ?_ | refine T.skip ?_ | refine G.next ?_ | refine G.blockN ?_ | refine G.blockE ?_ | refine G.blockE' rfl ?_ | refine G.blockR ?_ | refine G.thenE ?_ | refine G.thenR ?_ | refine T.regionQ mixed (by kernel_rfl) ?_ | refine TL.nilQ (fun _ => ?_) | refine G.only ?_ | refine G.mixed ?_ | refine TM.nil ?_ | refine TM.e rfl ?_)
  generalize hX : N16.dig (val l) = X at *
  refine T.loop (α := Nat) (fun i => [(3, .slice A1 n1 c1), (4, .int .i64 (i : Int))]) (fun i w' => w' = w1 ∧ i ≤ n1 ∧ ∀ j, j < i → X.getD j 0 = 0) (fun i => n1 - i) 0 (by repeat (first | exact Sub.nil _ | refine Sub.cons rfl ?_ | refine Sub.cons' rfl (int_congr (by omega)) ?_)) ⟨rfl, Nat.zero_le _, fun j hj => by omega⟩ ?_
  rintro i wz ⟨rfl, hi, hz⟩
  rcases Nat.lt_or_ge i n1 with hin | hin
  · have hx := ux.getD i
    have ht := N16.twos_val X i ux hz
    rw [vx] at ht
    by_cases h0 : X.getD i 0 = 0
    · repeat' (first | refine TL.ev (ev_simple rfl) rfl ?_ | refine TL.grun rfl rfl rfl ?_ | refine TL.gskip rfl rfl rfl rfl ?_ | refine TL.gskipU rfl rfl rfl ?_ | refine TL.ev (ev_len rfl) rfl ?_ | (refine TL.cmpG rfl rfl rfl rfl (fun hc => ?_) (fun hc => ?_) <;> try (exfalso; omega)) | refine TL.ev (ev_arN rfl rfl rfl (by omega)) rfl ?_ | refine TL.ev (ev_arI rfl rfl rfl (by omega)) rfl ?_ | refine TL.ev (ev_neg rfl (by omega)) rfl ?_ | refine TL.ev (ev_indexN rfl rfl (by omega) (by first | exact Or.inr rfl | exact Sl.some (by assumption))) rfl ?_ | refine TL.ev (ev_index rfl rfl (by omega) (by first | exact Or.inr rfl | exact Sl.some (by assumption))) rfl ?_ | refine TL.ev (ev_loadU rfl (by assumption) (by omega)) rfl ?_ | refine TL.ev (ev_loadI rfl (by assumption) (by omega)) rfl ?_ | refine TL.ev (ev_loadN rfl (by assumption) (by omega)) rfl ?_ | refine T.seq ?_ | refine T.region ?_ | refine TL.nil ?_ | refine T.block ?_ | refine T.cond_t rfl ?_ | refine T.cond_f rfl ?_ | refine T.exit ?_ | refine T.ret ?_ | refine T.skip ?_ | refine G.next ?_ | refine G.blockN ?_ | refine G.blockE ?_ | refine G.blockE' rfl ?_ | refine G.blockR ?_ | refine G.thenE ?_ | refine G.thenR ?_ | refine T.regionQ mixed (by kernel_rfl) ?_ | refine TL.nilQ (fun _ => ?_) | refine G.only ?_ | refine G.mixed ?_ | refine TM.nil ?_ | refine TM.e rfl ?_)
      exact G.again (i + 1) (by repeat (first | exact Sub.nil _ | refine Sub.cons rfl ?_ | refine Sub.cons' rfl (int_congr (by omega)) ?_)) ⟨rfl, by omega, fun j hj => by
        rcases Nat.lt_or_ge j i with h | h
        · exact hz j h
        · obtain rfl : j = i := by omega
          exact h0⟩ (by omega)
    · replace ht := ht h0
      have h16 : tz (X.getD i 0) < 16 := tz_lt h0 hx
      have hvn : val l ≠ 0 := fun h => by
        have : tz (val l) = 0 := by rw [h]; rw [tz]; simp
        have e := N16.getD_ge (l := X) (j := i)
        rw [h] at hX
        rw [← hX, N16.dig_zero] at h0
        exact h0 rfl
      repeat' (first | refine TL.ev (ev_simple rfl) rfl ?_ | refine TL.grun rfl rfl rfl ?_ | refine TL.gskip rfl rfl rfl rfl ?_ | refine TL.gskipU rfl rfl rfl ?_ | refine TL.ev (ev_len rfl) rfl ?_ | (refine TL.cmpG rfl rfl rfl rfl (fun hc => ?_) (fun hc => ?_) <;> try (exfalso; omega)) | refine TL.ev (ev_arN rfl rfl rfl (by omega)) rfl ?_ | refine TL.ev (ev_arI rfl rfl rfl (by omega)) rfl ?_ | refine TL.ev (ev_neg rfl (by omega)) rfl ?_ | refine TL.ev (ev_indexN rfl rfl (by omega) (by first | exact Or.inr rfl | exact Sl.some (by assumption))) rfl ?_ | refine TL.ev (ev_index rfl rfl (by omega) (by first | exact Or.inr rfl | exact Sl.some (by assumption))) rfl ?_ | refine TL.ev (ev_loadU rfl (by assumption) (by omega)) rfl ?_ | refine TL.ev (ev_loadI rfl (by assumption) (by omega)) rfl ?_ | refine TL.ev (ev_loadN rfl (by assumption) (by omega)) rfl ?_ | refine T.seq ?_ | refine T.region ?_ | refine TL.nil ?_ | refine T.block ?_ | refine T.cond_t rfl ?_ | refine T.cond_f rfl ?_ | refine T.exit ?_ | refine T.ret ?_ | refine T.skip ?_ | refine G.next ?_ | refine G.blockN ?_ | refine G.blockE ?_ | refine G.blockE' rfl ?_ | refine G.blockR ?_ | refine G.thenE ?_ | refine G.thenR ?_ | refine T.regionQ mixed (by kernel_rfl) ?_ | refine TL.nilQ (fun _ => ?_) | refine G.only ?_ | refine G.mixed ?_ | refine TM.nil ?_ | refine TM.e rfl ?_)
      generalize X.getD i 0 = x at *
      refine T.loop (α := Nat) (fun j => [(5, .int .i64 ((16 * i + j : Nat) : Int)), (6, .int .i64 ((x / 2 ^ j : Nat) : Int))]) (fun j w' => w' = wz ∧ j ≤ tz x) (fun j => 16 - j) 0 (by rw [Nat.pow_zero, Nat.div_one]; exact (by repeat (first | exact Sub.nil _ | refine Sub.cons rfl ?_ | refine Sub.cons' rfl (int_congr (by omega)) ?_))) ⟨rfl, Nat.zero_le _⟩ ?_
      rintro j w' ⟨rfl, hj⟩
      have hlt : x / 2 ^ j < 65536 := Nat.lt_of_le_of_lt (Nat.div_le_self _ _) hx
      have he := tz_even_iff h0 hj
      rcases Nat.lt_or_ge j (tz x) with h1 | h1
      · have := he.2 h1
        repeat' (first | refine TL.ev (ev_simple rfl) rfl ?_ | refine TL.grun rfl rfl rfl ?_ | refine TL.gskip rfl rfl rfl rfl ?_ | refine TL.gskipU rfl rfl rfl ?_ | refine TL.ev (ev_len rfl) rfl ?_ | (refine TL.cmpG rfl rfl rfl rfl (fun hc => ?_) (fun hc => ?_) <;> try (exfalso; omega)) | refine TL.ev (ev_arN rfl rfl rfl (by omega)) rfl ?_ | refine TL.ev (ev_arI rfl rfl rfl (by omega)) rfl ?_ | refine TL.ev (ev_neg rfl (by omega)) rfl ?_ | refine T.seq ?_ | refine T.region ?_ | refine TL.nil ?_ | refine T.block ?_ | refine T.cond_t rfl ?_ | refine T.cond_f rfl ?_ | refine T.exit ?_ | refine T.ret ?_ | refine T.skip ?_ | refine G.next ?_ | refine G.blockN ?_ | refine G.blockE ?_ | refine G.blockE' rfl ?_ | refine G.blockR ?_ | refine G.thenE ?_ | refine G.thenR ?_ | refine T.regionQ mixed (by kernel_rfl) ?_ | refine TL.nilQ (fun _ => ?_) | refine G.only ?_ | refine G.mixed ?_ | refine TM.nil ?_ | refine TM.e rfl ?_)
        exact G.again (j + 1) (by rw [Nat.pow_succ, ← Nat.div_div_eq_div_mul]; exact (by repeat (first | exact Sub.nil _ | refine Sub.cons rfl ?_ | refine Sub.cons' rfl (int_congr (by omega)) ?_))) ⟨rfl, by omega⟩ (by omega)
      · obtain rfl : j = tz x := by omega
        have : ¬ x / 2 ^ tz x % 2 = 0 := fun h => by have := he.1 h; omega
        repeat' (first | refine TL.ev (ev_simple rfl) rfl ?_ | refine TL.grun rfl rfl rfl ?_ | refine TL.gskip rfl rfl rfl rfl ?_ | refine TL.gskipU rfl rfl rfl ?_ | refine TL.ev (ev_len rfl) rfl ?_ | (refine TL.cmpG rfl rfl rfl rfl (fun hc => ?_) (fun hc => ?_) <;> try (exfalso; omega)) | refine TL.ev (ev_arN rfl rfl rfl (by omega)) rfl ?_ | refine TL.ev (ev_arI rfl rfl rfl (by omega)) rfl ?_ | refine TL.ev (ev_neg rfl (by omega)) rfl ?_ | refine T.seq ?_ | refine T.region ?_ | refine TL.nil ?_ | refine T.block ?_ | refine T.cond_t rfl ?_ | refine T.cond_f rfl ?_ | refine T.exit ?_ | refine T.ret ?_ | refine T.skip ?_ | refine G.next ?_ | refine G.blockN ?_ | refine G.blockE ?_ | refine G.blockE' rfl ?_ | refine G.blockR ?_ | refine G.thenE ?_ | refine G.thenR ?_ | refine T.regionQ mixed (by kernel_rfl) ?_ | refine TL.nilQ (fun _ => ?_) | refine G.only ?_ | refine G.mixed ?_ | refine TM.nil ?_ | refine TM.e rfl ?_)
        exact G.ret1 rfl rfl ⟨by rw [twosI, if_neg hvn, ht], hE1⟩
  · have h0 : val l = 0 := by
      rw [← vx, ← N16.val_zeros 0]
      exact N16.val_ext fun j => by
        rcases Nat.lt_or_ge j n1 with h | h
        · rw [hz j (by omega)]; rfl
        · rw [N16.getD_ge (by omega)]; rfl
    repeat' (first | refine TL.ev (ev_simple rfl) rfl ?_ | refine TL.grun rfl rfl rfl ?_ | refine TL.gskip rfl rfl rfl rfl ?_ | refine TL.gskipU rfl rfl rfl ?_ | refine TL.ev (ev_len rfl) rfl ?_ | (refine TL.cmpG rfl rfl rfl rfl (fun hc => ?_) (fun hc => ?_) <;> try (exfalso; omega)) | refine TL.ev (ev_arN rfl rfl rfl (by omega)) rfl ?_ | refine TL.ev (ev_arI rfl rfl rfl (by omega)) rfl ?_ | refine TL.ev (ev_neg rfl (by omega)) rfl ?_ | refine T.seq ?_ | refine T.region ?_ | refine TL.nil ?_ | refine T.block ?_ | refine T.cond_t rfl ?_ | refine T.cond_f rfl ?_ | refine T.exit ?_ | refine T.ret ?_ | refine T.skip ?_ | refine G.next ?_ | refine G.blockN ?_ | refine G.blockE ?_ | refine G.blockE' rfl ?_ | refine G.blockR ?_ | refine G.thenE ?_ | refine G.thenR ?_ | refine T.regionQ mixed (by kernel_rfl) ?_ | refine TL.nilQ (fun _ => ?_) | refine G.only ?_ | refine G.mixed ?_ | refine TM.nil ?_ | refine TM.e rfl ?_)
    exact G.ret1 rfl rfl ⟨by rw [twosI, if_pos h0], hE1⟩
set_option maxHeartbeats 4000000 in
theorem rbit_ok (w : World) (B : Nat) (A : Option Addr) (n c : Nat) (l : List Nat) {z : Int} {k : Nat} [e0 : IsN z k] (hs : Sl u64v w.heap B A n c l) (hu : U64 l) (hn : n ≤ 1048576000) (hk : k < 9223372036854775808) :
    Cl Tryd.prog 60 #[.slice A n c, .int .i64 z] w (fun e w' => e = .returned (.int .i64 ((val l / 2 ^ k % 2 : Nat) : Int)) ∧ Ext w w') := by
  obtain rfl := e0.out
  refine enter Tryd.func60 rfl rfl rfl ?_
  repeat' (first | refine TL.ev (ev_simple rfl) rfl ?_ | refine TL.grun rfl rfl rfl ?_ | refine TL.gskip rfl rfl rfl rfl ?_ | refine TL.gskipU rfl rfl rfl ?_ | (refine TL.call rfl rfl ?_; first | (refine (split_ok _ _ _ _ _ _ hs hu (by omega)).mono ?_; rintro _ w1 ⟨A1, n1, c1, rfl, hO1, hE1, hK1⟩; refine Back.mk ?_; have hS1 := hO1.sl (Nat.le_refl _); have hl1 := hS1.len; have hcap1 := hS1.cap; have ux := N16.U64_dig (val l); have vx := N16.val_dig (val l); have sx := N16.sz_dig (val l))) | refine TL.ev (ev_len rfl) rfl ?_ | (refine TL.cmpG rfl rfl rfl rfl (fun hc => ?_) (fun hc => ?_) <;> try (exfalso; omega)) | refine TL.ev (ev_arN rfl rfl rfl (by omega)) rfl ?_ | refine TL.ev (ev_arI rfl rfl rfl (by omega)) rfl ?_ | refine TL.ev (ev_neg rfl (by omega)) rfl ?_ | refine T.seq ?_ | refine T.region ?_ | refine TL.nil ?_ | refine T.block ?_ | refine T.cond_t rfl ?_ | refine T.cond_f rfl ?_ | refine T.exit ?_ | refine T.ret ?_ | refine T.skip ?_ | refine G.next ?_ | refine G.blockN ?_ | refine G.blockE ?_ | refine G.blockE' rfl ?_ | refine G.blockR ?_ | refine G.thenE ?_ | refine G.thenR ?_ | refine T.regionQ mixed (by kernel_rfl) ?_ | refine TL.nilQ (fun _ => ?_) | refine G.only ?_ | refine G.mixed ?_ | refine TM.nil ?_ | refine TM.e rfl ?_)
  · have hb := N16.bit_val ux k
    rw [vx, N16.getD_ge (by omega), Nat.zero_div, Nat.zero_mod] at hb
    exact G.ret1 rfl rfl ⟨by rw [hb]; rfl, hE1⟩
  · have hb := N16.bit_val ux k
    rw [vx] at hb
    rw [hb]
    obtain ⟨hp1, hp0⟩ := pow15 (k := k)
    have ux4 := ux.getD (k / 16)
    repeat' (first | refine TL.ev (ev_simple rfl) rfl ?_ | refine TL.grun rfl rfl rfl ?_ | refine TL.gskip rfl rfl rfl rfl ?_ | refine TL.gskipU rfl rfl rfl ?_ | refine TL.ev (ev_len rfl) rfl ?_ | (refine TL.cmpG rfl rfl rfl rfl (fun hc => ?_) (fun hc => ?_) <;> try (exfalso; omega)) | refine TL.ev (ev_arN rfl rfl rfl (by omega)) rfl ?_ | refine TL.ev (ev_arI rfl rfl rfl (by omega)) rfl ?_ | refine TL.ev (ev_neg rfl (by omega)) rfl ?_ | refine TL.ev (ev_indexN rfl rfl (by omega) (by first | exact Or.inr rfl | exact Sl.some (by assumption))) rfl ?_ | refine TL.ev (ev_index rfl rfl (by omega) (by first | exact Or.inr rfl | exact Sl.some (by assumption))) rfl ?_ | refine TL.ev (ev_loadU rfl (by assumption) (by omega)) rfl ?_ | refine TL.ev (ev_loadI rfl (by assumption) (by omega)) rfl ?_ | refine TL.ev (ev_loadN rfl (by assumption) (by omega)) rfl ?_ | (refine TL.callPQ rfl rfl (power_ok _ (by omega)) ?_) | refine T.seq ?_ | refine T.region ?_ | refine TL.nil ?_ | refine T.block ?_ | refine T.cond_t rfl ?_ | refine T.cond_f rfl ?_ | refine T.exit ?_ | refine T.ret ?_ | refine T.skip ?_ | refine G.next ?_ | refine G.blockN ?_ | refine G.blockE ?_ | refine G.blockE' rfl ?_ | refine G.blockR ?_ | refine G.thenE ?_ | refine G.thenR ?_ | refine T.regionQ mixed (by kernel_rfl) ?_ | refine TL.nilQ (fun _ => ?_) | refine G.only ?_ | refine G.mixed ?_ | refine TM.nil ?_ | refine TM.e rfl ?_)
    exact G.ret1 rfl rfl ⟨rfl, (hE1.drewN _)⟩
end Go.Proofs.YtgmhldapndhoeaaDoor
