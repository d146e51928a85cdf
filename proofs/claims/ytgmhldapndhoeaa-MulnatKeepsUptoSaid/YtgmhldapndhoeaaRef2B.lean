/- The document's answers for layer 2: Mul, Word, MulAdd, MulLow, Square, Pow, Product. -/
import Derived.Test.YtgmhldapndhoeaaRef2A
import Derived.Test.YtgmhldapndhoeaaRefE
import Derived.Test.YtgmhldapndhoeaaLawE
set_option linter.unusedVariables false
set_option linter.unusedSimpArgs false
namespace Go.Proofs.Ytgmhldapndhoeaa
open Go Go.Eng Go.Proofs Go.NatM Go.RowKit

set_option maxHeartbeats 8000000 in
theorem xmul_ok (w : World) (B B' : Nat) (A A' : Option Addr) (n c n' c' : Nat) (l l' : List Nat) (hs : Sl u64v w.heap B A n c l) (hs' : Sl u64v w.heap B' A' n' c' l') (hu : U64 l) (hu' : U64 l') (hn : n ≤ 536870912) (hn' : n' ≤ 536870912) :
    Cl Try.prog 49 #[.slice A n c, .slice A' n' c'] w (RetN w (dig (val l * val l')) (n + n')) := by
  refine enter Try.func49 rfl rfl rfl ?_
  repeat' (first | refine TL.ev (ev_simple rfl) rfl ?_ | refine TL.grun rfl rfl rfl ?_ | refine TL.gskip rfl rfl rfl rfl ?_ | refine TL.gskipU rfl rfl rfl ?_ | (refine TL.call rfl rfl ?_; first | (refine (rdig_ok _ _ _ _ _ _ hs hu (by omega)).mono ?_; rintro _ w1 ⟨A1, n1, c1, rfl, hO1, hE1, hK1⟩; refine Back.mk ?_; have hs2' := hs'.ext hE1) | (refine (rdig_ok _ _ _ _ _ _ hs2' hu' (by omega)).mono ?_; rintro _ w2 ⟨A2, n2, c2, rfl, hO2, hE2, hK2⟩; refine Back.mk ?_; have g1 := (hO1.ext hE2).sl (Nat.le_refl _); have g2 := hO2.sl (Nat.le_refl _); have hl1 := g1.len; have hl2 := g2.len; have ux := N16.U64_dig (val l); have uy := N16.U64_dig (val l'); have vx := N16.val_dig (val l); have vy := N16.val_dig (val l'))) | refine TL.ev (ev_len rfl) rfl ?_ | (refine TL.cmpG rfl rfl rfl rfl (fun hc => ?_) (fun hc => ?_) <;> try (exfalso; omega)) | refine TL.ev (ev_arN rfl rfl rfl (by omega)) rfl ?_ | refine TL.ev (ev_arI rfl rfl rfl (by omega)) rfl ?_ | refine TL.ev (ev_neg rfl (by omega)) rfl ?_ | (refine TL.makeN rfl rfl rfl (by omega) (by omega) (fun w3 b3 eb hB3 hE3 hz => ?_)) | refine T.seq ?_ | refine T.region ?_ | refine TL.nil ?_ | refine T.block ?_ | refine T.cond_t rfl ?_ | refine T.cond_f rfl ?_ | refine T.exit ?_ | refine T.ret ?_ | refine T.skip ?_ | refine G.next ?_ | refine G.blockN ?_ | refine G.blockE ?_ | refine G.blockE' rfl ?_ | refine G.blockR ?_ | refine G.thenE ?_ | refine G.thenR ?_ | refine T.regionQ mixed (by kernel_rfl) ?_ | refine TL.nilQ (fun _ => ?_) | refine G.only ?_ | refine G.mixed ?_ | refine TM.nil ?_ | refine TM.e rfl ?_)
  rw [← vx, ← vy]
  generalize N16.dig (val l) = X at *
  generalize N16.dig (val l') = Y at *
  have hW := (hE1.trans hE2).trans hE3
  refine T.loop (α := Nat × List Nat) (fun x => [(5, .slice A1 n1 c1), (6, .slice A2 n2 c2), (7, .slice (some ⟨b3, 0, none⟩) (n1 + n2) (n1 + n2)), (8, .int .i64 (x.1 : Int))])
    (fun x w' => x.1 ≤ n1 ∧ x.2.length = n1 + n2 ∧ N16.U64 x.2 ∧ Ext w2 w' ∧ Bk n64v w'.heap b3 3 x.2 ∧ (∀ j, x.1 + n2 ≤ j → x.2.getD j 0 = 0) ∧ N16.val x.2 = N16.val (X.take x.1) * N16.val Y)
    (fun x => n1 - x.1) (0, List.replicate (n1 + n2) 0) (by repeat (first | exact Sub.nil _ | refine Sub.cons rfl ?_ | refine Sub.cons' rfl (int_congr (by omega)) ?_)) ⟨Nat.zero_le _, by simp, N16.U64.replicate _, hE3, hB3, fun j _ => by simp [List.getD, List.getElem?_replicate]; split <;> rfl, by simp [N16.val, N16.val_zeros]⟩ ?_
  rintro ⟨i, Z⟩ w4 ⟨hi, hZ, hZu, hE4, hB4, hzero, hv⟩
  dsimp only at hi hZ hZu hE4 hB4 hzero hv ⊢
  have e1 := g1.ext hE4
  have x1 := ux.getD i
  rcases Nat.lt_or_ge i n1 with hin | hin
  · repeat' (first | refine TL.ev (ev_simple rfl) rfl ?_ | refine TL.grun rfl rfl rfl ?_ | refine TL.gskip rfl rfl rfl rfl ?_ | refine TL.gskipU rfl rfl rfl ?_ | refine TL.ev (ev_len rfl) rfl ?_ | (refine TL.cmpG rfl rfl rfl rfl (fun hc => ?_) (fun hc => ?_) <;> try (exfalso; omega)) | refine TL.ev (ev_arN rfl rfl rfl (by omega)) rfl ?_ | refine TL.ev (ev_arI rfl rfl rfl (by omega)) rfl ?_ | refine TL.ev (ev_neg rfl (by omega)) rfl ?_ | refine T.seq ?_ | refine T.region ?_ | refine TL.nil ?_ | refine T.block ?_ | refine T.cond_t rfl ?_ | refine T.cond_f rfl ?_ | refine T.exit ?_ | refine T.ret ?_ | refine T.skip ?_ | refine G.next ?_ | refine G.blockN ?_ | refine G.blockE ?_ | refine G.blockE' rfl ?_ | refine G.blockR ?_ | refine G.thenE ?_ | refine G.thenR ?_ | refine T.regionQ mixed (by kernel_rfl) ?_ | refine TL.nilQ (fun _ => ?_) | refine G.only ?_ | refine G.mixed ?_ | refine TM.nil ?_ | refine TM.e rfl ?_)
    refine T.loop (α := Nat × List Nat × Nat) (fun x => [(5, .slice A1 n1 c1), (6, .slice A2 n2 c2), (7, .slice (some ⟨b3, 0, none⟩) (n1 + n2) (n1 + n2)), (8, .int .i64 (i : Int)), (9, .int .i64 (x.2.2 : Int)), (10, .int .i64 (x.1 : Int))])
      (fun x w' => x.1 ≤ n2 ∧ x.2.1.length = n1 + n2 ∧ N16.U64 x.2.1 ∧ x.2.2 < 65536 ∧ Ext w2 w' ∧ Bk n64v w'.heap b3 3 x.2.1 ∧ (∀ j, i + n2 ≤ j → x.2.1.getD j 0 = 0) ∧ N16.val x.2.1 + 65536 ^ (i + x.1) * x.2.2 = N16.val Z + 65536 ^ i * (X.getD i 0 * N16.val (Y.take x.1)))
      (fun x => n2 - x.1) (0, Z, 0) (by repeat (first | exact Sub.nil _ | refine Sub.cons rfl ?_ | refine Sub.cons' rfl (int_congr (by omega)) ?_)) ⟨Nat.zero_le _, hZ, hZu, by dsimp only; omega, hE4, hB4, hzero, by simp [N16.val]⟩ ?_
    rintro ⟨j, V, cy⟩ w5 ⟨hj, hT, hTu, hcy, hE5, hB5, hzero5, hv5⟩
    dsimp only at hj hT hTu hcy hE5 hB5 hzero5 hv5 ⊢
    have k1 := g1.ext hE5
    have k2 := g2.ext hE5
    have x2 := uy.getD j
    have x3 := hTu.getD (i + j)
    have kT := hB5.slN (c := n1 + n2) hT (Nat.le_refl _) hB5.lt
    rcases Nat.lt_or_ge j n2 with hjn | hjn
    · have hbig : X.getD i 0 * Y.getD j 0 ≤ 65535 * 65535 := Nat.mul_le_mul (by omega) (by omega)
      repeat' (first | refine TL.ev (ev_simple rfl) rfl ?_ | refine TL.grun rfl rfl rfl ?_ | refine TL.gskip rfl rfl rfl rfl ?_ | refine TL.gskipU rfl rfl rfl ?_ | refine TL.ev (ev_len rfl) rfl ?_ | (refine TL.cmpG rfl rfl rfl rfl (fun hc => ?_) (fun hc => ?_) <;> try (exfalso; omega)) | refine TL.ev (ev_arN rfl rfl rfl (by omega)) rfl ?_ | refine TL.ev (ev_arI rfl rfl rfl (by omega)) rfl ?_ | refine TL.ev (ev_neg rfl (by omega)) rfl ?_ | refine TL.ev (ev_indexN rfl rfl (by omega) (by first | exact Or.inr rfl | exact Sl.some (by assumption))) rfl ?_ | refine TL.ev (ev_index rfl rfl (by omega) (by first | exact Or.inr rfl | exact Sl.some (by assumption))) rfl ?_ | refine TL.ev (ev_loadU rfl (by assumption) (by omega)) rfl ?_ | refine TL.ev (ev_loadI rfl (by assumption) (by omega)) rfl ?_ | refine TL.ev (ev_loadN rfl (by assumption) (by omega)) rfl ?_ | (refine TL.storeN rfl rfl (by exact hB5) (by omega) (fun w6 hB6 hU => ?_)) | refine T.seq ?_ | refine T.region ?_ | refine TL.nil ?_ | refine T.block ?_ | refine T.cond_t rfl ?_ | refine T.cond_f rfl ?_ | refine T.exit ?_ | refine T.ret ?_ | refine T.skip ?_ | refine G.next ?_ | refine G.blockN ?_ | refine G.blockE ?_ | refine G.blockE' rfl ?_ | refine G.blockR ?_ | refine G.thenE ?_ | refine G.thenR ?_ | refine T.regionQ mixed (by kernel_rfl) ?_ | refine TL.nilQ (fun _ => ?_) | refine G.only ?_ | refine G.mixed ?_ | refine TM.nil ?_ | refine TM.e rfl ?_)
      have hset := N16.val_set V (i + j) ((V.getD (i + j) 0 + X.getD i 0 * Y.getD j 0 + cy) % 65536) (by omega)
      have e : (V.getD (i + j) 0 + X.getD i 0 * Y.getD j 0 + cy) % 65536 + 65536 * ((V.getD (i + j) 0 + X.getD i 0 * Y.getD j 0 + cy) / 65536) = X.getD i 0 * Y.getD j 0 + cy + V.getD (i + j) 0 := by
        rw [Nat.mod_add_div]; omega
      refine G.again (j + 1, _, _) (by repeat (first | exact Sub.nil _ | refine Sub.cons rfl ?_ | refine Sub.cons' rfl (int_congr (by omega)) ?_)) ⟨by dsimp only; omega, ?_, ?_, ?_, (hE5.drewN _).upd hU (by omega), hB6, ?_, ?_⟩ (by dsimp only; omega)
      · dsimp only; rw [List.length_set]; exact hT
      · exact hTu.set _ _ (Nat.mod_lt _ (by omega))
      · dsimp only; omega
      · intro q hq
        dsimp only
        rw [getD_set _ _ _ _ (by omega), if_neg (by omega)]
        exact hzero5 q hq
      · dsimp only
        rw [N16.val_take_succ, show i + (j + 1) = i + j + 1 by omega, Nat.pow_succ, Nat.pow_add, Nat.mul_assoc (65536 ^ i)]
        rw [Nat.pow_add] at hset hv5
        exact N16.rows_step hset hv5 e
    · obtain rfl : j = n2 := by omega
      repeat' (first | refine TL.ev (ev_simple rfl) rfl ?_ | refine TL.grun rfl rfl rfl ?_ | refine TL.gskip rfl rfl rfl rfl ?_ | refine TL.gskipU rfl rfl rfl ?_ | refine TL.ev (ev_len rfl) rfl ?_ | (refine TL.cmpG rfl rfl rfl rfl (fun hc => ?_) (fun hc => ?_) <;> try (exfalso; omega)) | refine TL.ev (ev_arN rfl rfl rfl (by omega)) rfl ?_ | refine TL.ev (ev_arI rfl rfl rfl (by omega)) rfl ?_ | refine TL.ev (ev_neg rfl (by omega)) rfl ?_ | refine TL.ev (ev_indexN rfl rfl (by omega) (by first | exact Or.inr rfl | exact Sl.some (by assumption))) rfl ?_ | refine TL.ev (ev_index rfl rfl (by omega) (by first | exact Or.inr rfl | exact Sl.some (by assumption))) rfl ?_ | refine TL.ev (ev_loadU rfl (by assumption) (by omega)) rfl ?_ | refine TL.ev (ev_loadI rfl (by assumption) (by omega)) rfl ?_ | refine TL.ev (ev_loadN rfl (by assumption) (by omega)) rfl ?_ | (refine TL.storeN rfl rfl hB5 (by omega) (fun w6 hB6 hU => ?_)) | refine T.seq ?_ | refine T.region ?_ | refine TL.nil ?_ | refine T.block ?_ | refine T.cond_t rfl ?_ | refine T.cond_f rfl ?_ | refine T.exit ?_ | refine T.ret ?_ | refine T.skip ?_ | refine G.next ?_ | refine G.blockN ?_ | refine G.blockE ?_ | refine G.blockE' rfl ?_ | refine G.blockR ?_ | refine G.thenE ?_ | refine G.thenR ?_ | refine T.regionQ mixed (by kernel_rfl) ?_ | refine TL.nilQ (fun _ => ?_) | refine G.only ?_ | refine G.mixed ?_ | refine TM.nil ?_ | refine TM.e rfl ?_)
      have hset := N16.val_set V (i + j) cy (by omega)
      rw [hzero5 (i + j) (by omega), Nat.mul_zero, Nat.add_zero] at hset
      have h2 : N16.val (Y.take j) = N16.val Y := by rw [List.take_of_length_le (by omega)]
      refine G.again (i + 1, _) (by repeat (first | exact Sub.nil _ | refine Sub.cons rfl ?_ | refine Sub.cons' rfl (int_congr (by omega)) ?_)) ⟨by dsimp only; omega, ?_, ?_, hE5.upd hU (by omega), hB6, ?_, ?_⟩ (by dsimp only; omega)
      · dsimp only; rw [List.length_set]; exact hT
      · exact hTu.set _ _ hcy
      · intro q hq
        dsimp only at hq ⊢
        rw [getD_set _ _ _ _ (by omega), if_neg (by omega)]
        exact hzero5 q (by omega)
      · dsimp only
        rw [hset, hv5, h2, hv, N16.val_take_succ, Nat.add_mul, Nat.mul_assoc]
  · obtain rfl : i = n1 := by omega
    have h2 : N16.val (X.take i) = N16.val X := by rw [List.take_of_length_le (by omega)]
    rw [h2] at hv
    have hS := hB4.slN (c := i + n2) hZ (Nat.le_refl _) hB4.lt
    repeat' (first | refine TL.ev (ev_simple rfl) rfl ?_ | refine TL.grun rfl rfl rfl ?_ | refine TL.gskip rfl rfl rfl rfl ?_ | refine TL.gskipU rfl rfl rfl ?_ | (refine TL.call rfl rfl ?_; first | (refine (rwords_ok _ _ _ _ _ _ hS hZu (by omega)).mono ?_; rintro _ w6 ⟨A6, n6, c6, rfl, hO6, hE6, hK6⟩; refine Back.mk ?_; rw [hv] at hO6)) | refine TL.ev (ev_len rfl) rfl ?_ | (refine TL.cmpG rfl rfl rfl rfl (fun hc => ?_) (fun hc => ?_) <;> try (exfalso; omega)) | refine TL.ev (ev_arN rfl rfl rfl (by omega)) rfl ?_ | refine TL.ev (ev_arI rfl rfl rfl (by omega)) rfl ?_ | refine TL.ev (ev_neg rfl (by omega)) rfl ?_ | refine T.seq ?_ | refine T.region ?_ | refine TL.nil ?_ | refine T.block ?_ | refine T.cond_t rfl ?_ | refine T.cond_f rfl ?_ | refine T.exit ?_ | refine T.ret ?_ | refine T.skip ?_ | refine G.next ?_ | refine G.blockN ?_ | refine G.blockE ?_ | refine G.blockE' rfl ?_ | refine G.blockR ?_ | refine G.thenE ?_ | refine G.thenR ?_ | refine T.regionQ mixed (by kernel_rfl) ?_ | refine TL.nilQ (fun _ => ?_) | refine G.only ?_ | refine G.mixed ?_ | refine TM.nil ?_ | refine TM.e rfl ?_)
    have hW4 := (hE1.trans hE2).trans hE4
    exact G.ret1 rfl rfl (RetN.mk (hO6.mono hW4.size) (hW4.trans hE6) (by omega))
theorem xword_ok (w : World) (B : Nat) (A : Option Addr) (n c : Nat) (l : List Nat) {z : Int} {x : Nat} [e0 : IsN z x] (hs : Sl u64v w.heap B A n c l) (hu : U64 l) (hn : n ≤ 536870000) (hx : x < 18446744073709551616) :
    Cl Try.prog 48 #[.slice A n c, .int .u64 z] w (RetN w (dig (val l * x)) (n + 1)) := by
  obtain rfl := e0.out
  refine enter Try.func48 rfl rfl rfl ?_
  repeat' (first | refine TL.ev (ev_simple rfl) rfl ?_ | refine TL.grun rfl rfl rfl ?_ | refine TL.gskip rfl rfl rfl rfl ?_ | refine TL.gskipU rfl rfl rfl ?_ | (refine TL.call rfl rfl ?_; first | (refine (xmul_ok _ _ _ _ _ _ _ _ _ _ _ hs1 hS1 hu (U64.one hx) (by omega) (by omega)).mono ?_; rintro _ w6 ⟨A6, n6, c6, rfl, hO6, hE6, hK6⟩; refine Back.mk ?_; rw [val_one] at hO6)) | refine TL.ev (ev_len rfl) rfl ?_ | (refine TL.cmpG rfl rfl rfl rfl (fun hc => ?_) (fun hc => ?_) <;> try (exfalso; omega)) | refine TL.ev (ev_arN rfl rfl rfl (by omega)) rfl ?_ | refine TL.ev (ev_arI rfl rfl rfl (by omega)) rfl ?_ | refine TL.ev (ev_neg rfl (by omega)) rfl ?_ | (refine TL.build1U rfl rfl (fun w1 b1 eb1 hB1 hE1 hz1 => ?_); have hS1 := hB1.slN (n := 1) (c := 1) rfl (Nat.le_refl _) hB1.lt; have hs1 := hs.ext hE1) | refine T.seq ?_ | refine T.region ?_ | refine TL.nil ?_ | refine T.block ?_ | refine T.cond_t rfl ?_ | refine T.cond_f rfl ?_ | refine T.exit ?_ | refine T.ret ?_ | refine T.skip ?_ | refine G.next ?_ | refine G.blockN ?_ | refine G.blockE ?_ | refine G.blockE' rfl ?_ | refine G.blockR ?_ | refine G.thenE ?_ | refine G.thenR ?_ | refine T.regionQ mixed (by kernel_rfl) ?_ | refine TL.nilQ (fun _ => ?_) | refine G.only ?_ | refine G.mixed ?_ | refine TM.nil ?_ | refine TM.e rfl ?_)
  exact G.ret1 rfl rfl (RetN.mk (hO6.mono hE1.size) (hE1.trans hE6) hK6)
theorem xsquare_ok (w : World) (B : Nat) (A : Option Addr) (n c : Nat) (l : List Nat) (hs : Sl u64v w.heap B A n c l) (hu : U64 l) (hn : n ≤ 536870000) :
    Cl Try.prog 52 #[.slice A n c] w (RetN w (dig (val l * val l)) (n + n)) := by
  refine enter Try.func52 rfl rfl rfl ?_
  repeat' (first | refine TL.ev (ev_simple rfl) rfl ?_ | refine TL.grun rfl rfl rfl ?_ | refine TL.gskip rfl rfl rfl rfl ?_ | refine TL.gskipU rfl rfl rfl ?_ | (refine TL.call rfl rfl ?_; first | (refine (xmul_ok _ _ _ _ _ _ _ _ _ _ _ hs hs hu hu (by omega) (by omega)).mono ?_; rintro _ w6 ⟨A6, n6, c6, rfl, hO6, hE6, hK6⟩; refine Back.mk ?_)) | refine TL.ev (ev_len rfl) rfl ?_ | (refine TL.cmpG rfl rfl rfl rfl (fun hc => ?_) (fun hc => ?_) <;> try (exfalso; omega)) | refine TL.ev (ev_arN rfl rfl rfl (by omega)) rfl ?_ | refine TL.ev (ev_arI rfl rfl rfl (by omega)) rfl ?_ | refine TL.ev (ev_neg rfl (by omega)) rfl ?_ | refine T.seq ?_ | refine T.region ?_ | refine TL.nil ?_ | refine T.block ?_ | refine T.cond_t rfl ?_ | refine T.cond_f rfl ?_ | refine T.exit ?_ | refine T.ret ?_ | refine T.skip ?_ | refine G.next ?_ | refine G.blockN ?_ | refine G.blockE ?_ | refine G.blockE' rfl ?_ | refine G.blockR ?_ | refine G.thenE ?_ | refine G.thenR ?_ | refine T.regionQ mixed (by kernel_rfl) ?_ | refine TL.nilQ (fun _ => ?_) | refine G.only ?_ | refine G.mixed ?_ | refine TM.nil ?_ | refine TM.e rfl ?_)
  exact G.ret1 rfl rfl (RetN.mk hO6 hE6 hK6)
theorem xmulAdd_ok (w : World) (B B' B'' : Nat) (A A' A'' : Option Addr) (n c n' c' n'' c'' : Nat) (l l' l'' : List Nat) (hs : Sl u64v w.heap B A n c l) (hs' : Sl u64v w.heap B' A' n' c' l') (hs'' : Sl u64v w.heap B'' A'' n'' c'' l'') (hu : U64 l) (hu' : U64 l') (hu'' : U64 l'') (hn : n ≤ 268435456) (hn' : n' ≤ 268435456) (hn'' : n'' ≤ 268435456) :
    Cl Try.prog 50 #[.slice A n c, .slice A' n' c', .slice A'' n'' c''] w (RetN w (dig (val l * val l' + val l'')) (n + n' + n'' + 2)) := by
  refine enter Try.func50 rfl rfl rfl ?_
  repeat' (first | refine TL.ev (ev_simple rfl) rfl ?_ | refine TL.grun rfl rfl rfl ?_ | refine TL.gskip rfl rfl rfl rfl ?_ | refine TL.gskipU rfl rfl rfl ?_ | (refine TL.call rfl rfl ?_; first | (refine (xmul_ok _ _ _ _ _ _ _ _ _ _ _ hs hs' hu hu' (by omega) (by omega)).mono ?_; rintro _ w6 ⟨A6, n6, c6, rfl, hO6, hE6, hK6⟩; refine Back.mk ?_; have hS6 := hO6.sl (Nat.le_refl _); have hs6 := hs''.ext hE6) | (refine (radd_ok _ _ _ _ _ _ _ _ _ _ _ hS6 hs6 (U64_dig _) hu'' (by omega) (by omega)).mono ?_; rintro _ w7 ⟨A7, n7, c7, rfl, hO7, hE7, hK7⟩; refine Back.mk ?_; rw [val_dig] at hO7)) | refine TL.ev (ev_len rfl) rfl ?_ | (refine TL.cmpG rfl rfl rfl rfl (fun hc => ?_) (fun hc => ?_) <;> try (exfalso; omega)) | refine TL.ev (ev_arN rfl rfl rfl (by omega)) rfl ?_ | refine TL.ev (ev_arI rfl rfl rfl (by omega)) rfl ?_ | refine TL.ev (ev_neg rfl (by omega)) rfl ?_ | refine T.seq ?_ | refine T.region ?_ | refine TL.nil ?_ | refine T.block ?_ | refine T.cond_t rfl ?_ | refine T.cond_f rfl ?_ | refine T.exit ?_ | refine T.ret ?_ | refine T.skip ?_ | refine G.next ?_ | refine G.blockN ?_ | refine G.blockE ?_ | refine G.blockE' rfl ?_ | refine G.blockR ?_ | refine G.thenE ?_ | refine G.thenR ?_ | refine T.regionQ mixed (by kernel_rfl) ?_ | refine TL.nilQ (fun _ => ?_) | refine G.only ?_ | refine G.mixed ?_ | refine TM.nil ?_ | refine TM.e rfl ?_)
  exact G.ret1 rfl rfl (RetN.mk (hO7.mono hE6.size) (hE6.trans hE7) (by omega))
theorem xmulLow_neg (w : World) (v v' : Value) (z : Int) (hz : z < 0) : Cl Try.prog 51 #[v, v', .int .i64 z] w (RetNE w [] 0 3) := by
  refine enter Try.func51 rfl rfl rfl ?_
  repeat' (first | refine TL.ev (ev_simple rfl) rfl ?_ | refine TL.grun rfl rfl rfl ?_ | refine TL.gskip rfl rfl rfl rfl ?_ | refine TL.gskipU rfl rfl rfl ?_ | refine TL.ev (ev_len rfl) rfl ?_ | (refine TL.cmpG rfl rfl rfl rfl (fun hc => ?_) (fun hc => ?_) <;> try (exfalso; omega)) | refine TL.ev (ev_arN rfl rfl rfl (by omega)) rfl ?_ | refine TL.ev (ev_arI rfl rfl rfl (by omega)) rfl ?_ | refine TL.ev (ev_neg rfl (by omega)) rfl ?_ | refine T.seq ?_ | refine T.region ?_ | refine TL.nil ?_ | refine T.block ?_ | refine T.cond_t rfl ?_ | refine T.cond_f rfl ?_ | refine T.exit ?_ | refine T.ret ?_ | refine T.skip ?_ | refine G.next ?_ | refine G.blockN ?_ | refine G.blockE ?_ | refine G.blockE' rfl ?_ | refine G.blockR ?_ | refine G.thenE ?_ | refine G.thenR ?_ | refine T.regionQ mixed (by kernel_rfl) ?_ | refine TL.nilQ (fun _ => ?_) | refine G.only ?_ | refine G.mixed ?_ | refine TM.nil ?_ | refine TM.e rfl ?_)
  exact G.ret2 rfl rfl rfl (RetNE.mk (Ow.nil _ _ _ _) (Ext.refl _) (by omega))
theorem xmulLow_ok (w : World) (B B' : Nat) (A A' : Option Addr) (n c n' c' : Nat) (l l' : List Nat) {z : Int} {k : Nat} [e0 : IsN z k] (hs : Sl u64v w.heap B A n c l) (hs' : Sl u64v w.heap B' A' n' c' l') (hu : U64 l) (hu' : U64 l') (hn : n ≤ 268435456) (hn' : n' ≤ 268435456) (hk : k < 9223372036854775808) :
    Cl Try.prog 51 #[.slice A n c, .slice A' n' c', .int .i64 z] w (RetNE w (dig (val l * val l' % 2 ^ k)) (n + n' + 1) 0) := by
  obtain rfl := e0.out
  refine enter Try.func51 rfl rfl rfl ?_
  repeat' (first | refine TL.ev (ev_simple rfl) rfl ?_ | refine TL.grun rfl rfl rfl ?_ | refine TL.gskip rfl rfl rfl rfl ?_ | refine TL.gskipU rfl rfl rfl ?_ | (refine TL.call rfl rfl ?_; first | (refine (xmul_ok _ _ _ _ _ _ _ _ _ _ _ hs hs' hu hu' (by omega) (by omega)).mono ?_; rintro _ w6 ⟨A6, n6, c6, rfl, hO6, hE6, hK6⟩; refine Back.mk ?_; have hS6 := hO6.sl (Nat.le_refl _)) | (refine (rlow_ok _ _ _ _ _ _ hS6 (U64_dig _) (by omega) hk).mono ?_; rintro _ w7 ⟨A7, n7, c7, rfl, hO7, hE7, hK7⟩; refine Back.mk ?_; rw [val_dig] at hO7)) | refine TL.ev (ev_len rfl) rfl ?_ | (refine TL.cmpG rfl rfl rfl rfl (fun hc => ?_) (fun hc => ?_) <;> try (exfalso; omega)) | refine TL.ev (ev_arN rfl rfl rfl (by omega)) rfl ?_ | refine TL.ev (ev_arI rfl rfl rfl (by omega)) rfl ?_ | refine TL.ev (ev_neg rfl (by omega)) rfl ?_ | refine T.seq ?_ | refine T.region ?_ | refine TL.nil ?_ | refine T.block ?_ | refine T.cond_t rfl ?_ | refine T.cond_f rfl ?_ | refine T.exit ?_ | refine T.ret ?_ | refine T.skip ?_ | refine G.next ?_ | refine G.blockN ?_ | refine G.blockE ?_ | refine G.blockE' rfl ?_ | refine G.blockR ?_ | refine G.thenE ?_ | refine G.thenR ?_ | refine T.regionQ mixed (by kernel_rfl) ?_ | refine TL.nilQ (fun _ => ?_) | refine G.only ?_ | refine G.mixed ?_ | refine TM.nil ?_ | refine TM.e rfl ?_)
  exact G.ret2 rfl rfl rfl (RetNE.mk (hO7.mono hE6.size) (hE6.trans hE7) (by omega))
theorem xpow_neg (w : World) (v : Value) (z : Int) (hz : z < 0) : Cl Try.prog 53 #[v, .int .i64 z] w (RetNE w [] 0 3) := by
  refine enter Try.func53 rfl rfl rfl ?_
  repeat' (first | refine TL.ev (ev_simple rfl) rfl ?_ | refine TL.grun rfl rfl rfl ?_ | refine TL.gskip rfl rfl rfl rfl ?_ | refine TL.gskipU rfl rfl rfl ?_ | refine TL.ev (ev_len rfl) rfl ?_ | (refine TL.cmpG rfl rfl rfl rfl (fun hc => ?_) (fun hc => ?_) <;> try (exfalso; omega)) | refine TL.ev (ev_arN rfl rfl rfl (by omega)) rfl ?_ | refine TL.ev (ev_arI rfl rfl rfl (by omega)) rfl ?_ | refine TL.ev (ev_neg rfl (by omega)) rfl ?_ | refine T.seq ?_ | refine T.region ?_ | refine TL.nil ?_ | refine T.block ?_ | refine T.cond_t rfl ?_ | refine T.cond_f rfl ?_ | refine T.exit ?_ | refine T.ret ?_ | refine T.skip ?_ | refine G.next ?_ | refine G.blockN ?_ | refine G.blockE ?_ | refine G.blockE' rfl ?_ | refine G.blockR ?_ | refine G.thenE ?_ | refine G.thenR ?_ | refine T.regionQ mixed (by kernel_rfl) ?_ | refine TL.nilQ (fun _ => ?_) | refine G.only ?_ | refine G.mixed ?_ | refine TM.nil ?_ | refine TM.e rfl ?_)
  exact G.ret2 rfl rfl rfl (RetNE.mk (Ow.nil _ _ _ _) (Ext.refl _) (by omega))
theorem xpow_big (w : World) (v : Value) (z : Int) (hz : 256 < z) : Cl Try.prog 53 #[v, .int .i64 z] w (RetNE w [] 0 5) := by
  refine enter Try.func53 rfl rfl rfl ?_
  repeat' (first | refine TL.ev (ev_simple rfl) rfl ?_ | refine TL.grun rfl rfl rfl ?_ | refine TL.gskip rfl rfl rfl rfl ?_ | refine TL.gskipU rfl rfl rfl ?_ | refine TL.ev (ev_len rfl) rfl ?_ | (refine TL.cmpG rfl rfl rfl rfl (fun hc => ?_) (fun hc => ?_) <;> try (exfalso; omega)) | refine TL.ev (ev_arN rfl rfl rfl (by omega)) rfl ?_ | refine TL.ev (ev_arI rfl rfl rfl (by omega)) rfl ?_ | refine TL.ev (ev_neg rfl (by omega)) rfl ?_ | refine T.seq ?_ | refine T.region ?_ | refine TL.nil ?_ | refine T.block ?_ | refine T.cond_t rfl ?_ | refine T.cond_f rfl ?_ | refine T.exit ?_ | refine T.ret ?_ | refine T.skip ?_ | refine G.next ?_ | refine G.blockN ?_ | refine G.blockE ?_ | refine G.blockE' rfl ?_ | refine G.blockR ?_ | refine G.thenE ?_ | refine G.thenR ?_ | refine T.regionQ mixed (by kernel_rfl) ?_ | refine TL.nilQ (fun _ => ?_) | refine G.only ?_ | refine G.mixed ?_ | refine TM.nil ?_ | refine TM.e rfl ?_)
  exact G.ret2 rfl rfl rfl (RetNE.mk (Ow.nil _ _ _ _) (Ext.refl _) (by omega))
set_option maxHeartbeats 2000000 in
theorem xpow_ok (w : World) (B : Nat) (A : Option Addr) (n c : Nat) (l : List Nat) {z : Int} {k : Nat} [e0 : IsN z k] (hs : Sl u64v w.heap B A n c l) (hu : U64 l) (hn : n ≤ 1048576) (hk : k ≤ 256) :
    Cl Try.prog 53 #[.slice A n c, .int .i64 z] w (RetNE w (dig (val l ^ k)) 268435457 0) := by
  obtain rfl := e0.out
  refine enter Try.func53 rfl rfl rfl ?_
  repeat' (first | refine TL.ev (ev_simple rfl) rfl ?_ | refine TL.grun rfl rfl rfl ?_ | refine TL.gskip rfl rfl rfl rfl ?_ | refine TL.gskipU rfl rfl rfl ?_ | refine TL.ev (ev_len rfl) rfl ?_ | (refine TL.cmpG rfl rfl rfl rfl (fun hc => ?_) (fun hc => ?_) <;> try (exfalso; omega)) | refine TL.ev (ev_arN rfl rfl rfl (by omega)) rfl ?_ | refine TL.ev (ev_arI rfl rfl rfl (by omega)) rfl ?_ | refine TL.ev (ev_neg rfl (by omega)) rfl ?_ | (refine TL.build1U rfl rfl (fun w1 b1 eb1 hB1 hE1 hz1 => ?_)) | refine T.seq ?_ | refine T.region ?_ | refine TL.nil ?_ | refine T.block ?_ | refine T.cond_t rfl ?_ | refine T.cond_f rfl ?_ | refine T.exit ?_ | refine T.ret ?_ | refine T.skip ?_ | refine G.next ?_ | refine G.blockN ?_ | refine G.blockE ?_ | refine G.blockE' rfl ?_ | refine G.blockR ?_ | refine G.thenE ?_ | refine G.thenR ?_ | refine T.regionQ mixed (by kernel_rfl) ?_ | refine TL.nilQ (fun _ => ?_) | refine G.only ?_ | refine G.mixed ?_ | refine TM.nil ?_ | refine TM.e rfl ?_)
  have hO1 : Ow u64v w1.heap w.heap.size 25 (some ⟨b1, 0, none⟩) 1 1 (dig (val l ^ 0)) := by
    have := hB1.ow (lo := w.heap.size) (k := 1) (c := 1) (Nat.le_refl _) rfl (by unfold maxLen; simp) (by omega)
    rw [Nat.pow_zero, dig_one]
    exact this
  refine T.loop (α := Nat × SA Nat) (fun x => [(0, .slice A n c), (1, .int .i64 (k : Int)), (6, .slice x.2.A x.2.n x.2.c), (7, .int .i64 (x.1 : Int))])
    (fun x w' => x.1 ≤ k ∧ Ext w w' ∧ Ow u64v w'.heap w.heap.size 25 x.2.A x.2.n x.2.c (dig (val l ^ x.1)) ∧ x.2.n ≤ 1 + x.1 * 1048576)
    (fun x => k - x.1) (0, ⟨some ⟨b1, 0, none⟩, 1, 1, []⟩) (by repeat (first | exact Sub.nil _ | refine Sub.cons rfl ?_ | refine Sub.cons' rfl (int_congr (by omega)) ?_)) ⟨Nat.zero_le _, hE1, hO1, by dsimp only; omega⟩ ?_
  rintro ⟨i, ⟨Az, nz, cz, lz⟩⟩ w2 ⟨hi, hE2, hO2, hn2⟩
  dsimp only at hi hE2 hO2 hn2 ⊢
  have hS2 := hO2.sl (Nat.le_refl _)
  have s2 := hs.ext hE2
  rcases Nat.lt_or_ge i k with hik | hik
  · repeat' (first | refine TL.ev (ev_simple rfl) rfl ?_ | refine TL.grun rfl rfl rfl ?_ | refine TL.gskip rfl rfl rfl rfl ?_ | refine TL.gskipU rfl rfl rfl ?_ | (refine TL.call rfl rfl ?_; first | (refine (xmul_ok _ _ _ _ _ _ _ _ _ _ _ hS2 s2 (U64_dig _) hu (by omega) (by omega)).mono ?_; rintro _ w6 ⟨A6, n6, c6, rfl, hO6, hE6, hK6⟩; refine Back.mk ?_; rw [val_dig, ← Nat.pow_succ] at hO6)) | refine TL.ev (ev_len rfl) rfl ?_ | (refine TL.cmpG rfl rfl rfl rfl (fun hc => ?_) (fun hc => ?_) <;> try (exfalso; omega)) | refine TL.ev (ev_arN rfl rfl rfl (by omega)) rfl ?_ | refine TL.ev (ev_arI rfl rfl rfl (by omega)) rfl ?_ | refine TL.ev (ev_neg rfl (by omega)) rfl ?_ | refine T.seq ?_ | refine T.region ?_ | refine TL.nil ?_ | refine T.block ?_ | refine T.cond_t rfl ?_ | refine T.cond_f rfl ?_ | refine T.exit ?_ | refine T.ret ?_ | refine T.skip ?_ | refine G.next ?_ | refine G.blockN ?_ | refine G.blockE ?_ | refine G.blockE' rfl ?_ | refine G.blockR ?_ | refine G.thenE ?_ | refine G.thenR ?_ | refine T.regionQ mixed (by kernel_rfl) ?_ | refine TL.nilQ (fun _ => ?_) | refine G.only ?_ | refine G.mixed ?_ | refine TM.nil ?_ | refine TM.e rfl ?_)
    exact G.again (i + 1, ⟨A6, n6, c6, []⟩) (by repeat (first | exact Sub.nil _ | refine Sub.cons rfl ?_ | refine Sub.cons' rfl (int_congr (by omega)) ?_)) ⟨by dsimp only; omega, hE2.trans hE6, hO6.mono hE2.size, by dsimp only; omega⟩ (by dsimp only; omega)
  · obtain rfl : i = k := by omega
    repeat' (first | refine TL.ev (ev_simple rfl) rfl ?_ | refine TL.grun rfl rfl rfl ?_ | refine TL.gskip rfl rfl rfl rfl ?_ | refine TL.gskipU rfl rfl rfl ?_ | refine TL.ev (ev_len rfl) rfl ?_ | (refine TL.cmpG rfl rfl rfl rfl (fun hc => ?_) (fun hc => ?_) <;> try (exfalso; omega)) | refine TL.ev (ev_arN rfl rfl rfl (by omega)) rfl ?_ | refine TL.ev (ev_arI rfl rfl rfl (by omega)) rfl ?_ | refine TL.ev (ev_neg rfl (by omega)) rfl ?_ | refine T.seq ?_ | refine T.region ?_ | refine TL.nil ?_ | refine T.block ?_ | refine T.cond_t rfl ?_ | refine T.cond_f rfl ?_ | refine T.exit ?_ | refine T.ret ?_ | refine T.skip ?_ | refine G.next ?_ | refine G.blockN ?_ | refine G.blockE ?_ | refine G.blockE' rfl ?_ | refine G.blockR ?_ | refine G.thenE ?_ | refine G.thenR ?_ | refine T.regionQ mixed (by kernel_rfl) ?_ | refine TL.nilQ (fun _ => ?_) | refine G.only ?_ | refine G.mixed ?_ | refine TM.nil ?_ | refine TM.e rfl ?_)
    exact G.ret2 rfl rfl rfl (RetNE.mk hO2 hE2 (by omega))
set_option maxHeartbeats 2000000 in
theorem xprod_ok (w : World) (A : Option Addr) (n c : Nat) (L : List (SA Nat)) (hs : Sl sav w.heap w.heap.size A n c L) (hL : LS w.heap w.heap.size L) (ht : tot L + n ≤ 1048576) :
    Cl Try.prog 54 #[.slice A n c] w (RetN w (dig (prodV L)) (tot L + 1)) := by
  have hlen := hs.len
  refine enter Try.func54 rfl rfl rfl ?_
  repeat' (first | refine TL.ev (ev_simple rfl) rfl ?_ | refine TL.grun rfl rfl rfl ?_ | refine TL.gskip rfl rfl rfl rfl ?_ | refine TL.gskipU rfl rfl rfl ?_ | refine TL.ev (ev_len rfl) rfl ?_ | (refine TL.cmpG rfl rfl rfl rfl (fun hc => ?_) (fun hc => ?_) <;> try (exfalso; omega)) | refine TL.ev (ev_arN rfl rfl rfl (by omega)) rfl ?_ | refine TL.ev (ev_arI rfl rfl rfl (by omega)) rfl ?_ | refine TL.ev (ev_neg rfl (by omega)) rfl ?_ | (refine TL.build1U rfl rfl (fun w1 b1 eb1 hB1 hE1 hz1 => ?_)) | refine T.seq ?_ | refine T.region ?_ | refine TL.nil ?_ | refine T.block ?_ | refine T.cond_t rfl ?_ | refine T.cond_f rfl ?_ | refine T.exit ?_ | refine T.ret ?_ | refine T.skip ?_ | refine G.next ?_ | refine G.blockN ?_ | refine G.blockE ?_ | refine G.blockE' rfl ?_ | refine G.blockR ?_ | refine G.thenE ?_ | refine G.thenR ?_ | refine T.regionQ mixed (by kernel_rfl) ?_ | refine TL.nilQ (fun _ => ?_) | refine G.only ?_ | refine G.mixed ?_ | refine TM.nil ?_ | refine TM.e rfl ?_)
  have hO1 : Ow u64v w1.heap w.heap.size 25 (some ⟨b1, 0, none⟩) 1 1 (dig (prodV (L.take 0))) := by
    have := hB1.ow (lo := w.heap.size) (k := 1) (c := 1) (Nat.le_refl _) rfl (by unfold maxLen; simp) (by omega)
    simp only [List.take_zero, prodV, dig_one]
    exact this
  refine T.loop (α := Nat × SA Nat) (fun x => [(0, .slice A n c), (3, .slice x.2.A x.2.n x.2.c), (4, .int .i64 (x.1 : Int))])
    (fun x w' => x.1 ≤ n ∧ Ext w w' ∧ Ow u64v w'.heap w.heap.size 25 x.2.A x.2.n x.2.c (dig (prodV (L.take x.1))) ∧ x.2.n ≤ 1 + tot (L.take x.1))
    (fun x => n - x.1) (0, ⟨some ⟨b1, 0, none⟩, 1, 1, []⟩) (by repeat (first | exact Sub.nil _ | refine Sub.cons rfl ?_ | refine Sub.cons' rfl (int_congr (by omega)) ?_)) ⟨Nat.zero_le _, hE1, hO1, by dsimp only; omega⟩ ?_
  rintro ⟨i, ⟨Az, nz, cz, lz⟩⟩ w2 ⟨hi, hE2, hO2, hn2⟩
  dsimp only at hi hE2 hO2 hn2 ⊢
  have hS2 := hO2.sl (Nat.le_refl _)
  have s2 := hs.ext hE2
  have htz : tot (L.take i) ≤ tot L := by have := (lprod_two (L := L) i).2; omega
  rcases Nat.lt_or_ge i n with hin | hin
  · have hm := getD_mem (L := L) (i := i) (by omega)
    have hx2 := hL _ hm
    have hx3 := tot_mem hm
    obtain ⟨p1, p2⟩ := prodV_take_succ (L := L) (i := i) (by omega)
    repeat' (first | refine TL.ev (ev_simple rfl) rfl ?_ | refine TL.grun rfl rfl rfl ?_ | refine TL.gskip rfl rfl rfl rfl ?_ | refine TL.gskipU rfl rfl rfl ?_ | (refine TL.call rfl rfl ?_; first | (refine (xmul_ok _ _ _ _ _ _ _ _ _ _ _ hS2 (by exact hx2.1.ext hE2) (U64_dig _) hx2.2 (by omega) (by omega)).mono ?_; rintro _ w6 ⟨A6, n6, c6, rfl, hO6, hE6, hK6⟩; refine Back.mk ?_; rw [val_dig, ← p1] at hO6)) | refine TL.ev (ev_len rfl) rfl ?_ | (refine TL.cmpG rfl rfl rfl rfl (fun hc => ?_) (fun hc => ?_) <;> try (exfalso; omega)) | refine TL.ev (ev_arN rfl rfl rfl (by omega)) rfl ?_ | refine TL.ev (ev_arI rfl rfl rfl (by omega)) rfl ?_ | refine TL.ev (ev_neg rfl (by omega)) rfl ?_ | refine TL.ev (ev_indexN rfl rfl (by omega) (by first | exact Or.inr rfl | exact Sl.some (by assumption))) rfl ?_ | refine TL.ev (ev_index rfl rfl (by omega) (by first | exact Or.inr rfl | exact Sl.some (by assumption))) rfl ?_ | refine TL.ev (ev_loadU rfl (by assumption) (by omega)) rfl ?_ | refine TL.ev (ev_loadI rfl (by assumption) (by omega)) rfl ?_ | (refine TL.ev (ev_loadS rfl s2 (by omega)) rfl ?_) | refine T.seq ?_ | refine T.region ?_ | refine TL.nil ?_ | refine T.block ?_ | refine T.cond_t rfl ?_ | refine T.cond_f rfl ?_ | refine T.exit ?_ | refine T.ret ?_ | refine T.skip ?_ | refine G.next ?_ | refine G.blockN ?_ | refine G.blockE ?_ | refine G.blockE' rfl ?_ | refine G.blockR ?_ | refine G.thenE ?_ | refine G.thenR ?_ | refine T.regionQ mixed (by kernel_rfl) ?_ | refine TL.nilQ (fun _ => ?_) | refine G.only ?_ | refine G.mixed ?_ | refine TM.nil ?_ | refine TM.e rfl ?_)
    exact G.again (i + 1, ⟨A6, n6, c6, []⟩) (by repeat (first | exact Sub.nil _ | refine Sub.cons rfl ?_ | refine Sub.cons' rfl (int_congr (by omega)) ?_)) ⟨by dsimp only; omega, hE2.trans hE6, hO6.mono hE2.size, by dsimp only; omega⟩ (by dsimp only; omega)
  · have e : L.take i = L := List.take_of_length_le (by omega)
    rw [e] at hO2 hn2
    repeat' (first | refine TL.ev (ev_simple rfl) rfl ?_ | refine TL.grun rfl rfl rfl ?_ | refine TL.gskip rfl rfl rfl rfl ?_ | refine TL.gskipU rfl rfl rfl ?_ | refine TL.ev (ev_len rfl) rfl ?_ | (refine TL.cmpG rfl rfl rfl rfl (fun hc => ?_) (fun hc => ?_) <;> try (exfalso; omega)) | refine TL.ev (ev_arN rfl rfl rfl (by omega)) rfl ?_ | refine TL.ev (ev_arI rfl rfl rfl (by omega)) rfl ?_ | refine TL.ev (ev_neg rfl (by omega)) rfl ?_ | refine T.seq ?_ | refine T.region ?_ | refine TL.nil ?_ | refine T.block ?_ | refine T.cond_t rfl ?_ | refine T.cond_f rfl ?_ | refine T.exit ?_ | refine T.ret ?_ | refine T.skip ?_ | refine G.next ?_ | refine G.blockN ?_ | refine G.blockE ?_ | refine G.blockE' rfl ?_ | refine G.blockR ?_ | refine G.thenE ?_ | refine G.thenR ?_ | refine T.regionQ mixed (by kernel_rfl) ?_ | refine TL.nilQ (fun _ => ?_) | refine G.only ?_ | refine G.mixed ?_ | refine TM.nil ?_ | refine TM.e rfl ?_)
    exact G.ret1 rfl rfl (RetN.mk hO2 hE2 (by omega))
end Go.Proofs.Ytgmhldapndhoeaa
