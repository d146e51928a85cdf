/- The document's answers for layer 2: digits, words. The document's answers for layer 1: Add, Sub. The document's answers for layer 1: Sub, power. The document's answers for layer 1: power, Low. Layers 1 and 2: contracts of nat.Shl, mulnat.MulLow. Layer 2: contracts of math/bits.Len, mulnat.Pow. Layer 2: contract of mulnat.Product. The laws of layer 1 that hold the program's calls against one another: the walks. The walk of NatOrder. The laws of layer 2 that hold the program's calls against one another: helpers. The walks of MulnatPowers, MulnatShifts, MulnatLong. The walk of MulnatLists. The document's answers for layer 2: Mul, Word, MulAdd, MulLow, Square, Pow, Product. The document's answers for layer 5: Neg, Add, Sub, Mul, MulAdd; sizes told by the numbers. The document's answers for layer 9: outside, blank, Make, Least, Zero, Unit, Turn. -/
import Derived.Test.YtdhmhjbmkimplaaGreatPl8
import Derived.Test.YtdhmhjbmkimplaaGreatPl10
import Derived.Test.YtdhmhjbmkimplaaGreatPl3
import Derived.Test.YtdhmhjbmkimplaaGreatPl5
import Derived.Test.YtdhmhjbmkimplaaGreatPl6
import Derived.Test.YtdhmhjbmkimplaaGreatPl9
set_option linter.unusedVariables false
set_option linter.unusedSimpArgs false
namespace Go.Proofs.YtdhmhjbmkimplaaGreat
open Go Go.Eng Go.Proofs Go.NatM Go.RowKit

theorem set_zeros_at {D : List Nat} {p r x : Nat} (h : D.length = p) : (D ++ List.replicate (r + 1) 0).set p x = (D ++ [x]) ++ List.replicate r 0 := by subst h; exact N16.set_zeros D r x
set_option maxHeartbeats 4000000 in
theorem rdig_ok (w : World) (B : Nat) (A : Option Addr) (n c : Nat) (l : List Nat) (hs : Sl u64v w.heap B A n c l) (hu : U64 l) (hn : n ≤ 1099511627776) :
    Cl Tryz.prog 151 #[.slice A n c] w (RetI w (N16.dig (val l)) (4 * n)) := by
  have hlen := hs.len
  replace hs := hs.size
  refine enter Tryz.func151 rfl rfl rfl ?_
  repeat' (first | refine TL.ev (ev_simple rfl) rfl ?_ | refine TL.ev (ev_len rfl) rfl ?_ | refine TL.ev (ev_arN rfl rfl rfl (by omega)) rfl ?_ | (refine TL.makeN rfl rfl rfl (by omega) (by omega) (fun w1 b1 eb hB hE hz => ?_)) | refine T.seq ?_ | refine T.region ?_ | refine TL.nil ?_ | refine T.block ?_ | refine G.next ?_)
  refine T.loop (α := Nat × List Nat) (fun x => [(0, .slice A n c), (3, .slice (some ⟨b1, 0, none⟩) (4 * n) (4 * n)), (4, .int .i64 (x.1 : Int))])
    (fun x w' => x.1 ≤ n ∧ Ext w w' ∧ x.2.length = 4 * x.1 ∧ Bk n64v w'.heap b1 3 (x.2 ++ List.replicate (4 * n - 4 * x.1) 0) ∧ N16.U64 x.2 ∧ N16.val x.2 = val (l.take x.1))
    (fun x => n - x.1) (0, []) (by repeat (first | exact Sub.nil _ | refine Sub.cons rfl ?_ | refine Sub.cons' rfl (int_congr (by omega)) ?_)) ⟨Nat.zero_le _, hE, rfl, by simpa using hB, N16.U64.nil, rfl⟩ ?_
  rintro ⟨i, D⟩ w2 ⟨hi, hE2, hD, hB2, hDu, hv⟩
  dsimp only at hi hE2 hD hB2 hDu hv ⊢
  have t1 := hs.ext hE2
  rcases Nat.lt_or_ge i n with hin | hin
  · have hx := hu.getD i
    repeat' (first | refine TL.ev (ev_simple rfl) rfl ?_ | refine TL.ev (ev_len rfl) rfl ?_ | (refine TL.cmpG rfl rfl rfl rfl (fun hc => ?_) (fun hc => ?_) <;> try (exfalso; omega)) | refine TL.ev (ev_indexN rfl rfl (by omega) (by first | exact Or.inr rfl | exact Sl.some (by assumption))) rfl ?_ | refine TL.ev (ev_loadU rfl (by assumption) (by omega)) rfl ?_ | refine T.seq ?_ | refine T.region ?_ | refine TL.nil ?_ | refine T.block ?_ | refine T.cond_t rfl ?_ | refine T.skip ?_ | refine G.next ?_)
    refine T.loop (α := Nat) (fun k => [(0, .slice A n c), (3, .slice (some ⟨b1, 0, none⟩) (4 * n) (4 * n)), (4, .int .i64 (i : Int)), (5, .int .u64 ((l.getD i 0 / 65536 ^ k : Nat) : Int)), (6, .int .i64 (k : Int))])
      (fun k w' => k ≤ 4 ∧ Ext w w' ∧ Bk n64v w'.heap b1 3 ((D ++ fourK (l.getD i 0) k) ++ List.replicate (4 * n - 4 * i - k) 0))
      (fun k => 4 - k) 0 (by rw [Nat.pow_zero, Nat.div_one]; exact (by repeat (first | exact Sub.nil _ | refine Sub.cons rfl ?_ | refine Sub.cons' rfl (int_congr (by omega)) ?_))) ⟨by omega, hE2, by simpa [fourK] using hB2⟩ ?_
    rintro k w3 ⟨hk, hE3, hB3⟩
    have hlk : (D ++ fourK (l.getD i 0) k).length = 4 * i + k := by rw [List.length_append, fourK_len, hD]
    have hlB : ((D ++ fourK (l.getD i 0) k) ++ List.replicate (4 * n - 4 * i - k) 0).length = 4 * n := by rw [List.length_append, hlk, List.length_replicate]; omega
    rcases Nat.lt_or_ge k 4 with hk4 | hk4
    · have hx2 : l.getD i 0 / 65536 ^ k < 18446744073709551616 := Nat.lt_of_le_of_lt (Nat.div_le_self _ _) hx
      repeat' (first | refine TL.ev (ev_simple rfl) rfl ?_ | (refine TL.cmpG rfl rfl rfl rfl (fun hc => ?_) (fun hc => ?_) <;> try (exfalso; omega)) | refine TL.ev (ev_arN rfl rfl rfl (by omega)) rfl ?_ | refine TL.ev (ev_indexN rfl rfl (by omega) (by first | exact Or.inr rfl | exact Sl.some (by assumption))) rfl ?_ | refine TL.ev (ev_convI rfl (by omega)) rfl ?_ | refine TL.ev (ev_arU rfl rfl rfl (by first | exact True.intro | omega)) rfl ?_ | (refine TL.storeN rfl rfl hB3 (by rw [hlB]; omega) (fun w5 hB5 hU => ?_)) | refine T.seq ?_ | refine T.region ?_ | refine TL.nil ?_ | refine T.block ?_ | refine T.cond_t rfl ?_ | refine T.skip ?_ | refine G.next ?_ | refine G.blockN ?_)
      rw [show 4 * n - 4 * i - k = (4 * n - 4 * i - (k + 1)) + 1 by omega, set_zeros_at hlk, List.append_assoc D (fourK _ _), ← fourK_succ] at hB5
      exact G.again (k + 1) (by rw [Nat.pow_succ, ← Nat.div_div_eq_div_mul]; exact (by repeat (first | exact Sub.nil _ | refine Sub.cons rfl ?_ | refine Sub.cons' rfl (int_congr (by omega)) ?_))) ⟨by omega, hE3.upd hU (by omega), hB5⟩ (by omega)
    · obtain rfl : k = 4 := by omega
      repeat' (first | refine TL.ev (ev_simple rfl) rfl ?_ | (refine TL.cmpG rfl rfl rfl rfl (fun hc => ?_) (fun hc => ?_) <;> try (exfalso; omega)) | refine TL.ev (ev_arN rfl rfl rfl (by omega)) rfl ?_ | refine T.seq ?_ | refine T.region ?_ | refine TL.nil ?_ | refine T.cond_f rfl ?_ | refine T.exit ?_ | refine G.next ?_ | refine G.blockN ?_ | refine G.blockE ?_ | refine G.thenE ?_)
      rw [show 4 * n - 4 * i - 4 = 4 * n - 4 * (i + 1) by omega] at hB3
      refine G.again (i + 1, D ++ fourK (l.getD i 0) 4) (by repeat (first | exact Sub.nil _ | refine Sub.cons rfl ?_ | refine Sub.cons' rfl (int_congr (by omega)) ?_)) ⟨by dsimp only; omega, hE3, by dsimp only; omega, hB3, hDu.append (U_fourK _ _), ?_⟩ (by dsimp only; omega)
      dsimp only
      rw [N16.val_append, hD, W_pow4, val_fourK hx, hv, val_take_succ]
  · obtain rfl : i = n := by omega
    have e : l.take i = l := List.take_of_length_le (by omega)
    rw [e] at hv
    rw [Nat.sub_self, List.replicate_zero, List.append_nil] at hB2
    have hS := hB2.slN (n := 4 * i) (c := 4 * i) hD (Nat.le_refl _) hB2.lt
    have hzle := N16.sz_le D
    repeat' (first | refine TL.ev (ev_simple rfl) rfl ?_ | refine TL.ev (ev_len rfl) rfl ?_ | (refine TL.cmpG rfl rfl rfl rfl (fun hc => ?_) (fun hc => ?_) <;> try (exfalso; omega)) | refine T.seq ?_ | refine T.region ?_ | refine TL.nil ?_ | refine T.block ?_ | refine T.cond_f rfl ?_ | refine T.exit ?_ | refine G.next ?_ | refine G.blockE ?_ | refine G.thenE ?_)
    refine T.loop (fun k : Nat => [(3, .slice (some ⟨b1, 0, none⟩) (4 * i) (4 * i)), (7, .int .i64 (k : Int))]) (fun k w' => w' = w2 ∧ k ≤ 4 * i ∧ ∀ j, k ≤ j → D.getD j 0 = 0) (fun k => k) (4 * i) (by repeat (first | exact Sub.nil _ | refine Sub.cons rfl ?_ | refine Sub.cons' rfl (int_congr (by omega)) ?_)) ⟨rfl, Nat.le_refl _, fun j hj => N16.getD_ge (by omega)⟩ ?_
    rintro k w' ⟨rfl, hk, hz0⟩
    have fin : k = N16.sz D → Ow n64v w'.heap w.heap.size 3 (some ⟨b1, 0, none⟩) k (4 * i) (N16.dig (val l)) := fun hks => by
      have := hB2.ow (lo := w.heap.size) (k := k) (c := 4 * i) (by omega) hD.symm (by unfold maxLen; omega) (by omega)
      rwa [hks, N16.take_sz hDu, hv, ← hks] at this
    repeat' (first | refine TL.ev (ev_simple rfl) rfl ?_ | refine TL.grun rfl rfl rfl ?_ | refine TL.gskip rfl rfl rfl rfl ?_ | (refine TL.cmpG rfl rfl rfl rfl (fun hc => ?_) (fun hc => ?_) <;> try (exfalso; omega)) | refine TL.ev (ev_arN rfl rfl rfl (by omega)) rfl ?_ | refine TL.ev (ev_indexN rfl rfl (by omega) (by first | exact Or.inr rfl | exact Sl.some (by assumption))) rfl ?_ | refine TL.ev (ev_loadN rfl (by assumption) (by omega)) rfl ?_ | refine TL.ev (ev_sl_h rfl rfl (by omega)) rfl ?_ | refine T.seq ?_ | refine T.region ?_ | refine TL.nil ?_ | refine T.block ?_ | refine T.cond_t rfl ?_ | refine T.cond_f rfl ?_ | refine T.exit ?_ | refine T.ret ?_ | refine T.skip ?_ | refine G.next ?_ | refine G.blockN ?_ | refine G.blockE ?_ | refine G.thenE ?_)
    · refine G.again (k - 1) (by repeat (first | exact Sub.nil _ | refine Sub.cons rfl ?_ | refine Sub.cons' rfl (int_congr (by omega)) ?_)) ⟨rfl, by omega, fun j hj => ?_⟩ (by omega)
      rcases Nat.lt_or_ge j k with h | h
      · obtain rfl : j = k - 1 := by omega
        omega
      · exact hz0 j h
    · exact G.ret1 rfl rfl (RetI.mk (fin (N16.sz_eq D k (by omega) hz0 (.inr (by omega))).symm) hE2 (by omega))
    · exact G.ret1 rfl rfl (RetI.mk (fin (N16.sz_eq D k (by omega) hz0 (.inl (by omega))).symm) hE2 (by omega))
set_option maxHeartbeats 4000000 in
theorem rwords_ok (w : World) (B : Nat) (A : Option Addr) (n c : Nat) (X : List Nat) (hs : Sl n64v w.heap B A n c X) (hu : N16.U64 X) (hn : n ≤ 4398046511104) :
    Cl Tryz.prog 152 #[.slice A n c] w (RetN w (dig (N16.val X)) ((n + 3) / 4)) := by
  have hlen := hs.len
  replace hs := hs.size
  refine enter Tryz.func152 rfl rfl rfl ?_
  repeat' (first | refine TL.ev (ev_simple rfl) rfl ?_ | refine TL.ev (ev_len rfl) rfl ?_ | refine TL.ev (ev_arN rfl rfl rfl (by omega)) rfl ?_ | refine TL.ev (ev_arI rfl rfl rfl (by omega)) rfl ?_ | (refine TL.makeU rfl rfl rfl (by omega) (by omega) (fun w1 b1 eb hB hE hz => ?_)) | refine T.seq ?_ | refine T.region ?_ | refine TL.nil ?_ | refine T.block ?_ | refine G.next ?_)
  generalize hm : (n + 3) / 4 = m at *
  refine T.loop (α := Nat) (fun j => [(0, .slice A n c), (3, .slice (some ⟨b1, 0, none⟩) m m), (4, .int .i64 ((j : Int) - 1))])
    (fun j w' => j ≤ n ∧ Ext w w' ∧ Bk u64v w'.heap b1 101 (N16.wqs X m j))
    (fun j => j) n (by repeat (first | exact Sub.nil _ | refine Sub.cons rfl ?_ | refine Sub.cons' rfl (int_congr (by omega)) ?_)) ⟨Nat.le_refl _, hE, by rw [N16.wqs_zero (by omega)]; exact hB⟩ ?_
  rintro j w2 ⟨hj, hE2, hB2⟩
  have t1 := hs.ext hE2
  rcases Nat.eq_zero_or_pos j with h0 | h0
  · subst h0
    have hv := N16.wqs_val X m
    rw [List.take_of_length_le (by omega)] at hv
    have hDu := N16.wqs_U hu m 0
    have hD := N16.wqs_len X m 0
    generalize N16.wqs X m 0 = D at *
    have hS := hB2.slN (n := m) (c := m) hD (Nat.le_refl _) hB2.lt
    have hzle := sz_le D
    repeat' (first | refine TL.ev (ev_simple rfl) rfl ?_ | refine TL.ev (ev_len rfl) rfl ?_ | (refine TL.cmpG rfl rfl rfl rfl (fun hc => ?_) (fun hc => ?_) <;> try (exfalso; omega)) | refine T.seq ?_ | refine T.region ?_ | refine TL.nil ?_ | refine T.block ?_ | refine T.cond_f rfl ?_ | refine T.exit ?_ | refine G.next ?_ | refine G.blockE ?_ | refine G.thenE ?_)
    refine T.loop (fun k : Nat => [(3, .slice (some ⟨b1, 0, none⟩) m m), (5, .int .i64 (k : Int))]) (fun k w' => w' = w2 ∧ k ≤ m ∧ ∀ j, k ≤ j → D.getD j 0 = 0) (fun k => k) m (by repeat (first | exact Sub.nil _ | refine Sub.cons rfl ?_ | refine Sub.cons' rfl (int_congr (by omega)) ?_)) ⟨rfl, Nat.le_refl _, fun j hj => getD_ge (by omega)⟩ ?_
    rintro k w' ⟨rfl, hk, hz0⟩
    have fin : k = sz D → Ow u64v w'.heap w.heap.size 101 (some ⟨b1, 0, none⟩) k m (dig (N16.val X)) := fun hks => by
      have := hB2.ow (lo := w.heap.size) (k := k) (c := m) (by omega) hD.symm (by unfold maxLen; omega) (by omega)
      rwa [hks, take_sz hDu, hv, ← hks] at this
    repeat' (first | refine TL.ev (ev_simple rfl) rfl ?_ | refine TL.grun rfl rfl rfl ?_ | refine TL.gskip rfl rfl rfl rfl ?_ | (refine TL.cmpG rfl rfl rfl rfl (fun hc => ?_) (fun hc => ?_) <;> try (exfalso; omega)) | refine TL.ev (ev_arN rfl rfl rfl (by omega)) rfl ?_ | refine TL.ev (ev_indexN rfl rfl (by omega) (by first | exact Or.inr rfl | exact Sl.some (by assumption))) rfl ?_ | refine TL.ev (ev_loadU rfl (by assumption) (by omega)) rfl ?_ | refine TL.ev (ev_sl_h rfl rfl (by omega)) rfl ?_ | refine T.seq ?_ | refine T.region ?_ | refine TL.nil ?_ | refine T.block ?_ | refine T.cond_t rfl ?_ | refine T.cond_f rfl ?_ | refine T.exit ?_ | refine T.ret ?_ | refine T.skip ?_ | refine G.next ?_ | refine G.blockN ?_ | refine G.blockE ?_ | refine G.thenE ?_)
    · refine G.again (k - 1) (by repeat (first | exact Sub.nil _ | refine Sub.cons rfl ?_ | refine Sub.cons' rfl (int_congr (by omega)) ?_)) ⟨rfl, by omega, fun j hj => ?_⟩ (by omega)
      rcases Nat.lt_or_ge j k with h | h
      · obtain rfl : j = k - 1 := by omega
        omega
      · exact hz0 j h
    · exact G.ret1 rfl rfl (RetN.mk (fin (sz_eq D k (by omega) hz0 (.inr (by omega))).symm) hE2 (by omega))
    · exact G.ret1 rfl rfl (RetN.mk (fin (sz_eq D k (by omega) hz0 (.inl (by omega))).symm) hE2 (by omega))
  · obtain ⟨i, rfl⟩ : ∃ i, j = i + 1 := ⟨j - 1, by omega⟩
    rw [show ((i + 1 : Nat) : Int) - 1 = (i : Int) by omega]
    have hx := hu.getD i
    have h3 := N16.wq_lt3 hu i
    have hi4 : i / 4 < m := by omega
    have hg := N16.wqs_get X (j := i + 1) hi4
    have hl := N16.wqs_len X m (i + 1)
    have hS := hB2.slN (n := m) (c := m) hl (Nat.le_refl _) hB2.lt
    have hset := N16.wqs_set X hi4
    rw [← hg] at h3 hset
    generalize N16.wqs X m (i + 1) = D at *
    repeat' (first | refine TL.ev (ev_simple rfl) rfl ?_ | (refine TL.cmpG rfl rfl rfl rfl (fun hc => ?_) (fun hc => ?_) <;> try (exfalso; omega)) | refine TL.ev (ev_arI rfl rfl rfl (by omega)) rfl ?_ | refine TM.f rfl (fun _ => ev_simple rfl) rfl ?_ | refine TM.f rfl (fun _ => ev_arN rfl rfl rfl (by omega)) rfl ?_ | refine TM.f rfl (fun _ => ev_indexN rfl rfl (by omega) (by first | exact Or.inr rfl | exact Sl.some (by assumption))) rfl ?_ | refine TM.s rfl (ev_loadU rfl (by assumption) (by omega)) rfl ?_ | refine TM.s rfl (ev_loadN rfl (by assumption) (by omega)) rfl ?_ | refine TM.f rfl (fun _ => ev_convU rfl (by omega)) rfl ?_ | refine TM.f rfl (fun _ => ev_arU rfl rfl rfl (by first | exact True.intro | omega)) rfl ?_ | refine T.regionM [(0, 0), (1, 0), (2, 0), (3, 0), (4, 0), (5, 0), (6, 0), (9, 0), (10, 0), (11, 0), (7, 1), (8, 0), (12, 1), (13, 0), (14, 0), (15, 0), (16, 2)] mixed (by kernel_rfl) ?_ | (refine TL.storeU (u := D.getD (i / 4) 0 * 65536 + X.getD i 0) (eu := ⟨by omega⟩) rfl rfl (by exact hB2) (by omega) (fun w5 hB5 hU => ?_)) | refine T.seq ?_ | refine T.region ?_ | refine TL.nil ?_ | refine T.block ?_ | refine T.cond_t rfl ?_ | refine T.skip ?_ | refine G.next ?_ | refine G.blockN ?_ | refine G.only ?_ | refine G.mixed ?_ | refine TM.nil ?_ | refine TM.e rfl ?_)
    rw [hset] at hB5
    exact G.again i (by repeat (first | exact Sub.nil _ | refine Sub.cons rfl ?_ | refine Sub.cons' rfl (int_congr (by omega)) ?_)) ⟨by omega, (hE2.drewN _).upd hU (by omega), hB5⟩ (by omega)
end Go.Proofs.YtdhmhjbmkimplaaGreat

namespace Go.Proofs.YtdhmhjbmkimplaaGreat
open Go Go.Eng Go.Proofs Go.NatM Go.RowKit

set_option maxHeartbeats 4000000 in
theorem radd_ok (w : World) (B B' : Nat) (A A' : Option Addr) (n c n' c' : Nat) (l l' : List Nat) (hs : Sl u64v w.heap B A n c l) (hs' : Sl u64v w.heap B' A' n' c' l') (hu : U64 l) (hu' : U64 l') (hn : n ≤ 1048576000) (hn' : n' ≤ 1048576000) :
    Cl Tryz.prog 139 #[.slice A n c, .slice A' n' c'] w (RetN w (dig (val l + val l')) (max n n' + 2)) := by
  refine enter Tryz.func139 rfl rfl rfl ?_
  repeat' (first | refine TL.ev (ev_simple rfl) rfl ?_ | (refine TL.call rfl rfl ?_; first | (refine (split_ok _ _ _ _ _ _ hs hu (by omega)).mono ?_; rintro _ w1 ⟨A1, n1, c1, rfl, hO1, hE1, hK1⟩; refine Back.mk ?_; have hs2' := hs'.ext hE1) | (refine (split_ok _ _ _ _ _ _ hs2' hu' (by omega)).mono ?_; rintro _ w2 ⟨A2, n2, c2, rfl, hO2, hE2, hK2⟩; refine Back.mk ?_; have g1 := (hO1.ext hE2).sl (Nat.le_refl _); have g2 := hO2.sl (Nat.le_refl _); have hl1 := g1.len; have hl2 := g2.len; have ux := N16.U64_dig (val l); have uy := N16.U64_dig (val l'); have vx := N16.val_dig (val l); have vy := N16.val_dig (val l'))) | refine TL.ev (ev_len rfl) rfl ?_ | (refine TL.cmpG rfl rfl rfl rfl (fun hc => ?_) (fun hc => ?_) <;> try (exfalso; omega)) | refine TL.ev (ev_arN rfl rfl rfl (by omega)) rfl ?_ | (refine TL.makeN rfl rfl rfl (by omega) (by omega) (fun w3 b3 eb hB3 hE3 hz => ?_)) | refine T.seq ?_ | refine T.region ?_ | refine TL.nil ?_ | refine T.block ?_ | refine T.cond_t rfl ?_ | refine T.cond_f rfl ?_ | refine T.skip ?_ | refine G.next ?_)
  · generalize N16.dig (val l) = X at *
    generalize N16.dig (val l') = Y at *
    have hE13 := (hE1.trans hE2).trans hE3
    refine T.loop (α := Nat × List Nat × Nat) (fun x => [(5, .slice A1 n1 c1), (6, .slice A2 n2 c2), (7, .int .i64 (n2 : Int)), (8, .slice (some ⟨b3, 0, none⟩) (n2 + 1) (n2 + 1)), (9, .int .i64 (x.2.2 : Int)), (10, .int .i64 (x.1 : Int))])
      (fun x w' => x.1 ≤ n2 ∧ x.2.1.length = x.1 ∧ N16.U64 x.2.1 ∧ x.2.2 ≤ 1 ∧ Ext w2 w' ∧ (Bk n64v w'.heap b3 3 (x.2.1 ++ List.replicate (n2 - x.1 + 1) 0)  ∧ True) ∧ N16.val x.2.1 + 65536 ^ x.1 * x.2.2 = N16.val (X.take x.1) + N16.val (Y.take x.1))
      (fun x => n2 - x.1) (0, [], 0) (by repeat (first | exact Sub.nil _ | refine Sub.cons rfl ?_ | refine Sub.cons' rfl (int_congr (by omega)) ?_)) ⟨Nat.zero_le _, rfl, N16.U64.nil, Nat.zero_le _, hE3, ⟨by simpa using hB3, trivial⟩, by simp [N16.val]⟩ ?_
    rintro ⟨i, D, cy⟩ w4 ⟨hi, hD, hDu, hcy, hE4, ⟨hB4, _⟩, hv⟩
    dsimp only at hi hD hDu hcy hB4 hv ⊢
    have e1 := g1.ext hE4
    have e2 := g2.ext hE4
    have hW4 := (hE1.trans hE2).trans hE4
    have x1 := ux.getD i
    have x2 := uy.getD i
    have hlB : (D ++ List.replicate (n2 - i + 1) 0).length = n2 + 1 := by simp; omega
    have hb := eb
    have hsz := (hE1.trans hE2).size
    rcases Nat.lt_or_ge i n2 with hin | hin
    · repeat' (first | refine TL.ev (ev_simple rfl) rfl ?_ | (refine TL.cmpG rfl rfl rfl rfl (fun hc => ?_) (fun hc => ?_) <;> try (exfalso; omega)) | refine TL.ev (ev_arN rfl rfl rfl (by omega)) rfl ?_ | (refine TL.callP rfl rfl (at_ok _ _ _ _ _ _ e1 (by omega)) (fun q1 => ?_)) | (refine TL.callP rfl rfl (at_ok _ _ _ _ _ _ e2 (by omega)) (fun q2 => ?_)) | (refine TL.ev (ev_indexN rfl rfl (by omega) (Or.inr rfl)) rfl ?_) | (refine TL.storeN rfl rfl hB4 (by rw [hlB]; omega) (fun w5 hB5 hU => ?_)) | refine T.seq ?_ | refine T.region ?_ | refine TL.nil ?_ | refine T.block ?_ | refine T.cond_t rfl ?_ | refine T.skip ?_ | refine G.next ?_ | refine G.blockN ?_)
      have e3 : n2 - i + 1 = (n2 - (i + 1) + 1) + 1 := by omega
      rw [e3, ← hD, N16.set_zeros, hD] at hB5
      have hlt : (X.getD i 0 + Y.getD i 0 + cy) % 65536 < 65536 := Nat.mod_lt _ (by omega)
      refine G.again (i + 1, D ++ [(X.getD i 0 + Y.getD i 0 + cy) % 65536], (X.getD i 0 + Y.getD i 0 + cy) / 65536) (by repeat (first | exact Sub.nil _ | refine Sub.cons rfl ?_ | refine Sub.cons' rfl (int_congr (by omega)) ?_)) ⟨by dsimp only; omega, by simp [hD], hDu.append (N16.U64.one hlt), by dsimp only; omega, ((hE4.drewN _).drewN _).upd hU (by omega), ⟨hB5, trivial⟩, ?_⟩ (by dsimp only; omega)
      dsimp only
      rw [N16.val_snoc, N16.val_take_succ, N16.val_take_succ, hD, Nat.pow_succ]
      exact N16.add_step hv (by omega)
    · obtain rfl : i = n2 := by omega
      have e4 : X.take i = X := List.take_of_length_le (by omega)
      have e5 : Y.take i = Y := List.take_of_length_le (by omega)
      rw [e4, e5] at hv
      have e3 : i - i + 1 = 0 + 1 := by omega
      have e6 := N16.set_zeros D 0 cy
      have u4 : N16.U64 (D ++ [cy]) := hDu.append (N16.U64.one (by omega))
      have l4 : (D ++ [cy]).length = i + 1 := by simp [hD]
      have v4 : N16.val (D ++ [cy]) = val l + val l' := by rw [N16.val_snoc, hD, hv, vx, vy]
      repeat' (first | refine TL.ev (ev_simple rfl) rfl ?_ | (refine TL.call rfl rfl ?_; first | (refine (join_ok _ _ _ _ _ _ hS5 u4 (by omega)).mono ?_; rintro _ w6 ⟨A6, n6, c6, rfl, hO6, hE6, hK6⟩; refine Back.mk ?_; rw [v4] at hO6)) | (refine TL.cmpG rfl rfl rfl rfl (fun hc => ?_) (fun hc => ?_) <;> try (exfalso; omega)) | (refine TL.ev (ev_indexN rfl rfl (by omega) (Or.inr rfl)) rfl ?_) | (refine TL.storeN rfl rfl hB4 (by rw [hlB]; omega) (fun w5 hB5 hU => ?_); rw [e3] at hB5; rw [hD] at e6; rw [e6, List.replicate_zero, List.append_nil] at hB5; have hS5 := hB5.slN l4 (Nat.le_refl _) hB5.lt) | refine T.seq ?_ | refine T.region ?_ | refine TL.nil ?_ | refine T.cond_f rfl ?_ | refine T.exit ?_ | refine T.ret ?_ | refine G.next ?_ | refine G.blockE ?_ | refine G.thenE ?_)
      exact G.ret1 rfl rfl (RetN.mk (hO6.mono (by have := hW4.size; have := hU.size; omega)) ((hW4.upd hU (by omega)).trans hE6) (by omega))
  · generalize N16.dig (val l) = X at *
    generalize N16.dig (val l') = Y at *
    have hE13 := (hE1.trans hE2).trans hE3
    refine T.loop (α := Nat × List Nat × Nat) (fun x => [(5, .slice A1 n1 c1), (6, .slice A2 n2 c2), (7, .int .i64 (n1 : Int)), (8, .slice (some ⟨b3, 0, none⟩) (n1 + 1) (n1 + 1)), (9, .int .i64 (x.2.2 : Int)), (10, .int .i64 (x.1 : Int))])
      (fun x w' => x.1 ≤ n1 ∧ x.2.1.length = x.1 ∧ N16.U64 x.2.1 ∧ x.2.2 ≤ 1 ∧ Ext w2 w' ∧ (Bk n64v w'.heap b3 3 (x.2.1 ++ List.replicate (n1 - x.1 + 1) 0)  ∧ True) ∧ N16.val x.2.1 + 65536 ^ x.1 * x.2.2 = N16.val (X.take x.1) + N16.val (Y.take x.1))
      (fun x => n1 - x.1) (0, [], 0) (by repeat (first | exact Sub.nil _ | refine Sub.cons rfl ?_ | refine Sub.cons' rfl (int_congr (by omega)) ?_)) ⟨Nat.zero_le _, rfl, N16.U64.nil, Nat.zero_le _, hE3, ⟨by simpa using hB3, trivial⟩, by simp [N16.val]⟩ ?_
    rintro ⟨i, D, cy⟩ w4 ⟨hi, hD, hDu, hcy, hE4, ⟨hB4, _⟩, hv⟩
    dsimp only at hi hD hDu hcy hB4 hv ⊢
    have e1 := g1.ext hE4
    have e2 := g2.ext hE4
    have hW4 := (hE1.trans hE2).trans hE4
    have x1 := ux.getD i
    have x2 := uy.getD i
    have hlB : (D ++ List.replicate (n1 - i + 1) 0).length = n1 + 1 := by simp; omega
    have hb := eb
    have hsz := (hE1.trans hE2).size
    rcases Nat.lt_or_ge i n1 with hin | hin
    · repeat' (first | refine TL.ev (ev_simple rfl) rfl ?_ | (refine TL.cmpG rfl rfl rfl rfl (fun hc => ?_) (fun hc => ?_) <;> try (exfalso; omega)) | refine TL.ev (ev_arN rfl rfl rfl (by omega)) rfl ?_ | (refine TL.callP rfl rfl (at_ok _ _ _ _ _ _ e1 (by omega)) (fun q1 => ?_)) | (refine TL.callP rfl rfl (at_ok _ _ _ _ _ _ e2 (by omega)) (fun q2 => ?_)) | (refine TL.ev (ev_indexN rfl rfl (by omega) (Or.inr rfl)) rfl ?_) | (refine TL.storeN rfl rfl hB4 (by rw [hlB]; omega) (fun w5 hB5 hU => ?_)) | refine T.seq ?_ | refine T.region ?_ | refine TL.nil ?_ | refine T.block ?_ | refine T.cond_t rfl ?_ | refine T.skip ?_ | refine G.next ?_ | refine G.blockN ?_)
      have e3 : n1 - i + 1 = (n1 - (i + 1) + 1) + 1 := by omega
      rw [e3, ← hD, N16.set_zeros, hD] at hB5
      have hlt : (X.getD i 0 + Y.getD i 0 + cy) % 65536 < 65536 := Nat.mod_lt _ (by omega)
      refine G.again (i + 1, D ++ [(X.getD i 0 + Y.getD i 0 + cy) % 65536], (X.getD i 0 + Y.getD i 0 + cy) / 65536) (by repeat (first | exact Sub.nil _ | refine Sub.cons rfl ?_ | refine Sub.cons' rfl (int_congr (by omega)) ?_)) ⟨by dsimp only; omega, by simp [hD], hDu.append (N16.U64.one hlt), by dsimp only; omega, ((hE4.drewN _).drewN _).upd hU (by omega), ⟨hB5, trivial⟩, ?_⟩ (by dsimp only; omega)
      dsimp only
      rw [N16.val_snoc, N16.val_take_succ, N16.val_take_succ, hD, Nat.pow_succ]
      exact N16.add_step hv (by omega)
    · obtain rfl : i = n1 := by omega
      have e4 : X.take i = X := List.take_of_length_le (by omega)
      have e5 : Y.take i = Y := List.take_of_length_le (by omega)
      rw [e4, e5] at hv
      have e3 : i - i + 1 = 0 + 1 := by omega
      have e6 := N16.set_zeros D 0 cy
      have u4 : N16.U64 (D ++ [cy]) := hDu.append (N16.U64.one (by omega))
      have l4 : (D ++ [cy]).length = i + 1 := by simp [hD]
      have v4 : N16.val (D ++ [cy]) = val l + val l' := by rw [N16.val_snoc, hD, hv, vx, vy]
      repeat' (first | refine TL.ev (ev_simple rfl) rfl ?_ | (refine TL.call rfl rfl ?_; first | (refine (join_ok _ _ _ _ _ _ hS5 u4 (by omega)).mono ?_; rintro _ w6 ⟨A6, n6, c6, rfl, hO6, hE6, hK6⟩; refine Back.mk ?_; rw [v4] at hO6)) | (refine TL.cmpG rfl rfl rfl rfl (fun hc => ?_) (fun hc => ?_) <;> try (exfalso; omega)) | (refine TL.ev (ev_indexN rfl rfl (by omega) (Or.inr rfl)) rfl ?_) | (refine TL.storeN rfl rfl hB4 (by rw [hlB]; omega) (fun w5 hB5 hU => ?_); rw [e3] at hB5; rw [hD] at e6; rw [e6, List.replicate_zero, List.append_nil] at hB5; have hS5 := hB5.slN l4 (Nat.le_refl _) hB5.lt) | refine T.seq ?_ | refine T.region ?_ | refine TL.nil ?_ | refine T.cond_f rfl ?_ | refine T.exit ?_ | refine T.ret ?_ | refine G.next ?_ | refine G.blockE ?_ | refine G.thenE ?_)
      exact G.ret1 rfl rfl (RetN.mk (hO6.mono (by have := hW4.size; have := hU.size; omega)) ((hW4.upd hU (by omega)).trans hE6) (by omega))
end Go.Proofs.YtdhmhjbmkimplaaGreat

namespace Go.Proofs.YtdhmhjbmkimplaaGreat
open Go Go.Eng Go.Proofs Go.NatM Go.RowKit

theorem cmp3_nneg {x y : Nat} (h : y ≤ x) : 0 ≤ cmp3 x y := by unfold cmp3; rw [if_neg (by omega)]; split <;> omega
theorem rorder_eq (H : Array Obj) (B B' : Nat) (A A' : Option Addr) (n c n' c' m m' : Nat) (hs : Sl n64v H B A n c (N16.dig m)) (hs' : Sl n64v H B' A' n' c' (N16.dig m')) (hn : n ≤ 35184372088832) (hn' : n' ≤ 35184372088832) {q : Int} (hq : cmp3 m m' = q) :
    Pure Tryz.prog 147 #[.slice A n c, .slice A' n' c'] H (.int .i64 q) := by rw [← hq]; exact rorder_ok H B B' A A' n c n' c' m m' hs hs' hn hn'
set_option maxHeartbeats 4000000 in
theorem rsub_ok (w : World) (B B' : Nat) (A A' : Option Addr) (n c n' c' : Nat) (l l' : List Nat) (hs : Sl u64v w.heap B A n c l) (hs' : Sl u64v w.heap B' A' n' c' l') (hu : U64 l) (hu' : U64 l') (hn : n ≤ 1048576000) (hn' : n' ≤ 1048576000) (hge : val l' ≤ val l) :
    Cl Tryz.prog 140 #[.slice A n c, .slice A' n' c'] w (RetNE w (dig (val l - val l')) (n + 1) 0) := by
  obtain ⟨q, hq, hq0⟩ : ∃ q, cmp3 (val l) (val l') = q ∧ 0 ≤ q := ⟨_, rfl, cmp3_nneg hge⟩
  refine enter Tryz.func140 rfl rfl rfl ?_
  repeat' (first | refine TL.ev (ev_simple rfl) rfl ?_ | (refine TL.call rfl rfl ?_; first | (refine (split_ok _ _ _ _ _ _ hs hu (by omega)).mono ?_; rintro _ w1 ⟨A1, n1, c1, rfl, hO1, hE1, hK1⟩; refine Back.mk ?_; have hs2' := hs'.ext hE1) | (refine (split_ok _ _ _ _ _ _ hs2' hu' (by omega)).mono ?_; rintro _ w2 ⟨A2, n2, c2, rfl, hO2, hE2, hK2⟩; refine Back.mk ?_; have g1 := (hO1.ext hE2).sl (Nat.le_refl _); have g2 := hO2.sl (Nat.le_refl _); have hl1 := g1.len; have hl2 := g2.len; have ux := N16.U64_dig (val l); have uy := N16.U64_dig (val l'); have vx := N16.val_dig (val l); have vy := N16.val_dig (val l')) | (refine (rorder_eq _ _ _ _ _ _ _ _ _ _ _ g1 g2 (by omega) (by omega) hq).cl.mono ?_; rintro _ _ ⟨rfl, q1, rfl⟩; refine Back.mk ?_)) | refine TL.ev (ev_len rfl) rfl ?_ | (refine TL.cmpG rfl rfl rfl rfl (fun hc => ?_) (fun hc => ?_) <;> try (exfalso; omega)) | (refine TL.makeN rfl rfl rfl (by omega) (by omega) (fun w3 b3 eb hB3 hE3 hz => ?_)) | refine T.seq ?_ | refine T.region ?_ | refine TL.nil ?_ | refine T.block ?_ | refine T.cond_f rfl ?_ | refine T.skip ?_ | refine G.next ?_)
  have hlen2 : n2 ≤ n1 := by
    rcases Nat.lt_or_ge n1 n2 with h | h
    · have h1 := N16.lt_of_sz_lt (l := N16.dig (val l)) (r := N16.dig (val l')) ux (by rw [N16.sz_dig, N16.sz_dig]; omega)
      rw [vx, vy] at h1; omega
    · exact h
  generalize N16.dig (val l) = X at *
  generalize N16.dig (val l') = Y at *
  simp only [World.heap_drewN] at eb hz
  have hE23 : Ext w2 w3 := (ext_drewN _ _).trans hE3
  refine T.loop (α := Nat × List Nat × Nat) (fun x => [(6, .slice A1 n1 c1), (7, .slice A2 n2 c2), (8, .slice (some ⟨b3, 0, none⟩) n1 n1), (9, .int .i64 (x.2.2 : Int)), (10, .int .i64 (x.1 : Int))])
    (fun x w' => x.1 ≤ n1 ∧ x.2.1.length = x.1 ∧ N16.U64 x.2.1 ∧ x.2.2 ≤ 1 ∧ Ext w2 w' ∧ Bk n64v w'.heap b3 3 (x.2.1 ++ List.replicate (n1 - x.1) 0) ∧ N16.val x.2.1 + N16.val (Y.take x.1) = N16.val (X.take x.1) + 65536 ^ x.1 * x.2.2)
    (fun x => n1 - x.1) (0, [], 0) (by repeat (first | exact Sub.nil _ | refine Sub.cons rfl ?_ | refine Sub.cons' rfl (int_congr (by omega)) ?_)) ⟨Nat.zero_le _, rfl, N16.U64.nil, Nat.zero_le _, hE23, by simpa using hB3, by simp [N16.val]⟩ ?_
  rintro ⟨i, D, cy⟩ w4 ⟨hi, hD, hDu, hcy, hE4, hB4, hv⟩
  dsimp only at hi hD hDu hcy hE4 hB4 hv ⊢
  have e1 := g1.ext hE4
  have e2 := g2.ext hE4
  have hW4 := (hE1.trans hE2).trans hE4
  have x1 := ux.getD i
  have x2 := uy.getD i
  have hlB : (D ++ List.replicate (n1 - i) 0).length = n1 := by simp; omega
  rcases Nat.lt_or_ge i n1 with hin | hin
  · have e3 : n1 - i = (n1 - (i + 1)) + 1 := by omega
    rcases Nat.lt_or_ge (X.getD i 0) (Y.getD i 0 + cy) with hb | hb
    · repeat' (first | refine TL.ev (ev_simple rfl) rfl ?_ | refine TL.ev (ev_len rfl) rfl ?_ | (refine TL.cmpG rfl rfl rfl rfl (fun hc => ?_) (fun hc => ?_) <;> try (exfalso; omega)) | refine TL.ev (ev_arN rfl rfl rfl (by omega)) rfl ?_ | refine TL.ev (ev_arI rfl rfl rfl (by omega)) rfl ?_ | refine TL.ev (ev_indexN rfl rfl (by omega) (by first | exact Or.inr rfl | exact Sl.some (by assumption))) rfl ?_ | refine TL.ev (ev_loadN rfl (by assumption) (by omega)) rfl ?_ | (refine TL.callPQ rfl rfl (at_ok _ _ _ _ _ _ (by exact e2) (by omega)) ?_) | (refine TL.storeN (u := X.getD i 0 + 65536 - Y.getD i 0 - cy) (eu := ⟨by omega⟩) rfl rfl hB4 (by rw [hlB]; omega) (fun w5 hB5 hU => ?_)) | refine T.seq ?_ | refine T.region ?_ | refine TL.nil ?_ | refine T.block ?_ | refine T.cond_t rfl ?_ | refine T.skip ?_ | refine G.next ?_ | refine G.blockN ?_ | refine T.regionQ mixed (by kernel_rfl) ?_ | refine TL.nilQ (fun _ => ?_))
      rw [e3, ← hD, N16.set_zeros, hD] at hB5
      refine G.again (i + 1, D ++ [X.getD i 0 + 65536 - Y.getD i 0 - cy], 1) (by repeat (first | exact Sub.nil _ | refine Sub.cons rfl ?_ | refine Sub.cons' rfl (int_congr (by omega)) ?_)) ⟨by dsimp only; omega, by simp [hD], hDu.append (N16.U64.one (by omega)), by dsimp only; omega, (hE4.drewN _).upd hU (by omega), hB5, ?_⟩ (by dsimp only; omega)
      dsimp only
      rw [N16.val_snoc, N16.val_take_succ, N16.val_take_succ, hD, Nat.pow_succ]
      exact N16.sub_step hv (by omega)
    · repeat' (first | refine TL.ev (ev_simple rfl) rfl ?_ | refine TL.ev (ev_len rfl) rfl ?_ | (refine TL.cmpG rfl rfl rfl rfl (fun hc => ?_) (fun hc => ?_) <;> try (exfalso; omega)) | refine TL.ev (ev_arN rfl rfl rfl (by omega)) rfl ?_ | refine TL.ev (ev_indexN rfl rfl (by omega) (by first | exact Or.inr rfl | exact Sl.some (by assumption))) rfl ?_ | refine TL.ev (ev_loadN rfl (by assumption) (by omega)) rfl ?_ | (refine TL.callPQ rfl rfl (at_ok _ _ _ _ _ _ (by exact e2) (by omega)) ?_) | (refine TL.storeN rfl rfl hB4 (by rw [hlB]; omega) (fun w5 hB5 hU => ?_)) | refine T.seq ?_ | refine T.region ?_ | refine TL.nil ?_ | refine T.block ?_ | refine T.cond_t rfl ?_ | refine T.cond_f rfl ?_ | refine T.skip ?_ | refine G.next ?_ | refine G.blockN ?_ | refine T.regionQ mixed (by kernel_rfl) ?_ | refine TL.nilQ (fun _ => ?_))
      rw [e3, ← hD, N16.set_zeros, hD] at hB5
      refine G.again (i + 1, D ++ [X.getD i 0 - Y.getD i 0 - cy], 0) (by repeat (first | exact Sub.nil _ | refine Sub.cons rfl ?_ | refine Sub.cons' rfl (int_congr (by omega)) ?_)) ⟨by dsimp only; omega, by simp [hD], hDu.append (N16.U64.one (by omega)), by dsimp only; omega, (hE4.drewN _).upd hU (by omega), hB5, ?_⟩ (by dsimp only; omega)
      dsimp only
      rw [N16.val_snoc, N16.val_take_succ, N16.val_take_succ, hD, Nat.pow_succ]
      exact N16.sub_step hv (by omega)
  · obtain rfl : i = n1 := by omega
    have e4 : X.take i = X := List.take_of_length_le (by omega)
    have e5 : Y.take i = Y := List.take_of_length_le (by omega)
    rw [e4, e5] at hv
    rw [Nat.sub_self, List.replicate_zero, List.append_nil] at hB4
    have hlt := N16.val_lt hDu
    rw [hD] at hlt
    have hc0 : cy = 0 := by
      rcases Nat.eq_zero_or_pos cy with h | h
      · exact h
      · obtain rfl : cy = 1 := by omega
        omega
    subst hc0
    have hS5 := hB4.slN hD (Nat.le_refl _) hB4.lt
    have hval : N16.val D = val l - val l' := by omega
    repeat' (first | refine TL.ev (ev_simple rfl) rfl ?_ | (refine TL.call rfl rfl ?_; first | (refine (join_ok _ _ _ _ _ _ hS5 hDu (by omega)).mono ?_; rintro _ w6 ⟨A6, n6, c6, rfl, hO6, hE6, hK6⟩; refine Back.mk ?_; rw [hval] at hO6)) | refine TL.ev (ev_len rfl) rfl ?_ | (refine TL.cmpG rfl rfl rfl rfl (fun hc => ?_) (fun hc => ?_) <;> try (exfalso; omega)) | refine T.seq ?_ | refine T.region ?_ | refine TL.nil ?_ | refine T.cond_f rfl ?_ | refine T.exit ?_ | refine T.ret ?_ | refine G.next ?_ | refine G.blockE ?_ | refine G.thenE ?_)
    exact G.ret2 rfl rfl rfl (RetNE.mk (hO6.mono hW4.size) (hW4.trans hE6) (by omega))

end Go.Proofs.YtdhmhjbmkimplaaGreat

namespace Go.Proofs.YtdhmhjbmkimplaaGreat
open Go Go.Eng Go.Proofs Go.NatM Go.RowKit

end Go.Proofs.YtdhmhjbmkimplaaGreat

namespace Go.Proofs.YtdhmhjbmkimplaaGreat
open Go Go.Eng Go.Proofs Go.NatM

end Go.Proofs.YtdhmhjbmkimplaaGreat

namespace Go.Proofs.YtdhmhjbmkimplaaGreat
open Go Go.Eng Go.Proofs Go.NatM

end Go.Proofs.YtdhmhjbmkimplaaGreat

namespace Go.Proofs.YtdhmhjbmkimplaaGreat
open Go Go.Eng Go.Proofs Go.NatM

/-- the words of each -/
def LS (H : Array Obj) (B : Nat) (L : List (SA Nat)) : Prop := ∀ x ∈ L, Sl u64v H B x.A x.n x.c x.l ∧ U64 x.l
theorem LS.ext {w w' : World} {B : Nat} {L : List (SA Nat)} (hb : Ext w w') (h : LS w.heap B L) : LS w'.heap B L := fun x hx => ⟨(h x hx).1.ext hb, (h x hx).2⟩
theorem LS.take {H : Array Obj} {B : Nat} {L : List (SA Nat)} (h : LS H B L) (k : Nat) : LS H B (L.take k) := fun x hx => h x (List.mem_of_mem_take hx)
theorem LS.drop {H : Array Obj} {B : Nat} {L : List (SA Nat)} (h : LS H B L) (k : Nat) : LS H B (L.drop k) := fun x hx => h x (List.mem_of_mem_drop hx)
end Go.Proofs.YtdhmhjbmkimplaaGreat

namespace Go.Proofs.YtdhmhjbmkimplaaGreat
open Go Go.Eng Go.Proofs Go.NatM

/-- the answer of a law -/
def Yes (w : World) (e : Ending) (w' : World) : Prop := e = .returned (.bool true) ∧ Ext w w'
theorem Yes.mk {w w' : World} (h : Ext w w') : Yes w (.returned (.bool true)) w' := ⟨rfl, h⟩

end Go.Proofs.YtdhmhjbmkimplaaGreat

namespace Go.Proofs.YtdhmhjbmkimplaaGreat
open Go Go.Eng Go.Proofs Go.NatM

end Go.Proofs.YtdhmhjbmkimplaaGreat

namespace Go.Proofs.YtdhmhjbmkimplaaGreat
open Go Go.Eng Go.Proofs Go.NatM

end Go.Proofs.YtdhmhjbmkimplaaGreat

namespace Go.Proofs.YtdhmhjbmkimplaaGreat
open Go Go.Eng Go.Proofs Go.NatM

end Go.Proofs.YtdhmhjbmkimplaaGreat

namespace Go.Proofs.YtdhmhjbmkimplaaGreat
open Go Go.Eng Go.Proofs Go.NatM Go.RowKit

/-- slices of their own, of two types, lie in two blocks -/
theorem ow_grown {α β : Type} {f : α → Value} {g : β → Value} {w w' : World} {lo lo' n c n' c' : Nat} {t t' : TypeId} {A A' : Option Addr} {l : List α} {l' : List β}
    (h : Ow f w.heap lo t A n c l) (h' : Ow g w.heap lo' t' A' n' c' l') (hne : t ≠ t') (hg : w.grownBy w' (Value.slice A' n' c').ownBlock) : Ow f w'.heap lo t A n c l := by
  unfold Ow at h h' ⊢
  refine ⟨h.1, ?_⟩
  rcases h.2 with ⟨e, r⟩ | ⟨b, cur, e, hlo, hb, r⟩
  · exact .inl ⟨e, r⟩
  · refine .inr ⟨b, cur, e, hlo, ?_, r⟩
    have hlt := (Array.getElem?_eq_some_iff.1 hb).1
    rw [hg.block b hlt ?_, hb]
    rcases h'.2 with ⟨e', _⟩ | ⟨b', cur', e', _, hb', _⟩
    · subst e'; simp [Value.ownBlock]
    · subst e'
      intro e2
      simp [Value.ownBlock] at e2
      subst e2
      rw [hb] at hb'
      injection hb' with hb'
      injection hb' with _ ht
      exact hne ht
/-- lists of their own -/
def LO (H : Array Obj) (lo : Nat) (L : List (SA Nat)) : Prop := ∀ x ∈ L, Ow u64v H lo 101 x.A x.n x.c x.l ∧ U64 x.l
theorem LO.ext {w w' : World} {lo : Nat} {L : List (SA Nat)} (hb : Ext w w') (h : LO w.heap lo L) : LO w'.heap lo L := fun x hx => ⟨(h x hx).1.ext hb, (h x hx).2⟩
theorem LO.grown {β : Type} {g : β → Value} {w w' : World} {lo lo' n' c' : Nat} {t' : TypeId} {A' : Option Addr} {l' : List β} {L : List (SA Nat)} (h : LO w.heap lo L) (h' : Ow g w.heap lo' t' A' n' c' l') (hne : 101 ≠ t') (hg : w.grownBy w' (Value.slice A' n' c').ownBlock) : LO w'.heap lo L :=
  fun x hx => ⟨ow_grown (h x hx).1 h' hne hg, (h x hx).2⟩
end Go.Proofs.YtdhmhjbmkimplaaGreat

namespace Go.Proofs.YtdhmhjbmkimplaaGreat
open Go Go.Eng Go.Proofs Go.NatM Go.RowKit

set_option maxHeartbeats 8000000 in
theorem xmul_ok (w : World) (B B' : Nat) (A A' : Option Addr) (n c n' c' : Nat) (l l' : List Nat) (hs : Sl u64v w.heap B A n c l) (hs' : Sl u64v w.heap B' A' n' c' l') (hu : U64 l) (hu' : U64 l') (hn : n ≤ 536870912) (hn' : n' ≤ 536870912) :
    Cl Tryz.prog 138 #[.slice A n c, .slice A' n' c'] w (RetN w (dig (val l * val l')) (n + n')) := by
  refine enter Tryz.func138 rfl rfl rfl ?_
  repeat' (first | refine TL.ev (ev_simple rfl) rfl ?_ | (refine TL.call rfl rfl ?_; first | (refine (rdig_ok _ _ _ _ _ _ hs hu (by omega)).mono ?_; rintro _ w1 ⟨A1, n1, c1, rfl, hO1, hE1, hK1⟩; refine Back.mk ?_; have hs2' := hs'.ext hE1) | (refine (rdig_ok _ _ _ _ _ _ hs2' hu' (by omega)).mono ?_; rintro _ w2 ⟨A2, n2, c2, rfl, hO2, hE2, hK2⟩; refine Back.mk ?_; have g1 := (hO1.ext hE2).sl (Nat.le_refl _); have g2 := hO2.sl (Nat.le_refl _); have hl1 := g1.len; have hl2 := g2.len; have ux := N16.U64_dig (val l); have uy := N16.U64_dig (val l'); have vx := N16.val_dig (val l); have vy := N16.val_dig (val l'))) | refine TL.ev (ev_len rfl) rfl ?_ | refine TL.ev (ev_arN rfl rfl rfl (by omega)) rfl ?_ | (refine TL.makeN rfl rfl rfl (by omega) (by omega) (fun w3 b3 eb hB3 hE3 hz => ?_)) | refine T.seq ?_ | refine T.region ?_ | refine TL.nil ?_ | refine T.block ?_ | refine G.next ?_)
  rw [← vx, ← vy]
  generalize N16.dig (val l) = X at *
  generalize N16.dig (val l') = Y at *
  have hW := (hE1.trans hE2).trans hE3
  refine T.loop (α := Nat × List Nat) (fun x => [(5, .slice A1 n1 c1), (6, .slice A2 n2 c2), (7, .slice (some ⟨b3, 0, none⟩) (n1 + n2) (n1 + n2)), (8, .int .i64 (x.1 : Int))])
    (fun x w' => x.1 ≤ n1 ∧ x.2.length = n1 + n2 ∧ N16.U64 x.2 ∧ Ext w2 w' ∧ Bk n64v w'.heap b3 3 x.2 ∧ (∀ j, x.1 + n2 ≤ j → x.2.getD j 0 = 0) ∧ N16.val x.2 = N16.val (X.take x.1) * N16.val Y)
    (fun x => n1 - x.1) (0, List.replicate (n1 + n2) 0) (by repeat (first | exact Sub.nil _ | refine Sub.cons rfl ?_ | refine Sub.cons' rfl (int_congr (by omega)) ?_)) ⟨Nat.zero_le _, by simp, N16.U64.replicate _, hE3, hB3, fun j _ => by simp [List.getD, List.getElem?_replicate]; split <;> rfl, by simp [N16.val, N16.val_zeros]⟩ ?_
  rintro ⟨i, Z⟩ w4 ⟨hi, hZ, hZu, hE4, hB4, hzero, hv⟩
  dsimp only at hi hZ hZu hE4 hB4 hzero hv ⊢
  have e1 := g1.ext hE4
  have x1 := ux.getD i
  rcases Nat.lt_or_ge i n1 with hin | hin
  · repeat' (first | refine TL.ev (ev_simple rfl) rfl ?_ | refine TL.ev (ev_len rfl) rfl ?_ | (refine TL.cmpG rfl rfl rfl rfl (fun hc => ?_) (fun hc => ?_) <;> try (exfalso; omega)) | refine T.seq ?_ | refine T.region ?_ | refine TL.nil ?_ | refine T.block ?_ | refine T.cond_t rfl ?_ | refine T.skip ?_ | refine G.next ?_)
    refine T.loop (α := Nat × List Nat × Nat) (fun x => [(5, .slice A1 n1 c1), (6, .slice A2 n2 c2), (7, .slice (some ⟨b3, 0, none⟩) (n1 + n2) (n1 + n2)), (8, .int .i64 (i : Int)), (9, .int .i64 (x.2.2 : Int)), (10, .int .i64 (x.1 : Int))])
      (fun x w' => x.1 ≤ n2 ∧ x.2.1.length = n1 + n2 ∧ N16.U64 x.2.1 ∧ x.2.2 < 65536 ∧ Ext w2 w' ∧ Bk n64v w'.heap b3 3 x.2.1 ∧ (∀ j, i + n2 ≤ j → x.2.1.getD j 0 = 0) ∧ N16.val x.2.1 + 65536 ^ (i + x.1) * x.2.2 = N16.val Z + 65536 ^ i * (X.getD i 0 * N16.val (Y.take x.1)))
      (fun x => n2 - x.1) (0, Z, 0) (by repeat (first | exact Sub.nil _ | refine Sub.cons rfl ?_ | refine Sub.cons' rfl (int_congr (by omega)) ?_)) ⟨Nat.zero_le _, hZ, hZu, by dsimp only; omega, hE4, hB4, hzero, by simp [N16.val]⟩ ?_
    rintro ⟨j, V, cy⟩ w5 ⟨hj, hT, hTu, hcy, hE5, hB5, hzero5, hv5⟩
    dsimp only at hj hT hTu hcy hE5 hB5 hzero5 hv5 ⊢
    have k1 := g1.ext hE5
    have k2 := g2.ext hE5
    have x2 := uy.getD j
    have x3 := hTu.getD (i + j)
    have kT := hB5.slN (c := n1 + n2) hT (Nat.le_refl _) hB5.lt
    rcases Nat.lt_or_ge j n2 with hjn | hjn
    · have hbig : X.getD i 0 * Y.getD j 0 ≤ 65535 * 65535 := Nat.mul_le_mul (by omega) (by omega)
      repeat' (first | refine TL.ev (ev_simple rfl) rfl ?_ | refine TL.ev (ev_len rfl) rfl ?_ | (refine TL.cmpG rfl rfl rfl rfl (fun hc => ?_) (fun hc => ?_) <;> try (exfalso; omega)) | refine TL.ev (ev_arN rfl rfl rfl (by omega)) rfl ?_ | refine TL.ev (ev_indexN rfl rfl (by omega) (by first | exact Or.inr rfl | exact Sl.some (by assumption))) rfl ?_ | refine TL.ev (ev_loadN rfl (by assumption) (by omega)) rfl ?_ | (refine TL.storeN rfl rfl (by exact hB5) (by omega) (fun w6 hB6 hU => ?_)) | refine T.seq ?_ | refine T.region ?_ | refine TL.nil ?_ | refine T.block ?_ | refine T.cond_t rfl ?_ | refine T.skip ?_ | refine G.next ?_ | refine G.blockN ?_ | refine T.regionQ mixed (by kernel_rfl) ?_ | refine TL.nilQ (fun _ => ?_))
      have hset := N16.val_set V (i + j) ((V.getD (i + j) 0 + X.getD i 0 * Y.getD j 0 + cy) % 65536) (by omega)
      have e : (V.getD (i + j) 0 + X.getD i 0 * Y.getD j 0 + cy) % 65536 + 65536 * ((V.getD (i + j) 0 + X.getD i 0 * Y.getD j 0 + cy) / 65536) = X.getD i 0 * Y.getD j 0 + cy + V.getD (i + j) 0 := by
        rw [Nat.mod_add_div]; omega
      refine G.again (j + 1, _, _) (by repeat (first | exact Sub.nil _ | refine Sub.cons rfl ?_ | refine Sub.cons' rfl (int_congr (by omega)) ?_)) ⟨by dsimp only; omega, ?_, ?_, ?_, (hE5.drewN _).upd hU (by omega), hB6, ?_, ?_⟩ (by dsimp only; omega)
      · dsimp only; rw [List.length_set]; exact hT
      · exact hTu.set _ _ (Nat.mod_lt _ (by omega))
      · dsimp only; omega
      · intro q hq
        dsimp only
        rw [getD_set _ _ _ _ (by omega), if_neg (by omega)]
        exact hzero5 q hq
      · dsimp only
        rw [N16.val_take_succ, show i + (j + 1) = i + j + 1 by omega, Nat.pow_succ, Nat.pow_add, Nat.mul_assoc (65536 ^ i)]
        rw [Nat.pow_add] at hset hv5
        exact N16.rows_step hset hv5 e
    · obtain rfl : j = n2 := by omega
      repeat' (first | refine TL.ev (ev_simple rfl) rfl ?_ | refine TL.ev (ev_len rfl) rfl ?_ | (refine TL.cmpG rfl rfl rfl rfl (fun hc => ?_) (fun hc => ?_) <;> try (exfalso; omega)) | refine TL.ev (ev_arN rfl rfl rfl (by omega)) rfl ?_ | refine TL.ev (ev_indexN rfl rfl (by omega) (by first | exact Or.inr rfl | exact Sl.some (by assumption))) rfl ?_ | (refine TL.storeN rfl rfl hB5 (by omega) (fun w6 hB6 hU => ?_)) | refine T.seq ?_ | refine T.region ?_ | refine TL.nil ?_ | refine T.cond_f rfl ?_ | refine T.exit ?_ | refine G.next ?_ | refine G.blockN ?_ | refine G.blockE ?_ | refine G.thenE ?_)
      have hset := N16.val_set V (i + j) cy (by omega)
      rw [hzero5 (i + j) (by omega), Nat.mul_zero, Nat.add_zero] at hset
      have h2 : N16.val (Y.take j) = N16.val Y := by rw [List.take_of_length_le (by omega)]
      refine G.again (i + 1, _) (by repeat (first | exact Sub.nil _ | refine Sub.cons rfl ?_ | refine Sub.cons' rfl (int_congr (by omega)) ?_)) ⟨by dsimp only; omega, ?_, ?_, hE5.upd hU (by omega), hB6, ?_, ?_⟩ (by dsimp only; omega)
      · dsimp only; rw [List.length_set]; exact hT
      · exact hTu.set _ _ hcy
      · intro q hq
        dsimp only at hq ⊢
        rw [getD_set _ _ _ _ (by omega), if_neg (by omega)]
        exact hzero5 q (by omega)
      · dsimp only
        rw [hset, hv5, h2, hv, N16.val_take_succ, Nat.add_mul, Nat.mul_assoc]
  · obtain rfl : i = n1 := by omega
    have h2 : N16.val (X.take i) = N16.val X := by rw [List.take_of_length_le (by omega)]
    rw [h2] at hv
    have hS := hB4.slN (c := i + n2) hZ (Nat.le_refl _) hB4.lt
    repeat' (first | refine TL.ev (ev_simple rfl) rfl ?_ | (refine TL.call rfl rfl ?_; first | (refine (rwords_ok _ _ _ _ _ _ hS hZu (by omega)).mono ?_; rintro _ w6 ⟨A6, n6, c6, rfl, hO6, hE6, hK6⟩; refine Back.mk ?_; rw [hv] at hO6)) | refine TL.ev (ev_len rfl) rfl ?_ | (refine TL.cmpG rfl rfl rfl rfl (fun hc => ?_) (fun hc => ?_) <;> try (exfalso; omega)) | refine T.seq ?_ | refine T.region ?_ | refine TL.nil ?_ | refine T.cond_f rfl ?_ | refine T.exit ?_ | refine T.ret ?_ | refine G.next ?_ | refine G.blockE ?_ | refine G.thenE ?_)
    have hW4 := (hE1.trans hE2).trans hE4
    exact G.ret1 rfl rfl (RetN.mk (hO6.mono hW4.size) (hW4.trans hE6) (by omega))
end Go.Proofs.YtdhmhjbmkimplaaGreat

namespace Go.Proofs.YtdhmhjbmkimplaaGreat
open Go Go.Eng Go.Proofs Go.NatM Go.RowKit

theorem LI.nle {H : Array Obj} {z : Int} {x : IV} {k : Nat} (h : LI H z x) (hz : z.natAbs < 18446744073709551616 ^ k) : x.m.n ≤ k := by
  rw [← h.g.s.len, h.d]; exact dig_length_le hz
theorem GI.abs_lt {H : Array Obj} {x : IV} (g : GI H x) : (ival x).natAbs < 18446744073709551616 ^ x.m.n := by
  rw [ival_abs]
  have := val_lt g.u
  rwa [g.s.len] at this
theorem RetZ.tight {w w' : World} {z : Int} {K k : Nat} {e : Ending} (h : RetZ w z K e w') (hz : z.natAbs < 18446744073709551616 ^ k) : RetZ w z k e w' := by
  obtain ⟨x, e1, h1, h2, _⟩ := h
  exact ⟨x, e1, h1, h2, h1.nle hz⟩
theorem wpow_mono {a b : Nat} (h : a ≤ b) : 18446744073709551616 ^ a ≤ 18446744073709551616 ^ b := Nat.pow_le_pow_right (by decide) h
theorem add_lt {a b : Int} {m n : Nat} (ha : a.natAbs < 18446744073709551616 ^ m) (hb : b.natAbs < 18446744073709551616 ^ n) : (a + b).natAbs < 18446744073709551616 ^ (max m n + 1) := by
  have h1 := wpow_mono (Nat.le_max_left m n)
  have h2 := wpow_mono (Nat.le_max_right m n)
  have h3 := Int.natAbs_add_le a b
  rw [Nat.pow_succ]
  omega
theorem mul_lt {a b : Int} {m n : Nat} (ha : a.natAbs < 18446744073709551616 ^ m) (hb : b.natAbs < 18446744073709551616 ^ n) : (a * b).natAbs < 18446744073709551616 ^ (m + n) := by
  rw [Int.natAbs_mul, Nat.pow_add]
  have h1 : 0 < 18446744073709551616 ^ m := Nat.pow_pos (by decide)
  have h2 : 0 < 18446744073709551616 ^ n := Nat.pow_pos (by decide)
  exact Nat.mul_lt_mul_of_lt_of_le ha (Nat.le_of_lt hb) h2
theorem r5least_t (w : World) (x : IV) (g : GI w.heap x) (hn : x.m.n ≤ 1099511627776) : Cl Tryz.prog 90 #[.agg (ivc x).toArray] w (RetZ w (ival x) x.m.n) :=
  (r5least_ok w x g hn).mono fun _ _ h => h.tight g.abs_lt
theorem r5neg_ok (w : World) (x : IV) (g : GI w.heap x) (hn : x.m.n ≤ 1099511627776) : Cl Tryz.prog 56 #[.agg (ivc x).toArray] w (RetZ w (- ival x) x.m.n) := by
  refine Cl.mono (R := RetZ w (- ival x) (x.m.n + 1)) ?_ fun _ _ h => h.tight (by rw [Int.natAbs_neg]; exact g.abs_lt)
  have hs := g.s
  have hu := g.u
  obtain ⟨neg, ⟨A, n, c, l⟩⟩ := x
  have e : - ival ⟨neg, ⟨A, n, c, l⟩⟩ = sgn (!neg) (val l) := by unfold ival sgn; cases neg <;> simp
  rw [e]
  cases neg
  · refine enter Tryz.func56 rfl rfl rfl ?_
    have hF := Fr.refl w
    repeat' (first | (refine TL.isOp ?_; first | (refine TL.isCall ?_; refine TL.call rfl rfl ?_; first | (refine (made_ok _ _ _ _ _ _ (hs.ext hF.ext).size hu hn).mono ?_; rintro _ w1 ⟨y, rfl, hL, hE, hK⟩; replace hF := Fr.addLI (hF.exts hE) hL; clear hE; refine Back.mk ?_)) | (apply TL.ev; (case hd => rfl); (case h => (first | exact ev_simple rfl | (apply Ev.isLoad; first | exact ev_loadFr hF rfl (by refine ⟨?_, ?_⟩; (focus (repeat (first | exact InV.head | apply InV.tail))); rfl)) | exact ev_fieldAddr rfl))) | (refine TL.storeAFr hF rfl rfl rfl rfl (by refine ⟨?_, ?_⟩; (focus (repeat (first | apply SetV.head | apply SetV.tail))); rfl) rfl ?_; clear hF; intro ws hF) | (refine TL.allocFr hF (d := 2) rfl rfl ?_; clear hF; intro w2 b2 hF) | (refine TL.boxAFr hF (d := 1) (cs := [.bool false, .slice A n c]) rfl rfl ?_; clear hF; intro w1 b1 hF)) | (refine T.is ?_; first | refine T.seq ?_ | refine T.region ?_ | refine T.ret ?_) | (refine G.is ?_; first | refine G.next ?_) | refine TL.nil ?_)
    exact G.retC1 rfl rfl (held_agg (hF.var (by repeat (first | exact InV.head | apply InV.tail))) rfl) ⟨y, rfl, Fr.li hF (by repeat (first | exact memH | apply memT)), hF.ext, hK⟩
  · refine enter Tryz.func56 rfl rfl rfl ?_
    have hF := Fr.refl w
    repeat' (first | (refine TL.isOp ?_; first | (refine TL.isCall ?_; refine TL.call rfl rfl ?_; first | (refine (made_ok _ _ _ _ _ _ (hs.ext hF.ext).size hu hn).mono ?_; rintro _ w1 ⟨y, rfl, hL, hE, hK⟩; replace hF := Fr.addLI (hF.exts hE) hL; clear hE; refine Back.mk ?_)) | (apply TL.ev; (case hd => rfl); (case h => (first | exact ev_simple rfl | (apply Ev.isLoad; first | exact ev_loadFr hF rfl (by refine ⟨?_, ?_⟩; (focus (repeat (first | exact InV.head | apply InV.tail))); rfl)) | exact ev_fieldAddr rfl))) | (refine TL.storeAFr hF rfl rfl rfl rfl (by refine ⟨?_, ?_⟩; (focus (repeat (first | apply SetV.head | apply SetV.tail))); rfl) rfl ?_; clear hF; intro ws hF) | (refine TL.allocFr hF (d := 2) rfl rfl ?_; clear hF; intro w2 b2 hF) | (refine TL.boxAFr hF (d := 1) (cs := [.bool true, .slice A n c]) rfl rfl ?_; clear hF; intro w1 b1 hF)) | (refine T.is ?_; first | refine T.seq ?_ | refine T.region ?_ | refine T.ret ?_) | (refine G.is ?_; first | refine G.next ?_) | refine TL.nil ?_)
    exact G.retC1 rfl rfl (held_agg (hF.var (by repeat (first | exact InV.head | apply InV.tail))) rfl) ⟨y, rfl, Fr.li hF (by repeat (first | exact memH | apply memT)), hF.ext, hK⟩
theorem r5add_same (w : World) (x y : IV) (gx : GI w.heap x) (gy : GI w.heap y) (hx : x.m.n ≤ 1048576000) (hy : y.m.n ≤ 1048576000) (hxy : x.neg = y.neg) : Cl Tryz.prog 123 #[.agg (ivc x).toArray, .agg (ivc y).toArray] w (RetZ w (ival x + ival y) (max x.m.n y.m.n + 3)) := by
  have e : ival x + ival y = sgn x.neg (val x.m.l + val y.m.l) := by unfold ival sgn; rw [← hxy]; split <;> omega
  rw [e]
  refine enter Tryz.func123 rfl rfl rfl ?_
  have hF := Fr.refl w
  repeat' (first | (refine TL.isOp ?_; first | (refine TL.isCall ?_; refine TL.call rfl rfl ?_; first | (refine (radd_ok _ _ _ _ _ _ _ _ _ _ _ (gx.s.ext hF.ext) (gy.s.ext hF.ext) gx.u gy.u (by omega) (by omega)).mono ?_; rintro _ wl ⟨Al, nl, cl, rfl, hOl, hE, hKl⟩; have hSl := hOl.sl (Nat.le_refl _); replace hF := Fr.addSl (hF.exts hE) hSl; clear hOl hE; refine Back.mk ?_) | (refine (made_ok _ _ _ _ _ _ (Fr.sl hF (A := Al) (by repeat (first | exact memH | apply memT))) (U64_dig _) (by omega)).mono ?_; rintro _ w1 ⟨z, rfl, hL, hE, hK⟩; rw [val_dig] at hL; replace hF := Fr.addLI (hF.exts hE) hL; clear hE; refine Back.mk ?_)) | (apply TL.ev; (case hd => rfl); (case h => (first | exact ev_simple rfl | (apply Ev.isBin; first | exact ev_eqlB (r := true) rfl rfl (by rw [hxy]; exact beq_self_eq_true _)) | (apply Ev.isLoad; first | exact ev_loadFr hF rfl (by refine ⟨?_, ?_⟩; (focus (repeat (first | exact InV.head | apply InV.tail))); rfl)) | exact ev_fieldAddr rfl))) | (refine TL.storeAFr hF rfl rfl rfl rfl (by refine ⟨?_, ?_⟩; (focus (repeat (first | apply SetV.head | apply SetV.tail))); rfl) rfl ?_; clear hF; intro ws hF) | (refine TL.boxAFr hF (d := 2) (cs := ivc x) rfl rfl ?_; clear hF; intro w2 b2 hF) | (refine TL.boxAFr hF (d := 3) (cs := ivc y) rfl rfl ?_; clear hF; intro w3 b3 hF) | (refine TL.allocFr hF (d := 4) rfl rfl ?_; clear hF; intro w4 b4 hF)) | (refine T.is ?_; first | refine T.seq ?_ | refine T.region ?_ | refine T.cond_t rfl ?_ | refine T.ret ?_) | (refine G.is ?_; first | refine G.next ?_ | refine G.thenR ?_) | refine TL.nil ?_)
  exact G.retC1 rfl rfl (held_agg (hF.var (by repeat (first | exact InV.head | apply InV.tail))) rfl) ⟨z, rfl, Fr.li hF (by repeat (first | exact memH | apply memT)), hF.ext, by omega⟩
theorem r5add_lt (w : World) (x y : IV) (gx : GI w.heap x) (gy : GI w.heap y) (hx : x.m.n ≤ 1048576000) (hy : y.m.n ≤ 1048576000) (hxy : (x.neg == y.neg) = false) {q : Int} (hq : cmp3 (val x.m.l) (val y.m.l) = q) (hq0 : q < 0) (hle : val x.m.l ≤ val y.m.l) : Cl Tryz.prog 123 #[.agg (ivc x).toArray, .agg (ivc y).toArray] w (RetZ w (sgn y.neg (val y.m.l - val x.m.l)) (max x.m.n y.m.n + 3)) := by
  refine enter Tryz.func123 rfl rfl rfl ?_
  have hF := Fr.refl w
  have hcm := fun w1 (hE : Ext w w1) => rcmp_ok w1 _ _ _ _ _ _ _ _ _ _ (gx.s.ext hE) (gy.s.ext hE) gx.u gy.u (by omega) (by omega)
  rw [hq] at hcm
  repeat' (first | (refine TL.isOp ?_; first | (refine TL.isCall ?_; refine TL.call rfl rfl ?_; first | (refine (hcm _ hF.ext).mono ?_; rintro _ wl ⟨rfl, hE⟩; replace hF := hF.exts hE; clear hE; refine Back.mk ?_) | (refine (rsub_ok _ _ _ _ _ _ _ _ _ _ _ (gy.s.ext hF.ext) (gx.s.ext hF.ext) gy.u gx.u (by omega) (by omega) hle).mono ?_; rintro _ wl ⟨Al, nl, cl, rfl, hOl, hE, hKl⟩; have hSl := hOl.sl (Nat.le_refl _); replace hF := Fr.addSl (hF.exts hE) hSl; clear hOl hE; refine Back.mk ?_) | (refine (made_ok _ _ _ _ _ _ (Fr.sl hF (A := Al) (by repeat (first | exact memH | apply memT))) (U64_dig _) (by omega)).mono ?_; rintro _ w1 ⟨z, rfl, hL, hE, hK⟩; rw [val_dig] at hL; replace hF := Fr.addLI (hF.exts hE) hL; clear hE; refine Back.mk ?_)) | (refine TL.isBin ?_; refine TL.cmpG rfl rfl rfl rfl (fun hc => ?_) (fun hc => ?_) <;> (try (first | (exfalso; omega) | exact absurd rfl hc))) | (apply TL.ev; (case hd => rfl); (case h => (first | exact ev_simple rfl | (apply Ev.isBin; first | exact ev_eqlB (r := false) rfl rfl hxy) | (apply Ev.isLoad; first | exact ev_loadFr hF rfl (by refine ⟨?_, ?_⟩; (focus (repeat (first | exact InV.head | apply InV.tail))); rfl)) | exact ev_fieldAddr rfl))) | (refine TL.storeAFr hF rfl rfl rfl rfl (by refine ⟨?_, ?_⟩; (focus (repeat (first | apply SetV.head | apply SetV.tail))); rfl) rfl ?_; clear hF; intro ws hF) | (refine TL.boxAFr hF (d := 2) (cs := ivc x) rfl rfl ?_; clear hF; intro w2 b2 hF) | (refine TL.boxAFr hF (d := 3) (cs := ivc y) rfl rfl ?_; clear hF; intro w3 b3 hF) | (refine TL.allocFr hF (d := 4) rfl rfl ?_; clear hF; intro w4 b4 hF)) | (refine T.is ?_; first | refine T.seq ?_ | refine T.region ?_ | refine T.cond_f rfl ?_ | refine T.ret ?_ | refine T.skip ?_) | (refine G.is ?_; first | refine G.next ?_) | refine TL.nil ?_)
  exact G.retC1 rfl rfl (held_agg (hF.var (by repeat (first | exact InV.head | apply InV.tail))) rfl) ⟨z, rfl, Fr.li hF (by repeat (first | exact memH | apply memT)), hF.ext, by omega⟩
theorem r5add_ge (w : World) (x y : IV) (gx : GI w.heap x) (gy : GI w.heap y) (hx : x.m.n ≤ 1048576000) (hy : y.m.n ≤ 1048576000) (hxy : (x.neg == y.neg) = false) {q : Int} (hq : cmp3 (val x.m.l) (val y.m.l) = q) (hq0 : ¬ q < 0) (hle : val y.m.l ≤ val x.m.l) : Cl Tryz.prog 123 #[.agg (ivc x).toArray, .agg (ivc y).toArray] w (RetZ w (sgn x.neg (val x.m.l - val y.m.l)) (max x.m.n y.m.n + 3)) := by
  refine enter Tryz.func123 rfl rfl rfl ?_
  have hF := Fr.refl w
  have hcm := fun w1 (hE : Ext w w1) => rcmp_ok w1 _ _ _ _ _ _ _ _ _ _ (gx.s.ext hE) (gy.s.ext hE) gx.u gy.u (by omega) (by omega)
  rw [hq] at hcm
  repeat' (first | (refine TL.isOp ?_; first | (refine TL.isCall ?_; refine TL.call rfl rfl ?_; first | (refine (hcm _ hF.ext).mono ?_; rintro _ wl ⟨rfl, hE⟩; replace hF := hF.exts hE; clear hE; refine Back.mk ?_) | (refine (rsub_ok _ _ _ _ _ _ _ _ _ _ _ (gx.s.ext hF.ext) (gy.s.ext hF.ext) gx.u gy.u (by omega) (by omega) hle).mono ?_; rintro _ wl ⟨Al, nl, cl, rfl, hOl, hE, hKl⟩; have hSl := hOl.sl (Nat.le_refl _); replace hF := Fr.addSl (hF.exts hE) hSl; clear hOl hE; refine Back.mk ?_) | (refine (made_ok _ _ _ _ _ _ (Fr.sl hF (A := Al) (by repeat (first | exact memH | apply memT))) (U64_dig _) (by omega)).mono ?_; rintro _ w1 ⟨z, rfl, hL, hE, hK⟩; rw [val_dig] at hL; replace hF := Fr.addLI (hF.exts hE) hL; clear hE; refine Back.mk ?_)) | (refine TL.isBin ?_; refine TL.cmpG rfl rfl rfl rfl (fun hc => ?_) (fun hc => ?_) <;> (try (first | (exfalso; omega) | exact absurd rfl hc))) | (apply TL.ev; (case hd => rfl); (case h => (first | exact ev_simple rfl | (apply Ev.isBin; first | exact ev_eqlB (r := false) rfl rfl hxy) | (apply Ev.isLoad; first | exact ev_loadFr hF rfl (by refine ⟨?_, ?_⟩; (focus (repeat (first | exact InV.head | apply InV.tail))); rfl)) | exact ev_fieldAddr rfl))) | (refine TL.storeAFr hF rfl rfl rfl rfl (by refine ⟨?_, ?_⟩; (focus (repeat (first | apply SetV.head | apply SetV.tail))); rfl) rfl ?_; clear hF; intro ws hF) | (refine TL.boxAFr hF (d := 2) (cs := ivc x) rfl rfl ?_; clear hF; intro w2 b2 hF) | (refine TL.boxAFr hF (d := 3) (cs := ivc y) rfl rfl ?_; clear hF; intro w3 b3 hF) | (refine TL.allocFr hF (d := 4) rfl rfl ?_; clear hF; intro w4 b4 hF)) | (refine T.is ?_; first | refine T.seq ?_ | refine T.region ?_ | refine T.cond_t rfl ?_ | refine T.cond_f rfl ?_ | refine T.ret ?_ | refine T.skip ?_) | (refine G.is ?_; first | refine G.next ?_ | refine G.thenR ?_) | refine TL.nil ?_)
  exact G.retC1 rfl rfl (held_agg (hF.var (by repeat (first | exact InV.head | apply InV.tail))) rfl) ⟨z, rfl, Fr.li hF (by repeat (first | exact memH | apply memT)), hF.ext, by omega⟩
theorem r5add_ok (w : World) (x y : IV) (gx : GI w.heap x) (gy : GI w.heap y) (hx : x.m.n ≤ 1048576000) (hy : y.m.n ≤ 1048576000) : Cl Tryz.prog 123 #[.agg (ivc x).toArray, .agg (ivc y).toArray] w (RetZ w (ival x + ival y) (max x.m.n y.m.n + 1)) := by
  refine Cl.mono (R := RetZ w (ival x + ival y) (max x.m.n y.m.n + 3)) ?_ fun _ _ h => h.tight (add_lt gx.abs_lt gy.abs_lt)
  by_cases hxy : x.neg = y.neg
  · exact r5add_same w x y gx gy hx hy hxy
  · have hb : (x.neg == y.neg) = false := by simpa using hxy
    rcases Nat.lt_or_ge (val x.m.l) (val y.m.l) with h | h
    · have e : ival x + ival y = sgn y.neg (val y.m.l - val x.m.l) := by unfold ival sgn; cases hx1 : x.neg <;> cases hy1 : y.neg <;> simp_all <;> omega
      rw [e]
      exact r5add_lt w x y gx gy hx hy hb rfl (by rw [cmp3, if_pos h]; omega) (by omega)
    · have e : ival x + ival y = sgn x.neg (val x.m.l - val y.m.l) := by unfold ival sgn; cases hx1 : x.neg <;> cases hy1 : y.neg <;> simp_all <;> omega
      rw [e]
      exact r5add_ge w x y gx gy hx hy hb rfl (by rw [cmp3, if_neg (by omega)]; split <;> omega) h
theorem r5mul_ok (w : World) (x y : IV) (gx : GI w.heap x) (gy : GI w.heap y) (hx : x.m.n ≤ 536870912) (hy : y.m.n ≤ 536870912) : Cl Tryz.prog 122 #[.agg (ivc x).toArray, .agg (ivc y).toArray] w (RetZ w (ival x * ival y) (x.m.n + y.m.n)) := by
  refine Cl.mono (R := RetZ w (ival x * ival y) (x.m.n + y.m.n + 1)) ?_ fun _ _ h => h.tight (mul_lt gx.abs_lt gy.abs_lt)
  have e : ival x * ival y = sgn (x.neg != y.neg) (val x.m.l * val y.m.l) := by unfold ival; rw [← sgn_mul]
  rw [e]
  refine enter Tryz.func122 rfl rfl rfl ?_
  have hF := Fr.refl w
  repeat' (first | (refine TL.isOp ?_; first | (refine TL.isCall ?_; refine TL.call rfl rfl ?_; first | (refine (xmul_ok _ _ _ _ _ _ _ _ _ _ _ (gx.s.ext hF.ext) (gy.s.ext hF.ext) gx.u gy.u (by omega) (by omega)).mono ?_; rintro _ wl ⟨Al, nl, cl, rfl, hOl, hE, hKl⟩; have hSl := hOl.sl (Nat.le_refl _); replace hF := Fr.addSl (hF.exts hE) hSl; clear hOl hE; refine Back.mk ?_) | (refine (made_ok _ _ _ _ _ _ (Fr.sl hF (A := Al) (by repeat (first | exact memH | apply memT))) (U64_dig _) (by omega)).mono ?_; rintro _ w1 ⟨z, rfl, hL, hE, hK⟩; rw [val_dig] at hL; replace hF := Fr.addLI (hF.exts hE) hL; clear hE; refine Back.mk ?_)) | (apply TL.ev; (case hd => rfl); (case h => (first | exact ev_simple rfl | (apply Ev.isBin; first | exact ev_neqB (r := x.neg != y.neg) rfl rfl rfl) | (apply Ev.isLoad; first | exact ev_loadFr hF rfl (by refine ⟨?_, ?_⟩; (focus (repeat (first | exact InV.head | apply InV.tail))); rfl)) | exact ev_fieldAddr rfl))) | (refine TL.storeAFr hF rfl rfl rfl rfl (by refine ⟨?_, ?_⟩; (focus (repeat (first | apply SetV.head | apply SetV.tail))); rfl) rfl ?_; clear hF; intro ws hF) | (refine TL.boxAFr hF (d := 2) (cs := ivc x) rfl rfl ?_; clear hF; intro w2 b2 hF) | (refine TL.boxAFr hF (d := 3) (cs := ivc y) rfl rfl ?_; clear hF; intro w3 b3 hF) | (refine TL.allocFr hF (d := 4) rfl rfl ?_; clear hF; intro w4 b4 hF)) | (refine T.is ?_; first | refine T.seq ?_ | refine T.region ?_ | refine T.ret ?_) | (refine G.is ?_; first | refine G.next ?_) | refine TL.nil ?_)
  exact G.retC1 rfl rfl (held_agg (hF.var (by repeat (first | exact InV.head | apply InV.tail))) rfl) ⟨z, rfl, Fr.li hF (by repeat (first | exact memH | apply memT)), hF.ext, by omega⟩
theorem r5mulAdd_ok (w : World) (x y z : IV) (gx : GI w.heap x) (gy : GI w.heap y) (gz : GI w.heap z) (hx : x.m.n ≤ 523000000) (hy : y.m.n ≤ 523000000) (hz : z.m.n ≤ 1048576000) : Cl Tryz.prog 89 #[.agg (ivc x).toArray, .agg (ivc y).toArray, .agg (ivc z).toArray] w (RetZ w (ival x * ival y + ival z) (max (x.m.n + y.m.n) z.m.n + 1)) := by
  refine enter Tryz.func89 rfl rfl rfl ?_
  have hF := Fr.refl w
  repeat' (first | (refine TL.isOp ?_; first | (refine TL.isCall ?_; refine TL.call rfl rfl ?_; first | (refine (r5mul_ok _ x y (gx.ext hF.ext) (gy.ext hF.ext) (by omega) (by omega)).mono ?_; rintro _ wm ⟨p, rfl, hLp, hE, hKp⟩; replace hF := Fr.addLI (hF.exts hE) hLp; clear hE; refine Back.mk ?_) | (refine (r5add_ok _ p z (Fr.li hF (by repeat (first | exact memH | apply memT))).g (gz.ext hF.ext) (by omega) (by omega)).mono ?_; rintro _ wo ⟨s, rfl, hLs, hE, hKs⟩; rw [hLp.val] at hLs; replace hF := Fr.addLI (hF.exts hE) hLs; clear hE; refine Back.mk ?_)) | (apply TL.ev; (case hd => rfl); (case h => (first | (apply Ev.isLoad; first | exact ev_loadAFr hF rfl (by refine ⟨?_, ?_⟩; (focus (repeat (first | exact InV.head | apply InV.tail))); rfl))))) | (refine TL.storeAFr hF rfl rfl rfl rfl (by refine ⟨?_, ?_⟩; (focus (repeat (first | apply SetV.head | apply SetV.tail))); rfl) rfl ?_; clear hF; intro ws hF) | (refine TL.boxAFr hF (d := 3) (cs := ivc x) rfl rfl ?_; clear hF; intro w3 b3 hF) | (refine TL.boxAFr hF (d := 4) (cs := ivc y) rfl rfl ?_; clear hF; intro w4 b4 hF) | (refine TL.boxAFr hF (d := 5) (cs := ivc z) rfl rfl ?_; clear hF; intro w5 b5 hF) | (refine TL.allocFr hF (d := 6) rfl rfl ?_; clear hF; intro w6 b6 hF) | (refine TL.allocFr hF (d := 7) rfl rfl ?_; clear hF; intro w7 b7 hF)) | (refine T.is ?_; first | refine T.seq ?_ | refine T.region ?_ | refine T.ret ?_) | (refine G.is ?_; first | refine G.next ?_) | refine TL.nil ?_)
  exact G.retC1 rfl rfl (held_agg (hF.var (by repeat (first | exact InV.head | apply InV.tail))) rfl) ⟨s, rfl, Fr.li hF (by repeat (first | exact memH | apply memT)), hF.ext, by omega⟩
end Go.Proofs.YtdhmhjbmkimplaaGreat

namespace Go.Proofs.YtdhmhjbmkimplaaGreat
open Go Go.Eng Go.Proofs Go.NatM Go.RowKit

def nought : IV := ⟨false, ⟨none, 0, 0, []⟩⟩
theorem li_n0 (H : Array Obj) : LI H 0 nought := ⟨⟨⟨rfl, Nat.le_refl _, .inl rfl⟩, fun x hx => (by cases hx)⟩, by simp [dig, nought], by decide⟩
theorem lk_zeros (H : Array Obj) (n K : Nat) : LsK n (List.replicate n nought) (fun _ => 0) K H := fun q hq => by
  have e1 : (List.replicate n nought).getD q default = nought := by simp [List.getD, List.getElem?_replicate, hq]
  rw [e1]; exact ⟨li_n0 H, Nat.zero_le _⟩
theorem lm_of {H : Array Obj} {b r c K : Nat} {l : List IV} {Z : Nat → Int} {F : Nat → Nat → Int} (hV : Vr H b 51 (l.flatMap ivc)) (hl : l.length = r * c) (hr : r ≤ 64) (hcc : c ≤ 64) (hk : LsK (r * c) l Z K H) (hZ : ∀ i j, i < r → j < c → Z (i * c + j) = F i j) :
    LM H ⟨r, c, some ⟨b, 0, none⟩, r * c, r * c, l⟩ r c F K :=
  ⟨⟨rfl, rfl, hr, hcc, rfl⟩, vr_sm (zs := []) (by omega) (fun _ _ => rfl) (by rw [List.append_nil]; exact hV) hl (Nat.le_refl _) hV.lt, fun i j hi hj => by rw [← hZ i j hi hj]; exact hk _ (place_lt hi hj)⟩
theorem outside_ok (w : World) (n : Int) (b : Bool) (h : decide (n < 0 ∨ 64 < n) = b) : Cl Tryz.prog 121 #[.int .i64 n] w (fun e w' => e = .returned (.bool b) ∧ Ext w w') := by
  subst h
  refine enter Tryz.func121 rfl rfl rfl ?_
  have hF := Fr.refl w
  repeat' (first | (refine TL.isOp ?_; first | (refine TL.isG ?_; first | refine TL.grun rfl rfl rfl ?_ | refine TL.gskip rfl rfl rfl rfl ?_) | (refine TL.isBin ?_; refine TL.cmpG rfl rfl rfl rfl (fun hc => ?_) (fun hc => ?_) <;> (try (first | (exfalso; omega) | exact absurd rfl hc))) | (apply TL.ev; (case hd => rfl); (case h => (first | exact ev_simple rfl)))) | (refine T.is ?_; first | refine T.seq ?_ | refine T.region ?_ | refine T.ret ?_) | (refine G.is ?_; first | refine G.next ?_) | refine TL.nil ?_)
  all_goals first | exact G.ret1 rfl rfl ⟨by rw [decide_eq_true (by omega)], hF.ext⟩ | exact G.ret1 rfl rfl ⟨by rw [decide_eq_false (by omega)], hF.ext⟩
/-- a matrix of zeros, its list known whole -/
def RetBk (w : World) (r c : Nat) (e : Ending) (w' : World) : Prop := ∃ b, e = .returned (.agg #[.int .i64 (r : Int), .int .i64 (c : Int), .slice (some ⟨b, 0, none⟩) (r * c) (r * c)]) ∧ Fr w w' [⟨b, 51, (List.replicate (r * c) nought).flatMap ivc⟩] []
theorem blank_ok (w : World) (r c : Nat) (hr : r ≤ 64) (hcc : c ≤ 64) : Cl Tryz.prog 93 #[.int .i64 (r : Int), .int .i64 (c : Int)] w (RetBk w r c) := by
  have hm := mul64 hr hcc
  refine enter Tryz.func93 rfl rfl rfl ?_
  have hF := Fr.refl w
  repeat' (first | (refine TL.isOp ?_; first | (apply TL.ev; (case hd => rfl); (case h => (first | exact ev_simple rfl | (apply Ev.isBin; first | exact ev_arN rfl rfl rfl (by omega)) | exact ev_buildX rfl rfl))) | (refine TL.storeAFr hF rfl rfl rfl rfl (by refine ⟨?_, ?_⟩; (focus (repeat (first | apply SetV.head | apply SetV.tail))); rfl) rfl ?_; clear hF; intro ws hF) | (refine TL.allocFr hF (d := 4) rfl rfl ?_; clear hF; intro w4 b4 hF) | (refine TL.makeFr hF ivc nought (d := 10) rfl rfl rfl (Nat.le_refl _) (by omega) rfl rfl rfl ?_; clear hF; intro w10 b10 hF)) | (refine T.is ?_; first | refine T.seq ?_ | refine T.region ?_ | refine T.ret ?_) | (refine G.is ?_; first | refine G.next ?_) | refine TL.nil ?_)
  exact G.retC1 rfl rfl (held_agg (hF.var (by repeat (first | exact InV.head | apply InV.tail))) rfl) ⟨b10, rfl, hF.weak (List.Sublist.cons_cons _ (List.nil_sublist _)) allN⟩
theorem Fr.blank {S : Nat → Prop} {w0 w w' : World} {L L' : List VB} {D : List DP} (h : Fr w0 w L D S) (h' : Fr w w' L' []) : Fr w0 w' (L' ++ L) D S := Fr.join h h' (fun d hd => (by cases hd))
def upZ (i : Nat) (Z : Nat → Int) (q : Nat) : Int := if q < i then Z q else 0
theorem upZ_succ (i : Nat) (Z : Nat → Int) : upZ (i + 1) Z i = Z i := if_pos (Nat.lt_succ_self i)
theorem upZ_ne {i p : Nat} {Z : Nat → Int} (h : p ≠ i) : upZ (i + 1) Z p = upZ i Z p := by unfold upZ; by_cases h1 : p < i <;> simp [h1, show p < i + 1 ↔ p < i by omega]
theorem upZ_end {n : Nat} {Z : Nat → Int} {q : Nat} (h : q < n) : upZ n Z q = Z q := if_pos h
set_option maxRecDepth 100000 in
set_option maxHeartbeats 1000000 in
theorem rmake_ok (w : World) (r c k K : Nat) (hr : r ≤ 64) (hcc : c ≤ 64) (A : Option Addr) (l : List IV) (hs : Sm 2 ivc w.heap w.heap.size A (r * c) k l) (hg : ∀ y ∈ l, GI w.heap y ∧ y.m.n ≤ K) (hK : K ≤ 1099511627776) :
    Cl Tryz.prog 88 #[.int .i64 (r : Int), .int .i64 (c : Int), .slice A (r * c) k] w (RetME w r c (fun i j => ival (l.getD (i * c + j) default)) K) := by
  have hm := mul64 hr hcc
  have hlen := hs.len
  refine enter Tryz.func88 rfl rfl rfl ?_
  have hF := Fr.refl w
  repeat' (first | (refine TL.isOp ?_; first | (refine TL.isG ?_; first | refine TL.grun rfl rfl rfl ?_) | (refine TL.isCall ?_; refine TL.call rfl rfl ?_; first | (refine (outside_ok _ (r : Int) false (decide_eq_false (by omega))).mono ?_; rintro _ wc ⟨rfl, hE⟩; replace hF := hF.exts hE; clear hE; refine Back.mk ?_) | (refine (outside_ok _ (c : Int) false (decide_eq_false (by omega))).mono ?_; rintro _ wc ⟨rfl, hE⟩; replace hF := hF.exts hE; clear hE; refine Back.mk ?_) | (refine (blank_ok _ r c hr hcc).mono ?_; rintro _ wb ⟨b, rfl, hB⟩; replace hF := Fr.blank hF hB; clear hB; refine Back.mk ?_)) | (refine TL.isBin ?_; refine TL.cmpG rfl rfl rfl rfl (fun hc => ?_) (fun hc => ?_) <;> (try (first | (exfalso; omega) | exact absurd rfl hc))) | (apply TL.ev; (case hd => rfl); (case h => (first | exact ev_simple rfl | (apply Ev.isBin; first | exact ev_arN rfl rfl rfl (by omega)) | exact ev_len rfl))) | (refine TL.storeAFr hF rfl rfl rfl rfl (by refine ⟨?_, ?_⟩; (focus (repeat (first | apply SetV.head | apply SetV.tail))); rfl) rfl ?_; clear hF; intro ws hF) | (refine TL.allocFr hF (d := 6) rfl rfl ?_; clear hF; intro w6 b6 hF) | (refine TL.allocFr hF (d := 8) rfl rfl ?_; clear hF; intro w8 b8 hF)) | (refine T.is ?_; first | refine T.seq ?_ | refine T.region ?_ | refine T.block ?_ | refine T.cond_f rfl ?_ | refine T.skip ?_) | (refine G.is ?_; first | refine G.next ?_) | refine TL.nil ?_)
  refine T.loop (α := Nat × List IV) (fun x => [(0, .int .i64 (r : Int)), (1, .int .i64 (c : Int)), (2, .slice A (r * c) k), (6, .pointer (some ⟨b6, 0, none⟩)), (8, .pointer (some ⟨b8, 0, none⟩)), (9, .int .i64 (x.1 : Int))])
    (fun x w' => x.1 ≤ r * c ∧ x.2.length = r * c ∧ Fr w w' [⟨b, 51, x.2.flatMap ivc⟩, ⟨b8, 24, [.int .i64 (r : Int), .int .i64 (c : Int), .slice (some ⟨b, 0, none⟩) (r * c) (r * c)]⟩, ⟨b6, 24, [.int .i64 0, .int .i64 0, .slice none 0 0]⟩] [dpLK (r * c) x.2 (upZ x.1 (fun q => ival (l.getD q default))) K])
    (fun x => r * c - x.1) (0, List.replicate (r * c) nought) (by repeat (first | exact Sub.nil _ | refine Sub.cons rfl ?_ | refine Sub.cons' rfl (int_congr (by omega)) ?_)) ⟨Nat.zero_le _, List.length_replicate .., Fr.addLK (Fr.perm hF (List.Perm.swap _ _ _)) ((lk_zeros _ _ _).congr fun q _ => rfl)⟩ ?_
  clear hF
  rintro ⟨i, zl⟩ w2 ⟨hi, hzl, hF⟩
  dsimp only at hi hzl hF ⊢
  rcases Nat.lt_or_ge i (r * c) with hin | hin
  · have hy : l[i]? = some (l.getD i default) := by simp [List.getD, show i < l.length by omega]
    obtain ⟨gy, gn⟩ := hg _ (List.mem_of_getElem? hy)
    obtain ⟨y, ey⟩ : ∃ y, l.getD i default = y := ⟨_, rfl⟩
    rw [ey] at hy gy gn
    repeat' (first | (refine TL.isOp ?_; first | (refine TL.isCall ?_; refine TL.call rfl rfl ?_; first | (refine (r5least_t _ y (gy.ext hF.ext) (by omega)).mono ?_; rintro _ wl ⟨u, rfl, hLu, hE, hKu⟩; replace hF := Fr.addLI (hF.exts hE) hLu; clear hE hLu; refine Back.mk ?_)) | (refine TL.isBin ?_; refine TL.cmpG rfl rfl rfl rfl (fun hc => ?_) (fun hc => ?_) <;> (try (first | (exfalso; omega) | exact absurd rfl hc))) | (apply TL.ev; (case hd => rfl); (case h => (first | exact ev_simple rfl | (apply Ev.isBin; first | exact ev_arN rfl rfl rfl (by omega)) | exact ev_len rfl))) | (refine TL.storeAtFr hF (f := ivc) u rfl rfl rfl rfl (fun _ => rfl) (by rw [hzl]; exact hin) (ivc_noV zl) (by repeat (first | apply SetV.head | apply SetV.tail)) ?_; clear hF; intro ws hF)) | (refine TF.is ?_; first | refine TF.nil ?_ | refine TF.e rfl ?_ | (refine TF.pick rfl ?_; first | (apply TFo.ev; (case hd => rfl); (case h => (intro wh hF; first | exact ev_simple rfl | (apply Ev.isLoad; first | exact ev_loadFr hF rfl (by refine ⟨?_, ?_⟩; (focus (repeat (first | exact InV.head | apply InV.tail))); rfl) | exact ev_loadM rfl (hs.ext hF.ext) hy) | exact ev_fieldAddr rfl | exact ev_indexM rfl rfl hin (hs.ext hF.ext).some | exact ev_indexM rfl rfl hin (.inr rfl)))))) | (refine T.is ?_; first | refine T.seq ?_ | refine T.region ?_ | refine T.block ?_ | refine T.cond_t rfl ?_ | refine T.skip ?_ | (refine T.regionFr hF 9 9 (.s 0 (.s 1 (.s 2 (.s 3 (.s 4 (.s 5 (.s 6 (.e 7 (.s 8 (.e 9 .nil)))))))))) mixed (by kernel_rfl) ?_; clear hF; intro wr hF)) | (refine G.is ?_; first | refine G.next ?_ | refine G.blockN ?_ | refine G.only ?_ | refine G.treeEnd rfl ?_ | refine G.tree rfl (by first | exact hF | exact hF.weak (by repeat (first | exact List.Sublist.refl _ | apply List.Sublist.cons)) (by repeat (first | exact allR | apply allT)) | exact hF.weak (by repeat (first | exact List.Sublist.refl _ | apply List.Sublist.cons)) (by repeat (first | exact allN | refine allH (by repeat (first | exact memH | apply memT)) ?_))) ?_) | refine TL.nil ?_)
    have hk := (Fr.lk hF (i := r * c) (l := zl) (by repeat (first | exact memH | apply memT))).setAt (Z' := upZ (i + 1) (fun q => ival (l.getD q default))) (u := u) (q := i) (by omega) (by rw [upZ_succ, ey]; exact Fr.li hF (by repeat (first | exact memH | apply memT))) (by omega) (fun p hp => upZ_ne hp)
    exact G.again (i + 1, zl.set i u) (by repeat (first | exact Sub.nil _ | refine Sub.cons rfl ?_ | refine Sub.cons' rfl (int_congr (by omega)) ?_)) ⟨by dsimp only; omega, by rw [List.length_set]; exact hzl, Fr.addLK (hF.weak (List.Sublist.refl _) allN) hk⟩ (by dsimp only; omega)
  · obtain rfl : i = r * c := by omega
    repeat' (first | (refine TL.isOp ?_; first | (refine TL.isBin ?_; refine TL.cmpG rfl rfl rfl rfl (fun hc => ?_) (fun hc => ?_) <;> (try (first | (exfalso; omega) | exact absurd rfl hc))) | (apply TL.ev; (case hd => rfl); (case h => (first | exact ev_simple rfl | (apply Ev.isLoad; first | exact ev_loadAFr hF rfl (by refine ⟨?_, ?_⟩; (focus (repeat (first | exact InV.head | apply InV.tail))); rfl)) | exact ev_len rfl))) | (refine TL.storeAFr hF rfl rfl rfl rfl (by refine ⟨?_, ?_⟩; (focus (repeat (first | apply SetV.head | apply SetV.tail))); rfl) rfl ?_; clear hF; intro ws hF)) | (refine T.is ?_; first | refine T.seq ?_ | refine T.region ?_ | refine T.cond_f rfl ?_ | refine T.exit ?_ | refine T.ret ?_) | (refine G.is ?_; first | refine G.next ?_ | refine G.blockE ?_ | refine G.thenE ?_) | refine TL.nil ?_)
    have hb := (hF.lo (b := b) (by repeat (first | exact InV.head | apply InV.tail))).resolve_right id
    exact G.retC2 rfl rfl rfl (held_agg (hF.var (by repeat (first | exact InV.head | apply InV.tail))) rfl) ⟨⟨r, c, some ⟨b, 0, none⟩, r * c, r * c, zl⟩, rfl, lm_of (hF.var (by repeat (first | exact InV.head | apply InV.tail))) hzl hr hcc (Fr.lk hF (by repeat (first | exact memH | apply memT))) (fun a q ha hq => upZ_end (place_lt ha hq)), hF.ext, .inr ⟨b, rfl, hb⟩⟩
theorem rchkE_ok (w : World) (x : MV) (r c : Nat) (hS : Sound x r c) : Cl Tryz.prog 74 #[.agg (mvc x).toArray] w (fun e w' => e = .returned (.int .i64 0) ∧ Ext w w') := by
  obtain ⟨xr, xc, A, n, k, l⟩ := x
  obtain ⟨h1, h2, h3, h4, h5⟩ := hS
  dsimp only at h1 h2 h5
  subst h1 h2 h5
  have hm := mul64 h3 h4
  refine enter Tryz.func74 rfl rfl rfl ?_
  have hF := Fr.refl w
  repeat' (first | (refine TL.isOp ?_; first | (refine TL.isG ?_; first | refine TL.grun rfl rfl rfl ?_) | (refine TL.isBin ?_; refine TL.cmpG rfl rfl rfl rfl (fun hc => ?_) (fun hc => ?_) <;> (try (first | (exfalso; omega) | exact absurd rfl hc))) | (apply TL.ev; (case hd => rfl); (case h => (first | exact ev_simple rfl | (apply Ev.isBin; first | exact ev_arN rfl rfl rfl (by omega)) | (apply Ev.isLoad; first | exact ev_loadFr hF rfl (by refine ⟨?_, ?_⟩; (focus (repeat (first | exact InV.head | apply InV.tail))); rfl)) | exact ev_len rfl | exact ev_fieldAddr rfl))) | (refine TL.boxAFr hF (d := 1) (cs := [.int .i64 (r : Int), .int .i64 (c : Int), .slice A (r * c) k]) rfl rfl ?_; clear hF; intro w1 b1 hF)) | (refine T.is ?_; first | refine T.seq ?_ | refine T.region ?_ | refine T.cond_f rfl ?_ | refine T.ret ?_ | refine T.skip ?_) | (refine G.is ?_; first | refine G.next ?_) | refine TL.nil ?_)
  exact G.ret1 rfl rfl ⟨rfl, hF.ext⟩
theorem rleastM_ok (w : World) (x : MV) (r c K : Nat) (gx : GM w.heap x r c K) (hK : K ≤ 1099511627776) : Cl Tryz.prog 47 #[.agg (mvc x).toArray] w (RetME w r c (ent x c) K) := by
  have hck := fun w => rchkE_ok w x r c gx.sh
  have hs0 := gx.sh
  obtain ⟨xr, xc, A1, n1, k1, l1⟩ := x
  obtain ⟨hr1, hc1, hr, hcc, hn1⟩ := hs0
  dsimp only at hr1 hc1 hn1
  subst hr1 hc1 hn1
  refine enter Tryz.func47 rfl rfl rfl ?_
  have hF := Fr.refl w
  repeat' (first | (refine TL.isOp ?_; first | (refine TL.isCall ?_; refine TL.call rfl rfl ?_; first | (refine (hck _).mono ?_; rintro _ wy ⟨rfl, hE⟩; replace hF := hF.exts hE; clear hE; refine Back.mk ?_) | (refine (rmake_ok _ r c k1 K hr hcc A1 l1 (gx.s.ext hF.ext).size (fun y hy => ⟨(gx.g y hy).1.ext hF.ext, (gx.g y hy).2⟩) hK).mono ?_; rintro _ wz ⟨⟨zr, zc, zA, zn, zk, zl⟩, rfl, hLz, hE, hf⟩; have hfz := hf.mono hF.ext.size; replace hF := Fr.addLM hF hE hLz hf; clear hE hf hLz; refine Back.mk ?_)) | (refine TL.isBin ?_; refine TL.cmpG rfl rfl rfl rfl (fun hc => ?_) (fun hc => ?_) <;> (try (first | (exfalso; omega) | exact absurd rfl hc))) | (apply TL.ev; (case hd => rfl); (case h => (first | exact ev_simple rfl | (apply Ev.isLoad; first | exact ev_loadFr hF rfl (by refine ⟨?_, ?_⟩; (focus (repeat (first | exact InV.head | apply InV.tail))); rfl) | exact ev_loadAFr hF rfl (by refine ⟨?_, ?_⟩; (focus (repeat (first | exact InV.head | apply InV.tail))); rfl)) | exact ev_fieldAddr rfl))) | (refine TL.storeAFr hF rfl rfl rfl rfl (by refine ⟨?_, ?_⟩; (focus (repeat (first | apply SetV.head | apply SetV.tail))); rfl) rfl ?_; clear hF; intro ws hF) | (refine TL.boxAFr hF (d := 1) (cs := [.int .i64 (r : Int), .int .i64 (c : Int), .slice A1 (r * c) k1]) rfl rfl ?_; clear hF; intro w1 b1 hF) | (refine TL.allocFr hF (d := 2) rfl rfl ?_; clear hF; intro w2 b2 hF)) | (refine T.is ?_; first | refine T.seq ?_ | refine T.region ?_ | refine T.cond_f rfl ?_ | refine T.ret ?_ | refine T.skip ?_) | (refine G.is ?_; first | refine G.next ?_) | refine TL.nil ?_)
  exact G.retC2 rfl rfl rfl (held_agg (hF.var (by repeat (first | exact InV.head | apply InV.tail))) rfl) ⟨⟨zr, zc, zA, zn, zk, zl⟩, rfl, Fr.lm hF (by repeat (first | exact memH | apply memT)), hF.ext, hfz⟩
theorem rzero_ok (w : World) (r c : Nat) (hr : r ≤ 64) (hcc : c ≤ 64) : Cl Tryz.prog 96 #[.int .i64 (r : Int), .int .i64 (c : Int)] w (fun e w' => ∃ b, e = .returned (.tuple #[.agg #[.int .i64 (r : Int), .int .i64 (c : Int), .slice (some ⟨b, 0, none⟩) (r * c) (r * c)], .int .i64 0]) ∧ Fr w w' [⟨b, 51, (List.replicate (r * c) nought).flatMap ivc⟩] []) := by
  refine enter Tryz.func96 rfl rfl rfl ?_
  have hF := Fr.refl w
  repeat' (first | (refine TL.isOp ?_; first | (refine TL.isG ?_; first | refine TL.grun rfl rfl rfl ?_) | (refine TL.isCall ?_; refine TL.call rfl rfl ?_; first | (refine (outside_ok _ (r : Int) false (decide_eq_false (by omega))).mono ?_; rintro _ wc ⟨rfl, hE⟩; replace hF := hF.exts hE; clear hE; refine Back.mk ?_) | (refine (outside_ok _ (c : Int) false (decide_eq_false (by omega))).mono ?_; rintro _ wc ⟨rfl, hE⟩; replace hF := hF.exts hE; clear hE; refine Back.mk ?_) | (refine (blank_ok _ r c hr hcc).mono ?_; rintro _ wb ⟨b, rfl, hB⟩; replace hF := Fr.blank hF hB; clear hB; refine Back.mk ?_)) | (apply TL.ev; (case hd => rfl); (case h => (first | exact ev_simple rfl))) | (refine TL.storeAFr hF rfl rfl rfl rfl (by refine ⟨?_, ?_⟩; (focus (repeat (first | apply SetV.head | apply SetV.tail))); rfl) rfl ?_; clear hF; intro ws hF) | (refine TL.allocFr hF (d := 4) rfl rfl ?_; clear hF; intro w4 b4 hF)) | (refine T.is ?_; first | refine T.seq ?_ | refine T.region ?_ | refine T.cond_f rfl ?_ | refine T.ret ?_ | refine T.skip ?_) | (refine G.is ?_; first | refine G.next ?_) | refine TL.nil ?_)
  exact G.retC2 rfl rfl rfl (held_agg (hF.var (by repeat (first | exact InV.head | apply InV.tail))) rfl) ⟨b, rfl, hF.weak (List.Sublist.cons_cons _ (List.nil_sublist _)) allN⟩
def isSd (z : Int) : Prop := 0 ≤ z ∧ z ≤ 64
theorem rzero_no (w : World) (x y : Int) (h : ¬ (isSd x ∧ isSd y)) : Cl Tryz.prog 96 #[.int .i64 x, .int .i64 y] w (RetMF w 3) := by
  unfold isSd at h
  by_cases hx : x < 0 ∨ 64 < x
  · refine enter Tryz.func96 rfl rfl rfl ?_
    have hF := Fr.refl w
    repeat' (first | (refine TL.isOp ?_; first | (refine TL.isG ?_; first | refine TL.gskip rfl rfl rfl rfl ?_) | (refine TL.isCall ?_; refine TL.call rfl rfl ?_; first | (refine (outside_ok _ x true (decide_eq_true hx)).mono ?_; rintro _ wc ⟨rfl, hE⟩; replace hF := hF.exts hE; clear hE; refine Back.mk ?_)) | (apply TL.ev; (case hd => rfl); (case h => (first | exact ev_simple rfl | exact ev_buildX rfl rfl))) | (refine TL.storeAFr hF rfl rfl rfl rfl (by refine ⟨?_, ?_⟩; (focus (repeat (first | apply SetV.head | apply SetV.tail))); rfl) rfl ?_; clear hF; intro ws hF) | (refine TL.allocFr hF (d := 4) rfl rfl ?_; clear hF; intro w4 b4 hF)) | (refine T.is ?_; first | refine T.seq ?_ | refine T.region ?_ | refine T.cond_t rfl ?_ | refine T.ret ?_) | (refine G.is ?_; first | refine G.next ?_ | refine G.thenR ?_) | refine TL.nil ?_)
    exact G.retC2 rfl rfl rfl (held_agg (hF.var (by repeat (first | exact InV.head | apply InV.tail))) rfl) ⟨rfl, hF.ext⟩
  · refine enter Tryz.func96 rfl rfl rfl ?_
    have hF := Fr.refl w
    repeat' (first | (refine TL.isOp ?_; first | (refine TL.isG ?_; first | refine TL.grun rfl rfl rfl ?_) | (refine TL.isCall ?_; refine TL.call rfl rfl ?_; first | (refine (outside_ok _ x false (decide_eq_false hx)).mono ?_; rintro _ wc ⟨rfl, hE⟩; replace hF := hF.exts hE; clear hE; refine Back.mk ?_) | (refine (outside_ok _ y true (decide_eq_true (by omega))).mono ?_; rintro _ wc ⟨rfl, hE⟩; replace hF := hF.exts hE; clear hE; refine Back.mk ?_)) | (apply TL.ev; (case hd => rfl); (case h => (first | exact ev_simple rfl | exact ev_buildX rfl rfl))) | (refine TL.storeAFr hF rfl rfl rfl rfl (by refine ⟨?_, ?_⟩; (focus (repeat (first | apply SetV.head | apply SetV.tail))); rfl) rfl ?_; clear hF; intro ws hF) | (refine TL.allocFr hF (d := 4) rfl rfl ?_; clear hF; intro w4 b4 hF)) | (refine T.is ?_; first | refine T.seq ?_ | refine T.region ?_ | refine T.cond_t rfl ?_ | refine T.ret ?_) | (refine G.is ?_; first | refine G.next ?_ | refine G.thenR ?_) | refine TL.nil ?_)
    exact G.retC2 rfl rfl rfl (held_agg (hF.var (by repeat (first | exact InV.head | apply InV.tail))) rfl) ⟨rfl, hF.ext⟩
theorem runit_no (w : World) (z : Int) (h : ¬ isSd z) : Cl Tryz.prog 52 #[.int .i64 z] w (RetMF w 3) := by
  refine enter Tryz.func52 rfl rfl rfl ?_
  have hF := Fr.refl w
  repeat' (first | (refine TL.isOp ?_; first | (refine TL.isCall ?_; refine TL.call rfl rfl ?_; first | (refine (rzero_no _ z z (fun h' => h h'.1)).mono ?_; rintro _ wc ⟨rfl, hE⟩; replace hF := hF.exts hE; clear hE; refine Back.mk ?_)) | (apply TL.ev; (case hd => rfl); (case h => (first | exact ev_simple rfl))) | (refine TL.storeAFr hF rfl rfl rfl rfl (by refine ⟨?_, ?_⟩; (focus (repeat (first | apply SetV.head | apply SetV.tail))); rfl) rfl ?_; clear hF; intro ws hF) | (refine TL.allocFr hF (d := 2) rfl rfl ?_; clear hF; intro w2 b2 hF) | (refine TL.allocFr hF (d := 4) rfl rfl ?_; clear hF; intro w4 b4 hF)) | (refine T.is ?_; first | refine T.seq ?_ | refine T.region ?_ | refine T.block ?_) | (refine G.is ?_; first | refine G.next ?_) | refine TL.nil ?_)
  refine T.loop (α := Nat) (fun _ => [(2, .pointer (some ⟨b2, 0, none⟩)), (4, .pointer (some ⟨b4, 0, none⟩)), (5, .int .i64 3), (6, .int .i64 0)])
    (fun _ w' => Fr w w' [⟨b4, 24, [.int .i64 0, .int .i64 0, .slice none 0 0]⟩, ⟨b2, 24, [.int .i64 0, .int .i64 0, .slice none 0 0]⟩] []) (fun x => 0) 0 (by repeat (first | exact Sub.nil _ | refine Sub.cons rfl ?_ | refine Sub.cons' rfl (int_congr (by omega)) ?_)) hF ?_
  clear hF
  rintro _ w2 hF
  repeat' (first | (refine TL.isOp ?_; first | (refine TL.isBin ?_; refine TL.cmpG rfl rfl rfl rfl (fun hc => ?_) (fun hc => ?_) <;> (try (first | (exfalso; omega) | exact absurd rfl hc))) | (apply TL.ev; (case hd => rfl); (case h => (first | exact ev_simple rfl | (apply Ev.isLoad; first | exact ev_loadFr hF rfl (by refine ⟨?_, ?_⟩; (focus (repeat (first | exact InV.head | apply InV.tail))); rfl) | exact ev_loadAFr hF rfl (by refine ⟨?_, ?_⟩; (focus (repeat (first | exact InV.head | apply InV.tail))); rfl)) | exact ev_fieldAddr rfl))) | (refine TL.storeAFr hF rfl rfl rfl rfl (by refine ⟨?_, ?_⟩; (focus (repeat (first | apply SetV.head | apply SetV.tail))); rfl) rfl ?_; clear hF; intro ws hF)) | (refine T.is ?_; first | refine T.seq ?_ | refine T.region ?_ | refine T.cond_f rfl ?_ | refine T.exit ?_ | refine T.ret ?_) | (refine G.is ?_; first | refine G.next ?_ | refine G.blockE ?_ | refine G.thenE ?_) | refine TL.nil ?_)
  exact G.retC2 rfl rfl rfl (held_agg (hF.var (by repeat (first | exact InV.head | apply InV.tail))) rfl) ⟨rfl, hF.ext⟩
/-- the unit matrix, the first i ones laid -/
def unZ (n i q : Nat) : Int := if q / n < i ∧ q / n = q % n then 1 else 0
theorem unZ_at {n i p : Nat} (hi : i < n) (hp : p < n * n) : unZ n (i + 1) p = if p = i * n + i then 1 else unZ n i p := by
  unfold unZ
  have h0 : p / n * n + p % n = p := Nat.div_add_mod' p n
  by_cases h : p = i * n + i
  · subst h
    have e1 : (i * n + i) / n = i := by rw [Nat.mul_comm, Nat.mul_add_div (by omega), Nat.div_eq_of_lt hi, Nat.add_zero]
    have e2 : (i * n + i) % n = i := by rw [Nat.mul_comm, Nat.mul_add_mod, Nat.mod_eq_of_lt hi]
    rw [e1, e2]; simp
  · rw [if_neg h]
    have : ¬ (p / n = i ∧ p / n = p % n) := fun ⟨h1, h2⟩ => h (by rw [h1] at h0 h2; rw [← h2] at h0; exact h0.symm)
    by_cases h1 : p / n = p % n
    · have h2 : p / n ≠ i := fun e => this ⟨e, h1⟩
      have : p / n < i + 1 ↔ p / n < i := by omega
      simp [this]
    · simp [h1]
set_option maxRecDepth 100000 in
set_option maxHeartbeats 1000000 in
theorem runit_ok (w : World) (n : Nat) (hn : n ≤ 64) : Cl Tryz.prog 52 #[.int .i64 (n : Int)] w (RetME w n n (fun i j => if i = j then 1 else 0) 1) := by
  have hm := mul64 hn hn
  refine enter Tryz.func52 rfl rfl rfl ?_
  have hF := Fr.refl w
  repeat' (first | (refine TL.isOp ?_; first | (refine TL.isCall ?_; refine TL.call rfl rfl ?_; first | (refine (rzero_ok _ n n hn hn).mono ?_; rintro _ wb ⟨b, rfl, hB⟩; replace hF := Fr.blank hF hB; clear hB; refine Back.mk ?_)) | (apply TL.ev; (case hd => rfl); (case h => (first | exact ev_simple rfl))) | (refine TL.storeAFr hF rfl rfl rfl rfl (by refine ⟨?_, ?_⟩; (focus (repeat (first | apply SetV.head | apply SetV.tail))); rfl) rfl ?_; clear hF; intro ws hF) | (refine TL.allocFr hF (d := 2) rfl rfl ?_; clear hF; intro w2 b2 hF) | (refine TL.allocFr hF (d := 4) rfl rfl ?_; clear hF; intro w4 b4 hF)) | (refine T.is ?_; first | refine T.seq ?_ | refine T.region ?_ | refine T.block ?_) | (refine G.is ?_; first | refine G.next ?_) | refine TL.nil ?_)
  refine T.loop (α := Nat × List IV) (fun x => [(0, .int .i64 (n : Int)), (2, .pointer (some ⟨b2, 0, none⟩)), (4, .pointer (some ⟨b4, 0, none⟩)), (5, .int .i64 0), (6, .int .i64 (x.1 : Int))])
    (fun x w' => x.1 ≤ n ∧ x.2.length = n * n ∧ Fr w w' [⟨b, 51, x.2.flatMap ivc⟩, ⟨b4, 24, [.int .i64 (n : Int), .int .i64 (n : Int), .slice (some ⟨b, 0, none⟩) (n * n) (n * n)]⟩, ⟨b2, 24, [.int .i64 0, .int .i64 0, .slice none 0 0]⟩] [dpLK (n * n) x.2 (unZ n x.1) 1])
    (fun x => n - x.1) (0, List.replicate (n * n) nought) (by repeat (first | exact Sub.nil _ | refine Sub.cons rfl ?_ | refine Sub.cons' rfl (int_congr (by omega)) ?_)) ⟨Nat.zero_le _, List.length_replicate .., Fr.addLK (Fr.perm hF (List.Perm.swap _ _ _)) ((lk_zeros _ _ _).congr fun q _ => by simp [unZ])⟩ ?_
  clear hF
  rintro ⟨i, zl⟩ w2 ⟨hi, hzl, hF⟩
  dsimp only at hi hzl hF ⊢
  rcases Nat.lt_or_ge i n with hin | hin
  · have hpl := place_lt hin hin
    repeat' (first | (refine TL.isOp ?_; first | (refine TL.isBin ?_; refine TL.cmpG rfl rfl rfl rfl (fun hc => ?_) (fun hc => ?_) <;> (try (first | (exfalso; omega) | exact absurd rfl hc))) | (apply TL.ev; (case hd => rfl); (case h => (first | exact ev_simple rfl | (apply Ev.isBin; first | exact ev_arN rfl rfl rfl (by omega)) | (apply Ev.isLoad; first | exact ev_loadFr hF rfl (by refine ⟨?_, ?_⟩; (focus (repeat (first | exact InV.head | apply InV.tail))); rfl)) | exact ev_fieldAddr rfl | exact ev_buildX rfl rfl | exact ev_indexM rfl rfl hpl (.inr rfl)))) | (refine TL.storeAtFr hF (f := ivc) (i := i * n + i) ⟨false, ⟨some ⟨bn, 0, none⟩, 1, 1, [1]⟩⟩ rfl rfl rfl rfl (fun _ => rfl) (by rw [hzl]; exact hpl) (ivc_noV zl) (by repeat (first | apply SetV.head | apply SetV.tail)) ?_; clear hF; intro ws hF) | (refine TL.build1U rfl rfl (fun wn bn ebn hBn hEn hzn => ?_); replace hF := Fr.addSl (hF.exts hEn) (hBn.slN (n := 1) (c := 1) rfl (Nat.le_refl _) hBn.lt); clear ebn hBn hEn hzn)) | (refine T.is ?_; first | refine T.seq ?_ | refine T.region ?_ | refine T.block ?_ | refine T.cond_t rfl ?_ | refine T.skip ?_) | (refine G.is ?_; first | refine G.next ?_ | refine G.blockN ?_) | refine TL.nil ?_)
    have hsl := Fr.sl hF (A := some ⟨bn, 0, none⟩) (n := 1) (c := 1) (l := [1]) (by repeat (first | exact memH | apply memT))
    have hk : LsK (n * n) (zl.set (i * n + i) ⟨false, ⟨some ⟨bn, 0, none⟩, 1, 1, [1]⟩⟩) (unZ n (i + 1)) 1 ws.heap := by
      refine ((Fr.lk hF (i := n * n) (l := zl) (by repeat (first | exact memH | apply memT))).setAt (Z' := fun p => if p = i * n + i then 1 else unZ n i p) (q := i * n + i) (by omega) ?_ (Nat.le_refl _) (fun p hp => if_neg hp)).congr fun q hq => (unZ_at hin hq).symm
      simp only [if_true]
      exact ⟨⟨hsl, U64.one (by omega)⟩, by rw [show (1 : Int).natAbs = 1 from rfl, dig_small (by omega) (by omega)], rfl⟩
    exact G.again (i + 1, zl.set (i * n + i) ⟨false, ⟨some ⟨bn, 0, none⟩, 1, 1, [1]⟩⟩) (by repeat (first | exact Sub.nil _ | refine Sub.cons rfl ?_ | refine Sub.cons' rfl (int_congr (by omega)) ?_)) ⟨by dsimp only; omega, by rw [List.length_set]; exact hzl, Fr.addLK (hF.weak (List.Sublist.refl _) allN) hk⟩ (by dsimp only; omega)
  · obtain rfl : i = n := by omega
    repeat' (first | (refine TL.isOp ?_; first | (refine TL.isBin ?_; refine TL.cmpG rfl rfl rfl rfl (fun hc => ?_) (fun hc => ?_) <;> (try (first | (exfalso; omega) | exact absurd rfl hc))) | (apply TL.ev; (case hd => rfl); (case h => (first | exact ev_simple rfl | (apply Ev.isLoad; first | exact ev_loadFr hF rfl (by refine ⟨?_, ?_⟩; (focus (repeat (first | exact InV.head | apply InV.tail))); rfl) | exact ev_loadAFr hF rfl (by refine ⟨?_, ?_⟩; (focus (repeat (first | exact InV.head | apply InV.tail))); rfl)) | exact ev_fieldAddr rfl))) | (refine TL.storeAFr hF rfl rfl rfl rfl (by refine ⟨?_, ?_⟩; (focus (repeat (first | apply SetV.head | apply SetV.tail))); rfl) rfl ?_; clear hF; intro ws hF)) | (refine T.is ?_; first | refine T.seq ?_ | refine T.region ?_ | refine T.cond_f rfl ?_ | refine T.exit ?_ | refine T.ret ?_) | (refine G.is ?_; first | refine G.next ?_ | refine G.blockE ?_ | refine G.thenE ?_) | refine TL.nil ?_)
    have hb := (hF.lo (b := b) (by repeat (first | exact InV.head | apply InV.tail))).resolve_right id
    refine G.retC2 rfl rfl rfl (held_agg (hF.var (by repeat (first | exact InV.head | apply InV.tail))) rfl) ⟨⟨i, i, some ⟨b, 0, none⟩, i * i, i * i, zl⟩, rfl, lm_of (hF.var (by repeat (first | exact InV.head | apply InV.tail))) hzl hn hn (Fr.lk hF (by repeat (first | exact memH | apply memT))) (fun a q ha hq => ?_), hF.ext, .inr ⟨b, rfl, hb⟩⟩
    unfold unZ
    have e1 : (a * i + q) / i = a := by rw [Nat.mul_comm, Nat.mul_add_div (by omega), Nat.div_eq_of_lt hq, Nat.add_zero]
    have e2 : (a * i + q) % i = q := by rw [Nat.mul_comm, Nat.mul_add_mod, Nat.mod_eq_of_lt hq]
    rw [e1, e2]
    simp [ha]
end Go.Proofs.YtdhmhjbmkimplaaGreat
