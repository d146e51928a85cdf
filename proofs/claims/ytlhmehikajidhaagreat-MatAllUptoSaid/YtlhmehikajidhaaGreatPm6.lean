/- The document's answers for layer 1: Split, trim, Join, at, Least, order, Cmp. The document's answers for layer 1: at, Least, order, Cmp, Add. The document's answers for layer 5: made, Least, Sign, CmpAbs, Cmp of equal integers. Layer 9: contracts of mat: Turn, Trace; the law's equal. Layer 9: Least, Lines and its iterator. Opening matrices handed in, with the range of their numbers and the length of their lists. Layer 9: MatTurns (printed by genturns.py). Layer 9: calls at unsound matrices (printed by genmati.py). -/
import Derived.Test.YtlhmehikajidhaaGreatPm3
import Derived.Test.YtlhmehikajidhaaGreatPm1
import Derived.Test.YtlhmehikajidhaaGreatPm5
set_option maxHeartbeats 16000000
set_option linter.unusedVariables false
set_option linter.unusedSimpArgs false
namespace Go.Proofs.YtlhmehikajidhaaGreat
open Go Go.Eng Go.Proofs Go.NatM Go.RowKit
def RetI (w : World) (L : List Nat) (K : Nat) (e : Ending) (w' : World) : Prop := ∃ A n c, e = .returned (.slice A n c) ∧ Ow n64v w'.heap w.heap.size 3 A n c L ∧ Ext w w' ∧ n ≤ K
theorem RetI.mk {w w' : World} {L : List Nat} {A : Option Addr} {n c K : Nat} (h : Ow n64v w'.heap w.heap.size 3 A n c L) (he : Ext w w') (hk : n ≤ K) : RetI w L K (.returned (.slice A n c)) w' := ⟨A, n, c, rfl, h, he, hk⟩
theorem rtrim_ok (H : Array Obj) (B : Nat) (A : Option Addr) (n c : Nat) (l : List Nat) (hs : Sl n64v H B A n c l) (hn : n < 9223372036854775808) :
    Pure Tryz.prog 135 #[.slice A n c] H (.slice A (N16.sz l) c) := by
  refine Pure.of fun w hw => ?_
  subst hw
  have hlen := hs.len
  have hcap := hs.cap
  refine enter Tryz.func135 rfl rfl rfl ?_
  repeat' (first | refine TL.ev (ev_simple rfl) rfl ?_ | refine TL.ev (ev_len rfl) rfl ?_ | refine T.seq ?_ | refine T.region ?_ | refine TL.nil ?_ | refine T.block ?_ | refine G.next ?_)
  refine T.loop (fun k : Nat => [(0, .slice A n c), (3, .int .i64 (k : Int))]) (fun k w' => w' = w ∧ k ≤ n ∧ ∀ j, k ≤ j → l.getD j 0 = 0) (fun k => k) n (by repeat (first | exact Sub.nil _ | refine Sub.cons rfl ?_ | refine Sub.cons' rfl (int_congr (by omega)) ?_)) ⟨rfl, Nat.le_refl _, ?_⟩ ?_
  · intro j hj; simp [List.getD, List.getElem?_eq_none (show l.length ≤ j by omega)]
  · rintro k w' ⟨rfl, hk, hz⟩
    repeat' (first | refine TL.ev (ev_simple rfl) rfl ?_ | refine TL.grun rfl rfl rfl ?_ | refine TL.gskip rfl rfl rfl rfl ?_ | (refine TL.cmpG rfl rfl rfl rfl (fun hc => ?_) (fun hc => ?_) <;> try (exfalso; omega)) | refine TL.ev (ev_arN rfl rfl rfl (by omega)) rfl ?_ | refine TL.ev (ev_indexN rfl rfl (by omega) (by first | exact Or.inr rfl | exact Sl.some (by assumption))) rfl ?_ | refine TL.ev (ev_loadN rfl (by assumption) (by omega)) rfl ?_ | refine TL.ev (ev_sl_h rfl rfl (by omega)) rfl ?_ | refine T.seq ?_ | refine T.region ?_ | refine TL.nil ?_ | refine T.block ?_ | refine T.cond_t rfl ?_ | refine T.cond_f rfl ?_ | refine T.exit ?_ | refine T.ret ?_ | refine T.skip ?_ | refine G.next ?_ | refine G.blockN ?_ | refine G.blockE ?_ | refine G.thenE ?_)
    · refine G.again (k - 1) (by repeat (first | exact Sub.nil _ | refine Sub.cons rfl ?_ | refine Sub.cons' rfl (int_congr (by omega)) ?_)) ⟨rfl, by omega, fun j hj => ?_⟩ (by omega)
      rcases Nat.lt_or_ge j k with h | h
      · obtain rfl : j = k - 1 := by omega
        omega
      · exact hz j h
    · rw [N16.sz_eq l k (by omega) hz (.inr (by omega))]
      exact G.ret1 rfl rfl ⟨rfl, Qt.refl _⟩
    · rw [N16.sz_eq l k (by omega) hz (.inl (by omega))]
      exact G.ret1 rfl rfl ⟨rfl, Qt.refl _⟩
theorem split_ok (w : World) (B : Nat) (A : Option Addr) (n c : Nat) (l : List Nat) (hs : Sl u64v w.heap B A n c l) (hu : U64 l) (hn : n ≤ 1099511627776) :
    Cl Tryz.prog 121 #[.slice A n c] w (RetI w (N16.dig (val l)) (4 * n)) := by
  have hlen := hs.len
  replace hs := hs.size
  refine enter Tryz.func121 rfl rfl rfl ?_
  repeat' (first | refine TL.ev (ev_simple rfl) rfl ?_ | refine TL.ev (ev_len rfl) rfl ?_ | refine TL.ev (ev_arN rfl rfl rfl (by omega)) rfl ?_ | (refine TL.makeN rfl rfl rfl (by omega) (by omega) (fun w1 b1 eb hB hE hz => ?_)) | refine T.seq ?_ | refine T.region ?_ | refine TL.nil ?_ | refine T.block ?_ | refine G.next ?_)
  have hO := ow_head hB (c := 4 * n) (by simp) (by unfold maxLen; simp; omega) (Nat.le_of_eq eb.symm)
  refine T.loop (α := Nat × Option Addr × Nat × List Nat) (fun x => [(0, .slice A n c), (3, .slice x.2.1 (4 * x.1) x.2.2.1), (4, .int .i64 (x.1 : Int))])
    (fun x w' => x.1 ≤ n ∧ Ext w w' ∧ Ow n64v w'.heap w.heap.size 3 x.2.1 (4 * x.1) x.2.2.1 x.2.2.2 ∧ N16.U64 x.2.2.2 ∧ N16.val x.2.2.2 = val (l.take x.1))
    (fun x => n - x.1) (0, some ⟨b1, 0, none⟩, 4 * n, []) (by repeat (first | exact Sub.nil _ | refine Sub.cons rfl ?_ | refine Sub.cons' rfl (int_congr (by omega)) ?_)) ⟨Nat.zero_le _, hE, hO, N16.U64.nil, rfl⟩ ?_
  rintro ⟨i, A1, c1, D⟩ w2 ⟨hi, hE2, hO2, hDu, hv⟩
  dsimp only at hi hE2 hO2 hDu hv ⊢
  have hD := hO2.len
  have t1 := hs.ext hE2
  rcases Nat.lt_or_ge i n with hin | hin
  · have hx := hu.getD i
    repeat' (first | refine TL.ev (ev_simple rfl) rfl ?_ | refine TL.ev (ev_len rfl) rfl ?_ | (refine TL.cmpG rfl rfl rfl rfl (fun hc => ?_) (fun hc => ?_) <;> try (exfalso; omega)) | refine TL.ev (ev_indexN rfl rfl (by omega) (by first | exact Or.inr rfl | exact Sl.some (by assumption))) rfl ?_ | refine TL.ev (ev_loadU rfl (by assumption) (by omega)) rfl ?_ | refine T.seq ?_ | refine T.region ?_ | refine TL.nil ?_ | refine T.block ?_ | refine T.cond_t rfl ?_ | refine T.skip ?_ | refine G.next ?_)
    refine T.loop (α := Nat × Option Addr × Nat) (fun x => [(0, .slice A n c), (3, .slice x.2.1 (4 * i + x.1) x.2.2), (4, .int .i64 (i : Int)), (5, .int .u64 ((l.getD i 0 / 65536 ^ x.1 : Nat) : Int)), (6, .int .i64 (x.1 : Int))])
      (fun x w' => x.1 ≤ 4 ∧ Ext w w' ∧ Ow n64v w'.heap w.heap.size 3 x.2.1 (4 * i + x.1) x.2.2 (D ++ fourK (l.getD i 0) x.1))
      (fun x => 4 - x.1) (0, A1, c1) (by rw [Nat.pow_zero, Nat.div_one]; exact (by repeat (first | exact Sub.nil _ | refine Sub.cons rfl ?_ | refine Sub.cons' rfl (int_congr (by omega)) ?_))) ⟨by dsimp only; omega, hE2, by simpa [fourK] using hO2⟩ ?_
    rintro ⟨k, A3, c3⟩ w3 ⟨hk, hE3, hO3⟩
    dsimp only at hk hE3 hO3 ⊢
    rcases Nat.lt_or_ge k 4 with hk4 | hk4
    · have hx2 : l.getD i 0 / 65536 ^ k < 18446744073709551616 := Nat.lt_of_le_of_lt (Nat.div_le_self _ _) hx
      have hsz := hE3.size
      repeat' (first | refine TL.ev (ev_simple rfl) rfl ?_ | (refine TL.cmpG rfl rfl rfl rfl (fun hc => ?_) (fun hc => ?_) <;> try (exfalso; omega)) | refine TL.ev (ev_arN rfl rfl rfl (by omega)) rfl ?_ | refine TL.ev (ev_convI rfl (by omega)) rfl ?_ | refine TL.ev (ev_arU rfl rfl rfl (by first | exact True.intro | omega)) rfl ?_ | (refine TL.build1N rfl rfl (fun w4 b4 eb4 hB4 hE4 hz4 => ?_); have hO4 := hO3.ext hE4; have hS4 := hB4.slN (n := 1) (c := 1) rfl (Nat.le_refl _) hB4.lt) | (refine TL.append (f := n64v) (fun _ => rfl) rfl rfl rfl rfl hO4 hS4 (by omega) (by omega) (fun w5 A5 c5 hO5 hg5 hL5 => ?_)) | refine T.seq ?_ | refine T.region ?_ | refine TL.nil ?_ | refine T.block ?_ | refine T.cond_t rfl ?_ | refine T.skip ?_ | refine G.next ?_ | refine G.blockN ?_)
      refine G.again (k + 1, A5, c5) (by rw [Nat.pow_succ, ← Nat.div_div_eq_div_mul]; exact (by repeat (first | exact Sub.nil _ | refine Sub.cons rfl ?_ | refine Sub.cons' rfl (int_congr (by omega)) ?_))) ⟨by dsimp only; omega, Below.trans (hE3.trans hE4) hL5, ?_⟩ (by dsimp only; omega)
      dsimp only
      rw [fourK_succ, ← List.append_assoc]
      exact hO5
    · obtain rfl : k = 4 := by omega
      repeat' (first | refine TL.ev (ev_simple rfl) rfl ?_ | (refine TL.cmpG rfl rfl rfl rfl (fun hc => ?_) (fun hc => ?_) <;> try (exfalso; omega)) | refine TL.ev (ev_arN rfl rfl rfl (by omega)) rfl ?_ | refine T.seq ?_ | refine T.region ?_ | refine TL.nil ?_ | refine T.cond_f rfl ?_ | refine T.exit ?_ | refine G.next ?_ | refine G.blockN ?_ | refine G.blockE ?_ | refine G.thenE ?_)
      refine G.again (i + 1, A3, c3, D ++ fourK (l.getD i 0) 4) (by rw [Nat.mul_add]; exact (by repeat (first | exact Sub.nil _ | refine Sub.cons rfl ?_ | refine Sub.cons' rfl (int_congr (by omega)) ?_))) ⟨by dsimp only; omega, hE3, hO3, hDu.append (U_fourK _ _), ?_⟩ (by dsimp only; omega)
      dsimp only
      rw [N16.val_append, hD, W_pow4, val_fourK hx, hv, val_take_succ]
  · obtain rfl : i = n := by omega
    have e : l.take i = l := List.take_of_length_le (by omega)
    rw [e] at hv
    have hS := hO2.sl (Nat.le_refl _)
    have hz := N16.sz_le D
    repeat' (first | refine TL.ev (ev_simple rfl) rfl ?_ | refine TL.ev (ev_len rfl) rfl ?_ | (refine TL.cmpG rfl rfl rfl rfl (fun hc => ?_) (fun hc => ?_) <;> try (exfalso; omega)) | (refine TL.callP rfl rfl (rtrim_ok _ _ _ _ _ _ hS (by omega)) (fun q1 => ?_)) | refine T.seq ?_ | refine T.region ?_ | refine TL.nil ?_ | refine T.cond_f rfl ?_ | refine T.exit ?_ | refine T.ret ?_ | refine G.next ?_ | refine G.blockE ?_ | refine G.thenE ?_)
    have := hO2.take (k := N16.sz D) (by omega)
    rw [N16.take_sz hDu, hv] at this
    exact G.ret1 rfl rfl (RetI.mk this (hE2.drewN _) (by omega))
theorem sz16_take (l : List Nat) : N16.sz (l.take (N16.sz l)) = N16.sz l := by
  have h := N16.sz_le l
  refine N16.sz_eq _ _ (by rw [List.length_take]; omega) (fun j hj => N16.getD_ge (by rw [List.length_take]; omega)) ?_
  rcases N16.sz_top l with h | h
  · exact .inl h
  · rcases Nat.eq_zero_or_pos (N16.sz l) with h0 | h0
    · exact .inl h0
    · refine .inr ?_
      have e : (l.take (N16.sz l)).getD (N16.sz l - 1) 0 = l.getD (N16.sz l - 1) 0 := by simp [List.getD, List.getElem?_take, show N16.sz l - 1 < N16.sz l by omega]
      rwa [e]
theorem join_ok (w : World) (B : Nat) (A : Option Addr) (n c : Nat) (l : List Nat) (hs : Sl n64v w.heap B A n c l) (hu : N16.U64 l) (hn : n ≤ 4398046511104) :
    Cl Tryz.prog 122 #[.slice A n c] w (RetN w (dig (N16.val l)) (n / 4 + 1)) := by
  have hlen := hs.len
  have hcap := hs.cap
  replace hs := hs.size
  have hsz := N16.sz_le l
  have hsT := hs.take (k := N16.sz l) (m := c) (by omega) (by omega)
  have hT := sz16_take l
  have huT := hu.take (N16.sz l)
  have hvT := N16.val_sz l
  have hlT := hsT.len
  rw [← hvT]
  refine enter Tryz.func122 rfl rfl rfl ?_
  repeat' (first | refine TL.ev (ev_simple rfl) rfl ?_ | refine TL.ev (ev_len rfl) rfl ?_ | refine TL.ev (ev_arN rfl rfl rfl (by omega)) rfl ?_ | (refine TL.callP rfl rfl (rtrim_ok _ _ _ _ _ _ hs (by omega)) (fun q1 => ?_)) | (refine TL.makeU rfl rfl rfl (by omega) (by omega) (fun w1 b1 eb hB hE hz => ?_); simp only [World.heap_drewN] at eb hz; have hE1 := (ext_drewN w q1).trans hE) | refine T.seq ?_ | refine T.region ?_ | refine TL.nil ?_ | refine T.block ?_ | refine G.next ?_)
  have hO := ow_head (lo := w.heap.size) hB (c := N16.sz l / 4 + 1) (by simp) (by unfold maxLen; simp; omega) (Nat.le_of_eq eb.symm)
  have hk4 : N16.sz l / 4 + 1 ≤ n / 4 + 1 := by omega
  generalize l.take (N16.sz l) = E at *
  generalize N16.sz l = nT at *
  refine T.loop (α := Nat × Option Addr × Nat × List Nat) (fun x => [(0, .slice A nT c), (3, .slice x.2.1 x.1 x.2.2.1), (4, .int .i64 ((4 * x.1 : Nat) : Int))])
    (fun x w' => 4 * x.1 < nT + 4 ∧ Ext w w' ∧ Ow u64v w'.heap w.heap.size 42 x.2.1 x.1 x.2.2.1 x.2.2.2 ∧ U64 x.2.2.2 ∧ val x.2.2.2 = N16.val (E.take (4 * x.1)))
    (fun x => nT + 4 - 4 * x.1) (0, some ⟨b1, 0, none⟩, nT / 4 + 1, []) (by repeat (first | exact Sub.nil _ | refine Sub.cons rfl ?_ | refine Sub.cons' rfl (int_congr (by omega)) ?_)) ⟨by dsimp only; omega, hE1, hO, U64.nil, rfl⟩ ?_
  rintro ⟨q, A1, c1, D⟩ w2 ⟨hi, hE2, hO2, hDu, hv⟩
  dsimp only at hi hE2 hO2 hDu hv ⊢
  have hD := hO2.len
  have t1 := hsT.ext hE2
  have hsz2 := hE2.size
  rcases Nat.lt_or_ge (4 * q) nT with hin | hin
  · repeat' (first | refine TL.ev (ev_simple rfl) rfl ?_ | refine TL.ev (ev_len rfl) rfl ?_ | (refine TL.cmpG rfl rfl rfl rfl (fun hc => ?_) (fun hc => ?_) <;> try (exfalso; omega)) | refine T.seq ?_ | refine T.region ?_ | refine TL.nil ?_ | refine T.block ?_ | refine T.cond_t rfl ?_ | refine T.skip ?_ | refine G.next ?_)
    refine T.loop (α := Int) (fun x => [(0, .slice A nT c), (3, .slice A1 q c1), (4, .int .i64 ((4 * q : Nat) : Int)), (5, .int .u64 ((N16.val ((E.drop (4 * q + (x + 1).toNat)).take (4 - (x + 1).toNat)) : Nat) : Int)), (6, .int .i64 x)])
      (fun x w' => -1 ≤ x ∧ x ≤ 3 ∧ w' = w2)
      (fun x => (x + 1).toNat) 3 (by rw [show (3 + 1 : Int).toNat = 4 by rfl, Nat.sub_self, List.take_zero]; exact (by repeat (first | exact Sub.nil _ | refine Sub.cons rfl ?_ | refine Sub.cons' rfl (int_congr (by omega)) ?_))) ⟨by omega, by omega, rfl⟩ ?_
    rintro x w3 ⟨hx0, hx1, rfl⟩
    rcases (show x = -1 ∨ 0 ≤ x by omega) with rfl | hx
    · rw [show (-1 + 1 : Int).toNat = 0 by rfl, Nat.add_zero, Nat.sub_zero]
      have hlt := part16_lt huT (4 * q) 4
      rw [← W_four] at hlt
      repeat' (first | refine TL.ev (ev_simple rfl) rfl ?_ | (refine TL.cmpG rfl rfl rfl rfl (fun hc => ?_) (fun hc => ?_) <;> try (exfalso; omega)) | refine TL.ev (ev_arN rfl rfl rfl (by omega)) rfl ?_ | (refine TL.build1U rfl rfl (fun w4 b4 eb4 hB4 hE4 hz4 => ?_); have hO4 := hO2.ext hE4; have hS4 := hB4.slN (n := 1) (c := 1) rfl (Nat.le_refl _) hB4.lt) | (refine TL.append (f := u64v) (fun _ => rfl) rfl rfl rfl rfl hO4 hS4 (by omega) (by omega) (fun w5 A5 c5 hO5 hg5 hL5 => ?_)) | refine T.seq ?_ | refine T.region ?_ | refine TL.nil ?_ | refine T.cond_f rfl ?_ | refine T.exit ?_ | refine G.next ?_ | refine G.blockN ?_ | refine G.blockE ?_ | refine G.thenE ?_)
      refine G.again (q + 1, A5, c5, _) (by rw [Nat.mul_add]; exact (by repeat (first | exact Sub.nil _ | refine Sub.cons rfl ?_ | refine Sub.cons' rfl (int_congr (by omega)) ?_))) ⟨by dsimp only; omega, Below.trans (hE2.trans hE4) hL5, hO5, hDu.append (U64.one hlt), ?_⟩ (by dsimp only; omega)
      dsimp only
      rw [val_snoc, hD, hv, take16_four, Nat.add_zero]
    · obtain ⟨k, rfl⟩ := Int.eq_ofNat_of_zero_le hx
      have hd := huT.getD (4 * q + k)
      have hlt := part16_lt huT (4 * q + (k + 1)) (3 - k)
      have hle : 65536 ^ (3 - k) ≤ 65536 ^ 3 := Nat.pow_le_pow_right (by omega) (by omega)
      have hst := part16_succ E (4 * q + k) (3 - k)
      rw [show 3 - k + 1 = 4 - k by omega, show 4 * q + k + 1 = 4 * q + (k + 1) by omega] at hst
      rw [show ((k : Int) + 1).toNat = k + 1 by omega, show 4 - (k + 1) = 3 - k by omega]
      rcases Nat.lt_or_ge (4 * q + k) nT with hr | hr
      · repeat' (first | refine TL.ev (ev_simple rfl) rfl ?_ | refine TL.ev (ev_len rfl) rfl ?_ | (refine TL.cmpG rfl rfl rfl rfl (fun hc => ?_) (fun hc => ?_) <;> try (exfalso; omega)) | refine TL.ev (ev_arN rfl rfl rfl (by omega)) rfl ?_ | refine TL.ev (ev_arI rfl rfl rfl (by omega)) rfl ?_ | refine TL.ev (ev_indexN rfl rfl (by omega) (by first | exact Or.inr rfl | exact Sl.some (by assumption))) rfl ?_ | refine TL.ev (ev_loadN rfl (by assumption) (by omega)) rfl ?_ | refine TL.ev (ev_convU rfl (by omega)) rfl ?_ | refine TL.ev (ev_arU rfl rfl rfl (by first | exact True.intro | omega)) rfl ?_ | refine T.seq ?_ | refine T.region ?_ | refine TL.nil ?_ | refine T.block ?_ | refine T.cond_t rfl ?_ | refine T.skip ?_ | refine G.next ?_ | refine G.blockN ?_)
        exact G.again ((k : Int) - 1) (by rw [show ((k : Int) - 1 + 1).toNat = k by omega]; exact (by repeat (first | exact Sub.nil _ | refine Sub.cons rfl ?_ | refine Sub.cons' rfl (int_congr (by omega)) ?_))) ⟨by omega, by omega, rfl⟩ (by omega)
      · have hd0 : E.getD (4 * q + k) 0 = 0 := N16.getD_ge (by omega)
        repeat' (first | refine TL.ev (ev_simple rfl) rfl ?_ | refine TL.ev (ev_len rfl) rfl ?_ | (refine TL.cmpG rfl rfl rfl rfl (fun hc => ?_) (fun hc => ?_) <;> try (exfalso; omega)) | refine TL.ev (ev_arN rfl rfl rfl (by omega)) rfl ?_ | refine TL.ev (ev_arU rfl rfl rfl (by first | exact True.intro | omega)) rfl ?_ | refine T.seq ?_ | refine T.region ?_ | refine TL.nil ?_ | refine T.block ?_ | refine T.cond_t rfl ?_ | refine T.cond_f rfl ?_ | refine T.skip ?_ | refine G.next ?_ | refine G.blockN ?_)
        exact G.again ((k : Int) - 1) (by rw [show ((k : Int) - 1 + 1).toNat = k by omega]; exact (by repeat (first | exact Sub.nil _ | refine Sub.cons rfl ?_ | refine Sub.cons' rfl (int_congr (by omega)) ?_))) ⟨by omega, by omega, rfl⟩ (by omega)
  · have e : E.take (4 * q) = E := List.take_of_length_le (by omega)
    rw [e] at hv
    rw [join_end (by omega) hDu hD hv (by omega) (by omega)] at hO2
    repeat' (first | refine TL.ev (ev_simple rfl) rfl ?_ | refine TL.ev (ev_len rfl) rfl ?_ | (refine TL.cmpG rfl rfl rfl rfl (fun hc => ?_) (fun hc => ?_) <;> try (exfalso; omega)) | refine T.seq ?_ | refine T.region ?_ | refine TL.nil ?_ | refine T.cond_f rfl ?_ | refine T.exit ?_ | refine T.ret ?_ | refine G.next ?_ | refine G.blockE ?_ | refine G.thenE ?_)
    exact G.ret1 rfl rfl (RetN.mk hO2 hE2 (by omega))
end Go.Proofs.YtlhmehikajidhaaGreat
namespace Go.Proofs.YtlhmehikajidhaaGreat
open Go Go.Eng Go.Proofs Go.NatM Go.RowKit
theorem at_ok (H : Array Obj) (B : Nat) (A : Option Addr) (n c : Nat) (l : List Nat) {z : Int} {i : Nat} [e0 : IsN z i] (hs : Sl n64v H B A n c l) (hi : i < 9223372036854775808) :
    Pure Tryz.prog 123 #[.slice A n c, .int .i64 z] H (.int .i64 ((l.getD i 0 : Nat) : Int)) := by
  obtain rfl := e0.out
  refine Pure.of fun w hw => ?_
  subst hw
  have hlen := hs.len
  refine enter Tryz.func123 rfl rfl rfl ?_
  repeat' (first | refine TL.ev (ev_simple rfl) rfl ?_ | refine TL.ev (ev_len rfl) rfl ?_ | (refine TL.cmpG rfl rfl rfl rfl (fun hc => ?_) (fun hc => ?_) <;> try (exfalso; omega)) | refine TL.ev (ev_indexN rfl rfl (by omega) (by first | exact Or.inr rfl | exact Sl.some (by assumption))) rfl ?_ | refine TL.ev (ev_loadN rfl (by assumption) (by omega)) rfl ?_ | refine T.seq ?_ | refine T.region ?_ | refine TL.nil ?_ | refine T.cond_t rfl ?_ | refine T.cond_f rfl ?_ | refine T.ret ?_ | refine T.skip ?_ | refine G.next ?_ | refine G.thenR ?_)
  · exact G.ret1 rfl rfl ⟨by rw [N16.getD_ge (by omega)]; rfl, Qt.refl _⟩
  · exact G.ret1 rfl rfl ⟨rfl, Qt.refl _⟩
theorem rleast_ok (w : World) (B : Nat) (A : Option Addr) (n c : Nat) (l : List Nat) (hs : Sl u64v w.heap B A n c l) (hu : U64 l) (hn : n ≤ 1099511627776) :
    Cl Tryz.prog 101 #[.slice A n c] w (RetN w (dig (val l)) (n + 1)) := by
  refine enter Tryz.func101 rfl rfl rfl ?_
  repeat' (first | refine TL.ev (ev_simple rfl) rfl ?_ | (refine TL.call rfl rfl ?_; first | (refine (split_ok _ _ _ _ _ _ hs hu hn).mono ?_; rintro _ w1 ⟨A1, n1, c1, rfl, hO1, hE1, hK1⟩; refine Back.mk ?_; have hS1 := hO1.sl (Nat.le_refl _)) | (refine (join_ok _ _ _ _ _ _ hS1 (N16.U64_dig _) (by omega)).mono ?_; rintro _ w2 ⟨A2, n2, c2, rfl, hO2, hE2, hK2⟩; refine Back.mk ?_; rw [N16.val_dig] at hO2)) | refine T.seq ?_ | refine T.region ?_ | refine TL.nil ?_ | refine T.ret ?_ | refine G.next ?_)
  exact G.ret1 rfl rfl (RetN.mk (hO2.mono hE1.size) (hE1.trans hE2) (by omega))
theorem rorder_ok (H : Array Obj) (B B' : Nat) (A A' : Option Addr) (n c n' c' m m' : Nat) (hs : Sl n64v H B A n c (N16.dig m)) (hs' : Sl n64v H B' A' n' c' (N16.dig m')) (hn : n ≤ 35184372088832) (hn' : n' ≤ 35184372088832) :
    Pure Tryz.prog 124 #[.slice A n c, .slice A' n' c'] H (.int .i64 (cmp3 m m')) := by
  refine Pure.of fun w hw => ?_
  subst hw
  have hlen := hs.len
  have hlen' := hs'.len
  have hu := N16.U64_dig m
  have hu' := N16.U64_dig m'
  have hz := N16.sz_dig m
  have hz' := N16.sz_dig m'
  have hv := N16.val_dig m
  have hv' := N16.val_dig m'
  generalize N16.dig m = l at *
  generalize N16.dig m' = l' at *
  subst hv hv'
  refine enter Tryz.func124 rfl rfl rfl ?_
  repeat' (first | refine TL.ev (ev_simple rfl) rfl ?_ | refine TL.ev (ev_len rfl) rfl ?_ | (refine TL.cmpG rfl rfl rfl rfl (fun hc => ?_) (fun hc => ?_) <;> try (exfalso; omega)) | refine TL.ev (ev_arI rfl rfl rfl (by omega)) rfl ?_ | refine T.seq ?_ | refine T.region ?_ | refine TL.nil ?_ | refine T.block ?_ | refine T.cond_t rfl ?_ | refine T.cond_f rfl ?_ | refine T.ret ?_ | refine T.skip ?_ | refine G.next ?_ | refine G.thenR ?_)
  · have := N16.lt_of_sz_lt (l := l) (r := l') hu (by omega)
    exact G.ret1 rfl rfl ⟨by rw [cmp3, if_pos this], Qt.refl _⟩
  · have := N16.lt_of_sz_lt (l := l') (r := l) hu' (by omega)
    exact G.ret1 rfl rfl ⟨by rw [cmp3, if_neg (by omega), if_pos this], Qt.refl _⟩
  · refine T.loop (fun k : Nat => [(0, .slice A n c), (1, .slice A' n' c'), (5, .int .i64 ((k : Int) - 1))]) (fun k w' => Qt w w' ∧ k ≤ n ∧ ∀ j, k ≤ j → l.getD j 0 = l'.getD j 0) (fun k => k) n (by repeat (first | exact Sub.nil _ | refine Sub.cons rfl ?_ | refine Sub.cons' rfl (int_congr (by omega)) ?_)) ⟨Qt.refl w, Nat.le_refl _, ?_⟩ ?_
    · intro j hj; rw [N16.getD_ge (by omega), N16.getD_ge (by omega)]
    · rintro k w' ⟨⟨qq, rfl⟩, hk, hzz⟩
      have hq : Qt w (w.drewN qq) := ⟨qq, rfl⟩
      have hs2 : Sl n64v (w.drewN qq).heap B A n c l := hs
      have hs2' : Sl n64v (w.drewN qq).heap B' A' n' c' l' := hs'
      rcases Nat.eq_zero_or_pos k with h0 | h0
      · subst h0
        have := N16.val_ext (a := l) (b := l') (fun j => hzz j (by omega))
        repeat' (first | refine TL.ev (ev_simple rfl) rfl ?_ | (refine TL.cmpG rfl rfl rfl rfl (fun hc => ?_) (fun hc => ?_) <;> try (exfalso; omega)) | refine T.seq ?_ | refine T.region ?_ | refine TL.nil ?_ | refine T.cond_f rfl ?_ | refine T.exit ?_ | refine T.ret ?_ | refine G.next ?_ | refine G.blockE ?_ | refine G.thenE ?_)
        exact G.ret1 rfl rfl ⟨by rw [cmp3, if_neg (by omega), if_neg (by omega)], hq⟩
      · obtain ⟨i, rfl⟩ := Nat.exists_eq_add_of_le h0
        have e1 : ((1 + i : Nat) : Int) - 1 = (i : Int) := by omega
        rw [e1]
        repeat' (first | refine TL.ev (ev_simple rfl) rfl ?_ | (refine TL.cmpG rfl rfl rfl rfl (fun hc => ?_) (fun hc => ?_) <;> try (exfalso; omega)) | refine TL.ev (ev_arI rfl rfl rfl (by omega)) rfl ?_ | refine TL.ev (ev_indexN rfl rfl (by omega) (by first | exact Or.inr rfl | exact Sl.some (by assumption))) rfl ?_ | refine TL.ev (ev_loadN rfl (by assumption) (by omega)) rfl ?_ | refine T.seq ?_ | refine T.region ?_ | refine TL.nil ?_ | refine T.block ?_ | refine T.cond_t rfl ?_ | refine T.cond_f rfl ?_ | refine T.ret ?_ | refine T.skip ?_ | refine G.next ?_ | refine G.blockN ?_ | refine G.blockR ?_ | refine G.thenR ?_ | refine T.regionQ mixed (by kernel_rfl) ?_ | refine TL.nilQ (fun _ => ?_))
        · have := N16.val_lt_of hu i (fun j hj => hzz j (by omega)) (by omega)
          exact G.ret1 rfl rfl ⟨by rw [cmp3, if_pos this], hq.drewN _⟩
        · have := N16.val_lt_of hu' i (fun j hj => (hzz j (by omega)).symm) (by omega)
          exact G.ret1 rfl rfl ⟨by rw [cmp3, if_neg (by omega), if_pos this], (hq.drewN _).drewN _⟩
        · refine G.again i (by repeat (first | exact Sub.nil _ | refine Sub.cons rfl ?_ | refine Sub.cons' rfl (int_congr (by omega)) ?_)) ⟨(hq.drewN _).drewN _, by omega, fun j hj => ?_⟩ (by omega)
          rcases Nat.lt_or_ge j (1 + i) with h | h
          · obtain rfl : j = i := by omega
            omega
          · exact hzz j h
theorem rcmp_ok (w : World) (B B' : Nat) (A A' : Option Addr) (n c n' c' : Nat) (l l' : List Nat) (hs : Sl u64v w.heap B A n c l) (hs' : Sl u64v w.heap B' A' n' c' l') (hu : U64 l) (hu' : U64 l') (hn : n ≤ 1099511627776) (hn' : n' ≤ 1099511627776) :
    Cl Tryz.prog 105 #[.slice A n c, .slice A' n' c'] w (fun e w' => e = .returned (.int .i64 (cmp3 (val l) (val l'))) ∧ Ext w w') := by
  refine enter Tryz.func105 rfl rfl rfl ?_
  repeat' (first | refine TL.ev (ev_simple rfl) rfl ?_ | (refine TL.call rfl rfl ?_; first | (refine (split_ok _ _ _ _ _ _ hs hu hn).mono ?_; rintro _ w1 ⟨A1, n1, c1, rfl, hO1, hE1, hK1⟩; refine Back.mk ?_; have hs2' := hs'.ext hE1) | (refine (split_ok _ _ _ _ _ _ hs2' hu' hn').mono ?_; rintro _ w2 ⟨A2, n2, c2, rfl, hO2, hE2, hK2⟩; refine Back.mk ?_; have g1 := (hO1.ext hE2).sl (Nat.le_refl _); have g2 := hO2.sl (Nat.le_refl _)) | (refine (rorder_ok _ _ _ _ _ _ _ _ _ _ _ g1 g2 (by omega) (by omega)).cl.mono ?_; rintro _ _ ⟨rfl, q1, rfl⟩; refine Back.mk ?_)) | refine T.seq ?_ | refine T.region ?_ | refine TL.nil ?_ | refine T.ret ?_ | refine G.next ?_)
  exact G.ret1 rfl rfl ⟨rfl, (hE1.trans hE2).drewN _⟩
end Go.Proofs.YtlhmehikajidhaaGreat
namespace Go.Proofs.YtlhmehikajidhaaGreat
open Go Go.Eng Go.Proofs Go.NatM Go.RowKit
theorem ivc_mk (neg : Bool) (A : Option Addr) (n c : Nat) (l : List Nat) : ivc ⟨neg, ⟨A, n, c, l⟩⟩ = [.bool neg, .slice A n c] := rfl
theorem made_ok (w : World) (neg : Bool) (A : Option Addr) (n c : Nat) (l : List Nat) (hs : Sl u64v w.heap w.heap.size A n c l) (hu : U64 l) (hn : n ≤ 1099511627776) :
    Cl Tryz.prog 59 #[.bool neg, .slice A n c] w (RetZ w (sgn neg (val l)) (n + 1)) := by
  cases neg
  · refine enter Tryz.func59 rfl rfl rfl ?_
    have hF := Fr.refl w
    repeat' (first | (refine TL.isOp ?_; first | (refine TL.isG ?_; first | refine TL.gskip rfl rfl rfl rfl ?_) | (refine TL.isCall ?_; refine TL.call rfl rfl ?_; first | (refine (rleast_ok _ _ _ _ _ _ (hs.ext hF.ext) hu hn).mono ?_; rintro _ w1 ⟨A1, n1, c1, rfl, hO1, hE, hK1⟩; have hS1 := hO1.sl (Nat.le_refl _); replace hF := Fr.addSl (hF.exts hE) hS1; clear hE; refine Back.mk ?_)) | (apply TL.ev; (case hd => rfl); (case h => (first | exact ev_simple rfl | exact ev_buildX rfl rfl))) | (refine TL.storeAFr hF rfl rfl rfl rfl (by refine ⟨?_, ?_⟩; (focus (repeat (first | apply SetV.head | apply SetV.tail))); rfl) rfl ?_; clear hF; intro ws hF) | (refine TL.allocFr hF (d := 4) rfl rfl ?_; clear hF; intro w4 b4 hF)) | (refine T.is ?_; first | refine T.seq ?_ | refine T.region ?_ | refine T.ret ?_) | (refine G.is ?_; first | refine G.next ?_) | refine TL.nil ?_)
    exact G.retC1 rfl rfl (held_agg (hF.var (by repeat (first | exact InV.head | apply InV.tail))) rfl) ⟨⟨false, ⟨A1, n1, c1, dig (val l)⟩⟩, rfl, li_mk (neg := false) (Fr.sl hF (by repeat (first | exact memH | apply memT))), hF.ext, hK1⟩
  · refine enter Tryz.func59 rfl rfl rfl ?_
    have hF := Fr.refl w
    repeat' (first | (refine TL.isOp ?_; first | (refine TL.isG ?_; first | refine TL.grun rfl rfl rfl ?_) | (refine TL.isCall ?_; refine TL.call rfl rfl ?_; first | (refine (rleast_ok _ _ _ _ _ _ (hs.ext hF.ext) hu hn).mono ?_; rintro _ w1 ⟨A1, n1, c1, rfl, hO1, hE, hK1⟩; have hS1 := hO1.sl (Nat.le_refl _); replace hF := Fr.addSl (hF.exts hE) hS1; clear hE; refine Back.mk ?_)) | (refine TL.isBin ?_; refine TL.cmpG rfl rfl rfl rfl (fun hc => ?_) (fun hc => ?_) <;> (try (first | (exfalso; omega) | exact absurd rfl hc))) | (apply TL.ev; (case hd => rfl); (case h => (first | exact ev_simple rfl | exact ev_len rfl | exact ev_buildX rfl rfl))) | (refine TL.storeAFr hF rfl rfl rfl rfl (by refine ⟨?_, ?_⟩; (focus (repeat (first | apply SetV.head | apply SetV.tail))); rfl) rfl ?_; clear hF; intro ws hF) | (refine TL.allocFr hF (d := 4) rfl rfl ?_; clear hF; intro w4 b4 hF)) | (refine T.is ?_; first | refine T.seq ?_ | refine T.region ?_ | refine T.ret ?_) | (refine G.is ?_; first | refine G.next ?_) | refine TL.nil ?_)
    · have e := li_mk (neg := true) (Fr.sl hF (A := A1) (n := n1) (c := c1) (l := dig (val l)) (by repeat (first | exact memH | apply memT)))
      have e2 : (true && decide (0 < n1)) = true := by simp; omega
      rw [e2] at e
      exact G.retC1 rfl rfl (held_agg (hF.var (by repeat (first | exact InV.head | apply InV.tail))) rfl) ⟨⟨true, ⟨A1, n1, c1, dig (val l)⟩⟩, rfl, e, hF.ext, hK1⟩
    · have e := li_mk (neg := true) (Fr.sl hF (A := A1) (n := n1) (c := c1) (l := dig (val l)) (by repeat (first | exact memH | apply memT)))
      have e2 : (true && decide (0 < n1)) = false := by simp; omega
      rw [e2] at e
      exact G.retC1 rfl rfl (held_agg (hF.var (by repeat (first | exact InV.head | apply InV.tail))) rfl) ⟨⟨false, ⟨A1, n1, c1, dig (val l)⟩⟩, rfl, e, hF.ext, hK1⟩
theorem r5least_ok (w : World) (x : IV) (g : GI w.heap x) (hn : x.m.n ≤ 1099511627776) : Cl Tryz.prog 21 #[.agg (ivc x).toArray] w (RetZ w (ival x) (x.m.n + 1)) := by
  refine enter Tryz.func21 rfl rfl rfl ?_
  have hF := Fr.refl w
  repeat' (first | (refine TL.isOp ?_; first | (refine TL.isCall ?_; refine TL.call rfl rfl ?_; first | (refine (made_ok _ _ _ _ _ _ (g.s.ext hF.ext).size g.u hn).mono ?_; rintro _ w1 ⟨y, rfl, hL, hE, hK⟩; replace hF := Fr.addLI (hF.exts hE) hL; clear hE; refine Back.mk ?_)) | (apply TL.ev; (case hd => rfl); (case h => (first | (apply Ev.isLoad; first | exact ev_loadFr hF rfl (by refine ⟨?_, ?_⟩; (focus (repeat (first | exact InV.head | apply InV.tail))); rfl)) | exact ev_fieldAddr rfl))) | (refine TL.storeAFr hF rfl rfl rfl rfl (by refine ⟨?_, ?_⟩; (focus (repeat (first | apply SetV.head | apply SetV.tail))); rfl) rfl ?_; clear hF; intro ws hF) | (refine TL.allocFr hF (d := 2) rfl rfl ?_; clear hF; intro w2 b2 hF) | (refine TL.boxAFr hF (d := 1) (cs := ivc x) rfl rfl ?_; clear hF; intro w1 b1 hF)) | (refine T.is ?_; first | refine T.seq ?_ | refine T.region ?_ | refine T.ret ?_) | (refine G.is ?_; first | refine G.next ?_) | refine TL.nil ?_)
  exact G.retC1 rfl rfl (held_agg (hF.var (by repeat (first | exact InV.head | apply InV.tail))) rfl) ⟨y, rfl, Fr.li hF (by repeat (first | exact memH | apply memT)), hF.ext, hK⟩
def sig (z : Int) : Int := if z < 0 then -1 else if z = 0 then 0 else 1
theorem li_zero {H : Array Obj} {z : Int} {x : IV} (h : LI H z x) : x.m.n = 0 ↔ z = 0 := by
  have h1 := h.g.s.len
  have h2 := h.d
  rw [← h1, h2]
  constructor
  · intro h0
    rcases Nat.eq_zero_or_pos z.natAbs with h3 | h3
    · omega
    · exact absurd h0 (by have := dig_pos_len (n := z.natAbs) ; omega)
  · intro h0; rw [h0]; rw [show (0 : Int).natAbs = 0 from rfl, dig_zero]; rfl
theorem r5sign_ok (w : World) (x : IV) (g : GI w.heap x) (hn : x.m.n ≤ 1099511627776) : Cl Tryz.prog 127 #[.agg (ivc x).toArray] w (fun e w' => e = .returned (.int .i64 (sig (ival x))) ∧ Ext w w') := by
  obtain ⟨z, hz⟩ : ∃ z, ival x = z := ⟨_, rfl⟩
  rw [hz]
  by_cases h1 : z < 0
  · refine enter Tryz.func127 rfl rfl rfl ?_
    have hF := Fr.refl w
    repeat' (first | (refine TL.isOp ?_; first | (refine TL.isCall ?_; refine TL.call rfl rfl ?_; first | (refine (r5least_ok _ x (g.ext hF.ext) hn).mono ?_; rintro _ w1 ⟨⟨yn, ym⟩, rfl, hL, hE, hK⟩; rw [hz] at hL; obtain rfl : yn = true := hL.e.trans (decide_eq_true h1); replace hF := Fr.addLI (hF.exts hE) hL; clear hE; refine Back.mk ?_)) | (apply TL.ev; (case hd => rfl); (case h => (first | exact ev_simple rfl | (apply Ev.isLoad; first | exact ev_loadFr hF rfl (by refine ⟨?_, ?_⟩; (focus (repeat (first | exact InV.head | apply InV.tail))); rfl) | exact ev_loadAFr hF rfl (by refine ⟨?_, ?_⟩; (focus (repeat (first | exact InV.head | apply InV.tail))); rfl)) | exact ev_fieldAddr rfl))) | (refine TL.storeAFr hF rfl rfl rfl rfl (by refine ⟨?_, ?_⟩; (focus (repeat (first | apply SetV.head | apply SetV.tail))); rfl) rfl ?_; clear hF; intro ws hF) | (refine TL.allocFr hF (d := 3) rfl rfl ?_; clear hF; intro w3 b3 hF) | (refine TL.boxAFr hF (d := 1) (cs := ivc x) rfl rfl ?_; clear hF; intro w1 b1 hF)) | (refine T.is ?_; first | refine T.seq ?_ | refine T.region ?_ | refine T.cond_t rfl ?_ | refine T.ret ?_) | (refine G.is ?_; first | refine G.next ?_ | refine G.thenR ?_) | refine TL.nil ?_)
    exact G.ret1 rfl rfl ⟨by rw [sig, if_pos h1], hF.ext⟩
  · by_cases h2 : z = 0
    · refine enter Tryz.func127 rfl rfl rfl ?_
      have hF := Fr.refl w
      repeat' (first | (refine TL.isOp ?_; first | (refine TL.isCall ?_; refine TL.call rfl rfl ?_; first | (refine (r5least_ok _ x (g.ext hF.ext) hn).mono ?_; rintro _ w1 ⟨⟨yn, ⟨A1, n1, c1, l1⟩⟩, rfl, hL, hE, hK⟩; rw [hz] at hL; rw [ivc_mk _ A1 n1]; obtain rfl : yn = false := hL.e.trans (decide_eq_false h1); have h0 : n1 = 0 := (li_zero hL).2 h2; replace hF := Fr.addLI (hF.exts hE) hL; clear hE; refine Back.mk ?_)) | (refine TL.isBin ?_; refine TL.cmpG rfl rfl rfl rfl (fun hc => ?_) (fun hc => ?_) <;> (try (first | (exfalso; omega) | exact absurd rfl hc))) | (apply TL.ev; (case hd => rfl); (case h => (first | exact ev_simple rfl | (apply Ev.isLoad; first | exact ev_loadFr hF rfl (by refine ⟨?_, ?_⟩; (focus (repeat (first | exact InV.head | apply InV.tail))); rfl) | exact ev_loadAFr hF rfl (by refine ⟨?_, ?_⟩; (focus (repeat (first | exact InV.head | apply InV.tail))); rfl)) | exact ev_len rfl | exact ev_fieldAddr rfl))) | (refine TL.storeAFr hF rfl rfl rfl rfl (by refine ⟨?_, ?_⟩; (focus (repeat (first | apply SetV.head | apply SetV.tail))); rfl) rfl ?_; clear hF; intro ws hF) | (refine TL.allocFr hF (d := 3) rfl rfl ?_; clear hF; intro w3 b3 hF) | (refine TL.boxAFr hF (d := 1) (cs := ivc x) rfl rfl ?_; clear hF; intro w1 b1 hF)) | (refine T.is ?_; first | refine T.seq ?_ | refine T.region ?_ | refine T.cond_f rfl ?_ | refine T.ret ?_ | refine T.skip ?_) | (refine G.is ?_; first | refine G.next ?_) | refine TL.nil ?_)
      exact G.ret1 rfl rfl ⟨by rw [sig, if_neg h1, if_pos h2], hF.ext⟩
    · refine enter Tryz.func127 rfl rfl rfl ?_
      have hF := Fr.refl w
      repeat' (first | (refine TL.isOp ?_; first | (refine TL.isCall ?_; refine TL.call rfl rfl ?_; first | (refine (r5least_ok _ x (g.ext hF.ext) hn).mono ?_; rintro _ w1 ⟨⟨yn, ⟨A1, n1, c1, l1⟩⟩, rfl, hL, hE, hK⟩; rw [hz] at hL; rw [ivc_mk _ A1 n1]; obtain rfl : yn = false := hL.e.trans (decide_eq_false h1); have h0 : n1 ≠ 0 := fun h => h2 ((li_zero hL).1 h); replace hF := Fr.addLI (hF.exts hE) hL; clear hE; refine Back.mk ?_)) | (refine TL.isBin ?_; refine TL.cmpG rfl rfl rfl rfl (fun hc => ?_) (fun hc => ?_) <;> (try (first | (exfalso; omega) | exact absurd rfl hc))) | (apply TL.ev; (case hd => rfl); (case h => (first | exact ev_simple rfl | (apply Ev.isLoad; first | exact ev_loadFr hF rfl (by refine ⟨?_, ?_⟩; (focus (repeat (first | exact InV.head | apply InV.tail))); rfl) | exact ev_loadAFr hF rfl (by refine ⟨?_, ?_⟩; (focus (repeat (first | exact InV.head | apply InV.tail))); rfl)) | exact ev_len rfl | exact ev_fieldAddr rfl))) | (refine TL.storeAFr hF rfl rfl rfl rfl (by refine ⟨?_, ?_⟩; (focus (repeat (first | apply SetV.head | apply SetV.tail))); rfl) rfl ?_; clear hF; intro ws hF) | (refine TL.allocFr hF (d := 3) rfl rfl ?_; clear hF; intro w3 b3 hF) | (refine TL.boxAFr hF (d := 1) (cs := ivc x) rfl rfl ?_; clear hF; intro w1 b1 hF)) | (refine T.is ?_; first | refine T.seq ?_ | refine T.region ?_ | refine T.cond_t rfl ?_ | refine T.cond_f rfl ?_ | refine T.ret ?_ | refine T.skip ?_) | (refine G.is ?_; first | refine G.next ?_ | refine G.thenR ?_) | refine TL.nil ?_)
      exact G.ret1 rfl rfl ⟨by rw [sig, if_neg h1, if_neg h2], hF.ext⟩
theorem r5abs_ok (w : World) (x y : IV) (g : GI w.heap x) (g' : GI w.heap y) (hn : x.m.n ≤ 1099511627776) (hn' : y.m.n ≤ 1099511627776) : Cl Tryz.prog 128 #[.agg (ivc x).toArray, .agg (ivc y).toArray] w (fun e w' => e = .returned (.int .i64 (cmp3 (val x.m.l) (val y.m.l))) ∧ Ext w w') := by
  refine enter Tryz.func128 rfl rfl rfl ?_
  have hF := Fr.refl w
  repeat' (first | (refine TL.isOp ?_; first | (refine TL.isCall ?_; refine TL.call rfl rfl ?_; first | (refine (rcmp_ok _ _ _ _ _ _ _ _ _ _ _ (g.s.ext hF.ext) (g'.s.ext hF.ext) g.u g'.u hn hn').mono ?_; rintro _ w1 ⟨rfl, hE⟩; replace hF := hF.exts hE; clear hE; refine Back.mk ?_)) | (apply TL.ev; (case hd => rfl); (case h => (first | exact ev_simple rfl | (apply Ev.isLoad; first | exact ev_loadFr hF rfl (by refine ⟨?_, ?_⟩; (focus (repeat (first | exact InV.head | apply InV.tail))); rfl)) | exact ev_fieldAddr rfl))) | (refine TL.boxAFr hF (d := 2) (cs := ivc x) rfl rfl ?_; clear hF; intro w2 b2 hF) | (refine TL.boxAFr hF (d := 3) (cs := ivc y) rfl rfl ?_; clear hF; intro w3 b3 hF)) | (refine T.is ?_; first | refine T.seq ?_ | refine T.region ?_ | refine T.ret ?_) | (refine G.is ?_; first | refine G.next ?_) | refine TL.nil ?_)
  exact G.ret1 rfl rfl ⟨rfl, hF.ext⟩
theorem ival_abs (x : IV) : (ival x).natAbs = val x.m.l := sgn_abs _ _
end Go.Proofs.YtlhmehikajidhaaGreat
namespace Go.Proofs.YtlhmehikajidhaaGreat
open Go Go.Eng Go.Proofs Go.NatM Go.RowKit
set_option maxRecDepth 100000 in
theorem turn1_ok (w : World) (r c i j K : Nat) (A : Option Addr) (k : Nat) (l : List IV) (pa : Nat) (gx : GM w.heap ⟨r, c, A, r * c, k, l⟩ r c K) (hK : K ≤ 35184372088832) (hpa : Vr w.heap pa 27 (mvc ⟨r, c, A, r * c, k, l⟩)) (hi : i < c) (hj : j < r) :
    Cl Tryz.prog 90 #[.int .i64 (i : Int), .int .i64 (j : Int), .pointer (some ⟨pa, 0, none⟩)] w (RetZ w (ival (l.getD (j * c + i) default)) K) := by
  have hm := mul64 gx.sh.r64 gx.sh.c64
  have hs := gx.s
  have hlen := hs.len
  dsimp only at hs hlen
  have hp := place_lt hj hi
  have y1 : l[j * c + i]? = some (l.getD (j * c + i) default) := by simp [List.getD, show j * c + i < l.length by omega]
  obtain ⟨g1, n1⟩ := gx.g _ (List.mem_of_getElem? y1)
  generalize l.getD (j * c + i) default = x1 at *
  refine enter Tryz.func90 rfl rfl rfl ?_
  have hF := Fr.refl w
  repeat' (first | (refine TL.isOp ?_; first | (refine TL.isCall ?_; refine TL.call rfl rfl ?_; first | (refine (zleast_ok _ x1 (g1.ext hF.ext) (by omega)).mono ?_; rintro _ wm ⟨s', rfl, hLm, hE, hKm⟩; replace hF := Fr.addLI (hF.exts hE) hLm; clear hE; refine Back.mk ?_)) | (apply TL.ev; (case hd => rfl); (case h => (first | exact ev_simple rfl | (apply Ev.isBin; first | exact ev_arN rfl rfl rfl (by omega)) | (apply Ev.isLoad; first | exact ev_loadV rfl (hpa.ext hF.ext) rfl | exact ev_loadM rfl (hs.ext hF.ext) y1) | exact ev_fieldAddr rfl | exact ev_indexM rfl rfl hp (hs.ext hF.ext).some))) | (refine TL.storeAFr hF rfl rfl rfl rfl (by refine ⟨?_, ?_⟩; (focus (repeat (first | apply SetV.head | apply SetV.tail))); rfl) rfl ?_; clear hF; intro ws hF) | (refine TL.allocFr hF rfl rfl ?_; clear hF; intro wa ba hF)) | (refine T.is ?_; first | refine T.seq ?_ | refine T.region ?_ | refine T.ret ?_) | (refine G.is ?_; first | refine G.next ?_) | refine TL.nil ?_)
  exact G.retC1 rfl rfl (held_agg (hF.var (by repeat (first | exact InV.head | apply InV.tail))) rfl) ⟨s', rfl, Fr.li hF (by repeat (first | exact memH | apply memT)), hF.ext, by omega⟩
set_option maxRecDepth 100000 in
theorem mturn_ok (w : World) (x : MV) (r c K : Nat) (gx : GM w.heap x r c K) (hK : K ≤ 35184372088832) :
    Cl Tryz.prog 48 #[.agg (mvc x).toArray] w (RetME w c r (fun i j => ent x c j i) K) := by
  obtain ⟨xr, xc, A, n, k, l⟩ := x
  obtain ⟨h1, h2, h3, h4, h5⟩ := id gx.sh
  dsimp only at h1 h2 h5
  subst h1 h2 h5
  refine enter Tryz.func48 rfl rfl rfl ?_
  have hF := Fr.refl w
  repeat' (first | (refine TL.isOp ?_; first | (refine TL.isCall ?_; refine TL.call rfl rfl ?_; first | (refine (chk_ok _ _ r c gx.sh).mono ?_; rintro _ wc ⟨rfl, hE⟩; replace hF := hF.exts hE; clear hE; refine Back.mk ?_) | (refine (build_ok _ c r h4 h3 90 [.pointer (some ⟨b1, 0, none⟩)] inferInstance (fun i j => ival (l.getD (j * c + i) default)) K (fun i j w1 hi hj hE1 => turn1_ok w1 r c i j K A k l b1 (gx.ext (hF.exts hE1).ext) hK ((hF.var (by repeat (first | exact InV.head | apply InV.tail))).ext hE1) hi hj)).mono ?_; rintro _ wp ⟨z, rfl, hLp, hE, hf⟩; have hsz := hF.ext.size; replace hF := Fr.addLM hF hE hLp hf; clear hE; refine Back.mk ?_)) | (refine TL.isBin ?_; refine TL.cmpG rfl rfl rfl rfl (fun hc => ?_) (fun hc => ?_) <;> (try (first | (exfalso; omega) | exact absurd rfl hc))) | (apply TL.ev; (case hd => rfl); (case h => (first | exact ev_simple rfl | (apply Ev.isLoad; first | exact ev_loadFr hF rfl (by refine ⟨?_, ?_⟩; (focus (repeat (first | exact InV.head | apply InV.tail))); rfl) | exact ev_loadAFr hF rfl (by refine ⟨?_, ?_⟩; (focus (repeat (first | exact InV.head | apply InV.tail))); rfl)) | exact ev_fieldAddr rfl | exact ev_makeFunc rfl))) | (refine TL.storeAFr hF rfl rfl rfl rfl (by refine ⟨?_, ?_⟩; (focus (repeat (first | apply SetV.head | apply SetV.tail))); rfl) rfl ?_; clear hF; intro ws hF) | (refine TL.boxAFr hF (d := 1) (cs := mvc ⟨r, c, A, r * c, k, l⟩) rfl rfl ?_; clear hF; intro w1 b1 hF) | (refine TL.allocFr hF (d := 2) rfl rfl ?_; clear hF; intro w2 b2 hF)) | (refine T.is ?_; first | refine T.seq ?_ | refine T.region ?_ | refine T.cond_f rfl ?_ | refine T.ret ?_ | refine T.skip ?_) | (refine G.is ?_; first | refine G.next ?_) | refine TL.nil ?_)
  exact G.retC2 rfl rfl rfl (held_agg (hF.var (by repeat (first | exact InV.head | apply InV.tail))) rfl) ⟨z, rfl, Fr.lm hF (by repeat (first | exact memH | apply memT)), hF.ext, hf.mono hsz⟩
def RetZE (w : World) (z : Int) (K : Nat) (e : Ending) (w' : World) : Prop := ∃ x : IV, e = .returned (.tuple #[.agg (ivc x).toArray, .int .i64 0]) ∧ LI w'.heap z x ∧ Ext w w' ∧ x.m.n ≤ K
set_option maxRecDepth 100000 in
theorem mtrace_ok (w : World) (x : MV) (n K : Nat) (gx : GM w.heap x n n K) (hK : K ≤ 8796093022000) :
    Cl Tryz.prog 49 #[.agg (mvc x).toArray] w (RetZE w (psum (fun q => ent x n q q) n) (K + n)) := by
  obtain ⟨xr, xc, A, m, k, l⟩ := x
  obtain ⟨h1, h2, h3, h4, h5⟩ := id gx.sh
  dsimp only at h1 h2 h5
  subst h1 h2 h5
  have hm := mul64 gx.sh.r64 gx.sh.c64
  have hs := gx.s
  have hlen := hs.len
  dsimp only at hs hlen
  refine enter Tryz.func49 rfl rfl rfl ?_
  have hF := Fr.refl w
  repeat' (first | (refine TL.isOp ?_; first | (refine TL.isG ?_; first | refine TL.grun rfl rfl rfl ?_ | refine TL.gskip rfl rfl rfl rfl ?_ | refine TL.gskipU rfl rfl rfl ?_) | (refine TL.isCall ?_; refine TL.call rfl rfl ?_; first | (refine (chk_ok _ _ n n gx.sh).mono ?_; rintro _ wc ⟨rfl, hE⟩; replace hF := hF.exts hE; clear hE; refine Back.mk ?_)) | (refine TL.isBin ?_; refine TL.cmpG rfl rfl rfl rfl (fun hc => ?_) (fun hc => ?_) <;> (try (first | (exfalso; omega) | exact absurd rfl hc))) | (apply TL.ev; (case hd => rfl); (case h => (first | exact ev_simple rfl | (apply Ev.isBin; first | exact ev_arN rfl rfl rfl (by omega) | exact ev_arI rfl rfl rfl (by omega) | exact ev_eqlB (r := true) rfl rfl rfl | exact ev_eqlB (r := false) rfl rfl rfl | exact ev_neqB (r := true) rfl rfl rfl | exact ev_neqB (r := false) rfl rfl rfl) | (apply Ev.isLoad; first | exact ev_loadFr hF rfl (by refine ⟨?_, ?_⟩; (focus (repeat (first | exact InV.head | apply InV.tail))); rfl) | exact ev_loadAFr hF rfl (by refine ⟨?_, ?_⟩; (focus (repeat (first | exact InV.head | apply InV.tail))); rfl)) | exact ev_len rfl | exact ev_fieldAddr rfl | exact ev_field rfl rfl | exact ev_fieldA rfl rfl | exact ev_buildX rfl rfl | exact ev_makeFunc rfl | exact ev_nilCheck rfl | exact ev_neg rfl (by omega) | exact ev_cap rfl))) | (refine TL.storeAFr hF rfl rfl rfl rfl (by refine ⟨?_, ?_⟩; (focus (repeat (first | apply SetV.head | apply SetV.tail))); rfl) rfl ?_; clear hF; intro ws hF) | (refine TL.storeFr hF rfl rfl rfl rfl (by refine ⟨?_, ?_⟩; (focus (repeat (first | apply SetV.head | apply SetV.tail))); rfl) rfl ?_; clear hF; intro ws hF) | (refine TL.boxAFr hF (d := 1) (cs := [.int .i64 (n : Int), .int .i64 (n : Int), .slice A (n * n) k]) rfl rfl ?_; clear hF; intro w1 b1 hF) | (refine TL.allocFr hF (d := 2) rfl rfl ?_; clear hF; intro w2 b2 hF) | (refine TL.allocFr hF (d := 5) rfl rfl ?_; clear hF; intro w5 b5 hF) | (refine TL.boxAFr hF rfl rfl ?_; clear hF; intro wb bb hF) | (refine TL.boxFr hF rfl rfl ?_; clear hF; intro wb bb hF) | (refine TL.allocFr hF rfl rfl ?_; clear hF; intro wa ba hF)) | (refine T.is ?_; first | refine T.seq ?_ | refine T.region ?_ | refine T.block ?_ | refine T.cond_t rfl ?_ | refine T.cond_f rfl ?_ | refine T.exit ?_ | refine T.ret ?_ | refine T.skip ?_ | refine T.regionQ mixed (by kernel_rfl) ?_) | (refine G.is ?_; first | refine G.next ?_ | refine G.blockN ?_ | refine G.blockE ?_ | refine G.blockE' rfl ?_ | refine G.blockR ?_ | refine G.thenE ?_ | refine G.thenR ?_ | refine G.only ?_) | refine TL.nil ?_ | (refine TL.nilFr hF ?_; clear hF; intro wq hF))
  refine T.loop (α := Nat × IV) (fun x => [(1, .pointer (some ⟨b1, 0, none⟩)), (2, .pointer (some ⟨b2, 0, none⟩)), (5, .pointer (some ⟨b5, 0, none⟩)), (20, .int .i64 (n : Int)), (21, .int .i64 (x.1 : Int))])
    (fun x w' => x.1 ≤ n ∧ Fr w w' [⟨b5, 30, ivc x.2⟩, ⟨b2, 30, [.bool false, .slice none 0 0]⟩, ⟨b1, 27, [.int .i64 (n : Int), .int .i64 (n : Int), .slice A (n * n) k]⟩] [dpLI (psum (fun q => ival (l.getD (q * n + q) default)) x.1) x.2] ∧ x.2.m.n ≤ K + x.1)
    (fun x => n - x.1) (0, ⟨false, ⟨none, 0, 0, []⟩⟩) (by repeat (first | exact Sub.nil _ | refine Sub.cons rfl ?_ | refine Sub.cons' rfl (int_congr (by omega)) ?_)) ⟨Nat.zero_le _, Fr.addLI hF (LI.zero _), Nat.zero_le _⟩ ?_
  clear hF
  rintro ⟨q, s⟩ w2 ⟨hq, hF, hKs⟩
  dsimp only at hq hF hKs ⊢
  rcases Nat.lt_or_ge q n with hqn | hqn
  · have hp := place_lt hqn hqn
    have y1 : l[q * n + q]? = some (l.getD (q * n + q) default) := by simp [List.getD, show q * n + q < l.length by omega]
    obtain ⟨g1, n1⟩ := gx.g _ (List.mem_of_getElem? y1)
    have hstep : psum (fun q => ival (l.getD (q * n + q) default)) (q + 1) = ival s + ival (l.getD (q * n + q) default) := by rw [(Fr.li hF (x := s) (by repeat (first | exact memH | apply memT))).val, Int.add_comm]; rfl
    generalize l.getD (q * n + q) default = x1 at *
    repeat' (first | (refine TL.isOp ?_; first | (refine TL.isG ?_; first | refine TL.grun rfl rfl rfl ?_ | refine TL.gskip rfl rfl rfl rfl ?_ | refine TL.gskipU rfl rfl rfl ?_) | (refine TL.isCall ?_; refine TL.call rfl rfl ?_; first | (refine (zadd_ok _ s x1 (Fr.li hF (by repeat (first | exact memH | apply memT))).g (g1.ext hF.ext) (by omega) (by omega)).mono ?_; rintro _ wm ⟨s', rfl, hLm, hE, hKm⟩; rw [← hstep] at hLm; replace hF := Fr.addLI (hF.exts hE) hLm; clear hE; refine Back.mk ?_)) | (refine TL.isBin ?_; refine TL.cmpG rfl rfl rfl rfl (fun hc => ?_) (fun hc => ?_) <;> (try (first | (exfalso; omega) | exact absurd rfl hc))) | (apply TL.ev; (case hd => rfl); (case h => (first | exact ev_simple rfl | (apply Ev.isBin; first | exact ev_arN rfl rfl rfl (by omega) | exact ev_arI rfl rfl rfl (by omega) | exact ev_eqlB (r := true) rfl rfl rfl | exact ev_eqlB (r := false) rfl rfl rfl | exact ev_neqB (r := true) rfl rfl rfl | exact ev_neqB (r := false) rfl rfl rfl) | (apply Ev.isLoad; first | exact ev_loadFr hF rfl (by refine ⟨?_, ?_⟩; (focus (repeat (first | exact InV.head | apply InV.tail))); rfl) | exact ev_loadAFr hF rfl (by refine ⟨?_, ?_⟩; (focus (repeat (first | exact InV.head | apply InV.tail))); rfl) | exact ev_loadM rfl (hs.ext hF.ext) y1) | exact ev_len rfl | exact ev_fieldAddr rfl | exact ev_field rfl rfl | exact ev_fieldA rfl rfl | exact ev_buildX rfl rfl | exact ev_makeFunc rfl | exact ev_nilCheck rfl | exact ev_neg rfl (by omega) | exact ev_cap rfl | exact ev_indexM rfl rfl hp (hs.ext hF.ext).some))) | (refine TL.storeAFr hF rfl rfl rfl rfl (by refine ⟨?_, ?_⟩; (focus (repeat (first | apply SetV.head | apply SetV.tail))); rfl) rfl ?_; clear hF; intro ws hF) | (refine TL.storeFr hF rfl rfl rfl rfl (by refine ⟨?_, ?_⟩; (focus (repeat (first | apply SetV.head | apply SetV.tail))); rfl) rfl ?_; clear hF; intro ws hF) | (refine TL.boxAFr hF rfl rfl ?_; clear hF; intro wb bb hF) | (refine TL.boxFr hF rfl rfl ?_; clear hF; intro wb bb hF) | (refine TL.allocFr hF rfl rfl ?_; clear hF; intro wa ba hF)) | (refine TF.is ?_; first | refine TF.nil ?_ | refine TF.e rfl ?_ | refine TF.alt ?_ ?_ | (refine TF.pick rfl ?_; first | (refine TFo.cmpG rfl rfl rfl rfl (fun hc => ?_) (fun hc => ?_) <;> (try (first | (exfalso; omega) | exact absurd rfl hc))) | (refine TFo.cmpGg rfl rfl rfl rfl rfl rfl rfl (fun hc => ?_) (fun hc => ?_) <;> (try (first | (exfalso; omega) | exact absurd rfl hc))) | (apply TFo.ev; (case hd => rfl); (case h => (intro wh hF; first | exact ev_simple rfl | (apply Ev.isBin; first | exact ev_arN rfl rfl rfl (by omega) | exact ev_arI rfl rfl rfl (by omega) | exact ev_eqlB (r := true) rfl rfl rfl | exact ev_eqlB (r := false) rfl rfl rfl | exact ev_neqB (r := true) rfl rfl rfl | exact ev_neqB (r := false) rfl rfl rfl) | (apply Ev.isLoad; first | exact ev_loadFr hF rfl (by refine ⟨?_, ?_⟩; (focus (repeat (first | exact InV.head | apply InV.tail))); rfl) | exact ev_loadAFr hF rfl (by refine ⟨?_, ?_⟩; (focus (repeat (first | exact InV.head | apply InV.tail))); rfl) | exact ev_loadM rfl (hs.ext hF.ext) y1) | exact ev_len rfl | exact ev_fieldAddr rfl | exact ev_field rfl rfl | exact ev_fieldA rfl rfl | exact ev_buildX rfl rfl | exact ev_makeFunc rfl | exact ev_nilCheck rfl | exact ev_neg rfl (by omega) | exact ev_cap rfl | exact ev_indexM rfl rfl hp (hs.ext hF.ext).some))) | (apply TFo.evg rfl rfl rfl; (case hd => rfl); (case h => (intro wh hF; first | exact ev_simple rfl | (apply Ev.isBin; first | exact ev_arN rfl rfl rfl (by omega) | exact ev_arI rfl rfl rfl (by omega) | exact ev_eqlB (r := true) rfl rfl rfl | exact ev_eqlB (r := false) rfl rfl rfl | exact ev_neqB (r := true) rfl rfl rfl | exact ev_neqB (r := false) rfl rfl rfl) | (apply Ev.isLoad; first | exact ev_loadFr hF rfl (by refine ⟨?_, ?_⟩; (focus (repeat (first | exact InV.head | apply InV.tail))); rfl) | exact ev_loadAFr hF rfl (by refine ⟨?_, ?_⟩; (focus (repeat (first | exact InV.head | apply InV.tail))); rfl) | exact ev_loadM rfl (hs.ext hF.ext) y1) | exact ev_len rfl | exact ev_fieldAddr rfl | exact ev_field rfl rfl | exact ev_fieldA rfl rfl | exact ev_buildX rfl rfl | exact ev_makeFunc rfl | exact ev_nilCheck rfl | exact ev_neg rfl (by omega) | exact ev_cap rfl | exact ev_indexM rfl rfl hp (hs.ext hF.ext).some))) | refine TFo.skip rfl rfl rfl rfl ?_ | refine TFo.skipU rfl rfl rfl ?_)) | (refine T.is ?_; first | refine T.seq ?_ | refine T.region ?_ | refine T.block ?_ | refine T.cond_t rfl ?_ | refine T.cond_f rfl ?_ | refine T.exit ?_ | refine T.ret ?_ | refine T.skip ?_ | (refine T.regionFr hF 10 12 (.s 0 (.s 1 (.s 2 (.s 3 (.s 4 (.s 5 (.s 6 (.s 7 (.s 8 (.s 9 (.s 10 (.e 11 (.e 12 .nil))))))))))))) mixed (by kernel_rfl) ?_; clear hF; intro wr hF) | refine T.regionQ mixed (by kernel_rfl) ?_) | (refine G.is ?_; first | refine G.next ?_ | refine G.blockN ?_ | refine G.blockE ?_ | refine G.blockE' rfl ?_ | refine G.blockR ?_ | refine G.thenE ?_ | refine G.thenR ?_ | refine G.only ?_ | refine G.treeEnd rfl ?_ | refine G.tree rfl (by first | exact hF | exact hF.weak (by repeat (first | exact List.Sublist.refl _ | apply List.Sublist.cons)) (by repeat (first | exact allR | apply allT)) | exact hF.weak (by repeat (first | exact List.Sublist.refl _ | apply List.Sublist.cons)) (by repeat (first | exact allN | refine allH (by repeat (first | exact memH | apply memT)) ?_))) ?_) | refine TL.nil ?_ | (refine TL.nilFr hF ?_; clear hF; intro wq hF))
    exact G.again (q + 1, s') (by repeat (first | exact Sub.nil _ | refine Sub.cons rfl ?_ | refine Sub.cons' rfl (int_congr (by omega)) ?_)) ⟨by dsimp only; omega, hF.weak (List.Sublist.refl _) (allH (by repeat (first | exact memH | apply memT)) allN), by dsimp only; omega⟩ (by dsimp only; omega)
  · obtain rfl : q = n := by omega
    repeat' (first | (refine TL.isOp ?_; first | (refine TL.isG ?_; first | refine TL.grun rfl rfl rfl ?_ | refine TL.gskip rfl rfl rfl rfl ?_ | refine TL.gskipU rfl rfl rfl ?_) | (refine TL.isBin ?_; refine TL.cmpG rfl rfl rfl rfl (fun hc => ?_) (fun hc => ?_) <;> (try (first | (exfalso; omega) | exact absurd rfl hc))) | (apply TL.ev; (case hd => rfl); (case h => (first | exact ev_simple rfl | (apply Ev.isBin; first | exact ev_arN rfl rfl rfl (by omega) | exact ev_arI rfl rfl rfl (by omega) | exact ev_eqlB (r := true) rfl rfl rfl | exact ev_eqlB (r := false) rfl rfl rfl | exact ev_neqB (r := true) rfl rfl rfl | exact ev_neqB (r := false) rfl rfl rfl) | (apply Ev.isLoad; first | exact ev_loadFr hF rfl (by refine ⟨?_, ?_⟩; (focus (repeat (first | exact InV.head | apply InV.tail))); rfl) | exact ev_loadAFr hF rfl (by refine ⟨?_, ?_⟩; (focus (repeat (first | exact InV.head | apply InV.tail))); rfl)) | exact ev_len rfl | exact ev_fieldAddr rfl | exact ev_field rfl rfl | exact ev_fieldA rfl rfl | exact ev_buildX rfl rfl | exact ev_makeFunc rfl | exact ev_nilCheck rfl | exact ev_neg rfl (by omega) | exact ev_cap rfl))) | (refine TL.storeAFr hF rfl rfl rfl rfl (by refine ⟨?_, ?_⟩; (focus (repeat (first | apply SetV.head | apply SetV.tail))); rfl) rfl ?_; clear hF; intro ws hF) | (refine TL.storeFr hF rfl rfl rfl rfl (by refine ⟨?_, ?_⟩; (focus (repeat (first | apply SetV.head | apply SetV.tail))); rfl) rfl ?_; clear hF; intro ws hF) | (refine TL.boxAFr hF rfl rfl ?_; clear hF; intro wb bb hF) | (refine TL.boxFr hF rfl rfl ?_; clear hF; intro wb bb hF) | (refine TL.allocFr hF rfl rfl ?_; clear hF; intro wa ba hF)) | (refine T.is ?_; first | refine T.seq ?_ | refine T.region ?_ | refine T.block ?_ | refine T.cond_t rfl ?_ | refine T.cond_f rfl ?_ | refine T.exit ?_ | refine T.ret ?_ | refine T.skip ?_ | refine T.regionQ mixed (by kernel_rfl) ?_) | (refine G.is ?_; first | refine G.next ?_ | refine G.blockN ?_ | refine G.blockE ?_ | refine G.blockE' rfl ?_ | refine G.blockR ?_ | refine G.thenE ?_ | refine G.thenR ?_ | refine G.only ?_) | refine TL.nil ?_ | (refine TL.nilFr hF ?_; clear hF; intro wq hF))
    exact G.retC2 rfl rfl rfl (held_agg (hF.var (by repeat (first | exact InV.head | apply InV.tail))) rfl) ⟨s, rfl, Fr.li hF (by repeat (first | exact memH | apply memT)), hF.ext, hKs⟩
end Go.Proofs.YtlhmehikajidhaaGreat
namespace Go.Proofs.YtlhmehikajidhaaGreat
open Go Go.Eng Go.Proofs Go.NatM Go.RowKit
theorem least_each (w : World) (l : List IV) (K : Nat) (hg : ∀ y ∈ l, GI w.heap y ∧ y.m.n ≤ K) (hK : K ≤ 35184372088832) :
    ∀ i y (w1 : World), l[i]? = some y → Ext w w1 → Cl Tryz.prog 91 ([Value.agg (ivc y).toArray] ++ []).toArray w1 (RetZ w1 ((fun q => ival (l.getD q default)) i) K) := by
  intro i y w1 hy hE
  obtain ⟨g1, g2⟩ := hg y (List.mem_of_getElem? hy)
  refine (zleast_ok w1 y (g1.ext hE) (by omega)).mono ?_
  rintro e w' ⟨x, rfl, h1, h2, h3⟩
  refine ⟨x, rfl, ?_, h2, by omega⟩
  have e1 : l.getD i default = y := by simp [List.getD, hy]
  simp only [e1]
  exact h1
theorem LL.lm {H : Array Obj} {x : MV} {r c K k : Nat} {A : Option Addr} {l : List IV} (sh : Sound x r c) (h : LL H A (r * c) k l (fun q => ival (x.l.getD q default)) K) : LM H ⟨r, c, A, r * c, k, l⟩ r c (ent x c) K :=
  ⟨⟨rfl, rfl, sh.r64, sh.c64, rfl⟩, h.s, fun i j hi hj => h.g (i * c + j) (place_lt hi hj)⟩
theorem LF.mf {w : World} {A : Option Addr} {r c k : Nat} {l : List IV} {n : Nat} (h : LF w A n) : MF w ⟨r, c, A, n, k, l⟩ := h
set_option maxRecDepth 100000 in
theorem mleast_ok (w : World) (x : MV) (r c K : Nat) (gx : GM w.heap x r c K) (hK : K ≤ 35184372088832) : Cl Tryz.prog 95 #[.agg (mvc x).toArray] w (RetME w r c (ent x c) K) := by
  have hs0 := gx.sh
  obtain ⟨xr, xc, A1, n1, k1, l1⟩ := x
  obtain ⟨hr1, hc1, hr, hc, hn1⟩ := hs0
  dsimp only at hr1 hc1 hn1
  subst hr1 hc1 hn1
  have hm := mul64 hr hc
  refine enter Tryz.func95 rfl rfl rfl ?_
  have hF := Fr.refl w
  repeat' (first | (refine TL.isOp ?_; first | (refine TL.isCall ?_; refine TL.call rfl rfl ?_; first | (refine (chk_ok _ _ r c gx.sh).mono ?_; rintro _ wy ⟨rfl, hE⟩; replace hF := hF.exts hE; clear hE; refine Back.mk ?_) | (refine (each_ok _ A1 (r * c) k1 l1 (gx.s.ext hF.ext).size (by omega) 91 [] inferInstance _ K (least_each _ l1 K (fun y hy => ⟨(gx.g y hy).1.ext hF.ext, (gx.g y hy).2⟩) hK)).mono ?_; rintro _ wl ⟨Al, kl, ll, rfl, hL, hE, hf⟩; have hLm := LL.lm gx.sh hL; have hMf := LF.mf (r := r) (c := c) (k := kl) (l := ll) hf; replace hMf := hMf.mono hF.ext.size; replace hF := Fr.addLM hF hE hLm (LF.mf hf); clear hE hf hL hLm; refine Back.mk ?_)) | (refine TL.isBin ?_; refine TL.cmpG rfl rfl rfl rfl (fun hc => ?_) (fun hc => ?_) <;> (try (first | (exfalso; omega) | exact absurd rfl hc))) | (apply TL.ev; (case hd => rfl); (case h => (first | exact ev_simple rfl | (apply Ev.isLoad; first | exact ev_loadAFr hF rfl (by refine ⟨?_, ?_⟩; (focus (repeat (first | exact InV.head | apply InV.tail))); rfl))))) | (refine TL.storeAFr hF rfl rfl rfl rfl (by refine ⟨?_, ?_⟩; (focus (repeat (first | apply SetV.head | apply SetV.tail))); rfl) rfl ?_; clear hF; intro ws hF) | (refine TL.boxAFr hF (d := 1) (cs := [.int .i64 (r : Int), .int .i64 (c : Int), .slice A1 (r * c) k1]) rfl rfl ?_; clear hF; intro w1 b1 hF) | (refine TL.allocFr hF (d := 2) rfl rfl ?_; clear hF; intro w2 b2 hF)) | (refine TF.is ?_; first | refine TF.nil ?_ | refine TF.e rfl ?_ | (refine TF.pick rfl ?_; first | (apply TFo.ev; (case hd => rfl); (case h => (intro wh hF; first | exact ev_simple rfl | (apply Ev.isLoad; first | exact ev_loadFr hF rfl (by refine ⟨?_, ?_⟩; (focus (repeat (first | exact InV.head | apply InV.tail))); rfl)) | exact ev_fieldAddr rfl | exact ev_buildX rfl rfl))))) | (refine T.is ?_; first | refine T.seq ?_ | refine T.region ?_ | refine T.cond_f rfl ?_ | refine T.ret ?_ | refine T.skip ?_ | (refine T.regionFt hF 4 10 (.s 0 (.s 1 (.s 2 (.s 3 (.s 4 (.s 5 (.e 6 (.s 7 (.e 8 (.s 9 .nil)))))))))) mixed (by kernel_rfl) ?_; clear hF; intro wr hF)) | (refine G.is ?_; first | refine G.next ?_ | refine G.only ?_ | refine G.tree rfl (by first | exact hF | exact hF.weak (by repeat (first | exact List.Sublist.refl _ | apply List.Sublist.cons)) (by repeat (first | exact allR | apply allT)) | exact hF.weak (by repeat (first | exact List.Sublist.refl _ | apply List.Sublist.cons)) (by repeat (first | exact allN | refine allH (by repeat (first | exact memH | apply memT)) ?_))) ?_) | refine TL.nil ?_)
  exact G.retC2 rfl rfl rfl (held_agg (hF.var (by repeat (first | exact InV.head | apply InV.tail))) rfl) ⟨⟨r, c, Al, r * c, kl, ll⟩, rfl, Fr.lm hF (by repeat (first | exact memH | apply memT)), hF.ext, hMf⟩
structure InR (x : MV) : Prop where
  r : -9223372036854775808 ≤ x.r ∧ x.r < 9223372036854775808
  c : -9223372036854775808 ≤ x.c ∧ x.c < 9223372036854775808
theorem chk_bad (w : World) (x : MV) (hx : InR x) (hn : ¬ ∃ r c, Sound x r c) : Cl Tryz.prog 66 #[.agg (mvc x).toArray] w (fun e w' => e = .returned (.int .i64 1) ∧ Ext w w') := by
  obtain ⟨xr, xc, A, n, k, l⟩ := x
  obtain ⟨hr, hc⟩ := hx
  dsimp only at hr hc
  by_cases h1 : 0 ≤ xr ∧ xr ≤ 64
  · by_cases h2 : 0 ≤ xc ∧ xc ≤ 64
    · obtain ⟨r, rfl⟩ := Int.eq_ofNat_of_zero_le h1.1
      obtain ⟨c, rfl⟩ := Int.eq_ofNat_of_zero_le h2.1
      have hm := mul64 (r := r) (c := c) (by omega) (by omega)
      have hne : n ≠ r * c := fun e => hn ⟨r, c, rfl, rfl, by omega, by omega, e⟩
      refine enter Tryz.func66 rfl rfl rfl ?_
      have hF := Fr.refl w
      repeat' (first | (refine TL.isOp ?_; first | (refine TL.isG ?_; first | refine TL.grun rfl rfl rfl ?_) | (refine TL.isCall ?_; refine TL.call rfl rfl ?_; first | (refine (side_ok _ _ true (decide_eq_true (by omega))).cl.mono ?_; rintro _ wc ⟨rfl, hE⟩; replace hF := hF.exts hE.ext; clear hE; refine Back.mk ?_)) | (refine TL.isBin ?_; refine TL.cmpG rfl rfl rfl rfl (fun hc => ?_) (fun hc => ?_) <;> (try (first | (exfalso; omega) | exact absurd rfl hc))) | (apply TL.ev; (case hd => rfl); (case h => (first | exact ev_simple rfl | (apply Ev.isBin; first | exact ev_arN rfl rfl rfl (by omega)) | (apply Ev.isLoad; first | exact ev_loadFr hF rfl (by refine ⟨?_, ?_⟩; (focus (repeat (first | exact InV.head | apply InV.tail))); rfl)) | exact ev_len rfl | exact ev_fieldAddr rfl))) | (refine TL.boxAFr hF (d := 1) (cs := [.int .i64 (r : Int), .int .i64 (c : Int), .slice A n k]) rfl rfl ?_; clear hF; intro w1 b1 hF)) | (refine T.is ?_; first | refine T.seq ?_ | refine T.region ?_ | refine T.cond_t rfl ?_ | refine T.ret ?_) | (refine G.is ?_; first | refine G.next ?_ | refine G.thenR ?_) | refine TL.nil ?_)
      exact G.ret1 rfl rfl ⟨rfl, hF.ext⟩
    · refine enter Tryz.func66 rfl rfl rfl ?_
      have hF := Fr.refl w
      repeat' (first | (refine TL.isOp ?_; first | (refine TL.isG ?_; first | refine TL.grun rfl rfl rfl ?_ | refine TL.gskip rfl rfl rfl rfl ?_) | (refine TL.isCall ?_; refine TL.call rfl rfl ?_; first | (refine (side_ok _ xr true (decide_eq_true (by omega))).cl.mono ?_; rintro _ wc ⟨rfl, hE⟩; replace hF := hF.exts hE.ext; clear hE; refine Back.mk ?_) | (refine (side_ok _ xc false (decide_eq_false (by omega))).cl.mono ?_; rintro _ wc ⟨rfl, hE⟩; replace hF := hF.exts hE.ext; clear hE; refine Back.mk ?_)) | (apply TL.ev; (case hd => rfl); (case h => (first | exact ev_simple rfl | (apply Ev.isLoad; first | exact ev_loadFr hF rfl (by refine ⟨?_, ?_⟩; (focus (repeat (first | exact InV.head | apply InV.tail))); rfl)) | exact ev_fieldAddr rfl))) | (refine TL.boxAFr hF (d := 1) (cs := [.int .i64 xr, .int .i64 xc, .slice A n k]) rfl rfl ?_; clear hF; intro w1 b1 hF)) | (refine T.is ?_; first | refine T.seq ?_ | refine T.region ?_ | refine T.cond_t rfl ?_ | refine T.ret ?_) | (refine G.is ?_; first | refine G.next ?_ | refine G.thenR ?_) | refine TL.nil ?_)
      exact G.ret1 rfl rfl ⟨rfl, hF.ext⟩
  · refine enter Tryz.func66 rfl rfl rfl ?_
    have hF := Fr.refl w
    repeat' (first | (refine TL.isOp ?_; first | (refine TL.isG ?_; first | refine TL.gskip rfl rfl rfl rfl ?_) | (refine TL.isCall ?_; refine TL.call rfl rfl ?_; first | (refine (side_ok _ xr false (decide_eq_false (by omega))).cl.mono ?_; rintro _ wc ⟨rfl, hE⟩; replace hF := hF.exts hE.ext; clear hE; refine Back.mk ?_)) | (apply TL.ev; (case hd => rfl); (case h => (first | exact ev_simple rfl | (apply Ev.isLoad; first | exact ev_loadFr hF rfl (by refine ⟨?_, ?_⟩; (focus (repeat (first | exact InV.head | apply InV.tail))); rfl)) | exact ev_fieldAddr rfl))) | (refine TL.boxAFr hF (d := 1) (cs := [.int .i64 xr, .int .i64 xc, .slice A n k]) rfl rfl ?_; clear hF; intro w1 b1 hF)) | (refine T.is ?_; first | refine T.seq ?_ | refine T.region ?_ | refine T.cond_t rfl ?_ | refine T.ret ?_) | (refine G.is ?_; first | refine G.next ?_ | refine G.thenR ?_) | refine TL.nil ?_)
    exact G.ret1 rfl rfl ⟨rfl, hF.ext⟩
theorem mleast_bad (w : World) (x : MV) (hx : InR x) (hn : ¬ ∃ r c, Sound x r c) : Cl Tryz.prog 95 #[.agg (mvc x).toArray] w (RetMF w 1) := by
  have hck := fun w => chk_bad w x hx hn
  obtain ⟨xr, xc, A, n, k, l⟩ := x
  refine enter Tryz.func95 rfl rfl rfl ?_
  have hF := Fr.refl w
  repeat' (first | (refine TL.isOp ?_; first | (refine TL.isCall ?_; refine TL.call rfl rfl ?_; first | (refine (hck _).mono ?_; rintro _ wy ⟨rfl, hE⟩; replace hF := hF.exts hE; clear hE; refine Back.mk ?_)) | (refine TL.isBin ?_; refine TL.cmpG rfl rfl rfl rfl (fun hc => ?_) (fun hc => ?_) <;> (try (first | (exfalso; omega) | exact absurd rfl hc))) | (apply TL.ev; (case hd => rfl); (case h => (first | exact ev_simple rfl | (apply Ev.isLoad; first | exact ev_loadAFr hF rfl (by refine ⟨?_, ?_⟩; (focus (repeat (first | exact InV.head | apply InV.tail))); rfl)) | exact ev_buildX rfl rfl))) | (refine TL.storeAFr hF rfl rfl rfl rfl (by refine ⟨?_, ?_⟩; (focus (repeat (first | apply SetV.head | apply SetV.tail))); rfl) rfl ?_; clear hF; intro ws hF) | (refine TL.boxAFr hF (d := 1) (cs := [.int .i64 xr, .int .i64 xc, .slice A n k]) rfl rfl ?_; clear hF; intro w1 b1 hF) | (refine TL.allocFr hF (d := 2) rfl rfl ?_; clear hF; intro w2 b2 hF)) | (refine T.is ?_; first | refine T.seq ?_ | refine T.region ?_ | refine T.cond_t rfl ?_ | refine T.ret ?_) | (refine G.is ?_; first | refine G.next ?_ | refine G.thenR ?_) | refine TL.nil ?_)
  exact G.retC2 rfl rfl rfl (held_agg (hF.var (by repeat (first | exact InV.head | apply InV.tail))) rfl) ⟨rfl, hF.ext⟩
def RetIt (w : World) (r c : Nat) (F : Nat → Nat → Int) (K : Nat) (e : Ending) (w' : World) : Prop := ∃ (b : Nat) (A : Option Addr) (k : Nat) (l : List IV), e = .returned (.func (.func 96) #[] #[.pointer (some ⟨b, 0, none⟩)]) ∧
  Vr w'.heap b 27 [.int .i64 (r : Int), .int .i64 (c : Int), .slice A (r * c) k] ∧ LM w'.heap ⟨r, c, A, r * c, k, l⟩ r c F K ∧ Ext w w' ∧ w.heap.size ≤ b ∧ MF w ⟨r, c, A, r * c, k, l⟩
theorem lm_zero (H : Array Obj) (F : Nat → Nat → Int) (K : Nat) : LM H ⟨(0 : Nat), (0 : Nat), none, 0 * 0, 0, []⟩ 0 0 F K :=
  ⟨⟨rfl, rfl, by omega, by omega, rfl⟩, ⟨rfl, Nat.le_refl _, by omega, fun x hx => (by cases hx), .inl rfl⟩, fun i j hi => absurd hi (Nat.not_lt_zero _)⟩
theorem lines_ok (w : World) (x : MV) (r c K : Nat) (gx : GM w.heap x r c K) (hK : K ≤ 35184372088832) : Cl Tryz.prog 54 #[.agg (mvc x).toArray] w (RetIt w r c (ent x c) K) := by
  have hl := fun w1 (hE : Ext w w1) => mleast_ok w1 x r c K (gx.ext hE) hK
  obtain ⟨xr, xc, A, n, k, l⟩ := x
  refine enter Tryz.func54 rfl rfl rfl ?_
  have hF := Fr.refl w
  repeat' (first | (refine TL.isOp ?_; first | (refine TL.isCall ?_; refine TL.call rfl rfl ?_; first | (refine (hl _ hF.ext).mono ?_; rintro _ wu ⟨zu, rfl, hLu, hE, hf⟩; obtain ⟨Au, ku, lu, rfl⟩ := lm_mk hLu; rw [mvc_mk _ _ Au]; have hfu := hf.mono hF.ext.size; replace hF := Fr.addLM hF hE hLu hf; clear hE hf hLu; refine Back.mk ?_)) | (apply TL.ev; (case hd => rfl); (case h => (first | exact ev_simple rfl | (apply Ev.isLoad; first | exact ev_loadAFr hF rfl (by refine ⟨?_, ?_⟩; (focus (repeat (first | exact InV.head | apply InV.tail))); rfl)) | exact ev_makeFunc rfl))) | (refine TL.storeAFr hF rfl rfl rfl rfl (by refine ⟨?_, ?_⟩; (focus (repeat (first | apply SetV.head | apply SetV.tail))); rfl) rfl ?_; clear hF; intro ws hF) | (refine TL.boxAFr hF (d := 1) (cs := [.int .i64 xr, .int .i64 xc, .slice A n k]) rfl rfl ?_; clear hF; intro w1 b1 hF) | (refine TL.allocFr hF (d := 3) rfl rfl ?_; clear hF; intro w3 b3 hF)) | (refine T.is ?_; first | refine T.seq ?_ | refine T.region ?_ | refine T.ret ?_) | (refine G.is ?_; first | refine G.next ?_) | refine TL.nil ?_)
  have hlo := hF.lo (.head (b := b3))
  exact G.ret1 rfl rfl ⟨b3, Au, ku, lu, rfl, hF.var (by repeat (first | exact InV.head | apply InV.tail)), Fr.lm hF (by repeat (first | exact memH | apply memT)), hF.ext, hlo.resolve_right id, hfu⟩
theorem lines_bad (w : World) (x : MV) (hx : InR x) (hn : ¬ ∃ r c, Sound x r c) (F : Nat → Nat → Int) (K : Nat) : Cl Tryz.prog 54 #[.agg (mvc x).toArray] w (RetIt w 0 0 F K) := by
  have hl := fun w1 => mleast_bad w1 x hx hn
  obtain ⟨xr, xc, A, n, k, l⟩ := x
  refine enter Tryz.func54 rfl rfl rfl ?_
  have hF := Fr.refl w
  repeat' (first | (refine TL.isOp ?_; first | (refine TL.isCall ?_; refine TL.call rfl rfl ?_; first | (refine (hl _).mono ?_; rintro _ wu ⟨rfl, hE⟩; replace hF := hF.exts hE; clear hE; refine Back.mk ?_)) | (apply TL.ev; (case hd => rfl); (case h => (first | exact ev_simple rfl | (apply Ev.isLoad; first | exact ev_loadAFr hF rfl (by refine ⟨?_, ?_⟩; (focus (repeat (first | exact InV.head | apply InV.tail))); rfl)) | exact ev_makeFunc rfl))) | (refine TL.storeAFr hF rfl rfl rfl rfl (by refine ⟨?_, ?_⟩; (focus (repeat (first | apply SetV.head | apply SetV.tail))); rfl) rfl ?_; clear hF; intro ws hF) | (refine TL.boxAFr hF (d := 1) (cs := [.int .i64 xr, .int .i64 xc, .slice A n k]) rfl rfl ?_; clear hF; intro w1 b1 hF) | (refine TL.allocFr hF (d := 3) rfl rfl ?_; clear hF; intro w3 b3 hF)) | (refine T.is ?_; first | refine T.seq ?_ | refine T.region ?_ | refine T.ret ?_) | (refine G.is ?_; first | refine G.next ?_) | refine TL.nil ?_)
  have hlo := hF.lo (.head (b := b3))
  exact G.ret1 rfl rfl ⟨b3, none, 0, [], rfl, hF.var (by repeat (first | exact InV.head | apply InV.tail)), lm_zero _ _ _, hF.ext, hlo.resolve_right id, .inl rfl⟩
theorem Sm.sub {α : Type} {k : Nat} {f : α → List Value} {H : Array Obj} {B n c lo m : Nat} {A : Option Addr} {l : List α} (h : Sm k f H B A n c l) (hm : lo + m ≤ n) : Sm k f H B (elemA A (lo * k)) m (c - lo) ((l.drop lo).take m) := by
  have hlen := h.len
  have hcap := h.cap
  refine ⟨by rw [List.length_take, List.length_drop]; omega, by omega, h.pos, fun x hx => h.wid x (List.mem_of_mem_drop (List.mem_of_mem_take hx)), ?_⟩
  rcases Nat.eq_zero_or_pos m with h0 | h0
  · exact .inl h0
  · rcases h.mem with h1 | ⟨b, o, e, hlt, hc⟩
    · omega
    · refine .inr ⟨b, o + lo * k, by rw [e]; simp [elemA, add_mk], hlt, fun j x hx q v hv => ?_⟩
      have h2 : l[lo + j]? = some x := by
        rw [List.getElem?_take] at hx
        split at hx
        · rwa [List.getElem?_drop] at hx
        · cases hx
      have := hc (lo + j) x h2 q v hv
      rw [Nat.add_mul] at this
      rw [show o + lo * k + (j * k + q) = o + (lo * k + j * k + q) by omega]
      exact this
structure RowV where
  i : Nat
  A : Option Addr
  n : Nat
  k : Nat
  l : List IV
def rowA (x : RowV) : List Value := [.int .i64 (x.i : Int), .slice x.A x.n x.k]
theorem LL.congr {H : Array Obj} {A : Option Addr} {n k K : Nat} {l : List IV} {Z Z' : Nat → Int} (h : LL H A n k l Z K) (e : ∀ q, q < n → Z q = Z' q) : LL H A n k l Z' K := ⟨h.s, fun q hq => by rw [← e q hq]; exact h.g q hq⟩
theorem row_sub (i c : Nat) : (i + 1) * c - i * c = c := by rw [Nat.add_mul, Nat.one_mul]; omega
theorem ev_rowSl {P : Program} {σ : Store} {H : Array Obj} {d : Option Tmp} {t : TypeId} {pos : String} {af : Array Edge} {gd : Option (Nat × Bool)} {x : Operand} {A : Option Addr} {n cc i c : Nat} {ty e : TypeId} [hT : USlice P ty e] {z : Value} {b1 : Nat} [hS : USize P e z 2 b1] {y u : Operand}
    (hx : Eng.look σ x = some (.slice A n cc)) (hy : Eng.look σ y = some (.int .i64 ((i * c : Nat) : Int))) (hu : Eng.look σ u = some (.int .i64 (((i + 1) * c : Nat) : Int))) (hn : (i + 1) * c ≤ cc) :
    Ev P σ H ⟨d, .slice ty x (some y) (some u) none, t, pos, af, gd⟩ (.slice (cutM 2 A cc (i * c)) c (cc - i * c)) := by
  have := ev_slM_lh (P := P) (σ := σ) (H := H) (d := d) (t := t) (pos := pos) (af := af) (gd := gd) (ty := ty) (l := i * c) (h := (i + 1) * c) hx hy hu (Nat.mul_le_mul_right c (Nat.le_succ i)) hn
  rwa [row_sub] at this
set_option maxRecDepth 100000 in
theorem lines_iter (b r c K k : Nat) (A : Option Addr) (l : List IV) (F : Nat → Nat → Int) (hK : K ≤ 35184372088832) :
    Iter Tryz.prog 96 [.pointer (some ⟨b, 0, none⟩)] rowA r (fun W => Vr W.heap b 27 [.int .i64 (r : Int), .int .i64 (c : Int), .slice A (r * c) k] ∧ LM W.heap ⟨r, c, A, r * c, k, l⟩ r c F K)
      (fun i x Wb W => x.i = i ∧ x.n = c ∧ LL W.heap x.A c x.k x.l (F i) K ∧ LF Wb x.A c) := by
  intro l' J Jx W hJ hJx hIt h0 hY
  obtain ⟨hV, hL⟩ := hIt
  have hr := hL.sh.r64
  have hc64 := hL.sh.c64
  have hkk := hL.s.cap
  dsimp only at hkk
  have hm := mul64 hr hc64
  refine (enterM Tryz.func96 rfl rfl rfl (fun _ h => by obtain ⟨⟨v, hv⟩, _⟩ := h; cases hv) ?_).out
  have hF := Fr.refl W
  repeat' (first | (refine TL.isOp ?_; first | (apply TL.ev; (case hd => rfl); (case h => (first | exact ev_simple rfl | (apply Ev.isLoad; first | exact ev_loadV rfl (hV.ext hF.ext) rfl) | exact ev_fieldAddr rfl)))) | (refine G.is ?_; first | refine G.nextL ?_ | refine G.nextI ?_) | refine TL.nil ?_ | (refine TI.is ?_; first | refine TI.seq ?_ | refine TI.regionI ?_ | refine TI.block ?_) | (refine TLI.is ?_; first | refine TLI.nil ?_ | refine TLI.step rfl ?_))
  refine TI.loop (α := Nat) (fun i => [(0, .func (.yield l') #[] #[]), (1, .pointer (some ⟨b, 0, none⟩)), (5, .int .i64 (r : Int)), (6, .int .i64 (i : Int))])
    (fun i W' => i ≤ r ∧ J i W' ∧ Vr W'.heap b 27 [.int .i64 (r : Int), .int .i64 (c : Int), .slice A (r * c) k] ∧ LM W'.heap ⟨r, c, A, r * c, k, l⟩ r c F K) (fun i => r - i) 0 (by repeat (first | exact Sub.nil _ | refine Sub.cons rfl ?_ | refine Sub.cons' rfl (int_congr (by omega)) ?_)) ⟨Nat.zero_le _, h0, hV, hL⟩ ?_
  clear hF hV hL h0
  rintro i W1 ⟨hi, hj, hV, hL⟩
  have hF := Fr.refl W1
  rcases Nat.lt_or_ge i r with hin | hin
  · have hrow : i * c + c ≤ r * c := by have := Nat.mul_le_mul_right c (show i + 1 ≤ r from hin); rw [Nat.add_mul, Nat.one_mul] at this; exact this
    have hi1 : (i + 1) * c = i * c + c := by rw [Nat.add_mul, Nat.one_mul]
    have hsr : Sm 2 ivc W1.heap W1.heap.size (cutM 2 A k (i * c)) c (k - i * c) ((l.drop (i * c)).take c) := by
      have := hL.s.dropTake (i := i * c) (j := (i + 1) * c) (m := k) (m' := k - i * c) (by omega) (by dsimp only; omega) hkk (by omega)
      rwa [row_sub] at this
    have hgr : ∀ y ∈ (l.drop (i * c)).take c, GI W1.heap y ∧ y.m.n ≤ K := fun y hy => hL.gm.g y (List.mem_of_mem_drop (List.mem_of_mem_take hy))
    have hZ : ∀ q, q < c → ival (((l.drop (i * c)).take c).getD q default) = F i q := fun q hq => by
      have e1 : ((l.drop (i * c)).take c).getD q default = l.getD (i * c + q) default := by simp [List.getD, List.getElem?_take, hq, List.getElem?_drop]
      rw [e1]; exact (hL.g i q hin hq).1.val
    repeat' (first | (refine TL.isOp ?_; first | (refine TL.isCall ?_; refine TL.call rfl rfl ?_; first | (refine (each_ok _ _ c _ _ (hsr.ext hF.ext).size (by omega) 91 [] inferInstance _ K (least_each _ _ K (fun y hy => ⟨(hgr y hy).1.ext hF.ext, (hgr y hy).2⟩) hK)).mono ?_; rintro _ wl ⟨Al, kl, ll, rfl, hL0, hE, hLF⟩; have hLL := hL0.congr (Z' := F i) hZ; replace hF := hF.exts hE; clear hE hL0; refine Back.mk ?_)) | (refine TL.isBin ?_; refine TL.cmpG rfl rfl rfl rfl (fun hc => ?_) (fun hc => ?_) <;> (try (first | (exfalso; omega) | exact absurd rfl hc))) | (apply TL.ev; (case hd => rfl); (case h => (first | exact ev_simple rfl | (apply Ev.isBin; first | exact ev_arN rfl rfl rfl (by omega)) | (apply Ev.isLoad; first | exact ev_loadV rfl (hV.ext hF.ext) rfl) | exact ev_fieldAddr rfl | exact ev_rowSl rfl rfl rfl (by omega))))) | (refine G.is ?_; first | refine G.nextL ?_ | refine G.nextI ?_ | refine G.blockN ?_ | refine G.blockR ?_ | refine G.thenR ?_) | refine TL.nil ?_ | (refine TI.is ?_; first | refine TI.seq ?_ | refine TI.regionI ?_ | refine TI.block ?_ | refine TI.cond_t rfl ?_ | refine TI.cond_f rfl ?_ | refine TI.ret ?_ | refine TI.skip ?_) | (refine TLI.is ?_; first | refine TLI.nil ?_ | (refine TLI.yield rfl rfl rfl ?_; refine Eng.YieldAt.weak (hY i ⟨i, Al, c, kl, ll⟩ W1 _ hin hj ⟨hV, hL⟩ hF.ext ⟨rfl, rfl, hLL, hLF⟩) ?_; rintro e W2 (⟨rfl, hj2, hV2, hL2⟩ | ⟨rfl, hx2⟩) <;> refine ⟨_, rfl, ?_⟩ <;> clear hF <;> have hF := Fr.refl W2) | refine TLI.step rfl ?_))
    · exact G.again (i + 1) (by repeat (first | exact Sub.nil _ | refine Sub.cons rfl ?_ | refine Sub.cons' rfl (int_congr (by omega)) ?_)) ⟨by omega, hj2, hV2, hL2⟩ (by omega)
    · exact G.retM0 rfl ⟨⟨_, rfl⟩, .inr hx2⟩
  · obtain rfl : i = r := by omega
    repeat' (first | (refine TL.isOp ?_; first | (refine TL.isBin ?_; refine TL.cmpG rfl rfl rfl rfl (fun hc => ?_) (fun hc => ?_) <;> (try (first | (exfalso; omega) | exact absurd rfl hc)))) | (refine G.is ?_; first | refine G.nextL ?_ | refine G.nextI ?_ | refine G.blockE ?_ | refine G.thenE ?_) | refine TL.nil ?_ | (refine TI.is ?_; first | refine TI.seq ?_ | refine TI.regionI ?_ | refine TI.cond_f rfl ?_ | refine TI.exit ?_) | (refine TLI.is ?_; first | refine TLI.nil ?_ | refine TLI.step rfl ?_))
    exact G.endM0 rfl ⟨⟨_, rfl⟩, .inl ⟨hj, hV, hL⟩⟩
end Go.Proofs.YtlhmehikajidhaaGreat
namespace Go.Proofs.YtlhmehikajidhaaGreat
open Go Go.Eng Go.Proofs Go.NatM Go.ChangeShapes Go.WideShapes Go.ChangeAt Go.RowKit Go.Deep
set_option maxRecDepth 10000 in
theorem open_matcT {H : Type} {enc : TypeId × Value → H} {W : World} {base : Nat} {spare : Nat → Bool} {held : Bool} (m : Nat) (cs : List Value) (x : DataW H × List MemPlace)
    (h : DataW.trod enc Tryz.prog W base spare held m 27 cs = some x) : ∃ y : MV, cs = mvc y ∧ (RM0 W.heap y ∧ InR y) ∧ wts ivw y.l + y.n ≤ 2 * Rows.uptoBulk x.1 ∧ wts ivw y.l ≤ Rows.uptoBulk x.1 ∧ y.n ≤ Rows.uptoBulk x.1 := by
  obtain ⟨xs, q, _, rfl, hl, hxl, hall⟩ := DataW.trod_struct Tryz.underlying27 h
  have hl' : cs.length = 3 := hl.trans (by kernel_rfl)
  have hxl' : xs.length = 3 := hxl.trans rfl
  obtain ⟨v0, v1, v2, rfl⟩ := len3 hl'
  obtain ⟨x0, x1, x2, rfl⟩ := len3 hxl'
  have ci : Tryz.prog.cellsOf 3 = 1 := by kernel_rfl
  have cl : Tryz.prog.cellsOf 25 = 1 := by kernel_rfl
  have h0 : DataW.trod enc Tryz.prog W base spare held q 3 (([v0, v1, v2].drop 0).take (Tryz.prog.cellsOf 3)) = some x0 := hall 0 _ rfl
  rw [ci] at h0
  have h1 : DataW.trod enc Tryz.prog W base spare held q 3 (([v0, v1, v2].drop 1).take (Tryz.prog.cellsOf 3)) = some x1 := hall 1 _ rfl
  rw [ci] at h1
  have h2 : DataW.trod enc Tryz.prog W base spare held q 25 (([v0, v1, v2].drop 2).take (Tryz.prog.cellsOf 25)) = some x2 := hall 2 _ rfl
  rw [cl] at h2
  obtain ⟨z0, e0, b0⟩ := open_i64c Tryz.underlying3 h0
  obtain rfl : v0 = .int .i64 z0 := by simpa using e0
  obtain ⟨z1, e1, b1⟩ := open_i64c Tryz.underlying3 h1
  obtain rfl : v1 = .int .i64 z1 := by simpa using e1
  obtain ⟨A, n, c, L, e2, s2, g2, m2, m3⟩ := open_elems ivc (GI W.heap) ivw (show 0 < 2 by omega) (fun _ => rfl) Tryz.underlying25 (by kernel_rfl) (fun m cs x h => open_int m cs x h) h2
  obtain rfl : v2 = .slice A n c := by simpa using e2
  refine ⟨⟨z0, z1, A, n, c, L⟩, rfl, ⟨⟨s2, g2⟩, b0, b1⟩, ?_⟩
  simp only [List.map_cons, List.map_nil, Rows.uptoBulk, Rows.uptoBulkAll]
  omega
end Go.Proofs.YtlhmehikajidhaaGreat
namespace Go.Proofs.YtlhmehikajidhaaGreat
open Go Go.Eng Go.Proofs Go.NatM Go.RowKit
theorem alike_li (w : World) (x y : IV) {z z' : Int} (gx : LI w.heap z x) (gy : LI w.heap z' y) (h : z = z') (hx : x.m.n ≤ 1099511627776) (hy : y.m.n ≤ 1099511627776) : Cl Tryz.prog 11 #[.agg (ivc x).toArray, .agg (ivc y).toArray] w (YesM w) :=
  alike_t w x y gx.g gy.g (by rw [gx.d, gy.d, h]) (by rw [gx.e, gy.e, h]) hx hy
set_option maxRecDepth 100000 in
theorem mtrace_unfit (w : World) (x : MV) (r c : Nat) (gx : Sound x r c) (hne : r ≠ c) :
    Cl Tryz.prog 49 #[.agg (mvc x).toArray] w (fun e w' => e = .returned (.tuple #[.agg #[.bool false, .slice none 0 0], .int .i64 2]) ∧ Ext w w') := by
  obtain ⟨xr, xc, A, m, k, l⟩ := x
  obtain ⟨h1, h2, h3, h4, h5⟩ := id gx
  dsimp only at h1 h2 h5
  subst h1 h2 h5
  refine enter Tryz.func49 rfl rfl rfl ?_
  have hF := Fr.refl w
  repeat' (first | (refine TL.isOp ?_; first | (refine TL.isG ?_; first | refine TL.grun rfl rfl rfl ?_ | refine TL.gskip rfl rfl rfl rfl ?_ | refine TL.gskipU rfl rfl rfl ?_) | (refine TL.isCall ?_; refine TL.call rfl rfl ?_; first | (refine (chk_ok _ _ r c gx).mono ?_; rintro _ wc ⟨rfl, hE⟩; replace hF := hF.exts hE; clear hE; refine Back.mk ?_)) | (refine TL.isBin ?_; refine TL.cmpG rfl rfl rfl rfl (fun hc => ?_) (fun hc => ?_) <;> (try (first | (exfalso; omega) | exact absurd rfl hc))) | (apply TL.ev; (case hd => rfl); (case h => (first | exact ev_simple rfl | (apply Ev.isBin; first | exact ev_arN rfl rfl rfl (by omega) | exact ev_arI rfl rfl rfl (by omega) | exact ev_eqlB (r := true) rfl rfl rfl | exact ev_eqlB (r := false) rfl rfl rfl | exact ev_neqB (r := true) rfl rfl rfl | exact ev_neqB (r := false) rfl rfl rfl) | (apply Ev.isLoad; first | exact ev_loadFr hF rfl (by refine ⟨?_, ?_⟩; (focus (repeat (first | exact InV.head | apply InV.tail))); rfl) | exact ev_loadAFr hF rfl (by refine ⟨?_, ?_⟩; (focus (repeat (first | exact InV.head | apply InV.tail))); rfl)) | exact ev_len rfl | exact ev_fieldAddr rfl | exact ev_field rfl rfl | exact ev_fieldA rfl rfl | exact ev_buildX rfl rfl | exact ev_makeFunc rfl | exact ev_nilCheck rfl | exact ev_neg rfl (by omega) | exact ev_cap rfl))) | (refine TL.storeAFr hF rfl rfl rfl rfl (by refine ⟨?_, ?_⟩; (focus (repeat (first | apply SetV.head | apply SetV.tail))); rfl) rfl ?_; clear hF; intro ws hF) | (refine TL.storeFr hF rfl rfl rfl rfl (by refine ⟨?_, ?_⟩; (focus (repeat (first | apply SetV.head | apply SetV.tail))); rfl) rfl ?_; clear hF; intro ws hF) | (refine TL.boxAFr hF (d := 1) (cs := [.int .i64 (r : Int), .int .i64 (c : Int), .slice A (r * c) k]) rfl rfl ?_; clear hF; intro w1 b1 hF) | (refine TL.allocFr hF (d := 2) rfl rfl ?_; clear hF; intro w2 b2 hF) | (refine TL.allocFr hF (d := 5) rfl rfl ?_; clear hF; intro w5 b5 hF) | (refine TL.boxAFr hF rfl rfl ?_; clear hF; intro wb bb hF) | (refine TL.boxFr hF rfl rfl ?_; clear hF; intro wb bb hF) | (refine TL.allocFr hF rfl rfl ?_; clear hF; intro wa ba hF)) | (refine T.is ?_; first | refine T.seq ?_ | refine T.region ?_ | refine T.block ?_ | refine T.cond_t rfl ?_ | refine T.cond_f rfl ?_ | refine T.exit ?_ | refine T.ret ?_ | refine T.skip ?_ | refine T.regionQ mixed (by kernel_rfl) ?_) | (refine G.is ?_; first | refine G.next ?_ | refine G.blockN ?_ | refine G.blockE ?_ | refine G.blockE' rfl ?_ | refine G.blockR ?_ | refine G.thenE ?_ | refine G.thenR ?_ | refine G.only ?_) | refine TL.nil ?_ | (refine TL.nilFr hF ?_; clear hF; intro wq hF))
  exact G.retC2 rfl rfl rfl (held_agg (hF.var (by repeat (first | exact InV.head | apply InV.tail))) rfl) ⟨rfl, hF.ext⟩
end Go.Proofs.YtlhmehikajidhaaGreat
namespace Go.Proofs.YtlhmehikajidhaaGreat
open Go Go.Eng Go.Proofs Go.NatM Go.RowKit
def RetZF (w : World) (err : Int) (e : Ending) (w' : World) : Prop := e = .returned (.tuple #[.agg #[.bool false, .slice none 0 0], .int .i64 err]) ∧ Ext w w'
def RetLF (w : World) (err : Int) (e : Ending) (w' : World) : Prop := e = .returned (.tuple #[.slice none 0 0, .int .i64 err]) ∧ Ext w w'
def RetBF (w : World) (b : Bool) (err : Int) (e : Ending) (w' : World) : Prop := e = .returned (.tuple #[.bool b, .int .i64 err]) ∧ Ext w w'
def Snd (x : MV) : Prop := ∃ r c, Sound x r c
set_option maxRecDepth 100000 in
theorem check_bad (w : World) (A : Option Addr) (n k : Nat) (L : List MV) (hs : Sm 3 mvc w.heap w.heap.size A n k L) (hR : ∀ y ∈ L, InR y) (hL : ∃ y ∈ L, ¬ Snd y) (hn : n ≤ 1048576) : Cl Tryz.prog 25 #[.slice A n k] w (fun e w' => e = .returned (.int .i64 1) ∧ Ext w w') := by
  have hlen := hs.len
  refine enter Tryz.func25 rfl rfl rfl ?_
  have hF := Fr.refl w
  repeat' (first | (refine TL.isOp ?_; first | (apply TL.ev; (case hd => rfl); (case h => (first | exact ev_simple rfl | exact ev_len rfl)))) | (refine T.is ?_; first | refine T.seq ?_ | refine T.region ?_ | refine T.block ?_) | (refine G.is ?_; first | refine G.next ?_) | refine TL.nil ?_)
  refine T.loop (α := Nat) (fun i => [(5, .slice A n k), (6, .int .i64 (n : Int)), (7, .int .i64 (i : Int))]) (fun i w' => i ≤ n ∧ (∀ j y, j < i → L[j]? = some y → Snd y) ∧ Fr w w' [] []) (fun i => n - i) 0 (by repeat (first | exact Sub.nil _ | refine Sub.cons rfl ?_ | refine Sub.cons' rfl (int_congr (by omega)) ?_)) ⟨Nat.zero_le _, fun j y hj => absurd hj (Nat.not_lt_zero _), hF⟩ ?_
  clear hF
  rintro i w2 ⟨hi, hb, hF⟩
  rcases Nat.lt_or_ge i n with hin | hin
  · have hy : L[i]? = some (L.getD i default) := by simp [List.getD, show i < L.length by omega]
    have hI := hR _ (List.mem_of_getElem? hy)
    generalize L.getD i default = y at *
    by_cases hS : Snd y
    · have hS' := hS
      obtain ⟨r, c, hSd⟩ := hS'
      have hck := fun w => chk_ok w y r c hSd
      clear hSd hI
      obtain ⟨xr, xc, A2, n2, k2, l2⟩ := y
      repeat' (first | (refine TL.isOp ?_; first | (refine TL.isCall ?_; refine TL.call rfl rfl ?_; first | (refine (hck _).mono ?_; rintro _ wy ⟨rfl, hE⟩; replace hF := hF.exts hE; clear hE; refine Back.mk ?_)) | (refine TL.isBin ?_; refine TL.cmpG rfl rfl rfl rfl (fun hc => ?_) (fun hc => ?_) <;> (try (first | (exfalso; omega) | exact absurd rfl hc))) | (apply TL.ev; (case hd => rfl); (case h => (first | exact ev_simple rfl | (apply Ev.isBin; first | exact ev_arN rfl rfl rfl (by omega)) | (apply Ev.isLoad; first | exact ev_loadAFr hF rfl (by refine ⟨?_, ?_⟩; (focus (repeat (first | exact InV.head | apply InV.tail))); rfl) | exact ev_loadM rfl (hs.ext hF.ext) hy) | exact ev_indexM rfl rfl hin (hs.ext hF.ext).some))) | (refine TL.storeAFr hF rfl rfl rfl rfl (by refine ⟨?_, ?_⟩; (focus (repeat (first | apply SetV.head | apply SetV.tail))); rfl) rfl ?_; clear hF; intro ws hF) | (refine TL.allocFr hF rfl rfl ?_; clear hF; intro wa ba hF)) | (refine T.is ?_; first | refine T.seq ?_ | refine T.region ?_ | refine T.block ?_ | refine T.cond_t rfl ?_ | refine T.cond_f rfl ?_ | refine T.skip ?_) | (refine G.is ?_; first | refine G.next ?_ | refine G.blockN ?_) | refine TL.nil ?_)
      refine G.again (i + 1) (by repeat (first | exact Sub.nil _ | refine Sub.cons rfl ?_ | refine Sub.cons' rfl (int_congr (by omega)) ?_)) ⟨by omega, fun j z hj hz => ?_, hF.weak (List.Sublist.cons _ (List.Sublist.refl _)) allN⟩ (by omega)
      rcases Nat.lt_or_ge j i with h | h
      · exact hb j z h hz
      · obtain rfl : j = i := by omega
        rw [hy] at hz
        cases hz
        exact hS
    · have hck := fun w => chk_bad w y hI hS
      clear hS hI
      obtain ⟨xr, xc, A2, n2, k2, l2⟩ := y
      repeat' (first | (refine TL.isOp ?_; first | (refine TL.isCall ?_; refine TL.call rfl rfl ?_; first | (refine (hck _).mono ?_; rintro _ wy ⟨rfl, hE⟩; replace hF := hF.exts hE; clear hE; refine Back.mk ?_)) | (refine TL.isBin ?_; refine TL.cmpG rfl rfl rfl rfl (fun hc => ?_) (fun hc => ?_) <;> (try (first | (exfalso; omega) | exact absurd rfl hc))) | (apply TL.ev; (case hd => rfl); (case h => (first | exact ev_simple rfl | (apply Ev.isLoad; first | exact ev_loadAFr hF rfl (by refine ⟨?_, ?_⟩; (focus (repeat (first | exact InV.head | apply InV.tail))); rfl) | exact ev_loadM rfl (hs.ext hF.ext) hy) | exact ev_indexM rfl rfl hin (hs.ext hF.ext).some))) | (refine TL.storeAFr hF rfl rfl rfl rfl (by refine ⟨?_, ?_⟩; (focus (repeat (first | apply SetV.head | apply SetV.tail))); rfl) rfl ?_; clear hF; intro ws hF) | (refine TL.allocFr hF rfl rfl ?_; clear hF; intro wa ba hF)) | (refine T.is ?_; first | refine T.seq ?_ | refine T.region ?_ | refine T.block ?_ | refine T.cond_t rfl ?_ | refine T.ret ?_ | refine T.skip ?_) | (refine G.is ?_; first | refine G.next ?_ | refine G.blockR ?_ | refine G.thenR ?_) | refine TL.nil ?_)
      exact G.ret1 rfl rfl ⟨rfl, hF.ext⟩
  · exfalso
    obtain ⟨y, hm, hns⟩ := hL
    obtain ⟨j, hj⟩ := List.getElem?_of_mem hm
    exact hns (hb j y (by have := (List.getElem?_eq_some_iff.1 hj).1; omega) hj)
theorem two_bad {x y : MV} (h : ¬ (Snd x ∧ Snd y)) : ∃ z ∈ [x, y], ¬ Snd z := by
  by_cases hx : Snd x
  · exact ⟨y, by simp, fun hy => h ⟨hx, hy⟩⟩
  · exact ⟨x, by simp, hx⟩
theorem two_inR {x y : MV} (hx : InR x) (hy : InR y) : ∀ z ∈ [x, y], InR z := by
  intro z hz
  simp only [List.mem_cons, List.not_mem_nil, or_false] at hz
  rcases hz with rfl | rfl
  · exact hx
  · exact hy
set_option maxRecDepth 100000 in
theorem mturn_bad (w : World) (x : MV) (hx : InR x) (hn : ¬ Snd x) : Cl Tryz.prog 48 #[.agg (mvc x).toArray] w (RetMF w 1) := by
  have hck := fun w => chk_bad w x hx hn
  clear hn hx
  obtain ⟨xr, xc, A, n, k, l⟩ := x
  refine enter Tryz.func48 rfl rfl rfl ?_
  have hF := Fr.refl w
  repeat' (first | (refine TL.isOp ?_; first | (refine TL.isCall ?_; refine TL.call rfl rfl ?_; first | (refine (hck _).mono ?_; rintro _ wy ⟨rfl, hE⟩; replace hF := hF.exts hE; clear hE; refine Back.mk ?_)) | (refine TL.isBin ?_; refine TL.cmpG rfl rfl rfl rfl (fun hc => ?_) (fun hc => ?_) <;> (try (first | (exfalso; omega) | exact absurd rfl hc))) | (apply TL.ev; (case hd => rfl); (case h => (first | exact ev_simple rfl | (apply Ev.isLoad; first | exact ev_loadAFr hF rfl (by refine ⟨?_, ?_⟩; (focus (repeat (first | exact InV.head | apply InV.tail))); rfl)) | exact ev_buildX rfl rfl))) | (refine TL.storeAFr hF rfl rfl rfl rfl (by refine ⟨?_, ?_⟩; (focus (repeat (first | apply SetV.head | apply SetV.tail))); rfl) rfl ?_; clear hF; intro ws hF) | (refine TL.boxAFr hF (d := 1) (cs := [.int .i64 xr, .int .i64 xc, .slice A n k]) rfl rfl ?_; clear hF; intro w1 b1 hF) | (refine TL.allocFr hF (d := 2) rfl rfl ?_; clear hF; intro w2 b2 hF)) | (refine T.is ?_; first | refine T.seq ?_ | refine T.region ?_ | refine T.cond_t rfl ?_ | refine T.ret ?_) | (refine G.is ?_; first | refine G.next ?_ | refine G.thenR ?_) | refine TL.nil ?_)
  exact G.retC2 rfl rfl rfl (held_agg (hF.var (by repeat (first | exact InV.head | apply InV.tail))) rfl) ⟨rfl, hF.ext⟩
set_option maxRecDepth 100000 in
theorem mtrace_bad (w : World) (x : MV) (hx : InR x) (hn : ¬ Snd x) : Cl Tryz.prog 49 #[.agg (mvc x).toArray] w (RetZF w 1) := by
  have hck := fun w => chk_bad w x hx hn
  clear hn hx
  obtain ⟨xr, xc, A, n, k, l⟩ := x
  refine enter Tryz.func49 rfl rfl rfl ?_
  have hF := Fr.refl w
  repeat' (first | (refine TL.isOp ?_; first | (refine TL.isCall ?_; refine TL.call rfl rfl ?_; first | (refine (hck _).mono ?_; rintro _ wy ⟨rfl, hE⟩; replace hF := hF.exts hE; clear hE; refine Back.mk ?_)) | (refine TL.isBin ?_; refine TL.cmpG rfl rfl rfl rfl (fun hc => ?_) (fun hc => ?_) <;> (try (first | (exfalso; omega) | exact absurd rfl hc))) | (apply TL.ev; (case hd => rfl); (case h => (first | exact ev_simple rfl | (apply Ev.isLoad; first | exact ev_loadAFr hF rfl (by refine ⟨?_, ?_⟩; (focus (repeat (first | exact InV.head | apply InV.tail))); rfl)) | exact ev_buildX rfl rfl))) | (refine TL.storeAFr hF rfl rfl rfl rfl (by refine ⟨?_, ?_⟩; (focus (repeat (first | apply SetV.head | apply SetV.tail))); rfl) rfl ?_; clear hF; intro ws hF) | (refine TL.boxAFr hF (d := 1) (cs := [.int .i64 xr, .int .i64 xc, .slice A n k]) rfl rfl ?_; clear hF; intro w1 b1 hF) | (refine TL.allocFr hF (d := 2) rfl rfl ?_; clear hF; intro w2 b2 hF)) | (refine T.is ?_; first | refine T.seq ?_ | refine T.region ?_ | refine T.cond_t rfl ?_ | refine T.ret ?_) | (refine G.is ?_; first | refine G.next ?_ | refine G.thenR ?_) | refine TL.nil ?_)
  exact G.retC2 rfl rfl rfl (held_agg (hF.var (by repeat (first | exact InV.head | apply InV.tail))) rfl) ⟨rfl, hF.ext⟩
set_option maxRecDepth 100000 in
theorem mscale_bad (w : World) (x : MV) (z : IV) (hx : InR x) (hn : ¬ Snd x) : Cl Tryz.prog 45 #[.agg (ivc z).toArray, .agg (mvc x).toArray] w (RetMF w 1) := by
  have hck := fun w => chk_bad w x hx hn
  clear hn hx
  obtain ⟨xr, xc, A, n, k, l⟩ := x
  obtain ⟨zn, ⟨zA, zm, zc, zl⟩⟩ := z
  refine enter Tryz.func45 rfl rfl rfl ?_
  have hF := Fr.refl w
  repeat' (first | (refine TL.isOp ?_; first | (refine TL.isCall ?_; refine TL.call rfl rfl ?_; first | (refine (hck _).mono ?_; rintro _ wy ⟨rfl, hE⟩; replace hF := hF.exts hE; clear hE; refine Back.mk ?_)) | (refine TL.isBin ?_; refine TL.cmpG rfl rfl rfl rfl (fun hc => ?_) (fun hc => ?_) <;> (try (first | (exfalso; omega) | exact absurd rfl hc))) | (apply TL.ev; (case hd => rfl); (case h => (first | exact ev_simple rfl | (apply Ev.isLoad; first | exact ev_loadAFr hF rfl (by refine ⟨?_, ?_⟩; (focus (repeat (first | exact InV.head | apply InV.tail))); rfl)) | exact ev_buildX rfl rfl))) | (refine TL.storeAFr hF rfl rfl rfl rfl (by refine ⟨?_, ?_⟩; (focus (repeat (first | apply SetV.head | apply SetV.tail))); rfl) rfl ?_; clear hF; intro ws hF) | (refine TL.boxAFr hF (d := 2) (cs := [.bool zn, .slice zA zm zc]) rfl rfl ?_; clear hF; intro w2 b2 hF) | (refine TL.boxAFr hF (d := 3) (cs := [.int .i64 xr, .int .i64 xc, .slice A n k]) rfl rfl ?_; clear hF; intro w3 b3 hF) | (refine TL.allocFr hF (d := 4) rfl rfl ?_; clear hF; intro w4 b4 hF)) | (refine T.is ?_; first | refine T.seq ?_ | refine T.region ?_ | refine T.cond_t rfl ?_ | refine T.ret ?_) | (refine G.is ?_; first | refine G.next ?_ | refine G.thenR ?_) | refine TL.nil ?_)
  exact G.retC2 rfl rfl rfl (held_agg (hF.var (by repeat (first | exact InV.head | apply InV.tail))) rfl) ⟨rfl, hF.ext⟩
set_option maxRecDepth 100000 in
theorem mvec_bad (w : World) (x : MV) (B : Option Addr) (m q : Nat) (hx : InR x) (hn : ¬ Snd x) : Cl Tryz.prog 46 #[.slice B m q, .agg (mvc x).toArray] w (RetLF w 1) := by
  have hck := fun w => chk_bad w x hx hn
  clear hn hx
  obtain ⟨xr, xc, A, n, k, l⟩ := x
  refine enter Tryz.func46 rfl rfl rfl ?_
  have hF := Fr.refl w
  repeat' (first | (refine TL.isOp ?_; first | (refine TL.isCall ?_; refine TL.call rfl rfl ?_; first | (refine (hck _).mono ?_; rintro _ wy ⟨rfl, hE⟩; replace hF := hF.exts hE; clear hE; refine Back.mk ?_)) | (refine TL.isBin ?_; refine TL.cmpG rfl rfl rfl rfl (fun hc => ?_) (fun hc => ?_) <;> (try (first | (exfalso; omega) | exact absurd rfl hc))) | (apply TL.ev; (case hd => rfl); (case h => (first | exact ev_simple rfl | (apply Ev.isLoad; first | exact ev_loadAFr hF rfl (by refine ⟨?_, ?_⟩; (focus (repeat (first | exact InV.head | apply InV.tail))); rfl))))) | (refine TL.boxAFr hF (d := 3) (cs := [.int .i64 xr, .int .i64 xc, .slice A n k]) rfl rfl ?_; clear hF; intro w3 b3 hF)) | (refine T.is ?_; first | refine T.seq ?_ | refine T.region ?_ | refine T.cond_t rfl ?_ | refine T.ret ?_) | (refine G.is ?_; first | refine G.next ?_ | refine G.thenR ?_) | refine TL.nil ?_)
  exact G.ret2 rfl rfl rfl ⟨rfl, hF.ext⟩
set_option maxRecDepth 100000 in
theorem mpow_bad (w : World) (x : MV) (z : Int) (hx : InR x) (hn : ¬ Snd x) : Cl Tryz.prog 47 #[.agg (mvc x).toArray, .int .i64 z] w (RetMF w 1) := by
  have hck := fun w => chk_bad w x hx hn
  clear hn hx
  obtain ⟨xr, xc, A, n, k, l⟩ := x
  refine enter Tryz.func47 rfl rfl rfl ?_
  have hF := Fr.refl w
  repeat' (first | (refine TL.isOp ?_; first | (refine TL.isCall ?_; refine TL.call rfl rfl ?_; first | (refine (hck _).mono ?_; rintro _ wy ⟨rfl, hE⟩; replace hF := hF.exts hE; clear hE; refine Back.mk ?_)) | (refine TL.isBin ?_; refine TL.cmpG rfl rfl rfl rfl (fun hc => ?_) (fun hc => ?_) <;> (try (first | (exfalso; omega) | exact absurd rfl hc))) | (apply TL.ev; (case hd => rfl); (case h => (first | exact ev_simple rfl | (apply Ev.isLoad; first | exact ev_loadAFr hF rfl (by refine ⟨?_, ?_⟩; (focus (repeat (first | exact InV.head | apply InV.tail))); rfl)) | exact ev_buildX rfl rfl))) | (refine TL.storeAFr hF rfl rfl rfl rfl (by refine ⟨?_, ?_⟩; (focus (repeat (first | apply SetV.head | apply SetV.tail))); rfl) rfl ?_; clear hF; intro ws hF) | (refine TL.boxAFr hF (d := 2) (cs := [.int .i64 xr, .int .i64 xc, .slice A n k]) rfl rfl ?_; clear hF; intro w2 b2 hF) | (refine TL.allocFr hF (d := 4) rfl rfl ?_; clear hF; intro w4 b4 hF)) | (refine T.is ?_; first | refine T.seq ?_ | refine T.region ?_ | refine T.block ?_ | refine T.cond_t rfl ?_ | refine T.ret ?_) | (refine G.is ?_; first | refine G.next ?_ | refine G.blockR ?_ | refine G.thenR ?_) | refine TL.nil ?_)
  exact G.retC2 rfl rfl rfl (held_agg (hF.var (by repeat (first | exact InV.head | apply InV.tail))) rfl) ⟨rfl, hF.ext⟩
set_option maxRecDepth 100000 in
theorem mpick_bad (w : World) (x : MV) (B B' : Option Addr) (m q m' q' : Nat) (hx : InR x) (hn : ¬ Snd x) : Cl Tryz.prog 50 #[.agg (mvc x).toArray, .slice B m q, .slice B' m' q'] w (RetMF w 1) := by
  have hck := fun w => chk_bad w x hx hn
  clear hn hx
  obtain ⟨xr, xc, A, n, k, l⟩ := x
  refine enter Tryz.func50 rfl rfl rfl ?_
  have hF := Fr.refl w
  repeat' (first | (refine TL.isOp ?_; first | (refine TL.isCall ?_; refine TL.call rfl rfl ?_; first | (refine (hck _).mono ?_; rintro _ wy ⟨rfl, hE⟩; replace hF := hF.exts hE; clear hE; refine Back.mk ?_)) | (refine TL.isBin ?_; refine TL.cmpG rfl rfl rfl rfl (fun hc => ?_) (fun hc => ?_) <;> (try (first | (exfalso; omega) | exact absurd rfl hc))) | (apply TL.ev; (case hd => rfl); (case h => (first | exact ev_simple rfl | (apply Ev.isLoad; first | exact ev_loadAFr hF rfl (by refine ⟨?_, ?_⟩; (focus (repeat (first | exact InV.head | apply InV.tail))); rfl)) | exact ev_buildX rfl rfl))) | (refine TL.storeAFr hF rfl rfl rfl rfl (by refine ⟨?_, ?_⟩; (focus (repeat (first | apply SetV.head | apply SetV.tail))); rfl) rfl ?_; clear hF; intro ws hF) | (refine TL.boxAFr hF (d := 3) (cs := [.int .i64 xr, .int .i64 xc, .slice A n k]) rfl rfl ?_; clear hF; intro w3 b3 hF) | (refine TL.allocFr hF (d := 6) rfl rfl ?_; clear hF; intro w6 b6 hF) | (refine TL.boxFr hF rfl rfl ?_; clear hF; intro wb bb hF)) | (refine T.is ?_; first | refine T.seq ?_ | refine T.region ?_ | refine T.cond_t rfl ?_ | refine T.ret ?_) | (refine G.is ?_; first | refine G.next ?_ | refine G.thenR ?_) | refine TL.nil ?_)
  exact G.retC2 rfl rfl rfl (held_agg (hF.var (by repeat (first | exact InV.head | apply InV.tail))) rfl) ⟨rfl, hF.ext⟩
set_option maxRecDepth 100000 in
theorem mequal_bad (w : World) (x y : MV) (hx : InR x) (hy : InR y) (hn : ¬ (Snd x ∧ Snd y)) : Cl Tryz.prog 100 #[.agg (mvc x).toArray, .agg (mvc y).toArray] w (RetBF w false 1) := by
  have hb := two_bad hn
  have hr := two_inR hx hy
  clear hn hx hy
  obtain ⟨xr, xc, A, n, k, l⟩ := x
  obtain ⟨yr, yc, A2, n2, k2, l2⟩ := y
  refine enter Tryz.func100 rfl rfl rfl ?_
  have hF := Fr.refl w
  repeat' (first | (refine TL.isOp ?_; first | (refine TL.isCall ?_; refine TL.call rfl rfl ?_; first | (refine (check_bad _ _ _ _ _ hSn hr hb (by omega)).mono ?_; rintro _ wc ⟨rfl, hE⟩; replace hF := hF.exts hE; clear hE hSn; refine Back.mk ?_)) | (refine TL.isBin ?_; refine TL.cmpG rfl rfl rfl rfl (fun hc => ?_) (fun hc => ?_) <;> (try (first | (exfalso; omega) | exact absurd rfl hc))) | (apply TL.ev; (case hd => rfl); (case h => (first | exact ev_simple rfl | (apply Ev.isLoad; first | exact ev_loadAFr hF rfl (by refine ⟨?_, ?_⟩; (focus (repeat (first | exact InV.head | apply InV.tail))); rfl))))) | (refine TL.boxAFr hF (d := 2) (cs := [.int .i64 xr, .int .i64 xc, .slice A n k]) rfl rfl ?_; clear hF; intro w2 b2 hF) | (refine TL.boxAFr hF (d := 3) (cs := [.int .i64 yr, .int .i64 yc, .slice A2 n2 k2]) rfl rfl ?_; clear hF; intro w3 b3 hF) | (refine TL.buildX2 (f := mvc) (u := ⟨xr, xc, A, n, k, l⟩) (v := ⟨yr, yc, A2, n2, k2, l2⟩) rfl rfl rfl rfl rfl rfl rfl rfl rfl rfl (fun wn bn ebn hSn hE hzn => ?_); replace hF := hF.exts hE; clear hE hzn ebn)) | (refine T.is ?_; first | refine T.seq ?_ | refine T.region ?_ | refine T.cond_t rfl ?_ | refine T.ret ?_) | (refine G.is ?_; first | refine G.next ?_ | refine G.thenR ?_) | refine TL.nil ?_)
  exact G.ret2 rfl rfl rfl ⟨rfl, hF.ext⟩
set_option maxRecDepth 100000 in
theorem mplace_bad (w : World) (x y : MV) (g : FuncId) (hx : InR x) (hy : InR y) (hn : ¬ (Snd x ∧ Snd y)) : Cl Tryz.prog 83 #[.agg (mvc x).toArray, .agg (mvc y).toArray, .func (.func g) #[] #[]] w (RetMF w 1) := by
  have hb := two_bad hn
  have hr := two_inR hx hy
  clear hn hx hy
  obtain ⟨xr, xc, A, n, k, l⟩ := x
  obtain ⟨yr, yc, A2, n2, k2, l2⟩ := y
  refine enter Tryz.func83 rfl rfl rfl ?_
  have hF := Fr.refl w
  repeat' (first | (refine TL.isOp ?_; first | (refine TL.isCall ?_; refine TL.call rfl rfl ?_; first | (refine (check_bad _ _ _ _ _ hSn hr hb (by omega)).mono ?_; rintro _ wc ⟨rfl, hE⟩; replace hF := hF.exts hE; clear hE hSn; refine Back.mk ?_)) | (refine TL.isBin ?_; refine TL.cmpG rfl rfl rfl rfl (fun hc => ?_) (fun hc => ?_) <;> (try (first | (exfalso; omega) | exact absurd rfl hc))) | (apply TL.ev; (case hd => rfl); (case h => (first | exact ev_simple rfl | (apply Ev.isLoad; first | exact ev_loadAFr hF rfl (by refine ⟨?_, ?_⟩; (focus (repeat (first | exact InV.head | apply InV.tail))); rfl)) | exact ev_buildX rfl rfl))) | (refine TL.storeAFr hF rfl rfl rfl rfl (by refine ⟨?_, ?_⟩; (focus (repeat (first | apply SetV.head | apply SetV.tail))); rfl) rfl ?_; clear hF; intro ws hF) | (refine TL.boxAFr hF (d := 3) (cs := [.int .i64 xr, .int .i64 xc, .slice A n k]) rfl rfl ?_; clear hF; intro w3 b3 hF) | (refine TL.boxAFr hF (d := 4) (cs := [.int .i64 yr, .int .i64 yc, .slice A2 n2 k2]) rfl rfl ?_; clear hF; intro w4 b4 hF) | (refine TL.allocFr hF (d := 6) rfl rfl ?_; clear hF; intro w6 b6 hF) | (refine TL.buildX2 (f := mvc) (u := ⟨xr, xc, A, n, k, l⟩) (v := ⟨yr, yc, A2, n2, k2, l2⟩) rfl rfl rfl rfl rfl rfl rfl rfl rfl rfl (fun wn bn ebn hSn hE hzn => ?_); replace hF := hF.exts hE; clear hE hzn ebn) | (refine TL.boxFr hF rfl rfl ?_; clear hF; intro wb bb hF)) | (refine T.is ?_; first | refine T.seq ?_ | refine T.region ?_ | refine T.cond_t rfl ?_ | refine T.ret ?_) | (refine G.is ?_; first | refine G.next ?_ | refine G.thenR ?_) | refine TL.nil ?_)
  exact G.retC2 rfl rfl rfl (held_agg (hF.var (by repeat (first | exact InV.head | apply InV.tail))) rfl) ⟨rfl, hF.ext⟩
set_option maxRecDepth 100000 in
theorem mmul_bad (w : World) (x y : MV) (hx : InR x) (hy : InR y) (hn : ¬ (Snd x ∧ Snd y)) : Cl Tryz.prog 9 #[.agg (mvc x).toArray, .agg (mvc y).toArray] w (RetMF w 1) := by
  have hb := two_bad hn
  have hr := two_inR hx hy
  clear hn hx hy
  obtain ⟨xr, xc, A, n, k, l⟩ := x
  obtain ⟨yr, yc, A2, n2, k2, l2⟩ := y
  refine enter Tryz.func9 rfl rfl rfl ?_
  have hF := Fr.refl w
  repeat' (first | (refine TL.isOp ?_; first | (refine TL.isCall ?_; refine TL.call rfl rfl ?_; first | (refine (check_bad _ _ _ _ _ hSn hr hb (by omega)).mono ?_; rintro _ wc ⟨rfl, hE⟩; replace hF := hF.exts hE; clear hE hSn; refine Back.mk ?_)) | (refine TL.isBin ?_; refine TL.cmpG rfl rfl rfl rfl (fun hc => ?_) (fun hc => ?_) <;> (try (first | (exfalso; omega) | exact absurd rfl hc))) | (apply TL.ev; (case hd => rfl); (case h => (first | exact ev_simple rfl | (apply Ev.isLoad; first | exact ev_loadAFr hF rfl (by refine ⟨?_, ?_⟩; (focus (repeat (first | exact InV.head | apply InV.tail))); rfl)) | exact ev_buildX rfl rfl))) | (refine TL.storeAFr hF rfl rfl rfl rfl (by refine ⟨?_, ?_⟩; (focus (repeat (first | apply SetV.head | apply SetV.tail))); rfl) rfl ?_; clear hF; intro ws hF) | (refine TL.boxAFr hF (d := 2) (cs := [.int .i64 xr, .int .i64 xc, .slice A n k]) rfl rfl ?_; clear hF; intro w2 b2 hF) | (refine TL.boxAFr hF (d := 3) (cs := [.int .i64 yr, .int .i64 yc, .slice A2 n2 k2]) rfl rfl ?_; clear hF; intro w3 b3 hF) | (refine TL.allocFr hF (d := 4) rfl rfl ?_; clear hF; intro w4 b4 hF) | (refine TL.buildX2 (f := mvc) (u := ⟨xr, xc, A, n, k, l⟩) (v := ⟨yr, yc, A2, n2, k2, l2⟩) rfl rfl rfl rfl rfl rfl rfl rfl rfl rfl (fun wn bn ebn hSn hE hzn => ?_); replace hF := hF.exts hE; clear hE hzn ebn)) | (refine T.is ?_; first | refine T.seq ?_ | refine T.region ?_ | refine T.cond_t rfl ?_ | refine T.ret ?_) | (refine G.is ?_; first | refine G.next ?_ | refine G.thenR ?_) | refine TL.nil ?_)
  exact G.retC2 rfl rfl rfl (held_agg (hF.var (by repeat (first | exact InV.head | apply InV.tail))) rfl) ⟨rfl, hF.ext⟩
set_option maxRecDepth 100000 in
theorem mkron_bad (w : World) (x y : MV) (hx : InR x) (hy : InR y) (hn : ¬ (Snd x ∧ Snd y)) : Cl Tryz.prog 53 #[.agg (mvc x).toArray, .agg (mvc y).toArray] w (RetMF w 1) := by
  have hb := two_bad hn
  have hr := two_inR hx hy
  clear hn hx hy
  obtain ⟨xr, xc, A, n, k, l⟩ := x
  obtain ⟨yr, yc, A2, n2, k2, l2⟩ := y
  refine enter Tryz.func53 rfl rfl rfl ?_
  have hF := Fr.refl w
  repeat' (first | (refine TL.isOp ?_; first | (refine TL.isCall ?_; refine TL.call rfl rfl ?_; first | (refine (check_bad _ _ _ _ _ hSn hr hb (by omega)).mono ?_; rintro _ wc ⟨rfl, hE⟩; replace hF := hF.exts hE; clear hE hSn; refine Back.mk ?_)) | (refine TL.isBin ?_; refine TL.cmpG rfl rfl rfl rfl (fun hc => ?_) (fun hc => ?_) <;> (try (first | (exfalso; omega) | exact absurd rfl hc))) | (apply TL.ev; (case hd => rfl); (case h => (first | exact ev_simple rfl | (apply Ev.isLoad; first | exact ev_loadAFr hF rfl (by refine ⟨?_, ?_⟩; (focus (repeat (first | exact InV.head | apply InV.tail))); rfl)) | exact ev_buildX rfl rfl))) | (refine TL.storeAFr hF rfl rfl rfl rfl (by refine ⟨?_, ?_⟩; (focus (repeat (first | apply SetV.head | apply SetV.tail))); rfl) rfl ?_; clear hF; intro ws hF) | (refine TL.boxAFr hF (d := 2) (cs := [.int .i64 xr, .int .i64 xc, .slice A n k]) rfl rfl ?_; clear hF; intro w2 b2 hF) | (refine TL.boxAFr hF (d := 3) (cs := [.int .i64 yr, .int .i64 yc, .slice A2 n2 k2]) rfl rfl ?_; clear hF; intro w3 b3 hF) | (refine TL.allocFr hF (d := 4) rfl rfl ?_; clear hF; intro w4 b4 hF) | (refine TL.buildX2 (f := mvc) (u := ⟨xr, xc, A, n, k, l⟩) (v := ⟨yr, yc, A2, n2, k2, l2⟩) rfl rfl rfl rfl rfl rfl rfl rfl rfl rfl (fun wn bn ebn hSn hE hzn => ?_); replace hF := hF.exts hE; clear hE hzn ebn)) | (refine T.is ?_; first | refine T.seq ?_ | refine T.region ?_ | refine T.cond_t rfl ?_ | refine T.ret ?_) | (refine G.is ?_; first | refine G.next ?_ | refine G.thenR ?_) | refine TL.nil ?_)
  exact G.retC2 rfl rfl rfl (held_agg (hF.var (by repeat (first | exact InV.head | apply InV.tail))) rfl) ⟨rfl, hF.ext⟩
set_option maxRecDepth 100000 in
theorem madd_bad (w : World) (x y : MV) (hx : InR x) (hy : InR y) (hn : ¬ (Snd x ∧ Snd y)) : Cl Tryz.prog 43 #[.agg (mvc x).toArray, .agg (mvc y).toArray] w (RetMF w 1) := by
  have hpl := fun w => mplace_bad w x y 84 hx hy hn
  clear hn hx hy
  obtain ⟨xr, xc, A, n, k, l⟩ := x
  obtain ⟨yr, yc, A2, n2, k2, l2⟩ := y
  refine enter Tryz.func43 rfl rfl rfl ?_
  have hF := Fr.refl w
  repeat' (first | (refine TL.isOp ?_; first | (refine TL.isCall ?_; refine TL.call rfl rfl ?_; first | (refine (hpl _).mono ?_; rintro _ wc ⟨rfl, hE⟩; replace hF := hF.exts hE; clear hE; refine Back.mk ?_)) | (apply TL.ev; (case hd => rfl); (case h => (first | exact ev_simple rfl | (apply Ev.isLoad; first | exact ev_loadAFr hF rfl (by refine ⟨?_, ?_⟩; (focus (repeat (first | exact InV.head | apply InV.tail))); rfl))))) | (refine TL.storeAFr hF rfl rfl rfl rfl (by refine ⟨?_, ?_⟩; (focus (repeat (first | apply SetV.head | apply SetV.tail))); rfl) rfl ?_; clear hF; intro ws hF) | (refine TL.boxAFr hF (d := 2) (cs := [.int .i64 xr, .int .i64 xc, .slice A n k]) rfl rfl ?_; clear hF; intro w2 b2 hF) | (refine TL.boxAFr hF (d := 3) (cs := [.int .i64 yr, .int .i64 yc, .slice A2 n2 k2]) rfl rfl ?_; clear hF; intro w3 b3 hF) | (refine TL.allocFr hF (d := 4) rfl rfl ?_; clear hF; intro w4 b4 hF)) | (refine T.is ?_; first | refine T.seq ?_ | refine T.region ?_ | refine T.ret ?_) | (refine G.is ?_; first | refine G.next ?_) | refine TL.nil ?_)
  exact G.retC2 rfl rfl rfl (held_agg (hF.var (by repeat (first | exact InV.head | apply InV.tail))) rfl) ⟨rfl, hF.ext⟩
set_option maxRecDepth 100000 in
theorem msub_bad (w : World) (x y : MV) (hx : InR x) (hy : InR y) (hn : ¬ (Snd x ∧ Snd y)) : Cl Tryz.prog 44 #[.agg (mvc x).toArray, .agg (mvc y).toArray] w (RetMF w 1) := by
  have hpl := fun w => mplace_bad w x y 85 hx hy hn
  clear hn hx hy
  obtain ⟨xr, xc, A, n, k, l⟩ := x
  obtain ⟨yr, yc, A2, n2, k2, l2⟩ := y
  refine enter Tryz.func44 rfl rfl rfl ?_
  have hF := Fr.refl w
  repeat' (first | (refine TL.isOp ?_; first | (refine TL.isCall ?_; refine TL.call rfl rfl ?_; first | (refine (hpl _).mono ?_; rintro _ wc ⟨rfl, hE⟩; replace hF := hF.exts hE; clear hE; refine Back.mk ?_)) | (apply TL.ev; (case hd => rfl); (case h => (first | exact ev_simple rfl | (apply Ev.isLoad; first | exact ev_loadAFr hF rfl (by refine ⟨?_, ?_⟩; (focus (repeat (first | exact InV.head | apply InV.tail))); rfl))))) | (refine TL.storeAFr hF rfl rfl rfl rfl (by refine ⟨?_, ?_⟩; (focus (repeat (first | apply SetV.head | apply SetV.tail))); rfl) rfl ?_; clear hF; intro ws hF) | (refine TL.boxAFr hF (d := 2) (cs := [.int .i64 xr, .int .i64 xc, .slice A n k]) rfl rfl ?_; clear hF; intro w2 b2 hF) | (refine TL.boxAFr hF (d := 3) (cs := [.int .i64 yr, .int .i64 yc, .slice A2 n2 k2]) rfl rfl ?_; clear hF; intro w3 b3 hF) | (refine TL.allocFr hF (d := 4) rfl rfl ?_; clear hF; intro w4 b4 hF)) | (refine T.is ?_; first | refine T.seq ?_ | refine T.region ?_ | refine T.ret ?_) | (refine G.is ?_; first | refine G.next ?_) | refine TL.nil ?_)
  exact G.retC2 rfl rfl rfl (held_agg (hF.var (by repeat (first | exact InV.head | apply InV.tail))) rfl) ⟨rfl, hF.ext⟩
set_option maxRecDepth 100000 in
theorem mstack_bad (w : World) (A : Option Addr) (n k : Nat) (L : List MV) (hs : Sm 3 mvc w.heap w.heap.size A n k L) (hR : ∀ y ∈ L, InR y) (hL : ∃ y ∈ L, ¬ Snd y) (hn : n ≤ 1048576) : Cl Tryz.prog 51 #[.slice A n k] w (RetMF w 1) := by
  refine enter Tryz.func51 rfl rfl rfl ?_
  have hF := Fr.refl w
  repeat' (first | (refine TL.isOp ?_; first | (refine TL.isCall ?_; refine TL.call rfl rfl ?_; first | (refine (check_bad _ _ _ _ _ (hs.ext hF.ext).size hR hL hn).mono ?_; rintro _ wc ⟨rfl, hE⟩; replace hF := hF.exts hE; clear hE; refine Back.mk ?_)) | (refine TL.isBin ?_; refine TL.cmpG rfl rfl rfl rfl (fun hc => ?_) (fun hc => ?_) <;> (try (first | (exfalso; omega) | exact absurd rfl hc))) | (apply TL.ev; (case hd => rfl); (case h => (first | exact ev_simple rfl | exact ev_buildX rfl rfl))) | (refine TL.storeAFr hF rfl rfl rfl rfl (by refine ⟨?_, ?_⟩; (focus (repeat (first | apply SetV.head | apply SetV.tail))); rfl) rfl ?_; clear hF; intro ws hF) | (refine TL.allocFr hF (d := 2) rfl rfl ?_; clear hF; intro w2 b2 hF)) | (refine T.is ?_; first | refine T.seq ?_ | refine T.region ?_ | refine T.cond_t rfl ?_ | refine T.ret ?_) | (refine G.is ?_; first | refine G.next ?_ | refine G.thenR ?_) | refine TL.nil ?_)
  exact G.retC2 rfl rfl rfl (held_agg (hF.var (by repeat (first | exact InV.head | apply InV.tail))) rfl) ⟨rfl, hF.ext⟩
set_option maxRecDepth 100000 in
theorem mbeside_bad (w : World) (A : Option Addr) (n k : Nat) (L : List MV) (hs : Sm 3 mvc w.heap w.heap.size A n k L) (hR : ∀ y ∈ L, InR y) (hL : ∃ y ∈ L, ¬ Snd y) (hn : n ≤ 1048576) : Cl Tryz.prog 52 #[.slice A n k] w (RetMF w 1) := by
  refine enter Tryz.func52 rfl rfl rfl ?_
  have hF := Fr.refl w
  repeat' (first | (refine TL.isOp ?_; first | (refine TL.isCall ?_; refine TL.call rfl rfl ?_; first | (refine (check_bad _ _ _ _ _ (hs.ext hF.ext).size hR hL hn).mono ?_; rintro _ wc ⟨rfl, hE⟩; replace hF := hF.exts hE; clear hE; refine Back.mk ?_)) | (refine TL.isBin ?_; refine TL.cmpG rfl rfl rfl rfl (fun hc => ?_) (fun hc => ?_) <;> (try (first | (exfalso; omega) | exact absurd rfl hc))) | (apply TL.ev; (case hd => rfl); (case h => (first | exact ev_simple rfl | exact ev_buildX rfl rfl))) | (refine TL.storeAFr hF rfl rfl rfl rfl (by refine ⟨?_, ?_⟩; (focus (repeat (first | apply SetV.head | apply SetV.tail))); rfl) rfl ?_; clear hF; intro ws hF) | (refine TL.allocFr hF (d := 2) rfl rfl ?_; clear hF; intro w2 b2 hF)) | (refine T.is ?_; first | refine T.seq ?_ | refine T.region ?_ | refine T.cond_t rfl ?_ | refine T.ret ?_) | (refine G.is ?_; first | refine G.next ?_ | refine G.thenR ?_) | refine TL.nil ?_)
  exact G.retC2 rfl rfl rfl (held_agg (hF.var (by repeat (first | exact InV.head | apply InV.tail))) rfl) ⟨rfl, hF.ext⟩
end Go.Proofs.YtlhmehikajidhaaGreat
