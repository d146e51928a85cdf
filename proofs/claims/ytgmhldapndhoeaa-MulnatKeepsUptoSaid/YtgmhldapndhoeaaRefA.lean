/- The document's answers for layer 1: Split, trim, Join, at, Least, order, Cmp. -/
import Derived.Test.YtgmhldapndhoeaaNatA
import Derived.Test.YtgmhldapndhoeaaEngD
import Derived.Test.YtgmhldapndhoeaaMathR
set_option linter.unusedVariables false
set_option linter.unusedSimpArgs false
namespace Go.Proofs.Ytgmhldapndhoeaa
open Go Go.Eng Go.Proofs Go.NatM Go.RowKit

/-- a new list of small digits, of at most K -/
def RetI (w : World) (L : List Nat) (K : Nat) (e : Ending) (w' : World) : Prop := ∃ A n c, e = .returned (.slice A n c) ∧ Ow n64v w'.heap w.heap.size 3 A n c L ∧ Ext w w' ∧ n ≤ K
theorem RetI.mk {w w' : World} {L : List Nat} {A : Option Addr} {n c K : Nat} (h : Ow n64v w'.heap w.heap.size 3 A n c L) (he : Ext w w') (hk : n ≤ K) : RetI w L K (.returned (.slice A n c)) w' := ⟨A, n, c, rfl, h, he, hk⟩

theorem rtrim_ok (H : Array Obj) (B : Nat) (A : Option Addr) (n c : Nat) (l : List Nat) (hs : Sl n64v H B A n c l) (hn : n < 9223372036854775808) :
    Pure Try.prog 76 #[.slice A n c] H (.slice A (N16.sz l) c) := by
  refine Pure.of fun w hw => ?_
  subst hw
  have hlen := hs.len
  have hcap := hs.cap
  refine enter Try.func76 rfl rfl rfl ?_
  repeat' (first | refine TL.ev (ev_simple rfl) rfl ?_ | refine TL.grun rfl rfl rfl ?_ | refine TL.gskip rfl rfl rfl rfl ?_ | refine TL.gskipU rfl rfl rfl ?_ | refine TL.ev (ev_len rfl) rfl ?_ | (refine TL.cmpG rfl rfl rfl rfl (fun hc => ?_) (fun hc => ?_) <;> try (exfalso; omega)) | refine TL.ev (ev_arN rfl rfl rfl (by omega)) rfl ?_ | refine TL.ev (ev_arI rfl rfl rfl (by omega)) rfl ?_ | refine TL.ev (ev_neg rfl (by omega)) rfl ?_ | refine TL.ev (ev_indexN rfl rfl (by omega) (by first | exact Or.inr rfl | exact Sl.some (by assumption))) rfl ?_ | refine TL.ev (ev_index rfl rfl (by omega) (by first | exact Or.inr rfl | exact Sl.some (by assumption))) rfl ?_ | refine TL.ev (ev_loadU rfl (by assumption) (by omega)) rfl ?_ | refine TL.ev (ev_loadI rfl (by assumption) (by omega)) rfl ?_ | refine T.seq ?_ | refine T.region ?_ | refine TL.nil ?_ | refine T.block ?_ | refine T.cond_t rfl ?_ | refine T.cond_f rfl ?_ | refine T.exit ?_ | refine T.ret ?_ | refine T.skip ?_ | refine G.next ?_ | refine G.blockN ?_ | refine G.blockE ?_ | refine G.blockE' rfl ?_ | refine G.blockR ?_ | refine G.thenE ?_ | refine G.thenR ?_ | refine T.regionQ mixed (by kernel_rfl) ?_ | refine TL.nilQ (fun _ => ?_) | refine G.only ?_ | refine G.mixed ?_ | refine TM.nil ?_ | refine TM.e rfl ?_)
  refine T.loop (fun k : Nat => [(0, .slice A n c), (3, .int .i64 (k : Int))]) (fun k w' => w' = w ∧ k ≤ n ∧ ∀ j, k ≤ j → l.getD j 0 = 0) (fun k => k) n (by repeat (first | exact Sub.nil _ | refine Sub.cons rfl ?_ | refine Sub.cons' rfl (int_congr (by omega)) ?_)) ⟨rfl, Nat.le_refl _, ?_⟩ ?_
  · intro j hj; simp [List.getD, List.getElem?_eq_none (show l.length ≤ j by omega)]
  · rintro k w' ⟨rfl, hk, hz⟩
    repeat' (first | refine TL.ev (ev_simple rfl) rfl ?_ | refine TL.grun rfl rfl rfl ?_ | refine TL.gskip rfl rfl rfl rfl ?_ | refine TL.gskipU rfl rfl rfl ?_ | refine TL.ev (ev_len rfl) rfl ?_ | (refine TL.cmpG rfl rfl rfl rfl (fun hc => ?_) (fun hc => ?_) <;> try (exfalso; omega)) | refine TL.ev (ev_arN rfl rfl rfl (by omega)) rfl ?_ | refine TL.ev (ev_arI rfl rfl rfl (by omega)) rfl ?_ | refine TL.ev (ev_neg rfl (by omega)) rfl ?_ | refine TL.ev (ev_indexN rfl rfl (by omega) (by first | exact Or.inr rfl | exact Sl.some (by assumption))) rfl ?_ | refine TL.ev (ev_index rfl rfl (by omega) (by first | exact Or.inr rfl | exact Sl.some (by assumption))) rfl ?_ | refine TL.ev (ev_loadU rfl (by assumption) (by omega)) rfl ?_ | refine TL.ev (ev_loadI rfl (by assumption) (by omega)) rfl ?_ | refine TL.ev (ev_loadN rfl (by assumption) (by omega)) rfl ?_ | refine TL.ev (ev_sl_h rfl rfl (by omega)) rfl ?_ | refine TL.ev (ev_sl_l rfl rfl (by omega) (by omega)) rfl ?_ | refine TL.ev (ev_sl_lh rfl rfl rfl (by omega) (by omega)) rfl ?_ | refine TL.ev (ev_sl_hm rfl rfl rfl (by omega) (by omega)) rfl ?_ | refine TL.ev (ev_sl_lhm rfl rfl rfl rfl (by omega) (by omega) (by omega)) rfl ?_ | refine T.seq ?_ | refine T.region ?_ | refine TL.nil ?_ | refine T.block ?_ | refine T.cond_t rfl ?_ | refine T.cond_f rfl ?_ | refine T.exit ?_ | refine T.ret ?_ | refine T.skip ?_ | refine G.next ?_ | refine G.blockN ?_ | refine G.blockE ?_ | refine G.blockE' rfl ?_ | refine G.blockR ?_ | refine G.thenE ?_ | refine G.thenR ?_ | refine T.regionQ mixed (by kernel_rfl) ?_ | refine TL.nilQ (fun _ => ?_) | refine G.only ?_ | refine G.mixed ?_ | refine TM.nil ?_ | refine TM.e rfl ?_)
    · refine G.again (k - 1) (by repeat (first | exact Sub.nil _ | refine Sub.cons rfl ?_ | refine Sub.cons' rfl (int_congr (by omega)) ?_)) ⟨rfl, by omega, fun j hj => ?_⟩ (by omega)
      rcases Nat.lt_or_ge j k with h | h
      · obtain rfl : j = k - 1 := by omega
        omega
      · exact hz j h
    · rw [N16.sz_eq l k (by omega) hz (.inr (by omega))]
      exact G.ret1 rfl rfl ⟨rfl, Qt.refl _⟩
    · rw [N16.sz_eq l k (by omega) hz (.inl (by omega))]
      exact G.ret1 rfl rfl ⟨rfl, Qt.refl _⟩

set_option maxHeartbeats 2000000 in
theorem split_ok (w : World) (B : Nat) (A : Option Addr) (n c : Nat) (l : List Nat) (hs : Sl u64v w.heap B A n c l) (hu : U64 l) (hn : n ≤ 1099511627776) :
    Cl Try.prog 72 #[.slice A n c] w (RetI w (N16.dig (val l)) (4 * n)) := by
  have hlen := hs.len
  replace hs := hs.size
  refine enter Try.func72 rfl rfl rfl ?_
  repeat' (first | refine TL.ev (ev_simple rfl) rfl ?_ | refine TL.grun rfl rfl rfl ?_ | refine TL.gskip rfl rfl rfl rfl ?_ | refine TL.gskipU rfl rfl rfl ?_ | refine TL.ev (ev_len rfl) rfl ?_ | (refine TL.cmpG rfl rfl rfl rfl (fun hc => ?_) (fun hc => ?_) <;> try (exfalso; omega)) | refine TL.ev (ev_arN rfl rfl rfl (by omega)) rfl ?_ | refine TL.ev (ev_arI rfl rfl rfl (by omega)) rfl ?_ | refine TL.ev (ev_neg rfl (by omega)) rfl ?_ | (refine TL.makeN rfl rfl rfl (by omega) (by omega) (fun w1 b1 eb hB hE hz => ?_)) | refine T.seq ?_ | refine T.region ?_ | refine TL.nil ?_ | refine T.block ?_ | refine T.cond_t rfl ?_ | refine T.cond_f rfl ?_ | refine T.exit ?_ | refine T.ret ?_ | refine T.skip ?_ | refine G.next ?_ | refine G.blockN ?_ | refine G.blockE ?_ | refine G.blockE' rfl ?_ | refine G.blockR ?_ | refine G.thenE ?_ | refine G.thenR ?_ | refine T.regionQ mixed (by kernel_rfl) ?_ | refine TL.nilQ (fun _ => ?_) | refine G.only ?_ | refine G.mixed ?_ | refine TM.nil ?_ | refine TM.e rfl ?_)
  have hO := ow_head hB (c := 4 * n) (by simp) (by unfold maxLen; simp; omega) (Nat.le_of_eq eb.symm)
  refine T.loop (α := Nat × Option Addr × Nat × List Nat) (fun x => [(0, .slice A n c), (3, .slice x.2.1 (4 * x.1) x.2.2.1), (4, .int .i64 (x.1 : Int))])
    (fun x w' => x.1 ≤ n ∧ Ext w w' ∧ Ow n64v w'.heap w.heap.size 3 x.2.1 (4 * x.1) x.2.2.1 x.2.2.2 ∧ N16.U64 x.2.2.2 ∧ N16.val x.2.2.2 = val (l.take x.1))
    (fun x => n - x.1) (0, some ⟨b1, 0, none⟩, 4 * n, []) (by repeat (first | exact Sub.nil _ | refine Sub.cons rfl ?_ | refine Sub.cons' rfl (int_congr (by omega)) ?_)) ⟨Nat.zero_le _, hE, hO, N16.U64.nil, rfl⟩ ?_
  rintro ⟨i, A1, c1, D⟩ w2 ⟨hi, hE2, hO2, hDu, hv⟩
  dsimp only at hi hE2 hO2 hDu hv ⊢
  have hD := hO2.len
  have t1 := hs.ext hE2
  rcases Nat.lt_or_ge i n with hin | hin
  · have hx := hu.getD i
    repeat' (first | refine TL.ev (ev_simple rfl) rfl ?_ | refine TL.grun rfl rfl rfl ?_ | refine TL.gskip rfl rfl rfl rfl ?_ | refine TL.gskipU rfl rfl rfl ?_ | refine TL.ev (ev_len rfl) rfl ?_ | (refine TL.cmpG rfl rfl rfl rfl (fun hc => ?_) (fun hc => ?_) <;> try (exfalso; omega)) | refine TL.ev (ev_arN rfl rfl rfl (by omega)) rfl ?_ | refine TL.ev (ev_arI rfl rfl rfl (by omega)) rfl ?_ | refine TL.ev (ev_neg rfl (by omega)) rfl ?_ | refine TL.ev (ev_indexN rfl rfl (by omega) (by first | exact Or.inr rfl | exact Sl.some (by assumption))) rfl ?_ | refine TL.ev (ev_index rfl rfl (by omega) (by first | exact Or.inr rfl | exact Sl.some (by assumption))) rfl ?_ | refine TL.ev (ev_loadU rfl (by assumption) (by omega)) rfl ?_ | refine TL.ev (ev_loadI rfl (by assumption) (by omega)) rfl ?_ | refine T.seq ?_ | refine T.region ?_ | refine TL.nil ?_ | refine T.block ?_ | refine T.cond_t rfl ?_ | refine T.cond_f rfl ?_ | refine T.exit ?_ | refine T.ret ?_ | refine T.skip ?_ | refine G.next ?_ | refine G.blockN ?_ | refine G.blockE ?_ | refine G.blockE' rfl ?_ | refine G.blockR ?_ | refine G.thenE ?_ | refine G.thenR ?_ | refine T.regionQ mixed (by kernel_rfl) ?_ | refine TL.nilQ (fun _ => ?_) | refine G.only ?_ | refine G.mixed ?_ | refine TM.nil ?_ | refine TM.e rfl ?_)
    refine T.loop (α := Nat × Option Addr × Nat) (fun x => [(0, .slice A n c), (3, .slice x.2.1 (4 * i + x.1) x.2.2), (4, .int .i64 (i : Int)), (5, .int .u64 ((l.getD i 0 / 65536 ^ x.1 : Nat) : Int)), (6, .int .i64 (x.1 : Int))])
      (fun x w' => x.1 ≤ 4 ∧ Ext w w' ∧ Ow n64v w'.heap w.heap.size 3 x.2.1 (4 * i + x.1) x.2.2 (D ++ fourK (l.getD i 0) x.1))
      (fun x => 4 - x.1) (0, A1, c1) (by rw [Nat.pow_zero, Nat.div_one]; exact (by repeat (first | exact Sub.nil _ | refine Sub.cons rfl ?_ | refine Sub.cons' rfl (int_congr (by omega)) ?_))) ⟨by dsimp only; omega, hE2, by simpa [fourK] using hO2⟩ ?_
    rintro ⟨k, A3, c3⟩ w3 ⟨hk, hE3, hO3⟩
    dsimp only at hk hE3 hO3 ⊢
    rcases Nat.lt_or_ge k 4 with hk4 | hk4
    · have hx2 : l.getD i 0 / 65536 ^ k < 18446744073709551616 := Nat.lt_of_le_of_lt (Nat.div_le_self _ _) hx
      have hsz := hE3.size
      repeat' (first | refine TL.ev (ev_simple rfl) rfl ?_ | refine TL.grun rfl rfl rfl ?_ | refine TL.gskip rfl rfl rfl rfl ?_ | refine TL.gskipU rfl rfl rfl ?_ | refine TL.ev (ev_len rfl) rfl ?_ | (refine TL.cmpG rfl rfl rfl rfl (fun hc => ?_) (fun hc => ?_) <;> try (exfalso; omega)) | refine TL.ev (ev_arN rfl rfl rfl (by omega)) rfl ?_ | refine TL.ev (ev_arI rfl rfl rfl (by omega)) rfl ?_ | refine TL.ev (ev_neg rfl (by omega)) rfl ?_ | refine TL.ev (ev_shrU rfl rfl (by first | omega | exact U64.getD (by assumption) _)) rfl ?_ | refine TL.ev (ev_shlU rfl rfl) rfl ?_ | refine TL.ev (ev_andU rfl rfl (by first | omega | exact U64.getD (by assumption) _) (by first | omega | exact U64.getD (by assumption) _)) rfl ?_ | refine TL.ev (ev_orU rfl rfl (by first | omega | exact U64.getD (by assumption) _) (by first | omega | exact U64.getD (by assumption) _)) rfl ?_ | refine TL.ev (ev_xorU rfl rfl (by first | omega | exact U64.getD (by assumption) _) (by first | omega | exact U64.getD (by assumption) _)) rfl ?_ | refine TL.ev (ev_convU rfl (by omega)) rfl ?_ | refine TL.ev (ev_convI rfl (by omega)) rfl ?_ | refine TL.ev (ev_arU rfl rfl rfl (by first | exact True.intro | omega)) rfl ?_ | (refine TL.build1N rfl rfl (fun w4 b4 eb4 hB4 hE4 hz4 => ?_); have hO4 := hO3.ext hE4; have hS4 := hB4.slN (n := 1) (c := 1) rfl (Nat.le_refl _) hB4.lt) | (refine TL.append (f := n64v) (fun _ => rfl) rfl rfl rfl rfl hO4 hS4 (by omega) (by omega) (fun w5 A5 c5 hO5 hg5 hL5 => ?_)) | refine T.seq ?_ | refine T.region ?_ | refine TL.nil ?_ | refine T.block ?_ | refine T.cond_t rfl ?_ | refine T.cond_f rfl ?_ | refine T.exit ?_ | refine T.ret ?_ | refine T.skip ?_ | refine G.next ?_ | refine G.blockN ?_ | refine G.blockE ?_ | refine G.blockE' rfl ?_ | refine G.blockR ?_ | refine G.thenE ?_ | refine G.thenR ?_ | refine T.regionQ mixed (by kernel_rfl) ?_ | refine TL.nilQ (fun _ => ?_) | refine G.only ?_ | refine G.mixed ?_ | refine TM.nil ?_ | refine TM.e rfl ?_)
      refine G.again (k + 1, A5, c5) (by rw [Nat.pow_succ, ← Nat.div_div_eq_div_mul]; exact (by repeat (first | exact Sub.nil _ | refine Sub.cons rfl ?_ | refine Sub.cons' rfl (int_congr (by omega)) ?_))) ⟨by dsimp only; omega, Below.trans (hE3.trans hE4) hL5, ?_⟩ (by dsimp only; omega)
      dsimp only
      rw [fourK_succ, ← List.append_assoc]
      exact hO5
    · obtain rfl : k = 4 := by omega
      repeat' (first | refine TL.ev (ev_simple rfl) rfl ?_ | refine TL.grun rfl rfl rfl ?_ | refine TL.gskip rfl rfl rfl rfl ?_ | refine TL.gskipU rfl rfl rfl ?_ | refine TL.ev (ev_len rfl) rfl ?_ | (refine TL.cmpG rfl rfl rfl rfl (fun hc => ?_) (fun hc => ?_) <;> try (exfalso; omega)) | refine TL.ev (ev_arN rfl rfl rfl (by omega)) rfl ?_ | refine TL.ev (ev_arI rfl rfl rfl (by omega)) rfl ?_ | refine TL.ev (ev_neg rfl (by omega)) rfl ?_ | refine TL.ev (ev_shrU rfl rfl (by first | omega | exact U64.getD (by assumption) _)) rfl ?_ | refine TL.ev (ev_shlU rfl rfl) rfl ?_ | refine TL.ev (ev_andU rfl rfl (by first | omega | exact U64.getD (by assumption) _) (by first | omega | exact U64.getD (by assumption) _)) rfl ?_ | refine TL.ev (ev_orU rfl rfl (by first | omega | exact U64.getD (by assumption) _) (by first | omega | exact U64.getD (by assumption) _)) rfl ?_ | refine TL.ev (ev_xorU rfl rfl (by first | omega | exact U64.getD (by assumption) _) (by first | omega | exact U64.getD (by assumption) _)) rfl ?_ | refine TL.ev (ev_convU rfl (by omega)) rfl ?_ | refine TL.ev (ev_convI rfl (by omega)) rfl ?_ | refine TL.ev (ev_arU rfl rfl rfl (by first | exact True.intro | omega)) rfl ?_ | refine T.seq ?_ | refine T.region ?_ | refine TL.nil ?_ | refine T.block ?_ | refine T.cond_t rfl ?_ | refine T.cond_f rfl ?_ | refine T.exit ?_ | refine T.ret ?_ | refine T.skip ?_ | refine G.next ?_ | refine G.blockN ?_ | refine G.blockE ?_ | refine G.blockE' rfl ?_ | refine G.blockR ?_ | refine G.thenE ?_ | refine G.thenR ?_ | refine T.regionQ mixed (by kernel_rfl) ?_ | refine TL.nilQ (fun _ => ?_) | refine G.only ?_ | refine G.mixed ?_ | refine TM.nil ?_ | refine TM.e rfl ?_)
      refine G.again (i + 1, A3, c3, D ++ fourK (l.getD i 0) 4) (by rw [Nat.mul_add]; exact (by repeat (first | exact Sub.nil _ | refine Sub.cons rfl ?_ | refine Sub.cons' rfl (int_congr (by omega)) ?_))) ⟨by dsimp only; omega, hE3, hO3, hDu.append (U_fourK _ _), ?_⟩ (by dsimp only; omega)
      dsimp only
      rw [N16.val_append, hD, W_pow4, val_fourK hx, hv, val_take_succ]
  · obtain rfl : i = n := by omega
    have e : l.take i = l := List.take_of_length_le (by omega)
    rw [e] at hv
    have hS := hO2.sl (Nat.le_refl _)
    have hz := N16.sz_le D
    repeat' (first | refine TL.ev (ev_simple rfl) rfl ?_ | refine TL.grun rfl rfl rfl ?_ | refine TL.gskip rfl rfl rfl rfl ?_ | refine TL.gskipU rfl rfl rfl ?_ | refine TL.ev (ev_len rfl) rfl ?_ | (refine TL.cmpG rfl rfl rfl rfl (fun hc => ?_) (fun hc => ?_) <;> try (exfalso; omega)) | refine TL.ev (ev_arN rfl rfl rfl (by omega)) rfl ?_ | refine TL.ev (ev_arI rfl rfl rfl (by omega)) rfl ?_ | refine TL.ev (ev_neg rfl (by omega)) rfl ?_ | (refine TL.callP rfl rfl (rtrim_ok _ _ _ _ _ _ hS (by omega)) (fun q1 => ?_)) | refine T.seq ?_ | refine T.region ?_ | refine TL.nil ?_ | refine T.block ?_ | refine T.cond_t rfl ?_ | refine T.cond_f rfl ?_ | refine T.exit ?_ | refine T.ret ?_ | refine T.skip ?_ | refine G.next ?_ | refine G.blockN ?_ | refine G.blockE ?_ | refine G.blockE' rfl ?_ | refine G.blockR ?_ | refine G.thenE ?_ | refine G.thenR ?_ | refine T.regionQ mixed (by kernel_rfl) ?_ | refine TL.nilQ (fun _ => ?_) | refine G.only ?_ | refine G.mixed ?_ | refine TM.nil ?_ | refine TM.e rfl ?_)
    have := hO2.take (k := N16.sz D) (by omega)
    rw [N16.take_sz hDu, hv] at this
    exact G.ret1 rfl rfl (RetI.mk this (hE2.drewN _) (by omega))

theorem sz16_take (l : List Nat) : N16.sz (l.take (N16.sz l)) = N16.sz l := by
  have h := N16.sz_le l
  refine N16.sz_eq _ _ (by rw [List.length_take]; omega) (fun j hj => N16.getD_ge (by rw [List.length_take]; omega)) ?_
  rcases N16.sz_top l with h | h
  · exact .inl h
  · rcases Nat.eq_zero_or_pos (N16.sz l) with h0 | h0
    · exact .inl h0
    · refine .inr ?_
      have e : (l.take (N16.sz l)).getD (N16.sz l - 1) 0 = l.getD (N16.sz l - 1) 0 := by simp [List.getD, List.getElem?_take, show N16.sz l - 1 < N16.sz l by omega]
      rwa [e]
set_option maxHeartbeats 2000000 in
theorem join_ok (w : World) (B : Nat) (A : Option Addr) (n c : Nat) (l : List Nat) (hs : Sl n64v w.heap B A n c l) (hu : N16.U64 l) (hn : n ≤ 4398046511104) :
    Cl Try.prog 74 #[.slice A n c] w (RetN w (dig (N16.val l)) (n / 4 + 1)) := by
  have hlen := hs.len
  have hcap := hs.cap
  replace hs := hs.size
  have hsz := N16.sz_le l
  have hsT := hs.take (k := N16.sz l) (m := c) (by omega) (by omega)
  have hT := sz16_take l
  have huT := hu.take (N16.sz l)
  have hvT := N16.val_sz l
  have hlT := hsT.len
  rw [← hvT]
  refine enter Try.func74 rfl rfl rfl ?_
  repeat' (first | refine TL.ev (ev_simple rfl) rfl ?_ | refine TL.grun rfl rfl rfl ?_ | refine TL.gskip rfl rfl rfl rfl ?_ | refine TL.gskipU rfl rfl rfl ?_ | refine TL.ev (ev_len rfl) rfl ?_ | (refine TL.cmpG rfl rfl rfl rfl (fun hc => ?_) (fun hc => ?_) <;> try (exfalso; omega)) | refine TL.ev (ev_arN rfl rfl rfl (by omega)) rfl ?_ | refine TL.ev (ev_arI rfl rfl rfl (by omega)) rfl ?_ | refine TL.ev (ev_neg rfl (by omega)) rfl ?_ | (refine TL.callP rfl rfl (rtrim_ok _ _ _ _ _ _ hs (by omega)) (fun q1 => ?_)) | (refine TL.makeU rfl rfl rfl (by omega) (by omega) (fun w1 b1 eb hB hE hz => ?_); simp only [World.heap_drewN] at eb hz; have hE1 := (ext_drewN w q1).trans hE) | refine T.seq ?_ | refine T.region ?_ | refine TL.nil ?_ | refine T.block ?_ | refine T.cond_t rfl ?_ | refine T.cond_f rfl ?_ | refine T.exit ?_ | refine T.ret ?_ | refine T.skip ?_ | refine G.next ?_ | refine G.blockN ?_ | refine G.blockE ?_ | refine G.blockE' rfl ?_ | refine G.blockR ?_ | refine G.thenE ?_ | refine G.thenR ?_ | refine T.regionQ mixed (by kernel_rfl) ?_ | refine TL.nilQ (fun _ => ?_) | refine G.only ?_ | refine G.mixed ?_ | refine TM.nil ?_ | refine TM.e rfl ?_)
  have hO := ow_head (lo := w.heap.size) hB (c := N16.sz l / 4 + 1) (by simp) (by unfold maxLen; simp; omega) (Nat.le_of_eq eb.symm)
  have hk4 : N16.sz l / 4 + 1 ≤ n / 4 + 1 := by omega
  generalize l.take (N16.sz l) = E at *
  generalize N16.sz l = nT at *
  refine T.loop (α := Nat × Option Addr × Nat × List Nat) (fun x => [(0, .slice A nT c), (3, .slice x.2.1 x.1 x.2.2.1), (4, .int .i64 ((4 * x.1 : Nat) : Int))])
    (fun x w' => 4 * x.1 < nT + 4 ∧ Ext w w' ∧ Ow u64v w'.heap w.heap.size 25 x.2.1 x.1 x.2.2.1 x.2.2.2 ∧ U64 x.2.2.2 ∧ val x.2.2.2 = N16.val (E.take (4 * x.1)))
    (fun x => nT + 4 - 4 * x.1) (0, some ⟨b1, 0, none⟩, nT / 4 + 1, []) (by repeat (first | exact Sub.nil _ | refine Sub.cons rfl ?_ | refine Sub.cons' rfl (int_congr (by omega)) ?_)) ⟨by dsimp only; omega, hE1, hO, U64.nil, rfl⟩ ?_
  rintro ⟨q, A1, c1, D⟩ w2 ⟨hi, hE2, hO2, hDu, hv⟩
  dsimp only at hi hE2 hO2 hDu hv ⊢
  have hD := hO2.len
  have t1 := hsT.ext hE2
  have hsz2 := hE2.size
  rcases Nat.lt_or_ge (4 * q) nT with hin | hin
  · repeat' (first | refine TL.ev (ev_simple rfl) rfl ?_ | refine TL.grun rfl rfl rfl ?_ | refine TL.gskip rfl rfl rfl rfl ?_ | refine TL.gskipU rfl rfl rfl ?_ | refine TL.ev (ev_len rfl) rfl ?_ | (refine TL.cmpG rfl rfl rfl rfl (fun hc => ?_) (fun hc => ?_) <;> try (exfalso; omega)) | refine TL.ev (ev_arN rfl rfl rfl (by omega)) rfl ?_ | refine TL.ev (ev_arI rfl rfl rfl (by omega)) rfl ?_ | refine TL.ev (ev_neg rfl (by omega)) rfl ?_ | refine T.seq ?_ | refine T.region ?_ | refine TL.nil ?_ | refine T.block ?_ | refine T.cond_t rfl ?_ | refine T.cond_f rfl ?_ | refine T.exit ?_ | refine T.ret ?_ | refine T.skip ?_ | refine G.next ?_ | refine G.blockN ?_ | refine G.blockE ?_ | refine G.blockE' rfl ?_ | refine G.blockR ?_ | refine G.thenE ?_ | refine G.thenR ?_ | refine T.regionQ mixed (by kernel_rfl) ?_ | refine TL.nilQ (fun _ => ?_) | refine G.only ?_ | refine G.mixed ?_ | refine TM.nil ?_ | refine TM.e rfl ?_)
    refine T.loop (α := Int) (fun x => [(0, .slice A nT c), (3, .slice A1 q c1), (4, .int .i64 ((4 * q : Nat) : Int)), (5, .int .u64 ((N16.val ((E.drop (4 * q + (x + 1).toNat)).take (4 - (x + 1).toNat)) : Nat) : Int)), (6, .int .i64 x)])
      (fun x w' => -1 ≤ x ∧ x ≤ 3 ∧ w' = w2)
      (fun x => (x + 1).toNat) 3 (by rw [show (3 + 1 : Int).toNat = 4 by rfl, Nat.sub_self, List.take_zero]; exact (by repeat (first | exact Sub.nil _ | refine Sub.cons rfl ?_ | refine Sub.cons' rfl (int_congr (by omega)) ?_))) ⟨by omega, by omega, rfl⟩ ?_
    rintro x w3 ⟨hx0, hx1, rfl⟩
    rcases (show x = -1 ∨ 0 ≤ x by omega) with rfl | hx
    · rw [show (-1 + 1 : Int).toNat = 0 by rfl, Nat.add_zero, Nat.sub_zero]
      have hlt := part16_lt huT (4 * q) 4
      rw [← W_four] at hlt
      repeat' (first | refine TL.ev (ev_simple rfl) rfl ?_ | refine TL.grun rfl rfl rfl ?_ | refine TL.gskip rfl rfl rfl rfl ?_ | refine TL.gskipU rfl rfl rfl ?_ | refine TL.ev (ev_len rfl) rfl ?_ | (refine TL.cmpG rfl rfl rfl rfl (fun hc => ?_) (fun hc => ?_) <;> try (exfalso; omega)) | refine TL.ev (ev_arN rfl rfl rfl (by omega)) rfl ?_ | refine TL.ev (ev_arI rfl rfl rfl (by omega)) rfl ?_ | refine TL.ev (ev_neg rfl (by omega)) rfl ?_ | refine TL.ev (ev_shrU rfl rfl (by first | omega | exact U64.getD (by assumption) _)) rfl ?_ | refine TL.ev (ev_shlU rfl rfl) rfl ?_ | refine TL.ev (ev_andU rfl rfl (by first | omega | exact U64.getD (by assumption) _) (by first | omega | exact U64.getD (by assumption) _)) rfl ?_ | refine TL.ev (ev_orU rfl rfl (by first | omega | exact U64.getD (by assumption) _) (by first | omega | exact U64.getD (by assumption) _)) rfl ?_ | refine TL.ev (ev_xorU rfl rfl (by first | omega | exact U64.getD (by assumption) _) (by first | omega | exact U64.getD (by assumption) _)) rfl ?_ | refine TL.ev (ev_convU rfl (by omega)) rfl ?_ | refine TL.ev (ev_convI rfl (by omega)) rfl ?_ | refine TL.ev (ev_arU rfl rfl rfl (by first | exact True.intro | omega)) rfl ?_ | (refine TL.build1U rfl rfl (fun w4 b4 eb4 hB4 hE4 hz4 => ?_); have hO4 := hO2.ext hE4; have hS4 := hB4.slN (n := 1) (c := 1) rfl (Nat.le_refl _) hB4.lt) | (refine TL.append (f := u64v) (fun _ => rfl) rfl rfl rfl rfl hO4 hS4 (by omega) (by omega) (fun w5 A5 c5 hO5 hg5 hL5 => ?_)) | refine T.seq ?_ | refine T.region ?_ | refine TL.nil ?_ | refine T.block ?_ | refine T.cond_t rfl ?_ | refine T.cond_f rfl ?_ | refine T.exit ?_ | refine T.ret ?_ | refine T.skip ?_ | refine G.next ?_ | refine G.blockN ?_ | refine G.blockE ?_ | refine G.blockE' rfl ?_ | refine G.blockR ?_ | refine G.thenE ?_ | refine G.thenR ?_ | refine T.regionQ mixed (by kernel_rfl) ?_ | refine TL.nilQ (fun _ => ?_) | refine G.only ?_ | refine G.mixed ?_ | refine TM.nil ?_ | refine TM.e rfl ?_)
      refine G.again (q + 1, A5, c5, _) (by rw [Nat.mul_add]; exact (by repeat (first | exact Sub.nil _ | refine Sub.cons rfl ?_ | refine Sub.cons' rfl (int_congr (by omega)) ?_))) ⟨by dsimp only; omega, Below.trans (hE2.trans hE4) hL5, hO5, hDu.append (U64.one hlt), ?_⟩ (by dsimp only; omega)
      dsimp only
      rw [val_snoc, hD, hv, take16_four, Nat.add_zero]
    · obtain ⟨k, rfl⟩ := Int.eq_ofNat_of_zero_le hx
      have hd := huT.getD (4 * q + k)
      have hlt := part16_lt huT (4 * q + (k + 1)) (3 - k)
      have hle : 65536 ^ (3 - k) ≤ 65536 ^ 3 := Nat.pow_le_pow_right (by omega) (by omega)
      have hst := part16_succ E (4 * q + k) (3 - k)
      rw [show 3 - k + 1 = 4 - k by omega, show 4 * q + k + 1 = 4 * q + (k + 1) by omega] at hst
      rw [show ((k : Int) + 1).toNat = k + 1 by omega, show 4 - (k + 1) = 3 - k by omega]
      rcases Nat.lt_or_ge (4 * q + k) nT with hr | hr
      · repeat' (first | refine TL.ev (ev_simple rfl) rfl ?_ | refine TL.grun rfl rfl rfl ?_ | refine TL.gskip rfl rfl rfl rfl ?_ | refine TL.gskipU rfl rfl rfl ?_ | refine TL.ev (ev_len rfl) rfl ?_ | (refine TL.cmpG rfl rfl rfl rfl (fun hc => ?_) (fun hc => ?_) <;> try (exfalso; omega)) | refine TL.ev (ev_arN rfl rfl rfl (by omega)) rfl ?_ | refine TL.ev (ev_arI rfl rfl rfl (by omega)) rfl ?_ | refine TL.ev (ev_neg rfl (by omega)) rfl ?_ | refine TL.ev (ev_indexN rfl rfl (by omega) (by first | exact Or.inr rfl | exact Sl.some (by assumption))) rfl ?_ | refine TL.ev (ev_index rfl rfl (by omega) (by first | exact Or.inr rfl | exact Sl.some (by assumption))) rfl ?_ | refine TL.ev (ev_loadU rfl (by assumption) (by omega)) rfl ?_ | refine TL.ev (ev_loadI rfl (by assumption) (by omega)) rfl ?_ | refine TL.ev (ev_loadN rfl (by assumption) (by omega)) rfl ?_ | refine TL.ev (ev_shrU rfl rfl (by first | omega | exact U64.getD (by assumption) _)) rfl ?_ | refine TL.ev (ev_shlU rfl rfl) rfl ?_ | refine TL.ev (ev_andU rfl rfl (by first | omega | exact U64.getD (by assumption) _) (by first | omega | exact U64.getD (by assumption) _)) rfl ?_ | refine TL.ev (ev_orU rfl rfl (by first | omega | exact U64.getD (by assumption) _) (by first | omega | exact U64.getD (by assumption) _)) rfl ?_ | refine TL.ev (ev_xorU rfl rfl (by first | omega | exact U64.getD (by assumption) _) (by first | omega | exact U64.getD (by assumption) _)) rfl ?_ | refine TL.ev (ev_convU rfl (by omega)) rfl ?_ | refine TL.ev (ev_convI rfl (by omega)) rfl ?_ | refine TL.ev (ev_arU rfl rfl rfl (by first | exact True.intro | omega)) rfl ?_ | refine T.seq ?_ | refine T.region ?_ | refine TL.nil ?_ | refine T.block ?_ | refine T.cond_t rfl ?_ | refine T.cond_f rfl ?_ | refine T.exit ?_ | refine T.ret ?_ | refine T.skip ?_ | refine G.next ?_ | refine G.blockN ?_ | refine G.blockE ?_ | refine G.blockE' rfl ?_ | refine G.blockR ?_ | refine G.thenE ?_ | refine G.thenR ?_ | refine T.regionQ mixed (by kernel_rfl) ?_ | refine TL.nilQ (fun _ => ?_) | refine G.only ?_ | refine G.mixed ?_ | refine TM.nil ?_ | refine TM.e rfl ?_)
        exact G.again ((k : Int) - 1) (by rw [show ((k : Int) - 1 + 1).toNat = k by omega]; exact (by repeat (first | exact Sub.nil _ | refine Sub.cons rfl ?_ | refine Sub.cons' rfl (int_congr (by omega)) ?_))) ⟨by omega, by omega, rfl⟩ (by omega)
      · have hd0 : E.getD (4 * q + k) 0 = 0 := N16.getD_ge (by omega)
        repeat' (first | refine TL.ev (ev_simple rfl) rfl ?_ | refine TL.grun rfl rfl rfl ?_ | refine TL.gskip rfl rfl rfl rfl ?_ | refine TL.gskipU rfl rfl rfl ?_ | refine TL.ev (ev_len rfl) rfl ?_ | (refine TL.cmpG rfl rfl rfl rfl (fun hc => ?_) (fun hc => ?_) <;> try (exfalso; omega)) | refine TL.ev (ev_arN rfl rfl rfl (by omega)) rfl ?_ | refine TL.ev (ev_arI rfl rfl rfl (by omega)) rfl ?_ | refine TL.ev (ev_neg rfl (by omega)) rfl ?_ | refine TL.ev (ev_indexN rfl rfl (by omega) (by first | exact Or.inr rfl | exact Sl.some (by assumption))) rfl ?_ | refine TL.ev (ev_index rfl rfl (by omega) (by first | exact Or.inr rfl | exact Sl.some (by assumption))) rfl ?_ | refine TL.ev (ev_loadU rfl (by assumption) (by omega)) rfl ?_ | refine TL.ev (ev_loadI rfl (by assumption) (by omega)) rfl ?_ | refine TL.ev (ev_loadN rfl (by assumption) (by omega)) rfl ?_ | refine TL.ev (ev_shrU rfl rfl (by first | omega | exact U64.getD (by assumption) _)) rfl ?_ | refine TL.ev (ev_shlU rfl rfl) rfl ?_ | refine TL.ev (ev_andU rfl rfl (by first | omega | exact U64.getD (by assumption) _) (by first | omega | exact U64.getD (by assumption) _)) rfl ?_ | refine TL.ev (ev_orU rfl rfl (by first | omega | exact U64.getD (by assumption) _) (by first | omega | exact U64.getD (by assumption) _)) rfl ?_ | refine TL.ev (ev_xorU rfl rfl (by first | omega | exact U64.getD (by assumption) _) (by first | omega | exact U64.getD (by assumption) _)) rfl ?_ | refine TL.ev (ev_convU rfl (by omega)) rfl ?_ | refine TL.ev (ev_convI rfl (by omega)) rfl ?_ | refine TL.ev (ev_arU rfl rfl rfl (by first | exact True.intro | omega)) rfl ?_ | refine T.seq ?_ | refine T.region ?_ | refine TL.nil ?_ | refine T.block ?_ | refine T.cond_t rfl ?_ | refine T.cond_f rfl ?_ | refine T.exit ?_ | refine T.ret ?_ | refine T.skip ?_ | refine G.next ?_ | refine G.blockN ?_ | refine G.blockE ?_ | refine G.blockE' rfl ?_ | refine G.blockR ?_ | refine G.thenE ?_ | refine G.thenR ?_ | refine T.regionQ mixed (by kernel_rfl) ?_ | refine TL.nilQ (fun _ => ?_) | refine G.only ?_ | refine G.mixed ?_ | refine TM.nil ?_ | refine TM.e rfl ?_)
        exact G.again ((k : Int) - 1) (by rw [show ((k : Int) - 1 + 1).toNat = k by omega]; exact (by repeat (first | exact Sub.nil _ | refine Sub.cons rfl ?_ | refine Sub.cons' rfl (int_congr (by omega)) ?_))) ⟨by omega, by omega, rfl⟩ (by omega)
  · have e : E.take (4 * q) = E := List.take_of_length_le (by omega)
    rw [e] at hv
    rw [join_end (by omega) hDu hD hv (by omega) (by omega)] at hO2
    repeat' (first | refine TL.ev (ev_simple rfl) rfl ?_ | refine TL.grun rfl rfl rfl ?_ | refine TL.gskip rfl rfl rfl rfl ?_ | refine TL.gskipU rfl rfl rfl ?_ | refine TL.ev (ev_len rfl) rfl ?_ | (refine TL.cmpG rfl rfl rfl rfl (fun hc => ?_) (fun hc => ?_) <;> try (exfalso; omega)) | refine TL.ev (ev_arN rfl rfl rfl (by omega)) rfl ?_ | refine TL.ev (ev_arI rfl rfl rfl (by omega)) rfl ?_ | refine TL.ev (ev_neg rfl (by omega)) rfl ?_ | refine T.seq ?_ | refine T.region ?_ | refine TL.nil ?_ | refine T.block ?_ | refine T.cond_t rfl ?_ | refine T.cond_f rfl ?_ | refine T.exit ?_ | refine T.ret ?_ | refine T.skip ?_ | refine G.next ?_ | refine G.blockN ?_ | refine G.blockE ?_ | refine G.blockE' rfl ?_ | refine G.blockR ?_ | refine G.thenE ?_ | refine G.thenR ?_ | refine T.regionQ mixed (by kernel_rfl) ?_ | refine TL.nilQ (fun _ => ?_) | refine G.only ?_ | refine G.mixed ?_ | refine TM.nil ?_ | refine TM.e rfl ?_)
    exact G.ret1 rfl rfl (RetN.mk hO2 hE2 (by omega))
end Go.Proofs.Ytgmhldapndhoeaa
