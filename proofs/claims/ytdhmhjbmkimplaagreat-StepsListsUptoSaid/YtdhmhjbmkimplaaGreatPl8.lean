/- The document's answers for layer 1: Split, trim, Join, at, Least, order, Cmp. The document's answers for layer 1: at, Least, order, Cmp, Add. The document's answers for layer 5: made, Least, Sign, CmpAbs, Cmp of equal integers. Layer 9: contracts of mat: Turn, Trace; the law's equal. Layer 9: Least, Lines and its iterator. The engine: a list of structs appended to a list of structs whose block is known whole; to nothing. The engine: append to lists of any kind in frames; literals of one value; functions as values; returns in memory behind a range over a function. The engine: literals of any number of structs; lists as facts in frames. The engine: interface values, calls of their methods; calls that write into blocks known whole. The types of this translation that stand in interface values. -/
import Derived.Test.YtdhmhjbmkimplaaGreatPl4
import Derived.Test.YtdhmhjbmkimplaaGreatPl3
import Derived.Test.YtdhmhjbmkimplaaGreatPl7
set_option linter.unusedVariables false
set_option linter.unusedSimpArgs false
namespace Go.Proofs.YtdhmhjbmkimplaaGreat
open Go Go.Eng Go.Proofs Go.NatM Go.RowKit

/-- a new list of small digits, of at most K -/
def RetI (w : World) (L : List Nat) (K : Nat) (e : Ending) (w' : World) : Prop := ∃ A n c, e = .returned (.slice A n c) ∧ Ow n64v w'.heap w.heap.size 3 A n c L ∧ Ext w w' ∧ n ≤ K
theorem RetI.mk {w w' : World} {L : List Nat} {A : Option Addr} {n c K : Nat} (h : Ow n64v w'.heap w.heap.size 3 A n c L) (he : Ext w w') (hk : n ≤ K) : RetI w L K (.returned (.slice A n c)) w' := ⟨A, n, c, rfl, h, he, hk⟩

theorem rtrim_ok (H : Array Obj) (B : Nat) (A : Option Addr) (n c : Nat) (l : List Nat) (hs : Sl n64v H B A n c l) (hn : n < 9223372036854775808) :
    Pure Tryz.prog 154 #[.slice A n c] H (.slice A (N16.sz l) c) := by
  refine Pure.of fun w hw => ?_
  subst hw
  have hlen := hs.len
  have hcap := hs.cap
  refine enter Tryz.func154 rfl rfl rfl ?_
  repeat' (first | refine TL.ev (ev_simple rfl) rfl ?_ | refine TL.grun rfl rfl rfl ?_ | refine TL.gskip rfl rfl rfl rfl ?_ | refine TL.gskipU rfl rfl rfl ?_ | refine TL.ev (ev_len rfl) rfl ?_ | (refine TL.cmpG rfl rfl rfl rfl (fun hc => ?_) (fun hc => ?_) <;> try (exfalso; omega)) | refine TL.ev (ev_arN rfl rfl rfl (by omega)) rfl ?_ | refine TL.ev (ev_arI rfl rfl rfl (by omega)) rfl ?_ | refine TL.ev (ev_neg rfl (by omega)) rfl ?_ | refine TL.ev (ev_indexN rfl rfl (by omega) (by first | exact Or.inr rfl | exact Sl.some (by assumption))) rfl ?_ | refine TL.ev (ev_index rfl rfl (by omega) (by first | exact Or.inr rfl | exact Sl.some (by assumption))) rfl ?_ | refine TL.ev (ev_loadU rfl (by assumption) (by omega)) rfl ?_ | refine TL.ev (ev_loadI rfl (by assumption) (by omega)) rfl ?_ | refine T.seq ?_ | refine T.region ?_ | refine TL.nil ?_ | refine T.block ?_ | refine T.cond_t rfl ?_ | refine T.cond_f rfl ?_ | refine T.exit ?_ | refine T.ret ?_ | refine T.skip ?_ | refine G.next ?_ | refine G.blockN ?_ | refine G.blockE ?_ | refine G.blockE' rfl ?_ | refine G.blockR ?_ | refine G.thenE ?_ | refine G.thenR ?_ | refine T.regionQ mixed (by kernel_rfl) ?_ | refine TL.nilQ (fun _ => ?_) | refine G.only ?_ | refine G.mixed ?_ | refine TM.nil ?_ | refine TM.e rfl ?_)
  refine T.loop (fun k : Nat => [(0, .slice A n c), (3, .int .i64 (k : Int))]) (fun k w' => w' = w ∧ k ≤ n ∧ ∀ j, k ≤ j → l.getD j 0 = 0) (fun k => k) n (by repeat (first | exact Sub.nil _ | refine Sub.cons rfl ?_ | refine Sub.cons' rfl (int_congr (by omega)) ?_)) ⟨rfl, Nat.le_refl _, ?_⟩ ?_
  · intro j hj; simp [List.getD, List.getElem?_eq_none (show l.length ≤ j by omega)]
  · rintro k w' ⟨rfl, hk, hz⟩
    repeat' (first | refine TL.ev (ev_simple rfl) rfl ?_ | refine TL.grun rfl rfl rfl ?_ | refine TL.gskip rfl rfl rfl rfl ?_ | refine TL.gskipU rfl rfl rfl ?_ | refine TL.ev (ev_len rfl) rfl ?_ | (refine TL.cmpG rfl rfl rfl rfl (fun hc => ?_) (fun hc => ?_) <;> try (exfalso; omega)) | refine TL.ev (ev_arN rfl rfl rfl (by omega)) rfl ?_ | refine TL.ev (ev_arI rfl rfl rfl (by omega)) rfl ?_ | refine TL.ev (ev_neg rfl (by omega)) rfl ?_ | refine TL.ev (ev_indexN rfl rfl (by omega) (by first | exact Or.inr rfl | exact Sl.some (by assumption))) rfl ?_ | refine TL.ev (ev_index rfl rfl (by omega) (by first | exact Or.inr rfl | exact Sl.some (by assumption))) rfl ?_ | refine TL.ev (ev_loadU rfl (by assumption) (by omega)) rfl ?_ | refine TL.ev (ev_loadI rfl (by assumption) (by omega)) rfl ?_ | refine TL.ev (ev_loadN rfl (by assumption) (by omega)) rfl ?_ | refine TL.ev (ev_sl_h rfl rfl (by omega)) rfl ?_ | refine TL.ev (ev_sl_l rfl rfl (by omega) (by omega)) rfl ?_ | refine TL.ev (ev_sl_lh rfl rfl rfl (by omega) (by omega)) rfl ?_ | refine TL.ev (ev_sl_hm rfl rfl rfl (by omega) (by omega)) rfl ?_ | refine TL.ev (ev_sl_lhm rfl rfl rfl rfl (by omega) (by omega) (by omega)) rfl ?_ | refine T.seq ?_ | refine T.region ?_ | refine TL.nil ?_ | refine T.block ?_ | refine T.cond_t rfl ?_ | refine T.cond_f rfl ?_ | refine T.exit ?_ | refine T.ret ?_ | refine T.skip ?_ | refine G.next ?_ | refine G.blockN ?_ | refine G.blockE ?_ | refine G.blockE' rfl ?_ | refine G.blockR ?_ | refine G.thenE ?_ | refine G.thenR ?_ | refine T.regionQ mixed (by kernel_rfl) ?_ | refine TL.nilQ (fun _ => ?_) | refine G.only ?_ | refine G.mixed ?_ | refine TM.nil ?_ | refine TM.e rfl ?_)
    · refine G.again (k - 1) (by repeat (first | exact Sub.nil _ | refine Sub.cons rfl ?_ | refine Sub.cons' rfl (int_congr (by omega)) ?_)) ⟨rfl, by omega, fun j hj => ?_⟩ (by omega)
      rcases Nat.lt_or_ge j k with h | h
      · obtain rfl : j = k - 1 := by omega
        omega
      · exact hz j h
    · rw [N16.sz_eq l k (by omega) hz (.inr (by omega))]
      exact G.ret1 rfl rfl ⟨rfl, Qt.refl _⟩
    · rw [N16.sz_eq l k (by omega) hz (.inl (by omega))]
      exact G.ret1 rfl rfl ⟨rfl, Qt.refl _⟩

set_option maxHeartbeats 2000000 in
theorem split_ok (w : World) (B : Nat) (A : Option Addr) (n c : Nat) (l : List Nat) (hs : Sl u64v w.heap B A n c l) (hu : U64 l) (hn : n ≤ 1099511627776) :
    Cl Tryz.prog 141 #[.slice A n c] w (RetI w (N16.dig (val l)) (4 * n)) := by
  have hlen := hs.len
  replace hs := hs.size
  refine enter Tryz.func141 rfl rfl rfl ?_
  repeat' (first | refine TL.ev (ev_simple rfl) rfl ?_ | refine TL.grun rfl rfl rfl ?_ | refine TL.gskip rfl rfl rfl rfl ?_ | refine TL.gskipU rfl rfl rfl ?_ | refine TL.ev (ev_len rfl) rfl ?_ | (refine TL.cmpG rfl rfl rfl rfl (fun hc => ?_) (fun hc => ?_) <;> try (exfalso; omega)) | refine TL.ev (ev_arN rfl rfl rfl (by omega)) rfl ?_ | refine TL.ev (ev_arI rfl rfl rfl (by omega)) rfl ?_ | refine TL.ev (ev_neg rfl (by omega)) rfl ?_ | (refine TL.makeN rfl rfl rfl (by omega) (by omega) (fun w1 b1 eb hB hE hz => ?_)) | refine T.seq ?_ | refine T.region ?_ | refine TL.nil ?_ | refine T.block ?_ | refine T.cond_t rfl ?_ | refine T.cond_f rfl ?_ | refine T.exit ?_ | refine T.ret ?_ | refine T.skip ?_ | refine G.next ?_ | refine G.blockN ?_ | refine G.blockE ?_ | refine G.blockE' rfl ?_ | refine G.blockR ?_ | refine G.thenE ?_ | refine G.thenR ?_ | refine T.regionQ mixed (by kernel_rfl) ?_ | refine TL.nilQ (fun _ => ?_) | refine G.only ?_ | refine G.mixed ?_ | refine TM.nil ?_ | refine TM.e rfl ?_)
  have hO := ow_head hB (c := 4 * n) (by simp) (by unfold maxLen; simp; omega) (Nat.le_of_eq eb.symm)
  refine T.loop (α := Nat × Option Addr × Nat × List Nat) (fun x => [(0, .slice A n c), (3, .slice x.2.1 (4 * x.1) x.2.2.1), (4, .int .i64 (x.1 : Int))])
    (fun x w' => x.1 ≤ n ∧ Ext w w' ∧ Ow n64v w'.heap w.heap.size 3 x.2.1 (4 * x.1) x.2.2.1 x.2.2.2 ∧ N16.U64 x.2.2.2 ∧ N16.val x.2.2.2 = val (l.take x.1))
    (fun x => n - x.1) (0, some ⟨b1, 0, none⟩, 4 * n, []) (by repeat (first | exact Sub.nil _ | refine Sub.cons rfl ?_ | refine Sub.cons' rfl (int_congr (by omega)) ?_)) ⟨Nat.zero_le _, hE, hO, N16.U64.nil, rfl⟩ ?_
  rintro ⟨i, A1, c1, D⟩ w2 ⟨hi, hE2, hO2, hDu, hv⟩
  dsimp only at hi hE2 hO2 hDu hv ⊢
  have hD := hO2.len
  have t1 := hs.ext hE2
  rcases Nat.lt_or_ge i n with hin | hin
  · have hx := hu.getD i
    repeat' (first | refine TL.ev (ev_simple rfl) rfl ?_ | refine TL.grun rfl rfl rfl ?_ | refine TL.gskip rfl rfl rfl rfl ?_ | refine TL.gskipU rfl rfl rfl ?_ | refine TL.ev (ev_len rfl) rfl ?_ | (refine TL.cmpG rfl rfl rfl rfl (fun hc => ?_) (fun hc => ?_) <;> try (exfalso; omega)) | refine TL.ev (ev_arN rfl rfl rfl (by omega)) rfl ?_ | refine TL.ev (ev_arI rfl rfl rfl (by omega)) rfl ?_ | refine TL.ev (ev_neg rfl (by omega)) rfl ?_ | refine TL.ev (ev_indexN rfl rfl (by omega) (by first | exact Or.inr rfl | exact Sl.some (by assumption))) rfl ?_ | refine TL.ev (ev_index rfl rfl (by omega) (by first | exact Or.inr rfl | exact Sl.some (by assumption))) rfl ?_ | refine TL.ev (ev_loadU rfl (by assumption) (by omega)) rfl ?_ | refine TL.ev (ev_loadI rfl (by assumption) (by omega)) rfl ?_ | refine T.seq ?_ | refine T.region ?_ | refine TL.nil ?_ | refine T.block ?_ | refine T.cond_t rfl ?_ | refine T.cond_f rfl ?_ | refine T.exit ?_ | refine T.ret ?_ | refine T.skip ?_ | refine G.next ?_ | refine G.blockN ?_ | refine G.blockE ?_ | refine G.blockE' rfl ?_ | refine G.blockR ?_ | refine G.thenE ?_ | refine G.thenR ?_ | refine T.regionQ mixed (by kernel_rfl) ?_ | refine TL.nilQ (fun _ => ?_) | refine G.only ?_ | refine G.mixed ?_ | refine TM.nil ?_ | refine TM.e rfl ?_)
    refine T.loop (α := Nat × Option Addr × Nat) (fun x => [(0, .slice A n c), (3, .slice x.2.1 (4 * i + x.1) x.2.2), (4, .int .i64 (i : Int)), (5, .int .u64 ((l.getD i 0 / 65536 ^ x.1 : Nat) : Int)), (6, .int .i64 (x.1 : Int))])
      (fun x w' => x.1 ≤ 4 ∧ Ext w w' ∧ Ow n64v w'.heap w.heap.size 3 x.2.1 (4 * i + x.1) x.2.2 (D ++ fourK (l.getD i 0) x.1))
      (fun x => 4 - x.1) (0, A1, c1) (by rw [Nat.pow_zero, Nat.div_one]; exact (by repeat (first | exact Sub.nil _ | refine Sub.cons rfl ?_ | refine Sub.cons' rfl (int_congr (by omega)) ?_))) ⟨by dsimp only; omega, hE2, by simpa [fourK] using hO2⟩ ?_
    rintro ⟨k, A3, c3⟩ w3 ⟨hk, hE3, hO3⟩
    dsimp only at hk hE3 hO3 ⊢
    rcases Nat.lt_or_ge k 4 with hk4 | hk4
    · have hx2 : l.getD i 0 / 65536 ^ k < 18446744073709551616 := Nat.lt_of_le_of_lt (Nat.div_le_self _ _) hx
      have hsz := hE3.size
      repeat' (first | refine TL.ev (ev_simple rfl) rfl ?_ | refine TL.grun rfl rfl rfl ?_ | refine TL.gskip rfl rfl rfl rfl ?_ | refine TL.gskipU rfl rfl rfl ?_ | refine TL.ev (ev_len rfl) rfl ?_ | (refine TL.cmpG rfl rfl rfl rfl (fun hc => ?_) (fun hc => ?_) <;> try (exfalso; omega)) | refine TL.ev (ev_arN rfl rfl rfl (by omega)) rfl ?_ | refine TL.ev (ev_arI rfl rfl rfl (by omega)) rfl ?_ | refine TL.ev (ev_neg rfl (by omega)) rfl ?_ | refine TL.ev (ev_shrU rfl rfl (by first | omega | exact U64.getD (by assumption) _)) rfl ?_ | refine TL.ev (ev_shlU rfl rfl) rfl ?_ | refine TL.ev (ev_andU rfl rfl (by first | omega | exact U64.getD (by assumption) _) (by first | omega | exact U64.getD (by assumption) _)) rfl ?_ | refine TL.ev (ev_orU rfl rfl (by first | omega | exact U64.getD (by assumption) _) (by first | omega | exact U64.getD (by assumption) _)) rfl ?_ | refine TL.ev (ev_xorU rfl rfl (by first | omega | exact U64.getD (by assumption) _) (by first | omega | exact U64.getD (by assumption) _)) rfl ?_ | refine TL.ev (ev_convU rfl (by omega)) rfl ?_ | refine TL.ev (ev_convI rfl (by omega)) rfl ?_ | refine TL.ev (ev_arU rfl rfl rfl (by first | exact True.intro | omega)) rfl ?_ | (refine TL.build1N rfl rfl (fun w4 b4 eb4 hB4 hE4 hz4 => ?_); have hO4 := hO3.ext hE4; have hS4 := hB4.slN (n := 1) (c := 1) rfl (Nat.le_refl _) hB4.lt) | (refine TL.append (f := n64v) (fun _ => rfl) rfl rfl rfl rfl hO4 hS4 (by omega) (by omega) (fun w5 A5 c5 hO5 hg5 hL5 => ?_)) | refine T.seq ?_ | refine T.region ?_ | refine TL.nil ?_ | refine T.block ?_ | refine T.cond_t rfl ?_ | refine T.cond_f rfl ?_ | refine T.exit ?_ | refine T.ret ?_ | refine T.skip ?_ | refine G.next ?_ | refine G.blockN ?_ | refine G.blockE ?_ | refine G.blockE' rfl ?_ | refine G.blockR ?_ | refine G.thenE ?_ | refine G.thenR ?_ | refine T.regionQ mixed (by kernel_rfl) ?_ | refine TL.nilQ (fun _ => ?_) | refine G.only ?_ | refine G.mixed ?_ | refine TM.nil ?_ | refine TM.e rfl ?_)
      refine G.again (k + 1, A5, c5) (by rw [Nat.pow_succ, ← Nat.div_div_eq_div_mul]; exact (by repeat (first | exact Sub.nil _ | refine Sub.cons rfl ?_ | refine Sub.cons' rfl (int_congr (by omega)) ?_))) ⟨by dsimp only; omega, Below.trans (hE3.trans hE4) hL5, ?_⟩ (by dsimp only; omega)
      dsimp only
      rw [fourK_succ, ← List.append_assoc]
      exact hO5
    · obtain rfl : k = 4 := by omega
      repeat' (first | refine TL.ev (ev_simple rfl) rfl ?_ | refine TL.grun rfl rfl rfl ?_ | refine TL.gskip rfl rfl rfl rfl ?_ | refine TL.gskipU rfl rfl rfl ?_ | refine TL.ev (ev_len rfl) rfl ?_ | (refine TL.cmpG rfl rfl rfl rfl (fun hc => ?_) (fun hc => ?_) <;> try (exfalso; omega)) | refine TL.ev (ev_arN rfl rfl rfl (by omega)) rfl ?_ | refine TL.ev (ev_arI rfl rfl rfl (by omega)) rfl ?_ | refine TL.ev (ev_neg rfl (by omega)) rfl ?_ | refine TL.ev (ev_shrU rfl rfl (by first | omega | exact U64.getD (by assumption) _)) rfl ?_ | refine TL.ev (ev_shlU rfl rfl) rfl ?_ | refine TL.ev (ev_andU rfl rfl (by first | omega | exact U64.getD (by assumption) _) (by first | omega | exact U64.getD (by assumption) _)) rfl ?_ | refine TL.ev (ev_orU rfl rfl (by first | omega | exact U64.getD (by assumption) _) (by first | omega | exact U64.getD (by assumption) _)) rfl ?_ | refine TL.ev (ev_xorU rfl rfl (by first | omega | exact U64.getD (by assumption) _) (by first | omega | exact U64.getD (by assumption) _)) rfl ?_ | refine TL.ev (ev_convU rfl (by omega)) rfl ?_ | refine TL.ev (ev_convI rfl (by omega)) rfl ?_ | refine TL.ev (ev_arU rfl rfl rfl (by first | exact True.intro | omega)) rfl ?_ | refine T.seq ?_ | refine T.region ?_ | refine TL.nil ?_ | refine T.block ?_ | refine T.cond_t rfl ?_ | refine T.cond_f rfl ?_ | refine T.exit ?_ | refine T.ret ?_ | refine T.skip ?_ | refine G.next ?_ | refine G.blockN ?_ | refine G.blockE ?_ | refine G.blockE' rfl ?_ | refine G.blockR ?_ | refine G.thenE ?_ | refine G.thenR ?_ | refine T.regionQ mixed (by kernel_rfl) ?_ | refine TL.nilQ (fun _ => ?_) | refine G.only ?_ | refine G.mixed ?_ | refine TM.nil ?_ | refine TM.e rfl ?_)
      refine G.again (i + 1, A3, c3, D ++ fourK (l.getD i 0) 4) (by rw [Nat.mul_add]; exact (by repeat (first | exact Sub.nil _ | refine Sub.cons rfl ?_ | refine Sub.cons' rfl (int_congr (by omega)) ?_))) ⟨by dsimp only; omega, hE3, hO3, hDu.append (U_fourK _ _), ?_⟩ (by dsimp only; omega)
      dsimp only
      rw [N16.val_append, hD, W_pow4, val_fourK hx, hv, val_take_succ]
  · obtain rfl : i = n := by omega
    have e : l.take i = l := List.take_of_length_le (by omega)
    rw [e] at hv
    have hS := hO2.sl (Nat.le_refl _)
    have hz := N16.sz_le D
    repeat' (first | refine TL.ev (ev_simple rfl) rfl ?_ | refine TL.grun rfl rfl rfl ?_ | refine TL.gskip rfl rfl rfl rfl ?_ | refine TL.gskipU rfl rfl rfl ?_ | refine TL.ev (ev_len rfl) rfl ?_ | (refine TL.cmpG rfl rfl rfl rfl (fun hc => ?_) (fun hc => ?_) <;> try (exfalso; omega)) | refine TL.ev (ev_arN rfl rfl rfl (by omega)) rfl ?_ | refine TL.ev (ev_arI rfl rfl rfl (by omega)) rfl ?_ | refine TL.ev (ev_neg rfl (by omega)) rfl ?_ | (refine TL.callP rfl rfl (rtrim_ok _ _ _ _ _ _ hS (by omega)) (fun q1 => ?_)) | refine T.seq ?_ | refine T.region ?_ | refine TL.nil ?_ | refine T.block ?_ | refine T.cond_t rfl ?_ | refine T.cond_f rfl ?_ | refine T.exit ?_ | refine T.ret ?_ | refine T.skip ?_ | refine G.next ?_ | refine G.blockN ?_ | refine G.blockE ?_ | refine G.blockE' rfl ?_ | refine G.blockR ?_ | refine G.thenE ?_ | refine G.thenR ?_ | refine T.regionQ mixed (by kernel_rfl) ?_ | refine TL.nilQ (fun _ => ?_) | refine G.only ?_ | refine G.mixed ?_ | refine TM.nil ?_ | refine TM.e rfl ?_)
    have := hO2.take (k := N16.sz D) (by omega)
    rw [N16.take_sz hDu, hv] at this
    exact G.ret1 rfl rfl (RetI.mk this (hE2.drewN _) (by omega))

theorem sz16_take (l : List Nat) : N16.sz (l.take (N16.sz l)) = N16.sz l := by
  have h := N16.sz_le l
  refine N16.sz_eq _ _ (by rw [List.length_take]; omega) (fun j hj => N16.getD_ge (by rw [List.length_take]; omega)) ?_
  rcases N16.sz_top l with h | h
  · exact .inl h
  · rcases Nat.eq_zero_or_pos (N16.sz l) with h0 | h0
    · exact .inl h0
    · refine .inr ?_
      have e : (l.take (N16.sz l)).getD (N16.sz l - 1) 0 = l.getD (N16.sz l - 1) 0 := by simp [List.getD, List.getElem?_take, show N16.sz l - 1 < N16.sz l by omega]
      rwa [e]
set_option maxHeartbeats 2000000 in
theorem join_ok (w : World) (B : Nat) (A : Option Addr) (n c : Nat) (l : List Nat) (hs : Sl n64v w.heap B A n c l) (hu : N16.U64 l) (hn : n ≤ 4398046511104) :
    Cl Tryz.prog 142 #[.slice A n c] w (RetN w (dig (N16.val l)) (n / 4 + 1)) := by
  have hlen := hs.len
  have hcap := hs.cap
  replace hs := hs.size
  have hsz := N16.sz_le l
  have hsT := hs.take (k := N16.sz l) (m := c) (by omega) (by omega)
  have hT := sz16_take l
  have huT := hu.take (N16.sz l)
  have hvT := N16.val_sz l
  have hlT := hsT.len
  rw [← hvT]
  refine enter Tryz.func142 rfl rfl rfl ?_
  repeat' (first | refine TL.ev (ev_simple rfl) rfl ?_ | refine TL.grun rfl rfl rfl ?_ | refine TL.gskip rfl rfl rfl rfl ?_ | refine TL.gskipU rfl rfl rfl ?_ | refine TL.ev (ev_len rfl) rfl ?_ | (refine TL.cmpG rfl rfl rfl rfl (fun hc => ?_) (fun hc => ?_) <;> try (exfalso; omega)) | refine TL.ev (ev_arN rfl rfl rfl (by omega)) rfl ?_ | refine TL.ev (ev_arI rfl rfl rfl (by omega)) rfl ?_ | refine TL.ev (ev_neg rfl (by omega)) rfl ?_ | (refine TL.callP rfl rfl (rtrim_ok _ _ _ _ _ _ hs (by omega)) (fun q1 => ?_)) | (refine TL.makeU rfl rfl rfl (by omega) (by omega) (fun w1 b1 eb hB hE hz => ?_); simp only [World.heap_drewN] at eb hz; have hE1 := (ext_drewN w q1).trans hE) | refine T.seq ?_ | refine T.region ?_ | refine TL.nil ?_ | refine T.block ?_ | refine T.cond_t rfl ?_ | refine T.cond_f rfl ?_ | refine T.exit ?_ | refine T.ret ?_ | refine T.skip ?_ | refine G.next ?_ | refine G.blockN ?_ | refine G.blockE ?_ | refine G.blockE' rfl ?_ | refine G.blockR ?_ | refine G.thenE ?_ | refine G.thenR ?_ | refine T.regionQ mixed (by kernel_rfl) ?_ | refine TL.nilQ (fun _ => ?_) | refine G.only ?_ | refine G.mixed ?_ | refine TM.nil ?_ | refine TM.e rfl ?_)
  have hO := ow_head (lo := w.heap.size) hB (c := N16.sz l / 4 + 1) (by simp) (by unfold maxLen; simp; omega) (Nat.le_of_eq eb.symm)
  have hk4 : N16.sz l / 4 + 1 ≤ n / 4 + 1 := by omega
  generalize l.take (N16.sz l) = E at *
  generalize N16.sz l = nT at *
  refine T.loop (α := Nat × Option Addr × Nat × List Nat) (fun x => [(0, .slice A nT c), (3, .slice x.2.1 x.1 x.2.2.1), (4, .int .i64 ((4 * x.1 : Nat) : Int))])
    (fun x w' => 4 * x.1 < nT + 4 ∧ Ext w w' ∧ Ow u64v w'.heap w.heap.size 101 x.2.1 x.1 x.2.2.1 x.2.2.2 ∧ U64 x.2.2.2 ∧ val x.2.2.2 = N16.val (E.take (4 * x.1)))
    (fun x => nT + 4 - 4 * x.1) (0, some ⟨b1, 0, none⟩, nT / 4 + 1, []) (by repeat (first | exact Sub.nil _ | refine Sub.cons rfl ?_ | refine Sub.cons' rfl (int_congr (by omega)) ?_)) ⟨by dsimp only; omega, hE1, hO, U64.nil, rfl⟩ ?_
  rintro ⟨q, A1, c1, D⟩ w2 ⟨hi, hE2, hO2, hDu, hv⟩
  dsimp only at hi hE2 hO2 hDu hv ⊢
  have hD := hO2.len
  have t1 := hsT.ext hE2
  have hsz2 := hE2.size
  rcases Nat.lt_or_ge (4 * q) nT with hin | hin
  · repeat' (first | refine TL.ev (ev_simple rfl) rfl ?_ | refine TL.grun rfl rfl rfl ?_ | refine TL.gskip rfl rfl rfl rfl ?_ | refine TL.gskipU rfl rfl rfl ?_ | refine TL.ev (ev_len rfl) rfl ?_ | (refine TL.cmpG rfl rfl rfl rfl (fun hc => ?_) (fun hc => ?_) <;> try (exfalso; omega)) | refine TL.ev (ev_arN rfl rfl rfl (by omega)) rfl ?_ | refine TL.ev (ev_arI rfl rfl rfl (by omega)) rfl ?_ | refine TL.ev (ev_neg rfl (by omega)) rfl ?_ | refine T.seq ?_ | refine T.region ?_ | refine TL.nil ?_ | refine T.block ?_ | refine T.cond_t rfl ?_ | refine T.cond_f rfl ?_ | refine T.exit ?_ | refine T.ret ?_ | refine T.skip ?_ | refine G.next ?_ | refine G.blockN ?_ | refine G.blockE ?_ | refine G.blockE' rfl ?_ | refine G.blockR ?_ | refine G.thenE ?_ | refine G.thenR ?_ | refine T.regionQ mixed (by kernel_rfl) ?_ | refine TL.nilQ (fun _ => ?_) | refine G.only ?_ | refine G.mixed ?_ | refine TM.nil ?_ | refine TM.e rfl ?_)
    refine T.loop (α := Int) (fun x => [(0, .slice A nT c), (3, .slice A1 q c1), (4, .int .i64 ((4 * q : Nat) : Int)), (5, .int .u64 ((N16.val ((E.drop (4 * q + (x + 1).toNat)).take (4 - (x + 1).toNat)) : Nat) : Int)), (6, .int .i64 x)])
      (fun x w' => -1 ≤ x ∧ x ≤ 3 ∧ w' = w2)
      (fun x => (x + 1).toNat) 3 (by rw [show (3 + 1 : Int).toNat = 4 by rfl, Nat.sub_self, List.take_zero]; exact (by repeat (first | exact Sub.nil _ | refine Sub.cons rfl ?_ | refine Sub.cons' rfl (int_congr (by omega)) ?_))) ⟨by omega, by omega, rfl⟩ ?_
    rintro x w3 ⟨hx0, hx1, rfl⟩
    rcases (show x = -1 ∨ 0 ≤ x by omega) with rfl | hx
    · rw [show (-1 + 1 : Int).toNat = 0 by rfl, Nat.add_zero, Nat.sub_zero]
      have hlt := part16_lt huT (4 * q) 4
      rw [← W_four] at hlt
      repeat' (first | refine TL.ev (ev_simple rfl) rfl ?_ | refine TL.grun rfl rfl rfl ?_ | refine TL.gskip rfl rfl rfl rfl ?_ | refine TL.gskipU rfl rfl rfl ?_ | refine TL.ev (ev_len rfl) rfl ?_ | (refine TL.cmpG rfl rfl rfl rfl (fun hc => ?_) (fun hc => ?_) <;> try (exfalso; omega)) | refine TL.ev (ev_arN rfl rfl rfl (by omega)) rfl ?_ | refine TL.ev (ev_arI rfl rfl rfl (by omega)) rfl ?_ | refine TL.ev (ev_neg rfl (by omega)) rfl ?_ | refine TL.ev (ev_shrU rfl rfl (by first | omega | exact U64.getD (by assumption) _)) rfl ?_ | refine TL.ev (ev_shlU rfl rfl) rfl ?_ | refine TL.ev (ev_andU rfl rfl (by first | omega | exact U64.getD (by assumption) _) (by first | omega | exact U64.getD (by assumption) _)) rfl ?_ | refine TL.ev (ev_orU rfl rfl (by first | omega | exact U64.getD (by assumption) _) (by first | omega | exact U64.getD (by assumption) _)) rfl ?_ | refine TL.ev (ev_xorU rfl rfl (by first | omega | exact U64.getD (by assumption) _) (by first | omega | exact U64.getD (by assumption) _)) rfl ?_ | refine TL.ev (ev_convU rfl (by omega)) rfl ?_ | refine TL.ev (ev_convI rfl (by omega)) rfl ?_ | refine TL.ev (ev_arU rfl rfl rfl (by first | exact True.intro | omega)) rfl ?_ | (refine TL.build1U rfl rfl (fun w4 b4 eb4 hB4 hE4 hz4 => ?_); have hO4 := hO2.ext hE4; have hS4 := hB4.slN (n := 1) (c := 1) rfl (Nat.le_refl _) hB4.lt) | (refine TL.append (f := u64v) (fun _ => rfl) rfl rfl rfl rfl hO4 hS4 (by omega) (by omega) (fun w5 A5 c5 hO5 hg5 hL5 => ?_)) | refine T.seq ?_ | refine T.region ?_ | refine TL.nil ?_ | refine T.block ?_ | refine T.cond_t rfl ?_ | refine T.cond_f rfl ?_ | refine T.exit ?_ | refine T.ret ?_ | refine T.skip ?_ | refine G.next ?_ | refine G.blockN ?_ | refine G.blockE ?_ | refine G.blockE' rfl ?_ | refine G.blockR ?_ | refine G.thenE ?_ | refine G.thenR ?_ | refine T.regionQ mixed (by kernel_rfl) ?_ | refine TL.nilQ (fun _ => ?_) | refine G.only ?_ | refine G.mixed ?_ | refine TM.nil ?_ | refine TM.e rfl ?_)
      refine G.again (q + 1, A5, c5, _) (by rw [Nat.mul_add]; exact (by repeat (first | exact Sub.nil _ | refine Sub.cons rfl ?_ | refine Sub.cons' rfl (int_congr (by omega)) ?_))) ⟨by dsimp only; omega, Below.trans (hE2.trans hE4) hL5, hO5, hDu.append (U64.one hlt), ?_⟩ (by dsimp only; omega)
      dsimp only
      rw [val_snoc, hD, hv, take16_four, Nat.add_zero]
    · obtain ⟨k, rfl⟩ := Int.eq_ofNat_of_zero_le hx
      have hd := huT.getD (4 * q + k)
      have hlt := part16_lt huT (4 * q + (k + 1)) (3 - k)
      have hle : 65536 ^ (3 - k) ≤ 65536 ^ 3 := Nat.pow_le_pow_right (by omega) (by omega)
      have hst := part16_succ E (4 * q + k) (3 - k)
      rw [show 3 - k + 1 = 4 - k by omega, show 4 * q + k + 1 = 4 * q + (k + 1) by omega] at hst
      rw [show ((k : Int) + 1).toNat = k + 1 by omega, show 4 - (k + 1) = 3 - k by omega]
      rcases Nat.lt_or_ge (4 * q + k) nT with hr | hr
      · repeat' (first | refine TL.ev (ev_simple rfl) rfl ?_ | refine TL.grun rfl rfl rfl ?_ | refine TL.gskip rfl rfl rfl rfl ?_ | refine TL.gskipU rfl rfl rfl ?_ | refine TL.ev (ev_len rfl) rfl ?_ | (refine TL.cmpG rfl rfl rfl rfl (fun hc => ?_) (fun hc => ?_) <;> try (exfalso; omega)) | refine TL.ev (ev_arN rfl rfl rfl (by omega)) rfl ?_ | refine TL.ev (ev_arI rfl rfl rfl (by omega)) rfl ?_ | refine TL.ev (ev_neg rfl (by omega)) rfl ?_ | refine TL.ev (ev_indexN rfl rfl (by omega) (by first | exact Or.inr rfl | exact Sl.some (by assumption))) rfl ?_ | refine TL.ev (ev_index rfl rfl (by omega) (by first | exact Or.inr rfl | exact Sl.some (by assumption))) rfl ?_ | refine TL.ev (ev_loadU rfl (by assumption) (by omega)) rfl ?_ | refine TL.ev (ev_loadI rfl (by assumption) (by omega)) rfl ?_ | refine TL.ev (ev_loadN rfl (by assumption) (by omega)) rfl ?_ | refine TL.ev (ev_shrU rfl rfl (by first | omega | exact U64.getD (by assumption) _)) rfl ?_ | refine TL.ev (ev_shlU rfl rfl) rfl ?_ | refine TL.ev (ev_andU rfl rfl (by first | omega | exact U64.getD (by assumption) _) (by first | omega | exact U64.getD (by assumption) _)) rfl ?_ | refine TL.ev (ev_orU rfl rfl (by first | omega | exact U64.getD (by assumption) _) (by first | omega | exact U64.getD (by assumption) _)) rfl ?_ | refine TL.ev (ev_xorU rfl rfl (by first | omega | exact U64.getD (by assumption) _) (by first | omega | exact U64.getD (by assumption) _)) rfl ?_ | refine TL.ev (ev_convU rfl (by omega)) rfl ?_ | refine TL.ev (ev_convI rfl (by omega)) rfl ?_ | refine TL.ev (ev_arU rfl rfl rfl (by first | exact True.intro | omega)) rfl ?_ | refine T.seq ?_ | refine T.region ?_ | refine TL.nil ?_ | refine T.block ?_ | refine T.cond_t rfl ?_ | refine T.cond_f rfl ?_ | refine T.exit ?_ | refine T.ret ?_ | refine T.skip ?_ | refine G.next ?_ | refine G.blockN ?_ | refine G.blockE ?_ | refine G.blockE' rfl ?_ | refine G.blockR ?_ | refine G.thenE ?_ | refine G.thenR ?_ | refine T.regionQ mixed (by kernel_rfl) ?_ | refine TL.nilQ (fun _ => ?_) | refine G.only ?_ | refine G.mixed ?_ | refine TM.nil ?_ | refine TM.e rfl ?_)
        exact G.again ((k : Int) - 1) (by rw [show ((k : Int) - 1 + 1).toNat = k by omega]; exact (by repeat (first | exact Sub.nil _ | refine Sub.cons rfl ?_ | refine Sub.cons' rfl (int_congr (by omega)) ?_))) ⟨by omega, by omega, rfl⟩ (by omega)
      · have hd0 : E.getD (4 * q + k) 0 = 0 := N16.getD_ge (by omega)
        repeat' (first | refine TL.ev (ev_simple rfl) rfl ?_ | refine TL.grun rfl rfl rfl ?_ | refine TL.gskip rfl rfl rfl rfl ?_ | refine TL.gskipU rfl rfl rfl ?_ | refine TL.ev (ev_len rfl) rfl ?_ | (refine TL.cmpG rfl rfl rfl rfl (fun hc => ?_) (fun hc => ?_) <;> try (exfalso; omega)) | refine TL.ev (ev_arN rfl rfl rfl (by omega)) rfl ?_ | refine TL.ev (ev_arI rfl rfl rfl (by omega)) rfl ?_ | refine TL.ev (ev_neg rfl (by omega)) rfl ?_ | refine TL.ev (ev_indexN rfl rfl (by omega) (by first | exact Or.inr rfl | exact Sl.some (by assumption))) rfl ?_ | refine TL.ev (ev_index rfl rfl (by omega) (by first | exact Or.inr rfl | exact Sl.some (by assumption))) rfl ?_ | refine TL.ev (ev_loadU rfl (by assumption) (by omega)) rfl ?_ | refine TL.ev (ev_loadI rfl (by assumption) (by omega)) rfl ?_ | refine TL.ev (ev_loadN rfl (by assumption) (by omega)) rfl ?_ | refine TL.ev (ev_shrU rfl rfl (by first | omega | exact U64.getD (by assumption) _)) rfl ?_ | refine TL.ev (ev_shlU rfl rfl) rfl ?_ | refine TL.ev (ev_andU rfl rfl (by first | omega | exact U64.getD (by assumption) _) (by first | omega | exact U64.getD (by assumption) _)) rfl ?_ | refine TL.ev (ev_orU rfl rfl (by first | omega | exact U64.getD (by assumption) _) (by first | omega | exact U64.getD (by assumption) _)) rfl ?_ | refine TL.ev (ev_xorU rfl rfl (by first | omega | exact U64.getD (by assumption) _) (by first | omega | exact U64.getD (by assumption) _)) rfl ?_ | refine TL.ev (ev_convU rfl (by omega)) rfl ?_ | refine TL.ev (ev_convI rfl (by omega)) rfl ?_ | refine TL.ev (ev_arU rfl rfl rfl (by first | exact True.intro | omega)) rfl ?_ | refine T.seq ?_ | refine T.region ?_ | refine TL.nil ?_ | refine T.block ?_ | refine T.cond_t rfl ?_ | refine T.cond_f rfl ?_ | refine T.exit ?_ | refine T.ret ?_ | refine T.skip ?_ | refine G.next ?_ | refine G.blockN ?_ | refine G.blockE ?_ | refine G.blockE' rfl ?_ | refine G.blockR ?_ | refine G.thenE ?_ | refine G.thenR ?_ | refine T.regionQ mixed (by kernel_rfl) ?_ | refine TL.nilQ (fun _ => ?_) | refine G.only ?_ | refine G.mixed ?_ | refine TM.nil ?_ | refine TM.e rfl ?_)
        exact G.again ((k : Int) - 1) (by rw [show ((k : Int) - 1 + 1).toNat = k by omega]; exact (by repeat (first | exact Sub.nil _ | refine Sub.cons rfl ?_ | refine Sub.cons' rfl (int_congr (by omega)) ?_))) ⟨by omega, by omega, rfl⟩ (by omega)
  · have e : E.take (4 * q) = E := List.take_of_length_le (by omega)
    rw [e] at hv
    rw [join_end (by omega) hDu hD hv (by omega) (by omega)] at hO2
    repeat' (first | refine TL.ev (ev_simple rfl) rfl ?_ | refine TL.grun rfl rfl rfl ?_ | refine TL.gskip rfl rfl rfl rfl ?_ | refine TL.gskipU rfl rfl rfl ?_ | refine TL.ev (ev_len rfl) rfl ?_ | (refine TL.cmpG rfl rfl rfl rfl (fun hc => ?_) (fun hc => ?_) <;> try (exfalso; omega)) | refine TL.ev (ev_arN rfl rfl rfl (by omega)) rfl ?_ | refine TL.ev (ev_arI rfl rfl rfl (by omega)) rfl ?_ | refine TL.ev (ev_neg rfl (by omega)) rfl ?_ | refine T.seq ?_ | refine T.region ?_ | refine TL.nil ?_ | refine T.block ?_ | refine T.cond_t rfl ?_ | refine T.cond_f rfl ?_ | refine T.exit ?_ | refine T.ret ?_ | refine T.skip ?_ | refine G.next ?_ | refine G.blockN ?_ | refine G.blockE ?_ | refine G.blockE' rfl ?_ | refine G.blockR ?_ | refine G.thenE ?_ | refine G.thenR ?_ | refine T.regionQ mixed (by kernel_rfl) ?_ | refine TL.nilQ (fun _ => ?_) | refine G.only ?_ | refine G.mixed ?_ | refine TM.nil ?_ | refine TM.e rfl ?_)
    exact G.ret1 rfl rfl (RetN.mk hO2 hE2 (by omega))
end Go.Proofs.YtdhmhjbmkimplaaGreat

namespace Go.Proofs.YtdhmhjbmkimplaaGreat
open Go Go.Eng Go.Proofs Go.NatM Go.RowKit

theorem at_ok (H : Array Obj) (B : Nat) (A : Option Addr) (n c : Nat) (l : List Nat) {z : Int} {i : Nat} [e0 : IsN z i] (hs : Sl n64v H B A n c l) (hi : i < 9223372036854775808) :
    Pure Tryz.prog 153 #[.slice A n c, .int .i64 z] H (.int .i64 ((l.getD i 0 : Nat) : Int)) := by
  obtain rfl := e0.out
  refine Pure.of fun w hw => ?_
  subst hw
  have hlen := hs.len
  refine enter Tryz.func153 rfl rfl rfl ?_
  repeat' (first | refine TL.ev (ev_simple rfl) rfl ?_ | refine TL.ev (ev_len rfl) rfl ?_ | (refine TL.cmpG rfl rfl rfl rfl (fun hc => ?_) (fun hc => ?_) <;> try (exfalso; omega)) | refine TL.ev (ev_indexN rfl rfl (by omega) (by first | exact Or.inr rfl | exact Sl.some (by assumption))) rfl ?_ | refine TL.ev (ev_loadN rfl (by assumption) (by omega)) rfl ?_ | refine T.seq ?_ | refine T.region ?_ | refine TL.nil ?_ | refine T.cond_t rfl ?_ | refine T.cond_f rfl ?_ | refine T.ret ?_ | refine T.skip ?_ | refine G.next ?_ | refine G.thenR ?_)
  · exact G.ret1 rfl rfl ⟨by rw [N16.getD_ge (by omega)]; rfl, Qt.refl _⟩
  · exact G.ret1 rfl rfl ⟨rfl, Qt.refl _⟩
theorem rleast_ok (w : World) (B : Nat) (A : Option Addr) (n c : Nat) (l : List Nat) (hs : Sl u64v w.heap B A n c l) (hu : U64 l) (hn : n ≤ 1099511627776) :
    Cl Tryz.prog 124 #[.slice A n c] w (RetN w (dig (val l)) (n + 1)) := by
  refine enter Tryz.func124 rfl rfl rfl ?_
  repeat' (first | refine TL.ev (ev_simple rfl) rfl ?_ | (refine TL.call rfl rfl ?_; first | (refine (split_ok _ _ _ _ _ _ hs hu hn).mono ?_; rintro _ w1 ⟨A1, n1, c1, rfl, hO1, hE1, hK1⟩; refine Back.mk ?_; have hS1 := hO1.sl (Nat.le_refl _)) | (refine (join_ok _ _ _ _ _ _ hS1 (N16.U64_dig _) (by omega)).mono ?_; rintro _ w2 ⟨A2, n2, c2, rfl, hO2, hE2, hK2⟩; refine Back.mk ?_; rw [N16.val_dig] at hO2)) | refine T.seq ?_ | refine T.region ?_ | refine TL.nil ?_ | refine T.ret ?_ | refine G.next ?_)
  exact G.ret1 rfl rfl (RetN.mk (hO2.mono hE1.size) (hE1.trans hE2) (by omega))
theorem rorder_ok (H : Array Obj) (B B' : Nat) (A A' : Option Addr) (n c n' c' m m' : Nat) (hs : Sl n64v H B A n c (N16.dig m)) (hs' : Sl n64v H B' A' n' c' (N16.dig m')) (hn : n ≤ 35184372088832) (hn' : n' ≤ 35184372088832) :
    Pure Tryz.prog 147 #[.slice A n c, .slice A' n' c'] H (.int .i64 (cmp3 m m')) := by
  refine Pure.of fun w hw => ?_
  subst hw
  have hlen := hs.len
  have hlen' := hs'.len
  have hu := N16.U64_dig m
  have hu' := N16.U64_dig m'
  have hz := N16.sz_dig m
  have hz' := N16.sz_dig m'
  have hv := N16.val_dig m
  have hv' := N16.val_dig m'
  generalize N16.dig m = l at *
  generalize N16.dig m' = l' at *
  subst hv hv'
  refine enter Tryz.func147 rfl rfl rfl ?_
  repeat' (first | refine TL.ev (ev_simple rfl) rfl ?_ | refine TL.ev (ev_len rfl) rfl ?_ | (refine TL.cmpG rfl rfl rfl rfl (fun hc => ?_) (fun hc => ?_) <;> try (exfalso; omega)) | refine TL.ev (ev_arI rfl rfl rfl (by omega)) rfl ?_ | refine T.seq ?_ | refine T.region ?_ | refine TL.nil ?_ | refine T.block ?_ | refine T.cond_t rfl ?_ | refine T.cond_f rfl ?_ | refine T.ret ?_ | refine T.skip ?_ | refine G.next ?_ | refine G.thenR ?_)
  · have := N16.lt_of_sz_lt (l := l) (r := l') hu (by omega)
    exact G.ret1 rfl rfl ⟨by rw [cmp3, if_pos this], Qt.refl _⟩
  · have := N16.lt_of_sz_lt (l := l') (r := l) hu' (by omega)
    exact G.ret1 rfl rfl ⟨by rw [cmp3, if_neg (by omega), if_pos this], Qt.refl _⟩
  · refine T.loop (fun k : Nat => [(0, .slice A n c), (1, .slice A' n' c'), (5, .int .i64 ((k : Int) - 1))]) (fun k w' => Qt w w' ∧ k ≤ n ∧ ∀ j, k ≤ j → l.getD j 0 = l'.getD j 0) (fun k => k) n (by repeat (first | exact Sub.nil _ | refine Sub.cons rfl ?_ | refine Sub.cons' rfl (int_congr (by omega)) ?_)) ⟨Qt.refl w, Nat.le_refl _, ?_⟩ ?_
    · intro j hj; rw [N16.getD_ge (by omega), N16.getD_ge (by omega)]
    · rintro k w' ⟨⟨qq, rfl⟩, hk, hzz⟩
      have hq : Qt w (w.drewN qq) := ⟨qq, rfl⟩
      have hs2 : Sl n64v (w.drewN qq).heap B A n c l := hs
      have hs2' : Sl n64v (w.drewN qq).heap B' A' n' c' l' := hs'
      rcases Nat.eq_zero_or_pos k with h0 | h0
      · subst h0
        have := N16.val_ext (a := l) (b := l') (fun j => hzz j (by omega))
        repeat' (first | refine TL.ev (ev_simple rfl) rfl ?_ | (refine TL.cmpG rfl rfl rfl rfl (fun hc => ?_) (fun hc => ?_) <;> try (exfalso; omega)) | refine T.seq ?_ | refine T.region ?_ | refine TL.nil ?_ | refine T.cond_f rfl ?_ | refine T.exit ?_ | refine T.ret ?_ | refine G.next ?_ | refine G.blockE ?_ | refine G.thenE ?_)
        exact G.ret1 rfl rfl ⟨by rw [cmp3, if_neg (by omega), if_neg (by omega)], hq⟩
      · obtain ⟨i, rfl⟩ := Nat.exists_eq_add_of_le h0
        have e1 : ((1 + i : Nat) : Int) - 1 = (i : Int) := by omega
        rw [e1]
        repeat' (first | refine TL.ev (ev_simple rfl) rfl ?_ | (refine TL.cmpG rfl rfl rfl rfl (fun hc => ?_) (fun hc => ?_) <;> try (exfalso; omega)) | refine TL.ev (ev_arI rfl rfl rfl (by omega)) rfl ?_ | refine TL.ev (ev_indexN rfl rfl (by omega) (by first | exact Or.inr rfl | exact Sl.some (by assumption))) rfl ?_ | refine TL.ev (ev_loadN rfl (by assumption) (by omega)) rfl ?_ | refine T.seq ?_ | refine T.region ?_ | refine TL.nil ?_ | refine T.block ?_ | refine T.cond_t rfl ?_ | refine T.cond_f rfl ?_ | refine T.ret ?_ | refine T.skip ?_ | refine G.next ?_ | refine G.blockN ?_ | refine G.blockR ?_ | refine G.thenR ?_ | refine T.regionQ mixed (by kernel_rfl) ?_ | refine TL.nilQ (fun _ => ?_))
        · have := N16.val_lt_of hu i (fun j hj => hzz j (by omega)) (by omega)
          exact G.ret1 rfl rfl ⟨by rw [cmp3, if_pos this], hq.drewN _⟩
        · have := N16.val_lt_of hu' i (fun j hj => (hzz j (by omega)).symm) (by omega)
          exact G.ret1 rfl rfl ⟨by rw [cmp3, if_neg (by omega), if_pos this], (hq.drewN _).drewN _⟩
        · refine G.again i (by repeat (first | exact Sub.nil _ | refine Sub.cons rfl ?_ | refine Sub.cons' rfl (int_congr (by omega)) ?_)) ⟨(hq.drewN _).drewN _, by omega, fun j hj => ?_⟩ (by omega)
          rcases Nat.lt_or_ge j (1 + i) with h | h
          · obtain rfl : j = i := by omega
            omega
          · exact hzz j h
theorem rcmp_ok (w : World) (B B' : Nat) (A A' : Option Addr) (n c n' c' : Nat) (l l' : List Nat) (hs : Sl u64v w.heap B A n c l) (hs' : Sl u64v w.heap B' A' n' c' l') (hu : U64 l) (hu' : U64 l') (hn : n ≤ 1099511627776) (hn' : n' ≤ 1099511627776) :
    Cl Tryz.prog 133 #[.slice A n c, .slice A' n' c'] w (fun e w' => e = .returned (.int .i64 (cmp3 (val l) (val l'))) ∧ Ext w w') := by
  refine enter Tryz.func133 rfl rfl rfl ?_
  repeat' (first | refine TL.ev (ev_simple rfl) rfl ?_ | (refine TL.call rfl rfl ?_; first | (refine (split_ok _ _ _ _ _ _ hs hu hn).mono ?_; rintro _ w1 ⟨A1, n1, c1, rfl, hO1, hE1, hK1⟩; refine Back.mk ?_; have hs2' := hs'.ext hE1) | (refine (split_ok _ _ _ _ _ _ hs2' hu' hn').mono ?_; rintro _ w2 ⟨A2, n2, c2, rfl, hO2, hE2, hK2⟩; refine Back.mk ?_; have g1 := (hO1.ext hE2).sl (Nat.le_refl _); have g2 := hO2.sl (Nat.le_refl _)) | (refine (rorder_ok _ _ _ _ _ _ _ _ _ _ _ g1 g2 (by omega) (by omega)).cl.mono ?_; rintro _ _ ⟨rfl, q1, rfl⟩; refine Back.mk ?_)) | refine T.seq ?_ | refine T.region ?_ | refine TL.nil ?_ | refine T.ret ?_ | refine G.next ?_)
  exact G.ret1 rfl rfl ⟨rfl, (hE1.trans hE2).drewN _⟩
end Go.Proofs.YtdhmhjbmkimplaaGreat

namespace Go.Proofs.YtdhmhjbmkimplaaGreat
open Go Go.Eng Go.Proofs Go.NatM Go.RowKit

theorem made_ok (w : World) (neg : Bool) (A : Option Addr) (n c : Nat) (l : List Nat) (hs : Sl u64v w.heap w.heap.size A n c l) (hu : U64 l) (hn : n ≤ 1099511627776) :
    Cl Tryz.prog 97 #[.bool neg, .slice A n c] w (RetZ w (sgn neg (val l)) (n + 1)) := by
  cases neg
  · refine enter Tryz.func97 rfl rfl rfl ?_
    have hF := Fr.refl w
    repeat' (first | (refine TL.isOp ?_; first | (refine TL.isG ?_; first | refine TL.gskip rfl rfl rfl rfl ?_) | (refine TL.isCall ?_; refine TL.call rfl rfl ?_; first | (refine (rleast_ok _ _ _ _ _ _ (hs.ext hF.ext) hu hn).mono ?_; rintro _ w1 ⟨A1, n1, c1, rfl, hO1, hE, hK1⟩; have hS1 := hO1.sl (Nat.le_refl _); replace hF := Fr.addSl (hF.exts hE) hS1; clear hE; refine Back.mk ?_)) | (apply TL.ev; (case hd => rfl); (case h => (first | exact ev_simple rfl | exact ev_buildX rfl rfl))) | (refine TL.storeAFr hF rfl rfl rfl rfl (by refine ⟨?_, ?_⟩; (focus (repeat (first | apply SetV.head | apply SetV.tail))); rfl) rfl ?_; clear hF; intro ws hF) | (refine TL.allocFr hF (d := 4) rfl rfl ?_; clear hF; intro w4 b4 hF)) | (refine T.is ?_; first | refine T.seq ?_ | refine T.region ?_ | refine T.ret ?_) | (refine G.is ?_; first | refine G.next ?_) | refine TL.nil ?_)
    exact G.retC1 rfl rfl (held_agg (hF.var (by repeat (first | exact InV.head | apply InV.tail))) rfl) ⟨⟨false, ⟨A1, n1, c1, dig (val l)⟩⟩, rfl, li_mk (neg := false) (Fr.sl hF (by repeat (first | exact memH | apply memT))), hF.ext, hK1⟩
  · refine enter Tryz.func97 rfl rfl rfl ?_
    have hF := Fr.refl w
    repeat' (first | (refine TL.isOp ?_; first | (refine TL.isG ?_; first | refine TL.grun rfl rfl rfl ?_) | (refine TL.isCall ?_; refine TL.call rfl rfl ?_; first | (refine (rleast_ok _ _ _ _ _ _ (hs.ext hF.ext) hu hn).mono ?_; rintro _ w1 ⟨A1, n1, c1, rfl, hO1, hE, hK1⟩; have hS1 := hO1.sl (Nat.le_refl _); replace hF := Fr.addSl (hF.exts hE) hS1; clear hE; refine Back.mk ?_)) | (refine TL.isBin ?_; refine TL.cmpG rfl rfl rfl rfl (fun hc => ?_) (fun hc => ?_) <;> (try (first | (exfalso; omega) | exact absurd rfl hc))) | (apply TL.ev; (case hd => rfl); (case h => (first | exact ev_simple rfl | exact ev_len rfl | exact ev_buildX rfl rfl))) | (refine TL.storeAFr hF rfl rfl rfl rfl (by refine ⟨?_, ?_⟩; (focus (repeat (first | apply SetV.head | apply SetV.tail))); rfl) rfl ?_; clear hF; intro ws hF) | (refine TL.allocFr hF (d := 4) rfl rfl ?_; clear hF; intro w4 b4 hF)) | (refine T.is ?_; first | refine T.seq ?_ | refine T.region ?_ | refine T.ret ?_) | (refine G.is ?_; first | refine G.next ?_) | refine TL.nil ?_)
    · have e := li_mk (neg := true) (Fr.sl hF (A := A1) (n := n1) (c := c1) (l := dig (val l)) (by repeat (first | exact memH | apply memT)))
      have e2 : (true && decide (0 < n1)) = true := by simp; omega
      rw [e2] at e
      exact G.retC1 rfl rfl (held_agg (hF.var (by repeat (first | exact InV.head | apply InV.tail))) rfl) ⟨⟨true, ⟨A1, n1, c1, dig (val l)⟩⟩, rfl, e, hF.ext, hK1⟩
    · have e := li_mk (neg := true) (Fr.sl hF (A := A1) (n := n1) (c := c1) (l := dig (val l)) (by repeat (first | exact memH | apply memT)))
      have e2 : (true && decide (0 < n1)) = false := by simp; omega
      rw [e2] at e
      exact G.retC1 rfl rfl (held_agg (hF.var (by repeat (first | exact InV.head | apply InV.tail))) rfl) ⟨⟨false, ⟨A1, n1, c1, dig (val l)⟩⟩, rfl, e, hF.ext, hK1⟩
theorem r5least_ok (w : World) (x : IV) (g : GI w.heap x) (hn : x.m.n ≤ 1099511627776) : Cl Tryz.prog 90 #[.agg (ivc x).toArray] w (RetZ w (ival x) (x.m.n + 1)) := by
  refine enter Tryz.func90 rfl rfl rfl ?_
  have hF := Fr.refl w
  repeat' (first | (refine TL.isOp ?_; first | (refine TL.isCall ?_; refine TL.call rfl rfl ?_; first | (refine (made_ok _ _ _ _ _ _ (g.s.ext hF.ext).size g.u hn).mono ?_; rintro _ w1 ⟨y, rfl, hL, hE, hK⟩; replace hF := Fr.addLI (hF.exts hE) hL; clear hE; refine Back.mk ?_)) | (apply TL.ev; (case hd => rfl); (case h => (first | (apply Ev.isLoad; first | exact ev_loadFr hF rfl (by refine ⟨?_, ?_⟩; (focus (repeat (first | exact InV.head | apply InV.tail))); rfl)) | exact ev_fieldAddr rfl))) | (refine TL.storeAFr hF rfl rfl rfl rfl (by refine ⟨?_, ?_⟩; (focus (repeat (first | apply SetV.head | apply SetV.tail))); rfl) rfl ?_; clear hF; intro ws hF) | (refine TL.allocFr hF (d := 2) rfl rfl ?_; clear hF; intro w2 b2 hF) | (refine TL.boxAFr hF (d := 1) (cs := ivc x) rfl rfl ?_; clear hF; intro w1 b1 hF)) | (refine T.is ?_; first | refine T.seq ?_ | refine T.region ?_ | refine T.ret ?_) | (refine G.is ?_; first | refine G.next ?_) | refine TL.nil ?_)
  exact G.retC1 rfl rfl (held_agg (hF.var (by repeat (first | exact InV.head | apply InV.tail))) rfl) ⟨y, rfl, Fr.li hF (by repeat (first | exact memH | apply memT)), hF.ext, hK⟩
theorem ival_abs (x : IV) : (ival x).natAbs = val x.m.l := sgn_abs _ _
end Go.Proofs.YtdhmhjbmkimplaaGreat

namespace Go.Proofs.YtdhmhjbmkimplaaGreat
open Go Go.Eng Go.Proofs Go.NatM Go.RowKit

set_option maxRecDepth 100000 in
set_option maxHeartbeats 8000000 in
theorem turn1_ok (w : World) (r c i j K : Nat) (A : Option Addr) (k : Nat) (l : List IV) (pa : Nat) (gx : GM w.heap ⟨r, c, A, r * c, k, l⟩ r c K) (hK : K ≤ 35184372088832) (hpa : Vr w.heap pa 24 (mvc ⟨r, c, A, r * c, k, l⟩)) (hi : i < c) (hj : j < r) :
    Cl Tryz.prog 92 #[.int .i64 (i : Int), .int .i64 (j : Int), .pointer (some ⟨pa, 0, none⟩)] w (RetZ w (ival (l.getD (j * c + i) default)) K) := by
  have hm := mul64 gx.sh.r64 gx.sh.c64
  have hs := gx.s
  have hlen := hs.len
  dsimp only at hs hlen
  have hp := place_lt hj hi
  have y1 : l[j * c + i]? = some (l.getD (j * c + i) default) := by simp [List.getD, show j * c + i < l.length by omega]
  obtain ⟨g1, n1⟩ := gx.g _ (List.mem_of_getElem? y1)
  generalize l.getD (j * c + i) default = x1 at *
  refine enter Tryz.func92 rfl rfl rfl ?_
  have hF := Fr.refl w
  repeat' (first | (refine TL.isOp ?_; first | (refine TL.isCall ?_; refine TL.call rfl rfl ?_; first | (refine (zleast_ok _ x1 (g1.ext hF.ext) (by omega)).mono ?_; rintro _ wm ⟨s', rfl, hLm, hE, hKm⟩; replace hF := Fr.addLI (hF.exts hE) hLm; clear hE; refine Back.mk ?_)) | (apply TL.ev; (case hd => rfl); (case h => (first | exact ev_simple rfl | (apply Ev.isBin; first | exact ev_arN rfl rfl rfl (by omega)) | (apply Ev.isLoad; first | exact ev_loadV rfl (hpa.ext hF.ext) rfl | exact ev_loadM rfl (hs.ext hF.ext) y1) | exact ev_fieldAddr rfl | exact ev_indexM rfl rfl hp (hs.ext hF.ext).some))) | (refine TL.storeAFr hF rfl rfl rfl rfl (by refine ⟨?_, ?_⟩; (focus (repeat (first | apply SetV.head | apply SetV.tail))); rfl) rfl ?_; clear hF; intro ws hF) | (refine TL.allocFr hF rfl rfl ?_; clear hF; intro wa ba hF)) | (refine T.is ?_; first | refine T.seq ?_ | refine T.region ?_ | refine T.ret ?_) | (refine G.is ?_; first | refine G.next ?_) | refine TL.nil ?_)
  exact G.retC1 rfl rfl (held_agg (hF.var (by repeat (first | exact InV.head | apply InV.tail))) rfl) ⟨s', rfl, Fr.li hF (by repeat (first | exact memH | apply memT)), hF.ext, by omega⟩
set_option maxRecDepth 100000 in
set_option maxHeartbeats 8000000 in
theorem mturn_ok (w : World) (x : MV) (r c K : Nat) (gx : GM w.heap x r c K) (hK : K ≤ 35184372088832) :
    Cl Tryz.prog 49 #[.agg (mvc x).toArray] w (RetME w c r (fun i j => ent x c j i) K) := by
  obtain ⟨xr, xc, A, n, k, l⟩ := x
  obtain ⟨h1, h2, h3, h4, h5⟩ := id gx.sh
  dsimp only at h1 h2 h5
  subst h1 h2 h5
  refine enter Tryz.func49 rfl rfl rfl ?_
  have hF := Fr.refl w
  repeat' (first | (refine TL.isOp ?_; first | (refine TL.isCall ?_; refine TL.call rfl rfl ?_; first | (refine (chk_ok _ _ r c gx.sh).mono ?_; rintro _ wc ⟨rfl, hE⟩; replace hF := hF.exts hE; clear hE; refine Back.mk ?_) | (refine (build_ok _ c r h4 h3 92 [.pointer (some ⟨b1, 0, none⟩)] inferInstance (fun i j => ival (l.getD (j * c + i) default)) K (fun i j w1 hi hj hE1 => turn1_ok w1 r c i j K A k l b1 (gx.ext (hF.exts hE1).ext) hK ((hF.var (by repeat (first | exact InV.head | apply InV.tail))).ext hE1) hi hj)).mono ?_; rintro _ wp ⟨z, rfl, hLp, hE, hf⟩; have hsz := hF.ext.size; replace hF := Fr.addLM hF hE hLp hf; clear hE; refine Back.mk ?_)) | (refine TL.isBin ?_; refine TL.cmpG rfl rfl rfl rfl (fun hc => ?_) (fun hc => ?_) <;> (try (first | (exfalso; omega) | exact absurd rfl hc))) | (apply TL.ev; (case hd => rfl); (case h => (first | exact ev_simple rfl | (apply Ev.isLoad; first | exact ev_loadFr hF rfl (by refine ⟨?_, ?_⟩; (focus (repeat (first | exact InV.head | apply InV.tail))); rfl) | exact ev_loadAFr hF rfl (by refine ⟨?_, ?_⟩; (focus (repeat (first | exact InV.head | apply InV.tail))); rfl)) | exact ev_fieldAddr rfl | exact ev_makeFunc rfl))) | (refine TL.storeAFr hF rfl rfl rfl rfl (by refine ⟨?_, ?_⟩; (focus (repeat (first | apply SetV.head | apply SetV.tail))); rfl) rfl ?_; clear hF; intro ws hF) | (refine TL.boxAFr hF (d := 1) (cs := mvc ⟨r, c, A, r * c, k, l⟩) rfl rfl ?_; clear hF; intro w1 b1 hF) | (refine TL.allocFr hF (d := 2) rfl rfl ?_; clear hF; intro w2 b2 hF)) | (refine T.is ?_; first | refine T.seq ?_ | refine T.region ?_ | refine T.cond_f rfl ?_ | refine T.ret ?_ | refine T.skip ?_) | (refine G.is ?_; first | refine G.next ?_) | refine TL.nil ?_)
  exact G.retC2 rfl rfl rfl (held_agg (hF.var (by repeat (first | exact InV.head | apply InV.tail))) rfl) ⟨z, rfl, Fr.lm hF (by repeat (first | exact memH | apply memT)), hF.ext, hf.mono hsz⟩
end Go.Proofs.YtdhmhjbmkimplaaGreat

namespace Go.Proofs.YtdhmhjbmkimplaaGreat
open Go Go.Eng Go.Proofs Go.NatM Go.RowKit

theorem least_each (w : World) (l : List IV) (K : Nat) (hg : ∀ y ∈ l, GI w.heap y ∧ y.m.n ≤ K) (hK : K ≤ 35184372088832) :
    ∀ i y (w1 : World), l[i]? = some y → Ext w w1 → Cl Tryz.prog 85 ([Value.agg (ivc y).toArray] ++ []).toArray w1 (RetZ w1 ((fun q => ival (l.getD q default)) i) K) := by
  intro i y w1 hy hE
  obtain ⟨g1, g2⟩ := hg y (List.mem_of_getElem? hy)
  refine (zleast_ok w1 y (g1.ext hE) (by omega)).mono ?_
  rintro e w' ⟨x, rfl, h1, h2, h3⟩
  refine ⟨x, rfl, ?_, h2, by omega⟩
  have e1 : l.getD i default = y := by simp [List.getD, hy]
  simp only [e1]
  exact h1
theorem LL.lm {H : Array Obj} {x : MV} {r c K k : Nat} {A : Option Addr} {l : List IV} (sh : Sound x r c) (h : LL H A (r * c) k l (fun q => ival (x.l.getD q default)) K) : LM H ⟨r, c, A, r * c, k, l⟩ r c (ent x c) K :=
  ⟨⟨rfl, rfl, sh.r64, sh.c64, rfl⟩, h.s, fun i j hi hj => h.g (i * c + j) (place_lt hi hj)⟩
theorem LF.mf {w : World} {A : Option Addr} {r c k : Nat} {l : List IV} {n : Nat} (h : LF w A n) : MF w ⟨r, c, A, n, k, l⟩ := h
set_option maxRecDepth 100000 in
set_option maxHeartbeats 8000000 in
theorem mleast_ok (w : World) (x : MV) (r c K : Nat) (gx : GM w.heap x r c K) (hK : K ≤ 35184372088832) : Cl Tryz.prog 118 #[.agg (mvc x).toArray] w (RetME w r c (ent x c) K) := by
  have hs0 := gx.sh
  obtain ⟨xr, xc, A1, n1, k1, l1⟩ := x
  obtain ⟨hr1, hc1, hr, hc, hn1⟩ := hs0
  dsimp only at hr1 hc1 hn1
  subst hr1 hc1 hn1
  have hm := mul64 hr hc
  refine enter Tryz.func118 rfl rfl rfl ?_
  have hF := Fr.refl w
  repeat' (first | (refine TL.isOp ?_; first | (refine TL.isCall ?_; refine TL.call rfl rfl ?_; first | (refine (chk_ok _ _ r c gx.sh).mono ?_; rintro _ wy ⟨rfl, hE⟩; replace hF := hF.exts hE; clear hE; refine Back.mk ?_) | (refine (each_ok _ A1 (r * c) k1 l1 (gx.s.ext hF.ext).size (by omega) 85 [] inferInstance _ K (least_each _ l1 K (fun y hy => ⟨(gx.g y hy).1.ext hF.ext, (gx.g y hy).2⟩) hK)).mono ?_; rintro _ wl ⟨Al, kl, ll, rfl, hL, hE, hf⟩; have hLm := LL.lm gx.sh hL; have hMf := LF.mf (r := r) (c := c) (k := kl) (l := ll) hf; replace hMf := hMf.mono hF.ext.size; replace hF := Fr.addLM hF hE hLm (LF.mf hf); clear hE hf hL hLm; refine Back.mk ?_)) | (refine TL.isBin ?_; refine TL.cmpG rfl rfl rfl rfl (fun hc => ?_) (fun hc => ?_) <;> (try (first | (exfalso; omega) | exact absurd rfl hc))) | (apply TL.ev; (case hd => rfl); (case h => (first | exact ev_simple rfl | (apply Ev.isLoad; first | exact ev_loadAFr hF rfl (by refine ⟨?_, ?_⟩; (focus (repeat (first | exact InV.head | apply InV.tail))); rfl))))) | (refine TL.storeAFr hF rfl rfl rfl rfl (by refine ⟨?_, ?_⟩; (focus (repeat (first | apply SetV.head | apply SetV.tail))); rfl) rfl ?_; clear hF; intro ws hF) | (refine TL.boxAFr hF (d := 1) (cs := [.int .i64 (r : Int), .int .i64 (c : Int), .slice A1 (r * c) k1]) rfl rfl ?_; clear hF; intro w1 b1 hF) | (refine TL.allocFr hF (d := 2) rfl rfl ?_; clear hF; intro w2 b2 hF)) | (refine TF.is ?_; first | refine TF.nil ?_ | refine TF.e rfl ?_ | (refine TF.pick rfl ?_; first | (apply TFo.ev; (case hd => rfl); (case h => (intro wh hF; first | exact ev_simple rfl | (apply Ev.isLoad; first | exact ev_loadFr hF rfl (by refine ⟨?_, ?_⟩; (focus (repeat (first | exact InV.head | apply InV.tail))); rfl)) | exact ev_fieldAddr rfl | exact ev_buildX rfl rfl))))) | (refine T.is ?_; first | refine T.seq ?_ | refine T.region ?_ | refine T.cond_f rfl ?_ | refine T.ret ?_ | refine T.skip ?_ | (refine T.regionFt hF 4 10 (.s 0 (.s 1 (.s 2 (.s 3 (.s 4 (.s 5 (.e 6 (.s 7 (.e 8 (.s 9 .nil)))))))))) mixed (by kernel_rfl) ?_; clear hF; intro wr hF)) | (refine G.is ?_; first | refine G.next ?_ | refine G.only ?_ | refine G.tree rfl (by first | exact hF | exact hF.weak (by repeat (first | exact List.Sublist.refl _ | apply List.Sublist.cons)) (by repeat (first | exact allR | apply allT)) | exact hF.weak (by repeat (first | exact List.Sublist.refl _ | apply List.Sublist.cons)) (by repeat (first | exact allN | refine allH (by repeat (first | exact memH | apply memT)) ?_))) ?_) | refine TL.nil ?_)
  exact G.retC2 rfl rfl rfl (held_agg (hF.var (by repeat (first | exact InV.head | apply InV.tail))) rfl) ⟨⟨r, c, Al, r * c, kl, ll⟩, rfl, Fr.lm hF (by repeat (first | exact memH | apply memT)), hF.ext, hMf⟩
/-- a matrix value whose numbers are in range -/
structure InR (x : MV) : Prop where
  r : -9223372036854775808 ≤ x.r ∧ x.r < 9223372036854775808
  c : -9223372036854775808 ≤ x.c ∧ x.c < 9223372036854775808
theorem chk_bad (w : World) (x : MV) (hx : InR x) (hn : ¬ ∃ r c, Sound x r c) : Cl Tryz.prog 43 #[.agg (mvc x).toArray] w (fun e w' => e = .returned (.int .i64 1) ∧ Ext w w') := by
  obtain ⟨xr, xc, A, n, k, l⟩ := x
  obtain ⟨hr, hc⟩ := hx
  dsimp only at hr hc
  by_cases h1 : 0 ≤ xr ∧ xr ≤ 64
  · by_cases h2 : 0 ≤ xc ∧ xc ≤ 64
    · obtain ⟨r, rfl⟩ := Int.eq_ofNat_of_zero_le h1.1
      obtain ⟨c, rfl⟩ := Int.eq_ofNat_of_zero_le h2.1
      have hm := mul64 (r := r) (c := c) (by omega) (by omega)
      have hne : n ≠ r * c := fun e => hn ⟨r, c, rfl, rfl, by omega, by omega, e⟩
      refine enter Tryz.func43 rfl rfl rfl ?_
      have hF := Fr.refl w
      repeat' (first | (refine TL.isOp ?_; first | (refine TL.isG ?_; first | refine TL.grun rfl rfl rfl ?_) | (refine TL.isCall ?_; refine TL.call rfl rfl ?_; first | (refine (side_ok _ _ true (decide_eq_true (by omega))).cl.mono ?_; rintro _ wc ⟨rfl, hE⟩; replace hF := hF.exts hE.ext; clear hE; refine Back.mk ?_)) | (refine TL.isBin ?_; refine TL.cmpG rfl rfl rfl rfl (fun hc => ?_) (fun hc => ?_) <;> (try (first | (exfalso; omega) | exact absurd rfl hc))) | (apply TL.ev; (case hd => rfl); (case h => (first | exact ev_simple rfl | (apply Ev.isBin; first | exact ev_arN rfl rfl rfl (by omega)) | (apply Ev.isLoad; first | exact ev_loadFr hF rfl (by refine ⟨?_, ?_⟩; (focus (repeat (first | exact InV.head | apply InV.tail))); rfl)) | exact ev_len rfl | exact ev_fieldAddr rfl))) | (refine TL.boxAFr hF (d := 1) (cs := [.int .i64 (r : Int), .int .i64 (c : Int), .slice A n k]) rfl rfl ?_; clear hF; intro w1 b1 hF)) | (refine T.is ?_; first | refine T.seq ?_ | refine T.region ?_ | refine T.cond_t rfl ?_ | refine T.ret ?_) | (refine G.is ?_; first | refine G.next ?_ | refine G.thenR ?_) | refine TL.nil ?_)
      exact G.ret1 rfl rfl ⟨rfl, hF.ext⟩
    · refine enter Tryz.func43 rfl rfl rfl ?_
      have hF := Fr.refl w
      repeat' (first | (refine TL.isOp ?_; first | (refine TL.isG ?_; first | refine TL.grun rfl rfl rfl ?_ | refine TL.gskip rfl rfl rfl rfl ?_) | (refine TL.isCall ?_; refine TL.call rfl rfl ?_; first | (refine (side_ok _ xr true (decide_eq_true (by omega))).cl.mono ?_; rintro _ wc ⟨rfl, hE⟩; replace hF := hF.exts hE.ext; clear hE; refine Back.mk ?_) | (refine (side_ok _ xc false (decide_eq_false (by omega))).cl.mono ?_; rintro _ wc ⟨rfl, hE⟩; replace hF := hF.exts hE.ext; clear hE; refine Back.mk ?_)) | (apply TL.ev; (case hd => rfl); (case h => (first | exact ev_simple rfl | (apply Ev.isLoad; first | exact ev_loadFr hF rfl (by refine ⟨?_, ?_⟩; (focus (repeat (first | exact InV.head | apply InV.tail))); rfl)) | exact ev_fieldAddr rfl))) | (refine TL.boxAFr hF (d := 1) (cs := [.int .i64 xr, .int .i64 xc, .slice A n k]) rfl rfl ?_; clear hF; intro w1 b1 hF)) | (refine T.is ?_; first | refine T.seq ?_ | refine T.region ?_ | refine T.cond_t rfl ?_ | refine T.ret ?_) | (refine G.is ?_; first | refine G.next ?_ | refine G.thenR ?_) | refine TL.nil ?_)
      exact G.ret1 rfl rfl ⟨rfl, hF.ext⟩
  · refine enter Tryz.func43 rfl rfl rfl ?_
    have hF := Fr.refl w
    repeat' (first | (refine TL.isOp ?_; first | (refine TL.isG ?_; first | refine TL.gskip rfl rfl rfl rfl ?_) | (refine TL.isCall ?_; refine TL.call rfl rfl ?_; first | (refine (side_ok _ xr false (decide_eq_false (by omega))).cl.mono ?_; rintro _ wc ⟨rfl, hE⟩; replace hF := hF.exts hE.ext; clear hE; refine Back.mk ?_)) | (apply TL.ev; (case hd => rfl); (case h => (first | exact ev_simple rfl | (apply Ev.isLoad; first | exact ev_loadFr hF rfl (by refine ⟨?_, ?_⟩; (focus (repeat (first | exact InV.head | apply InV.tail))); rfl)) | exact ev_fieldAddr rfl))) | (refine TL.boxAFr hF (d := 1) (cs := [.int .i64 xr, .int .i64 xc, .slice A n k]) rfl rfl ?_; clear hF; intro w1 b1 hF)) | (refine T.is ?_; first | refine T.seq ?_ | refine T.region ?_ | refine T.cond_t rfl ?_ | refine T.ret ?_) | (refine G.is ?_; first | refine G.next ?_ | refine G.thenR ?_) | refine TL.nil ?_)
    exact G.ret1 rfl rfl ⟨rfl, hF.ext⟩
/-- a walk over the rows of a matrix: a closure over the matrix -/
def RetIt (w : World) (r c : Nat) (F : Nat → Nat → Int) (K : Nat) (e : Ending) (w' : World) : Prop := ∃ (b : Nat) (A : Option Addr) (k : Nat) (l : List IV), e = .returned (.func (.func 119) #[] #[.pointer (some ⟨b, 0, none⟩)]) ∧
  Vr w'.heap b 24 [.int .i64 (r : Int), .int .i64 (c : Int), .slice A (r * c) k] ∧ LM w'.heap ⟨r, c, A, r * c, k, l⟩ r c F K ∧ Ext w w' ∧ w.heap.size ≤ b ∧ MF w ⟨r, c, A, r * c, k, l⟩
theorem lm_zero (H : Array Obj) (F : Nat → Nat → Int) (K : Nat) : LM H ⟨(0 : Nat), (0 : Nat), none, 0 * 0, 0, []⟩ 0 0 F K :=
  ⟨⟨rfl, rfl, by omega, by omega, rfl⟩, ⟨rfl, Nat.le_refl _, by omega, fun x hx => (by cases hx), .inl rfl⟩, fun i j hi => absurd hi (Nat.not_lt_zero _)⟩
theorem lines_ok (w : World) (x : MV) (r c K : Nat) (gx : GM w.heap x r c K) (hK : K ≤ 35184372088832) : Cl Tryz.prog 87 #[.agg (mvc x).toArray] w (RetIt w r c (ent x c) K) := by
  have hl := fun w1 (hE : Ext w w1) => mleast_ok w1 x r c K (gx.ext hE) hK
  obtain ⟨xr, xc, A, n, k, l⟩ := x
  refine enter Tryz.func87 rfl rfl rfl ?_
  have hF := Fr.refl w
  repeat' (first | (refine TL.isOp ?_; first | (refine TL.isCall ?_; refine TL.call rfl rfl ?_; first | (refine (hl _ hF.ext).mono ?_; rintro _ wu ⟨zu, rfl, hLu, hE, hf⟩; obtain ⟨Au, ku, lu, rfl⟩ := lm_mk hLu; rw [mvc_mk _ _ Au]; have hfu := hf.mono hF.ext.size; replace hF := Fr.addLM hF hE hLu hf; clear hE hf hLu; refine Back.mk ?_)) | (apply TL.ev; (case hd => rfl); (case h => (first | exact ev_simple rfl | (apply Ev.isLoad; first | exact ev_loadAFr hF rfl (by refine ⟨?_, ?_⟩; (focus (repeat (first | exact InV.head | apply InV.tail))); rfl)) | exact ev_makeFunc rfl))) | (refine TL.storeAFr hF rfl rfl rfl rfl (by refine ⟨?_, ?_⟩; (focus (repeat (first | apply SetV.head | apply SetV.tail))); rfl) rfl ?_; clear hF; intro ws hF) | (refine TL.boxAFr hF (d := 1) (cs := [.int .i64 xr, .int .i64 xc, .slice A n k]) rfl rfl ?_; clear hF; intro w1 b1 hF) | (refine TL.allocFr hF (d := 3) rfl rfl ?_; clear hF; intro w3 b3 hF)) | (refine T.is ?_; first | refine T.seq ?_ | refine T.region ?_ | refine T.ret ?_) | (refine G.is ?_; first | refine G.next ?_) | refine TL.nil ?_)
  have hlo := hF.lo (.head (b := b3))
  exact G.ret1 rfl rfl ⟨b3, Au, ku, lu, rfl, hF.var (by repeat (first | exact InV.head | apply InV.tail)), Fr.lm hF (by repeat (first | exact memH | apply memT)), hF.ext, hlo.resolve_right id, hfu⟩
theorem Sm.sub {α : Type} {k : Nat} {f : α → List Value} {H : Array Obj} {B n c lo m : Nat} {A : Option Addr} {l : List α} (h : Sm k f H B A n c l) (hm : lo + m ≤ n) : Sm k f H B (elemA A (lo * k)) m (c - lo) ((l.drop lo).take m) := by
  have hlen := h.len
  have hcap := h.cap
  refine ⟨by rw [List.length_take, List.length_drop]; omega, by omega, h.pos, fun x hx => h.wid x (List.mem_of_mem_drop (List.mem_of_mem_take hx)), ?_⟩
  rcases Nat.eq_zero_or_pos m with h0 | h0
  · exact .inl h0
  · rcases h.mem with h1 | ⟨b, o, e, hlt, hc⟩
    · omega
    · refine .inr ⟨b, o + lo * k, by rw [e]; simp [elemA, add_mk], hlt, fun j x hx q v hv => ?_⟩
      have h2 : l[lo + j]? = some x := by
        rw [List.getElem?_take] at hx
        split at hx
        · rwa [List.getElem?_drop] at hx
        · cases hx
      have := hc (lo + j) x h2 q v hv
      rw [Nat.add_mul] at this
      rw [show o + lo * k + (j * k + q) = o + (lo * k + j * k + q) by omega]
      exact this
/-- a row that a walk hands over -/
structure RowV where
  i : Nat
  A : Option Addr
  n : Nat
  k : Nat
  l : List IV
theorem LL.congr {H : Array Obj} {A : Option Addr} {n k K : Nat} {l : List IV} {Z Z' : Nat → Int} (h : LL H A n k l Z K) (e : ∀ q, q < n → Z q = Z' q) : LL H A n k l Z' K := ⟨h.s, fun q hq => by rw [← e q hq]; exact h.g q hq⟩
theorem row_sub (i c : Nat) : (i + 1) * c - i * c = c := by rw [Nat.add_mul, Nat.one_mul]; omega
theorem ev_rowSl {P : Program} {σ : Store} {H : Array Obj} {d : Option Tmp} {t : TypeId} {pos : String} {af : Array Edge} {gd : Option (Nat × Bool)} {x : Operand} {A : Option Addr} {n cc i c : Nat} {ty e : TypeId} [hT : USlice P ty e] {z : Value} {b1 : Nat} [hS : USize P e z 2 b1] {y u : Operand}
    (hx : Eng.look σ x = some (.slice A n cc)) (hy : Eng.look σ y = some (.int .i64 ((i * c : Nat) : Int))) (hu : Eng.look σ u = some (.int .i64 (((i + 1) * c : Nat) : Int))) (hn : (i + 1) * c ≤ cc) :
    Ev P σ H ⟨d, .slice ty x (some y) (some u) none, t, pos, af, gd⟩ (.slice (cutM 2 A cc (i * c)) c (cc - i * c)) := by
  have := ev_slM_lh (P := P) (σ := σ) (H := H) (d := d) (t := t) (pos := pos) (af := af) (gd := gd) (ty := ty) (l := i * c) (h := (i + 1) * c) hx hy hu (Nat.mul_le_mul_right c (Nat.le_succ i)) hn
  rwa [row_sub] at this
end Go.Proofs.YtdhmhjbmkimplaaGreat

namespace Go.Eng
open Go Go.RowKit

theorem sm_cells {α : Type} {f : α → List Value} {w : World} {k B n c : Nat} {A : Option Addr} {l : List α} (h : Sm k f w.heap B A n c l) {b o : Nat} (hA : A = some ⟨b, o, none⟩) : ∀ j v, (l.flatMap f)[j]? = some v → w.cell? ((⟨b, o, none⟩ : Addr).add j) = some v := by
  intro j v hv
  have hlen := h.len
  have hk := h.pos
  have hfl := flatMap_len h.wid
  have hj : j < l.length * k := by rw [← hfl]; exact (List.getElem?_eq_some_iff.1 hv).1
  rcases h.mem with h0 | ⟨b', o', e, _, hc⟩
  · rw [hlen, h0, Nat.zero_mul] at hj; omega
  · rw [hA] at e
    cases e
    rw [add_mk, cell_of_hcell]
    have h1 : j / k < l.length := Nat.div_lt_of_lt_mul (by rw [Nat.mul_comm]; exact hj)
    have h2 := flatMap_get h.wid (j / k) (j % k) l[j / k] (List.getElem?_eq_getElem h1) (Nat.mod_lt _ hk)
    rw [Nat.div_add_mod'] at h2
    have h3 := hc (j / k) l[j / k] (List.getElem?_eq_getElem h1) (j % k) v (by rw [← h2]; exact hv)
    rw [Nat.div_add_mod'] at h3
    exact h3
theorem zero_noU {z : List Value} (hz : z.all noU64 = true) (n : Nat) : (Builtin.zeroCells z.toArray n).toList.all noU64 = true := by
  rw [List.all_eq_true]
  intro v hv
  simp only [Builtin.zeroCells, Array.toList_map, List.mem_map] at hv
  obtain ⟨q, hq, rfl⟩ := hv
  have hq' : q < n * z.length := by simpa using hq
  have hlt : q % z.length < z.length := Nat.mod_lt _ (by rcases Nat.eq_zero_or_pos z.length with h | h; rw [h] at hq'; omega; exact h)
  have : z.toArray[q % z.toArray.size]! = z[q % z.length] := by simp [List.getElem?_eq_getElem hlt]
  rw [this]
  exact List.all_eq_true.1 hz _ (List.getElem_mem hlt)
section
variable {P : Program} {N : Fm} {Q : Exit → Act → World → Prop} {σ : Store} {S : Nat → Prop} {w0 w : World} {L : List VB} {D : List DP} {ops : Array Oper} {d : Nat} {t : TypeId} {pos : String} {af : Array Edge} {rest : List Oper}
theorem Fr.swap {a b : VB} (h : Fr w0 w (a :: b :: L) D S) : Fr w0 w (b :: a :: L) D S := by
  have hp : ∀ v, v ∈ b :: a :: L → v ∈ a :: b :: L := fun v hv => by simp only [List.mem_cons] at hv ⊢; rcases hv with h | h | h <;> simp [h]
  refine ⟨h.exs, fun v hv => h.vars v (hp v hv), ?_, h.data, fun v hv => h.apart v (hp v hv)⟩
  have hd := h.dist
  simp only [List.pairwise_cons, List.mem_cons] at hd ⊢
  refine ⟨fun v hv => ?_, fun v hv => hd.1 v (.inr hv), hd.2.2⟩
  rcases hv with rfl | hv
  · exact fun e => hd.1 b (.inl rfl) e.symm
  · exact hd.2.1 v hv
theorem ev_loadMc {H : Array Obj} {d : Option Tmp} {gd : Option (Nat × Bool)} {x : Operand} {ty : TypeId} [hA : UAgg P ty] {z : Value} {sz b1 : Nat} [hS : USize P ty z sz b1] {α : Type} {f : α → List Value} {B n c i : Nat} {A : Option Addr} {l : List α} {y : α} (cs : List Value)
    (hx : look σ x = some (.pointer (elemA A (i * sz)))) (hs : Sm sz f H B A n c l) (hy : l[i]? = some y) (hc : f y = cs) : Ev P σ H ⟨d, .load ty x, t, pos, af, gd⟩ (.agg cs.toArray) := hc ▸ ev_loadM hx hs hy
/-- nothing appended -/
theorem TL.appendZero {x y : Operand} {ty e : TypeId} [hT : USlice P ty e] {z : Value} {sz b1 : Nat} [hS : USize P e z sz b1] {A A' : Option Addr} {n c c' : Nat}
    (hx : look σ x = some (.slice A n c)) (hy : look σ y = some (.slice A' 0 c')) (hd : Nat.blt d N.n = true) (hn : n ≤ c)
    (K : TL P N .seq ops Q rest ((d, .slice A n c) :: σ) w) :
    TL P N .seq ops Q (⟨some d, .call { callee := .builtin .append, args := #[x, y], argTypes := #[ty, ty] }, t, pos, af, none⟩ :: rest) σ w := by
  obtain ⟨i, hi, hz0, hsz, hby⟩ := hS.info
  refine TL.op (fun ρ hρ => ?_) hd K
  have : (Builtin.append_ #[ty, ty] t #[.slice A n c, .slice A' 0 c']).run P w = .ok (.slice A n c) w := by
    cases A <;> cases A' <;> simp [Builtin.append_, run_underlying hT.out, sizeOf, typeInfo, hi, Builtin.lenOf, Builtin.firstCells, loadCells, loadCellsFrom, storeCells, hn]
  simp [execOp, resolve, invoke, builtin, hρ x _ hx, hρ y _ hy, this]
end
end Go.Eng

namespace Go.Eng
open Go Go.RowKit
section
variable {P : Program} {N : Fm} {Q : Exit → Act → World → Prop} {σ : Store} {S : Nat → Prop} {w0 w : World} {L : List VB} {D : List DP} {ops : Array Oper} {d : Nat} {t : TypeId} {pos : String} {af : Array Edge} {rest : List Oper}
/-- to nothing, elements of any type -/
theorem TL.appendNewFr (hF : Fr w0 w L D S) {α : Type} (f : α → List Value) {x y : Operand} {ty e : TypeId} [hT : USlice P ty e] {v0 : Value} {z : List Value} {sz b1 : Nat} [hS : USize P e v0 sz b1] (hzv : v0.cells = z.toArray) {a : Addr} {m c' B : Nat} {l' : List α}
    (hx : look σ x = some (.slice none 0 0)) (hy : look σ y = some (.slice (some a) m c')) (hd : Nat.blt d N.n = true) (hs : Sm sz f w.heap B (some a) m c' l') (h1 : ∀ u, (f u).all (·.oneCell') = true) (hzl : Nat.beq z.length sz = true) (hzn : z.all noU64 = true)
    (hroom : m * b1 ≤ 140737488355328 ∧ m ≤ 4611686018427387904)
    (K0 : m = 0 → TL P N .seq ops Q rest ((d, .slice none 0 0) :: σ) w)
    (K : 0 < m → ∀ w' b c2 zs, m ≤ c2 → zs.length = (c2 - m) * sz → zs.all noU64 = true → Fr w0 w' (⟨b, e, l'.flatMap f ++ zs⟩ :: L) D S → TL P N .seq ops Q rest ((d, .slice (some ⟨b, 0, none⟩) m c2) :: σ) w') :
    TL P N .seq ops Q (⟨some d, .call { callee := .builtin .append, args := #[x, y], argTypes := #[ty, ty] }, t, pos, af, none⟩ :: rest) σ w := by
  obtain ⟨i, hi, hz0, hsz, hby⟩ := hS.info
  have hl' := hs.len
  have hzl' := Nat.eq_of_beq_eq_true hzl
  rcases Nat.eq_zero_or_pos m with h0 | h0
  · subst h0
    refine TL.op (fun ρ hρ => ?_) hd (K0 rfl)
    have : (Builtin.append_ #[ty, ty] t #[.slice none 0 0, .slice (some a) 0 c']).run P w = .ok (.slice none 0 0) w := by
      simp [Builtin.append_, run_underlying hT.out, sizeOf, typeInfo, hi, Builtin.lenOf, Builtin.firstCells, loadCells, loadCellsFrom]
    simp [execOp, resolve, invoke, builtin, hρ x _ hx, hρ y _ hy, this]
  · rcases hs.mem with h | ⟨b, o, hab, _, _⟩
    · omega
    cases hab
    have hlf := flatMap_len hs.wid
    have hr := run_append_nil (P := P) w ty t e i v0 hT.out hi hz0 ⟨b, o, none⟩ m c' (l'.flatMap f) (by rw [hlf, hl', hsz]) (sm_cells hs rfl) h0 (by omega) (by rw [hby]; omega)
    have hge := grownCap_ge w m 0 e
    have hV : Vr (w.drew.alloc (.cells ((l'.flatMap f).toArray ++ Builtin.zeroCells z.toArray (grownCap w m 0 e - m)) e)).heap w.heap.size e (l'.flatMap f ++ (Builtin.zeroCells z.toArray (grownCap w m 0 e - m)).toList) := by
      unfold Vr
      have := heap_alloc w.drew (.cells ((l'.flatMap f).toArray ++ Builtin.zeroCells z.toArray (grownCap w m 0 e - m)) e)
      rw [show w.drew.heap.size = w.heap.size from rfl] at this
      rw [this]
      congr 2
      apply Array.ext'
      simp
    have hE : Ext w (w.drew.alloc (.cells ((l'.flatMap f).toArray ++ Builtin.zeroCells z.toArray (grownCap w m 0 e - m)) e)) := Ext.trans (ext_drewN w 1) (ext_alloc _ _)
    refine TL.op (fun ρ hρ => ?_) hd (K h0 _ _ _ _ hge (by rw [Array.length_toList, size_zeroCells, List.size_toArray, hzl']) (zero_noU hzn _) (hF.new rfl hV hE))
    rw [hzv] at hr
    simp [execOp, resolve, invoke, builtin, hρ x _ hx, hρ y _ hy, hr]
/-- to what stands at the head of a block known whole, elements of any type -/
theorem TL.appendAtFr {α : Type} {f : α → List Value} {g n c : Nat} {e : TypeId} {l : List α} {zs : List Value} {L' : List VB} (hF : Fr w0 w L D S) {x y : Operand} {ty : TypeId} [hT : USlice P ty e] {v0 : Value} {z : List Value} {sz b1 : Nat} [hS : USize P e v0 sz b1] (hzv : v0.cells = z.toArray) {a : Addr} {m c' B : Nat} {l' : List α}
    (hx : look σ x = some (.slice (some ⟨g, 0, none⟩) n c)) (hy : look σ y = some (.slice (some a) m c')) (hd : Nat.blt d N.n = true) (hs : Sm sz f w.heap B (some a) m c' l') (h1 : ∀ u, (f u).all (·.oneCell') = true) (hw : ∀ u, (f u).length = sz) (hzl : Nat.beq z.length sz = true) (hzn : z.all noU64 = true)
    (hl : l.length = n) (hzs : zs.length = (c - n) * sz) (hnc : n ≤ c) (hno : (l.flatMap f ++ zs).all noU64 = true)
    (hroom : (n + m) * b1 ≤ 140737488355328 ∧ n + m ≤ 4611686018427387904)
    (hL : SetV L g e (l.flatMap f ++ zs) ((l ++ l').flatMap f ++ zs.drop (m * sz)) L')
    (K1 : n + m ≤ c → ∀ w', Fr w0 w' L' D S → TL P N .seq ops Q rest ((d, .slice (some ⟨g, 0, none⟩) (n + m) c) :: σ) w')
    (K2 : c < n + m → ∀ w' b c2 zs', n + m ≤ c2 → zs'.length = (c2 - (n + m)) * sz → zs'.all noU64 = true → Fr w0 w' (⟨b, e, (l ++ l').flatMap f ++ zs'⟩ :: L) D S → TL P N .seq ops Q rest ((d, .slice (some ⟨b, 0, none⟩) (n + m) c2) :: σ) w') :
    TL P N .seq ops Q (⟨some d, .call { callee := .builtin .append, args := #[x, y], argTypes := #[ty, ty] }, t, pos, af, none⟩ :: rest) σ w := by
  obtain ⟨i, hi, hz0, hsz, hby⟩ := hS.info
  have hl' := hs.len
  have hzl' := Nat.eq_of_beq_eq_true hzl
  have hlf : (l.flatMap f).length = n * sz := by rw [flatMap_len (fun x _ => hw x), hl]
  have hlf' : (l'.flatMap f).length = m * sz := by rw [flatMap_len hs.wid, hl']
  have hV := hF.var hL.inV
  obtain ⟨b0, o0, hab⟩ : ∃ b0 o0, (a = ⟨b0, o0, none⟩ ∨ m = 0) := by
    rcases hs.mem with h | ⟨b, o, h, _⟩
    · exact ⟨0, 0, .inr h⟩
    · cases h; exact ⟨b, o, .inl rfl⟩
  have hnews : ∀ j v, (l'.flatMap f)[j]? = some v → w.cell? (a.add j) = some v := by
    rcases hab with rfl | h
    · exact sm_cells hs rfl
    · intro j v hv
      have := (List.getElem?_eq_some_iff.1 hv).1
      rw [hlf', h, Nat.zero_mul] at this; omega
  have holds : ∀ j v, (l.flatMap f)[j]? = some v → w.cell? ((⟨g, 0, none⟩ : Addr).add j) = some v := fun j v hv => by
    rw [add_mk, cell_of_hcell, Nat.zero_add, hV.cell, List.getElem?_append_left (List.getElem?_eq_some_iff.1 hv).1]; exact hv
  have h1' : ∀ u ∈ l'.flatMap f, u.oneCell' = true := fun u hu => by
    obtain ⟨q, _, hq⟩ := List.mem_flatMap.1 hu
    exact List.all_eq_true.1 (h1 q) u hq
  rcases Nat.lt_or_ge c (n + m) with hcm | hcm
  · have hr := run_append_grow (P := P) w ty t e i v0 hT.out hi hz0 ⟨g, 0, none⟩ n c (l.flatMap f) (by rw [hlf, hsz]) holds a m c' (l'.flatMap f) (by rw [hlf', hsz]) hnews (by omega) (by omega) (growslice_fits (by omega) (by rw [hby]; exact hroom.1))
    have hge := grownCap_ge w (n + m) c e
    have hV2 : Vr (w.drew.alloc (.cells ((l.flatMap f).toArray ++ (l'.flatMap f).toArray ++ Builtin.zeroCells z.toArray (grownCap w (n + m) c e - (n + m))) e)).heap w.heap.size e ((l ++ l').flatMap f ++ (Builtin.zeroCells z.toArray (grownCap w (n + m) c e - (n + m))).toList) := by
      unfold Vr
      have := heap_alloc w.drew (.cells ((l.flatMap f).toArray ++ (l'.flatMap f).toArray ++ Builtin.zeroCells z.toArray (grownCap w (n + m) c e - (n + m))) e)
      rw [show w.drew.heap.size = w.heap.size from rfl] at this
      rw [this]
      congr 2
      apply Array.ext'
      simp
    have hE : Ext w (w.drew.alloc (.cells ((l.flatMap f).toArray ++ (l'.flatMap f).toArray ++ Builtin.zeroCells z.toArray (grownCap w (n + m) c e - (n + m))) e)) := Ext.trans (ext_drewN w 1) (ext_alloc _ _)
    refine TL.op (fun ρ hρ => ?_) hd (K2 hcm _ _ _ _ hge (by rw [Array.length_toList, size_zeroCells, List.size_toArray, hzl']) (zero_noU hzn _) (hF.new rfl hV2 hE))
    rw [hzv] at hr
    simp [execOp, resolve, invoke, builtin, hρ x _ hx, hρ y _ hy, hr]
  · have hms : m * sz ≤ (c - n) * sz := Nat.mul_le_mul_right _ (by omega)
    have hr := run_append_room (P := P) w ty t e i hT.out hi g n c (l.flatMap f ++ zs).toArray hV a m c' (l'.flatMap f) (by rw [hlf', hsz]) hnews h1' hcm (by simp [hlf, hlf', hsz, hzs]; omega)
    have e1 : List.take (n * sz) (l.flatMap f ++ zs) = l.flatMap f := by rw [← hlf, List.take_left]
    have e2 : List.drop (n * sz + (l'.flatMap f).length) (l.flatMap f ++ zs) = zs.drop (m * sz) := by rw [← hlf, hlf', List.drop_append, List.drop_of_length_le (by omega)]; simp
    refine TL.op (w' := w.setRow g ((l.flatMap f) ++ l'.flatMap f ++ zs.drop (m * sz)).toArray) (fun ρ hρ => ?_) hd (K1 hcm _ (hF.store hL hno (upd_setRow _ _ _) ?_))
    · simp only [execOp, resolve, invoke, builtin, Sem.run_bind, Sem.run_pure, Result.andThen_ok, List.map_toArray, List.map_cons, List.map_nil, hρ x _ hx, hρ y _ hy]
      rw [hr]
      simp only [Result.andThen_ok, Sem.run_pure, hsz]
      rw [e1, e2]
    · unfold Vr at hV ⊢
      rw [setRow_heap w g _ _ e _ hV, List.flatMap_append]
/-- a literal of one value of one cell -/
theorem TL.build1Fr (hF : Fr w0 w L D S) {α : Type} {f : α → Value} (hfc : ∀ u, (f u).cells = #[f u]) {x : Operand} {ty e : TypeId} [hT : USlice P ty e] {z : Value} {b1 : Nat} [hS : USize P e z 1 b1] (hzc : z.cells = #[z]) {u : α} (hx : look σ x = some (f u)) (hd : Nat.blt d N.n = true)
    (K : ∀ w' b, w.heap.size ≤ b → Fr w0 w' L D S → Sm 1 (fun u => [f u]) w'.heap w'.heap.size (some ⟨b, 0, none⟩) 1 1 [u] → Ext w w' → TL P N .seq ops Q rest ((d, .slice (some ⟨b, 0, none⟩) 1 1) :: σ) w') :
    TL P N .seq ops Q (⟨some d, .buildSlice ty 1 #[(0, x)], t, pos, af, none⟩ :: rest) σ w :=
  TL.build1 hfc hzc hx hd fun w' b hb hB hE _ => by
    have hV : Vr w'.heap b e ([u].flatMap (fun u => [f u]) ++ []) := by unfold Bk at hB; unfold Vr; simpa using hB
    exact K w' b (by omega) (hF.exts hE) (vr_sm (by omega) (fun _ _ => rfl) hV rfl (Nat.le_refl _) hV.lt) hE
end
section
variable {S : Nat → Prop} {w0 w w' : World} {L : List VB} {D : List DP} {b : Nat} {t : TypeId} {cs : List Value}
/-- a block that a callee has made -/
theorem Fr.newGe (h : Fr w0 w L D S) (hb : w.heap.size ≤ b) (hV : Vr w'.heap b t cs) (hE : Ext w w') : Fr w0 w' (⟨b, t, cs⟩ :: L) D S := by
  have h1 := h.exts hE
  refine ⟨h1.exs, fun v hv => ?_, List.pairwise_cons.2 ⟨fun v hv e => ?_, h.dist⟩, h1.data, fun v hv d hd => ?_⟩
  · rcases List.mem_cons.1 hv with rfl | hv
    · exact ⟨.inl (Nat.le_trans h.exs.size hb), hV⟩
    · exact h1.vars v hv
  · have := (h.vars v hv).2.lt
    simp only at e
    omega
  · rcases List.mem_cons.1 hv with rfl | hv
    · intro hk
      have := d.lt _ _ (h.data d hd) hk
      simp only at this
      omega
    · exact h.apart v hv d hd
end
section
variable {P : Program} {n : Nat} {σ : Store} {w : World} {fn : Func} {R : Ending → World → Prop}
theorem Held.cx {ty : TypeId} {b B : Nat} {e : TypeId} {cs : List Value} [hA : UAgg P ty] {z : Value} {sz b1 : Nat} [hS : USize P ty z sz b1] {w' : World} (hV : Vr w.heap b e cs) (hl : Nat.beq cs.length sz = true) (hc : Cx B w w') : Held P ty w' b (.agg cs.toArray) :=
  held_agg (e := e) (by unfold Vr at hV ⊢; exact (hc.cells _ _ hV rfl).trans hV) hl
end
class UFunc (P : Program) (t : TypeId) : Prop where
  out : ∃ a b c, P.underlying t = some (.func a b c)
section
variable {P : Program} {σ : Store} {H : Array Obj} {d : Option Tmp} {t : TypeId} {pos : String} {af : Array Edge} {gd : Option (Nat × Bool)}
end
end Go.Eng

namespace Go.Eng
open Go Go.RowKit

theorem put_mid (a b z : List Value) (h : b.length ≤ z.length) : putV (a ++ z) a.length b = a ++ b ++ z.drop b.length := by
  apply List.ext_getElem?
  intro j
  rw [putV_get]
  simp only [List.length_append, List.append_assoc]
  rcases Nat.lt_or_ge j a.length with h1 | h1
  · rw [if_neg (by omega), List.getElem?_append_left h1, List.getElem?_append_left h1]
  · rw [List.getElem?_append_right h1, List.getElem?_append_right h1]
    rcases Nat.lt_or_ge (j - a.length) b.length with h2 | h2
    · rw [if_pos (by omega), List.getElem?_append_left h2]
    · rw [if_neg (by omega), List.getElem?_append_right h2, List.getElem?_drop]
      congr 1
      omega
theorem fill_all {α : Type} {f : α → List Value} {sz : Nat} : ∀ (us : List α) (i : Nat) (pre rest : List Value), (∀ u ∈ us, (f u).length = sz) → pre.length = i * sz → rest.length = us.length * sz →
    Instr.fill (fun j => some (j * sz, sz)) (pre ++ rest).toArray ((us.zipIdx i).map fun p => (p.2, Value.agg (f p.1).toArray)) = some (pre ++ us.flatMap f).toArray
  | [], i, pre, rest, _, _, hr => by
    have : rest = [] := List.eq_nil_of_length_eq_zero (by simpa using hr)
    subst this
    simp [Instr.fill]
  | u :: us, i, pre, rest, hw, hp, hr => by
    have hu := hw u (List.mem_cons_self ..)
    rw [List.length_cons, Nat.add_mul, Nat.one_mul] at hr
    have p1 : Array.foldl (fun (cs : Array Value) (p : Value × Nat) => cs.setIfInBounds (i * sz + p.2) p.1) (pre ++ rest).toArray (f u).toArray.zipIdx = (pre ++ f u ++ rest.drop sz).toArray := by
      apply Array.ext'
      have := foldl_put (f u) 0 (i * sz) (pre ++ rest).toArray
      rw [← Array.foldl_toList, Array.toList_zipIdx]
      simp only [Nat.add_zero] at this
      rw [this, ← hp]
      simp only [List.toList_toArray]
      rw [put_mid _ _ _ (by omega), hu]
    have e3 : (decide ((Value.agg (f u).toArray).cells.size ≠ sz) || decide (i * sz + (Value.agg (f u).toArray).cells.size > (pre ++ rest).toArray.size)) = false := by
      simp [Value.cells, hu]; omega
    rw [List.zipIdx_cons, List.map_cons]
    unfold Instr.fill
    simp only [e3]
    rw [show (Value.agg (f u).toArray).cells = (f u).toArray from rfl, p1]
    have ih := fill_all us (i + 1) (pre ++ f u) (rest.drop sz) (fun v hv => hw v (List.mem_cons_of_mem _ hv)) (by rw [List.length_append, hp, hu, Nat.add_mul, Nat.one_mul]) (by rw [List.length_drop]; omega)
    simp only [List.append_assoc, List.flatMap_cons] at ih ⊢
    simpa using ih
theorem rep_zeros {z : List Value} {sz : Nat} (hz : z.length = sz) (hpos : 0 < sz) (n : Nat) : ((Array.range (n * sz)).map (fun q => z.toArray[q % z.toArray.size]!)) = ((List.replicate n z).flatMap id).toArray := by
  have hf := made_flat (f := fun _ : Unit => z) (u := ()) (c := n) hpos rfl hz
  unfold madeCells at hf
  apply Array.ext'
  rw [hf]
  simp only [List.flatMap, List.map_replicate, id]
section
variable {P : Program} {N : Fm} {Q : Exit → Act → World → Prop} {σ : Store} {S : Nat → Prop} {w0 w : World} {L : List VB} {D : List DP} {ops : Array Oper} {d : Nat} {t : TypeId} {pos : String} {af : Array Edge} {rest : List Oper}
/-- a literal of structs -/
theorem TL.buildXs (hF : Fr w0 w L D S) {α : Type} {f : α → List Value} (us : List α) (xs : List Operand) {ty e : TypeId} [hT : USlice P ty e] {z : List Value} {sz b1 : Nat} [hS : USize P e (.agg z.toArray) sz b1] {n : Nat} {parts : Array (Nat × Operand)} (hp : parts = (xs.zipIdx.map fun p => (p.2, p.1)).toArray) (hn : us.length = n) (hx : looks σ xs = some (us.map fun u => Value.agg (f u).toArray)) (hd : Nat.blt d N.n = true)
    (hw : ∀ u ∈ us, (f u).length = sz) (hzl : Nat.beq z.length sz = true) (h0 : Nat.blt 0 sz = true) (hn0 : 0 < n) (hm : n * sz ≤ 1000000)
    (K : ∀ w' b, Fr w0 w' L D S → Ext w w' → w.heap.size ≤ b → Sm sz f w'.heap w'.heap.size (some ⟨b, 0, none⟩) n n us → TL P N .seq ops Q rest ((d, .slice (some ⟨b, 0, none⟩) n n) :: σ) w') :
    TL P N .seq ops Q (⟨some d, .buildSlice ty n parts, t, pos, af, none⟩ :: rest) σ w := by
  subst hp hn
  obtain ⟨i, hi, hz0, hsz, hby⟩ := hS.info
  have hzlen := Nat.eq_of_beq_eq_true hzl
  have hpos : 0 < sz := by simpa [Nat.blt_eq] using h0
  have hfl : ((List.replicate us.length z).flatMap id).length = us.length * sz := by rw [flatMap_len (k := sz) (fun x hx => by rw [(List.mem_replicate.1 hx).2]; exact hzlen)]; simp
  have hn1 : 0 < us.length * sz := Nat.mul_pos hn0 hpos
  have hfill : Instr.fill (fun j => some (j * i.size, i.size)) ((Array.range (us.length * i.size)).map (fun q => z.toArray[q % z.toArray.size]!)) (us.zipIdx.map fun p => (p.2, Value.agg (f p.1).toArray)) = some (us.flatMap f).toArray := by
    rw [hsz, rep_zeros hzlen hpos]
    have := fill_all us 0 [] ((List.replicate us.length z).flatMap id) hw (by simp) hfl
    simpa using this
  have hrun : (Instr.buildSlice ty us.length (us.zipIdx.map fun p => (p.2, Value.agg (f p.1).toArray)).toArray).run P w = .ok (.slice (some ⟨w.heap.size, 0, none⟩) us.length us.length) (w.alloc (.cells (us.flatMap f).toArray e)) := by
    refine run_buildSlice w ty e us.length _ (us.flatMap f).toArray i (.agg z.toArray) hT.out hi hz0 (by rw [hsz]; omega) (by rw [hsz]; omega) ?_
    simp only [Value.cells]
    exact hfill
  have hE := ext_alloc w (.cells (us.flatMap f).toArray e)
  have hV : Vr (w.alloc (.cells (us.flatMap f).toArray e)).heap w.heap.size e (us.flatMap f ++ []) := by unfold Vr; rw [heap_alloc]; simp
  refine TL.op (w' := w.alloc (.cells (us.flatMap f).toArray e)) (fun ρ hρ => ?_) hd (K _ _ (hF.exts hE) hE (Nat.le_refl _) (vr_sm hpos hw hV rfl (Nat.le_refl _) hV.lt))
  have h1 := hρ.list _ _ hx
  have h2 : ((xs.zipIdx.map fun p => (p.2, p.1)).toArray.map fun (p : Nat × Operand) => (p.1, ρ p.2)) = (us.zipIdx.map fun p => (p.2, Value.agg (f p.1).toArray)).toArray := by
    rw [List.map_toArray, List.map_map]
    congr 1
    have e1 : ∀ (ys : List Operand) (k : Nat), (ys.zipIdx k).map ((fun (p : Nat × Operand) => (p.1, ρ p.2)) ∘ fun p => (p.2, p.1)) = ((ys.map ρ).zipIdx k).map fun p => (p.2, p.1) := by
      intro ys
      induction ys with
      | nil => intro k; rfl
      | cons y ys ih => intro k; simp [List.zipIdx_cons]; exact ih (k + 1)
    have e2 : ∀ (vs : List α) (k : Nat), ((vs.map fun u => Value.agg (f u).toArray).zipIdx k).map (fun p => (p.2, p.1)) = (vs.zipIdx k).map fun p => (p.2, Value.agg (f p.1).toArray) := by
      intro vs
      induction vs with
      | nil => intro k; rfl
      | cons y ys ih => intro k; simp [List.zipIdx_cons]; exact ih (k + 1)
    rw [e1, h1, e2]
  simp only [execOp]
  rw [h2]
  simp [hrun]
end
/-- code that is not this region -/
def notReg (id : Nat) : Code → Bool
  | .region i _ _ => !(Nat.beq i id)
  | _ => true
theorem T.seqN {P : Program} {N : Fm} {Q : Exit → Act → World → Prop} {σ : Store} {w : World} {x y : Code} (id : Nat) (hn : notReg id x = true) (h : T P N x (Exit.then (y.wp P Q) Q) σ w) : T P N (x.seq y) Q σ w := T.seq h
theorem TI.seqN {P : Program} {R : Option Nat} {N : Fm} {Q : Exit → Act → World → Prop} {σ : Store} {w : World} {x y : Code} (id : Nat) (hn : notReg id x = true) (h : TI P R N x (Exit.then (Kc P R y Q) Q) σ w) : TI P R N (x.seq y) Q σ w := TI.seq h
/-- a list of structs, as a fact -/
def dpSmG {α : Type} (k : Nat) (f : α → List Value) (A : Option Addr) (n c : Nat) (l : List α) : DP := ⟨fun H => Sm k f H H.size A n c l, fpA A n, fun _ _ h hk => h.fp_lt hk, fun _ _ hd h => (Sm.de (fun _ h => h) hd h).size⟩
theorem Fr.smG {S : Nat → Prop} {w0 w : World} {L : List VB} {D : List DP} (h : Fr w0 w L D S) {α : Type} {k : Nat} {f : α → List Value} {A : Option Addr} {n c : Nat} {l : List α} (hm : dpSmG k f A n c l ∈ D) : Sm k f w.heap w.heap.size A n c l := h.data _ hm
theorem Fr.addSmG {S : Nat → Prop} {w0 w w' : World} {L : List VB} {D : List DP} (h : Fr w0 w L D S) (h' : Fr w0 w' L D S) {α : Type} {k : Nat} {f : α → List Value} {b n c : Nat} {l : List α} (hb : w.heap.size ≤ b) (g : Sm k f w'.heap w'.heap.size (some ⟨b, 0, none⟩) n c l) : Fr w0 w' L (dpSmG k f (some ⟨b, 0, none⟩) n c l :: D) S :=
  h'.add _ g fun v hv ⟨_, o, e⟩ => by
    cases e
    have := (h.vars v hv).2.lt
    omega
attribute [irreducible] dpSmG

end Go.Eng

namespace Go.Eng
open Go Go.RowKit

/-- a method by value of a type that is no pointer -/
class UMeth (P : Program) (t : TypeId) (name : String) (f : outParam FuncId) : Prop where
  out : ∀ (v : Value) (w : World), (method (P.types.size + Made.depth) t v name).run P w = .ok (f, v) w
/-- a type that is no interface -/
class UConc (P : Program) (t : TypeId) : Prop where
  out : ∃ d, P.underlying t = some d ∧ (match d with | .interface _ => false | _ => true) = true
section
variable {P : Program} {N : Fm} {Q : Exit → Act → World → Prop} {σ : Store} {S : Nat → Prop} {w0 w : World} {L : List VB} {D : List DP} {ops : Array Oper} {d : Nat} {t : TypeId} {pos : String} {af : Array Edge} {rest : List Oper}
theorem exec_callI {ρ : Operand → Value} {f : FuncId} {x : Operand} {xs : List Operand} {tys : Array TypeId} {vs : List Value} {dd : Option Tmp} {gd : Option (Nat × Bool)} {ti : TypeId} {v : Value} {name : String} (hρ : Agree σ ρ) (hr : look σ x = some (.iface ti v)) (hx : looks σ xs = some vs) (hm : UMeth P ti name f) (hf : IsFn P f) (w : World) :
    (execOp ρ ⟨dd, .call { callee := .invoke x name, args := xs.toArray, argTypes := tys }, t, pos, af, gd⟩).run P w = .ok (.enter f (v :: vs).toArray) w := by
  have e := hρ.list xs vs hx
  have er := hρ x _ hr
  have h1 : (#[Value.iface ti v] ++ vs.toArray).extract 1 (#[Value.iface ti v] ++ vs.toArray).size = vs.toArray := by
    apply Array.ext'
    simp
  have h2 : (#[v] ++ vs.toArray) = (v :: vs).toArray := by apply Array.ext'; simp
  have h3 := run_callFunc_enter (P := P) hf (v :: vs).toArray w
  simp only [execOp, resolve, er, List.map_toArray, e, Sem.run_bind, Sem.run_pure, Result.andThen_ok, invoke]
  simp only [List.append_toArray, List.cons_append, List.nil_append]
  simp [callMethod, hm.out, h3]
/-- a method's call -/
theorem TL.callI {f : FuncId} {x : Operand} {xs : List Operand} {tys : Array TypeId} {vs : List Value} {ti : TypeId} {v : Value} {name : String} [hm : UMeth P ti name f] [hf : IsFn P f] (hr : look σ x = some (.iface ti v)) (hx : looks σ xs = some vs) (hd : Nat.blt d N.n = true)
    (k : Cl P f (v :: vs).toArray w (Back P N ops Q rest d σ)) :
    TL P N .seq ops Q (⟨some d, .call { callee := .invoke x name, args := xs.toArray, argTypes := tys }, t, pos, af, none⟩ :: rest) σ w := by
  unfold TL
  intro a ha
  refine wpList_plain rfl fun K hK => ?_
  unfold Oper.wp
  rw [exec_callI ha.agree hr hx hm hf]
  refine Calls.mono k.out ?_
  intro e w' hb
  unfold Back at hb
  obtain ⟨v, rfl, hk⟩ := hb
  unfold TL at hk
  exact hK _ _ (hk _ (ha.put hd v))
end
section
variable {P : Program} {σ : Store} {H : Array Obj} {d : Option Tmp} {t : TypeId} {pos : String} {af : Array Edge} {gd : Option (Nat × Bool)}
theorem ev_iface {x : Operand} {ty : TypeId} [hC : UConc P ty] {v : Value} (hx : look σ x = some v) : Ev P σ H ⟨d, .makeInterface ty x, t, pos, af, gd⟩ (.iface ty v) := by
  unfold Ev
  intro ρ w hρ _
  obtain ⟨dd, h1, h2⟩ := hC.out
  cases dd <;> simp_all [execOp, hρ x _ hx, Instr.makeInterface, run_underlying h1]
theorem ev_assert_t {x : Operand} {tx ty : TypeId} [hC : UConc P ty] {v : Value} (hx : look σ x = some (.iface ty v)) : Ev P σ H ⟨d, .typeAssert x tx ty true, t, pos, af, gd⟩ (.tuple #[v, .bool true]) := by
  unfold Ev
  intro ρ w hρ _
  obtain ⟨dd, h1, h2⟩ := hC.out
  cases dd <;> simp_all [execOp, hρ x _ hx, Instr.typeAssert, run_underlying h1]
theorem ev_assert_f {x : Operand} {tx ty ti : TypeId} [hC : UConc P ty] {z : Value} {sz b1 : Nat} [hS : USize P ty z sz b1] {v : Value} (hx : look σ x = some (.iface ti v)) (hne : Nat.beq ti ty = false) : Ev P σ H ⟨d, .typeAssert x tx ty true, t, pos, af, gd⟩ (.tuple #[z, .bool false]) := by
  unfold Ev
  intro ρ w hρ _
  obtain ⟨dd, h1, h2⟩ := hC.out
  obtain ⟨i, hi, hz0, _, _⟩ := hS.info
  have hne' : ¬ ti = ty := by rintro rfl; simp at hne
  cases dd <;> simp_all [execOp, hρ x _ hx, Instr.typeAssert, run_underlying h1, zeroValue, typeInfo]
end
theorem TM.is {P : Program} {N : Fm} {l : List Oper} {Q : Exit → Act → World → Prop} {r : List (Nat × Nat)} {σ : Store} {w : World} (h : TM P N l Q r σ w) : TM P N l Q r σ w := h
/-! ### Blocks written by a callee -/
section
variable {S T : Nat → Prop} {w0 w w' : World} {L L1 L2 L1' : List VB} {D : List DP}
theorem SetV.mid {pre post : List VB} {b : Nat} {t : TypeId} {cs r : List Value} : SetV (pre ++ ⟨b, t, cs⟩ :: post) b t cs r (pre ++ ⟨b, t, r⟩ :: post) := by
  induction pre with
  | nil => exact .head
  | cons x pre ih => exact .tail ih
/-- a list of blocks, of which one is set -/
theorem SetV.map {α : Type} {f : α → VB} {l : List α} {i : Nat} {x y : α} {b : Nat} {t : TypeId} {cs r : List Value} {post : List VB} (hi : l[i]? = some x) (hx : f x = ⟨b, t, cs⟩) (hy : f y = ⟨b, t, r⟩) : SetV (l.map f ++ post) b t cs r ((l.set i y).map f ++ post) := by
  obtain ⟨hlt, he⟩ := List.getElem?_eq_some_iff.1 hi
  have e1 : l = l.take i ++ x :: l.drop (i + 1) := by rw [← he, ← List.drop_eq_getElem_cons hlt, List.take_append_drop]
  have e2 : l.set i y = l.take i ++ y :: l.drop (i + 1) := by rw [List.set_eq_take_append_cons_drop, if_pos hlt]
  rw [e2]
  conv => arg 1; rw [e1]
  simp only [List.map_append, List.map_cons, List.append_assoc, List.cons_append]
  rw [hx, hy]
  exact SetV.mid
theorem InV.map {α : Type} {f : α → VB} {l : List α} {i : Nat} {x : α} {b : Nat} {t : TypeId} {cs : List Value} {post : List VB} (hi : l[i]? = some x) (hx : f x = ⟨b, t, cs⟩) : InV (l.map f ++ post) b t cs := (SetV.map (r := cs) (y := x) hi hx hx).inV
end
end Go.Eng

namespace Go.Proofs.YtdhmhjbmkimplaaGreat
open Go Go.Eng Go.Proofs
instance : UConc Tryz.prog 84 := ⟨⟨_, Tryz.underlying84, rfl⟩⟩
theorem meth45 (v : Value) (w : World) : (method (Tryz.prog.types.size + Made.depth) 84 v "trellis/steps.matrix").run Tryz.prog w = .ok (45, v) w := by kernel_rfl
instance : UMeth Tryz.prog 84 "trellis/steps.matrix" 45 := ⟨meth45⟩
instance : UConc Tryz.prog 115 := ⟨⟨_, Tryz.underlying115, rfl⟩⟩
theorem meth200 (v : Value) (w : World) : (method (Tryz.prog.types.size + Made.depth) 115 v "trellis/steps.fits").run Tryz.prog w = .ok (200, v) w := by kernel_rfl
instance : UMeth Tryz.prog 115 "trellis/steps.fits" 200 := ⟨meth200⟩
theorem meth201 (v : Value) (w : World) : (method (Tryz.prog.types.size + Made.depth) 115 v "trellis/steps.on").run Tryz.prog w = .ok (201, v) w := by kernel_rfl
instance : UMeth Tryz.prog 115 "trellis/steps.on" 201 := ⟨meth201⟩
theorem meth202 (v : Value) (w : World) : (method (Tryz.prog.types.size + Made.depth) 115 v "trellis/steps.step").run Tryz.prog w = .ok (202, v) w := by kernel_rfl
instance : UMeth Tryz.prog 115 "trellis/steps.step" 202 := ⟨meth202⟩
instance : UConc Tryz.prog 125 := ⟨⟨_, Tryz.underlying125, rfl⟩⟩
theorem meth205 (v : Value) (w : World) : (method (Tryz.prog.types.size + Made.depth) 125 v "trellis/steps.fits").run Tryz.prog w = .ok (205, v) w := by kernel_rfl
instance : UMeth Tryz.prog 125 "trellis/steps.fits" 205 := ⟨meth205⟩
theorem meth206 (v : Value) (w : World) : (method (Tryz.prog.types.size + Made.depth) 125 v "trellis/steps.on").run Tryz.prog w = .ok (206, v) w := by kernel_rfl
instance : UMeth Tryz.prog 125 "trellis/steps.on" 206 := ⟨meth206⟩
theorem meth207 (v : Value) (w : World) : (method (Tryz.prog.types.size + Made.depth) 125 v "trellis/steps.step").run Tryz.prog w = .ok (207, v) w := by kernel_rfl
instance : UMeth Tryz.prog 125 "trellis/steps.step" 207 := ⟨meth207⟩
instance : UConc Tryz.prog 127 := ⟨⟨_, Tryz.underlying127, rfl⟩⟩
theorem meth208 (v : Value) (w : World) : (method (Tryz.prog.types.size + Made.depth) 127 v "trellis/steps.fits").run Tryz.prog w = .ok (208, v) w := by kernel_rfl
instance : UMeth Tryz.prog 127 "trellis/steps.fits" 208 := ⟨meth208⟩
theorem meth209 (v : Value) (w : World) : (method (Tryz.prog.types.size + Made.depth) 127 v "trellis/steps.on").run Tryz.prog w = .ok (209, v) w := by kernel_rfl
instance : UMeth Tryz.prog 127 "trellis/steps.on" 209 := ⟨meth209⟩
theorem meth210 (v : Value) (w : World) : (method (Tryz.prog.types.size + Made.depth) 127 v "trellis/steps.step").run Tryz.prog w = .ok (210, v) w := by kernel_rfl
instance : UMeth Tryz.prog 127 "trellis/steps.step" 210 := ⟨meth210⟩
instance : UConc Tryz.prog 129 := ⟨⟨_, Tryz.underlying129, rfl⟩⟩
theorem meth211 (v : Value) (w : World) : (method (Tryz.prog.types.size + Made.depth) 129 v "trellis/steps.fits").run Tryz.prog w = .ok (211, v) w := by kernel_rfl
instance : UMeth Tryz.prog 129 "trellis/steps.fits" 211 := ⟨meth211⟩
theorem meth212 (v : Value) (w : World) : (method (Tryz.prog.types.size + Made.depth) 129 v "trellis/steps.on").run Tryz.prog w = .ok (212, v) w := by kernel_rfl
instance : UMeth Tryz.prog 129 "trellis/steps.on" 212 := ⟨meth212⟩
theorem meth213 (v : Value) (w : World) : (method (Tryz.prog.types.size + Made.depth) 129 v "trellis/steps.step").run Tryz.prog w = .ok (213, v) w := by kernel_rfl
instance : UMeth Tryz.prog 129 "trellis/steps.step" 213 := ⟨meth213⟩
end Go.Proofs.YtdhmhjbmkimplaaGreat
