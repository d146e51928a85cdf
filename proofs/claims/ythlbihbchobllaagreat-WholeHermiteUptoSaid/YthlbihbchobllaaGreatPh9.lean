/- Long division: contracts of divnat.shifted, take, give. The engine: frames for statements about memory: what a walk may write lies in a set S, or is its own; facts on data name their blocks. Layer 1, by the table of math/bits: contracts of TrailingZeros64, nat.Twos, nat.Bit, nat.Shr. Layer 1: contract of nat.Shr. Long division: contracts of divnat.guess, Word. Long division: plain facts of a step; contract of divnat.long. Division: contracts of divnat.DivMod, Exact; zint.Exact. zint.Of at -1. The engine: drawn regions in which several blocks may be written. -/
import Derived.Test.YthlbihbchobllaaGreatPh8
import Derived.Test.YthlbihbchobllaaGreatPh3
import Derived.Test.YthlbihbchobllaaGreatPh5
import Derived.Test.YthlbihbchobllaaGreatPh6
import Derived.Test.YthlbihbchobllaaGreatPh4
import Derived.Test.YthlbihbchobllaaGreatPh1
set_option linter.unusedVariables false
set_option linter.unusedSimpArgs false
namespace Go.Proofs.YthlbihbchobllaaGreat
open Go Go.Eng Go.Proofs Go.NatM

theorem bk_slIn {α : Type} {f : α → Value} {H : Array Obj} {b B n c o : Nat} {t : TypeId} {Pr S Po : List α} (h : Bk f H b t (Pr ++ (S ++ Po))) (ho : Pr.length = o) (hn : S.length = n) (hc : n ≤ c) (hb : b < B) : Sl f H B (some ⟨b, o, none⟩) n c S :=
  ⟨hn, hc, .inr ⟨b, o, rfl, hb, fun j x hx => by
    have hj := (List.getElem?_eq_some_iff.1 hx).1
    rw [h.cell, List.getElem?_append_right (by omega), show o + j - Pr.length = j by omega, List.getElem?_append_left hj, hx]
    rfl⟩⟩
theorem set_in (Pr D R Po : List Nat) (r x : Nat) : (Pr ++ ((D ++ r :: R) ++ Po)).set (Pr.length + D.length) x = Pr ++ (((D ++ [x]) ++ R) ++ Po) := by
  rw [List.set_append_right _ _ (by omega), Nat.add_sub_cancel_left, List.append_assoc, List.set_append_right _ _ (by omega), Nat.sub_self]
  simp
/-- words taken off a window of a block -/
def RetTk (w : World) (g : Nat) (Pr S Po l' : List Nat) (n d : Nat) (e : Ending) (w' : World) : Prop := ∃ (D : List Nat) (b : Bool), e = .returned (.bool b) ∧ Bk u64v w'.heap g 45 (Pr ++ (D ++ Po)) ∧ D.length = n + 1 ∧ U64 D ∧ val D + d * val l' = val S + 18446744073709551616 ^ (n + 1) * (if b = true then 1 else 0) ∧ Upd g w w'
set_option maxRecDepth 100000 in
set_option maxHeartbeats 4000000 in
theorem take_ok (w : World) (B g o n c n' c' : Nat) (A' : Option Addr) (Pr S Po l' : List Nat) {z : Int} {d : Nat} [e0 : IsN z d] (hB : Bk u64v w.heap g 45 (Pr ++ (S ++ Po))) (ho : Pr.length = o) (hS : S.length = n + 1) (hc0 : n + 1 ≤ c) (hs' : Sl u64v w.heap B A' n c' l') (hoff : Off g n A')
    (hu : U64 S) (hu' : U64 l') (hd : d < 18446744073709551616) (hn : n ≤ 35184372088832) :
    Cl Tryz.prog 104 #[.slice (some ⟨g, o, none⟩) (n + 1) c, .slice A' n c', .int .u64 z] w (RetTk w g Pr S Po l' n d) := by
  obtain rfl := e0.out
  have hlen' := hs'.len
  refine enter Tryz.func104 rfl rfl rfl ?_
  repeat' (first | refine TL.ev (ev_simple rfl) rfl ?_ | refine TL.ev (ev_len rfl) rfl ?_ | refine T.seq ?_ | refine T.region ?_ | refine TL.nil ?_ | refine T.block ?_ | refine G.next ?_)
  refine T.loop (α := Nat × List Nat × Nat × Nat) (fun x => [(0, .slice (some ⟨g, o, none⟩) (n + 1) c), (1, .slice A' n c'), (2, .int .u64 (d : Int)), (7, .int .u64 (x.2.2.1 : Int)), (8, .int .u64 (x.2.2.2 : Int)), (15, .int .i64 (n : Int)), (16, .int .i64 (x.1 : Int))])
    (fun x w' => x.1 ≤ n ∧ x.2.1.length = x.1 ∧ U64 x.2.1 ∧ x.2.2.1 < 18446744073709551616 ∧ x.2.2.2 ≤ 1 ∧ Upd g w w' ∧ Bk u64v w'.heap g 45 (Pr ++ ((x.2.1 ++ S.drop x.1) ++ Po)) ∧ val x.2.1 + d * val (l'.take x.1) = val (S.take x.1) + 18446744073709551616 ^ x.1 * (x.2.2.1 + x.2.2.2))
    (fun x => n - x.1) (0, [], 0, 0) (by repeat (first | exact Sub.nil _ | refine Sub.cons rfl ?_ | refine Sub.cons' rfl (int_congr (by omega)) ?_)) ⟨Nat.zero_le _, rfl, U64.nil, by dsimp only; omega, Nat.zero_le _, upd_refl _ _, by simpa using hB, by simp [val]⟩ ?_
  rintro ⟨i, D, cy, lent⟩ w2 ⟨hi, hD, hDu, hcy, hle, hE2, hB2, hv⟩
  dsimp only at hi hD hDu hcy hle hE2 hB2 hv ⊢
  have k1 := sl_off hE2 hs' hoff
  have hX : (D ++ S.drop i).length = n + 1 := by simp; omega
  have k2 := bk_slIn (B := w2.heap.size) hB2 ho (n := n + 1) (c := c) hX hc0 hB2.lt
  have x1 := hu.getD i
  have x2 := hu'.getD i
  have ex := getD_win D S i hD
  rcases Nat.lt_or_ge i n with hin | hin
  · have hbig := mul_hi_lt hd x2 hcy (z := 0) (by omega)
    rw [Nat.add_zero] at hbig
    have hlB : (Pr ++ ((D ++ S.drop i) ++ Po)).length = o + (n + 1) + Po.length := by simp; omega
    have hp1 : d * l'.getD i 0 % 18446744073709551616 < 18446744073709551616 := Nat.mod_lt _ (by omega)
    have hp2 : (d * l'.getD i 0 % 18446744073709551616 + cy + 0) % 18446744073709551616 < 18446744073709551616 := Nat.mod_lt _ (by omega)
    rw [ex.symm] at x1
    repeat' (first | refine TL.ev (ev_simple rfl) rfl ?_ | (refine TL.cmpG rfl rfl rfl rfl (fun hc => ?_) (fun hc => ?_) <;> try (exfalso; omega)) | refine TL.ev (ev_arN rfl rfl rfl (by omega)) rfl ?_ | refine TL.ev (ev_indexN rfl rfl (by omega) (by first | exact Or.inr rfl | exact Sl.some (by assumption))) rfl ?_ | refine TL.ev (ev_loadU rfl (by assumption) (by omega)) rfl ?_ | refine TL.ev (ev_arU rfl rfl rfl (by first | exact True.intro | omega)) rfl ?_ | (refine TL.callP rfl rfl (mul64_ok _ hd x2) (fun _ => ?_)) | (refine TL.ev (ev_callx rfl (fun w => add64_run w (by omega))) rfl ?_) | (refine TL.ev (ev_callx rfl (fun w => sub64_run w (by omega))) rfl ?_) | (refine TL.storeUo rfl rfl hB2 (by rw [hlB]; omega) (fun w3 hB3 hU => ?_)) | refine T.seq ?_ | refine T.region ?_ | refine TL.nil ?_ | refine T.block ?_ | refine T.cond_t rfl ?_ | refine T.skip ?_ | refine G.next ?_ | refine G.blockN ?_)
    have e := take_step hbig hle x1
    rw [drop_cons S i (by omega), show o + i = Pr.length + D.length by omega, set_in, ← drop_cons S i (by omega)] at hB3
    refine G.again (i + 1, D ++ [((D ++ S.drop i).getD i 0 + 18446744073709551616 - (d * l'.getD i 0 % 18446744073709551616 + cy + 0) % 18446744073709551616 - lent) % 18446744073709551616], (d * l'.getD i 0 / 18446744073709551616 + (d * l'.getD i 0 % 18446744073709551616 + cy + 0) / 18446744073709551616) % 18446744073709551616, if (D ++ S.drop i).getD i 0 < (d * l'.getD i 0 % 18446744073709551616 + cy + 0) % 18446744073709551616 + lent then 1 else 0) (by repeat (first | exact Sub.nil _ | refine Sub.cons rfl ?_ | refine Sub.cons' rfl (int_congr (by omega)) ?_)) ⟨by dsimp only; omega, ?_, ?_, ?_, ?_, upd_trans hE2 (upd_undrewN hU), hB3, ?_⟩ (by dsimp only; omega)
    · simp [hD]
    · exact hDu.append (U64.one (Nat.mod_lt _ (by omega)))
    · exact Nat.mod_lt _ (by omega)
    · dsimp only; split <;> omega
    · dsimp only
      rw [val_snoc, val_take_succ, val_take_succ, hD, Nat.pow_succ, ← ex]
      exact take_next hv (by omega)
  · obtain rfl : i = n := by omega
    have hlB : (Pr ++ ((D ++ S.drop i) ++ Po)).length = o + (i + 1) + Po.length := by simp; omega
    rw [ex.symm] at x1
    repeat' (first | refine TL.ev (ev_simple rfl) rfl ?_ | refine TL.ev (ev_len rfl) rfl ?_ | (refine TL.cmpG rfl rfl rfl rfl (fun hc => ?_) (fun hc => ?_) <;> try (exfalso; omega)) | refine TL.ev (ev_indexN rfl rfl (by omega) (by first | exact Or.inr rfl | exact Sl.some (by assumption))) rfl ?_ | refine TL.ev (ev_loadU rfl (by assumption) (by omega)) rfl ?_ | (refine TL.ev (ev_callx rfl (fun w => sub64_run w (by omega))) rfl ?_) | (refine TL.storeUo rfl rfl hB2 (by rw [hlB]; omega) (fun w3 hB3 hU => ?_)) | refine T.seq ?_ | refine T.region ?_ | refine TL.nil ?_ | refine T.cond_f rfl ?_ | refine T.exit ?_ | refine T.ret ?_ | refine G.next ?_ | refine G.blockE ?_ | refine G.thenE ?_)
    all_goals
      rw [drop_cons S i (by omega), show o + i = Pr.length + D.length by omega, set_in, ← drop_cons S i (by omega), List.drop_of_length_le (show S.length ≤ i + 1 by omega), List.append_nil] at hB3
      have hl : val (l'.take i) = val l' := by rw [List.take_of_length_le (by omega)]
      have hs : val S = val (S.take i) + 18446744073709551616 ^ i * S.getD i 0 := by rw [← val_take_succ, List.take_of_length_le (by omega)]
      rw [hl] at hv
      refine G.ret1 rfl rfl ⟨_, _, rfl, hB3, by simp [hD], hDu.append (U64.one (Nat.mod_lt _ (by omega))), ?_, upd_trans hE2 hU⟩
      rw [val_snoc, hD, hs, Nat.pow_succ, ← ex]
      have hx := take_last (x := (D ++ S.drop i).getD i 0) hcy hle x1
      have hq := take_end (P := 18446744073709551616 ^ i) hv hx
      generalize hk : (if (D ++ S.drop i).getD i 0 < cy + lent then 1 else 0 : Nat) = k at hc hq
      have hk2 : k ≤ 1 := by rw [← hk]; split <;> omega
      first
        | (obtain rfl : k = 1 := by omega
           simpa using hq)
        | (obtain rfl : k = 0 := by omega
           simpa using hq)

/-- words added to a window of a block, without what goes beyond it -/
def RetGv (w : World) (g : Nat) (Pr S Po l' : List Nat) (n : Nat) (e : Ending) (w' : World) : Prop := ∃ (D : List Nat) (k : Nat), e = .returned (.tuple #[]) ∧ Bk u64v w'.heap g 45 (Pr ++ (D ++ Po)) ∧ D.length = n + 1 ∧ U64 D ∧ val D + 18446744073709551616 ^ (n + 1) * k = val S + val l' ∧ Upd g w w'
set_option maxRecDepth 100000 in
set_option maxHeartbeats 4000000 in
theorem give_ok (w : World) (B g o n c n' c' : Nat) (A' : Option Addr) (Pr S Po l' : List Nat) (hB : Bk u64v w.heap g 45 (Pr ++ (S ++ Po))) (ho : Pr.length = o) (hS : S.length = n + 1) (hc0 : n + 1 ≤ c) (hs' : Sl u64v w.heap B A' n c' l') (hoff : Off g n A')
    (hu : U64 S) (hu' : U64 l') (hn : n ≤ 35184372088832) :
    Cl Tryz.prog 105 #[.slice (some ⟨g, o, none⟩) (n + 1) c, .slice A' n c'] w (RetGv w g Pr S Po l' n) := by
  have hlen' := hs'.len
  refine enter Tryz.func105 rfl rfl rfl ?_
  repeat' (first | refine TL.ev (ev_simple rfl) rfl ?_ | refine TL.ev (ev_len rfl) rfl ?_ | refine T.seq ?_ | refine T.region ?_ | refine TL.nil ?_ | refine T.block ?_ | refine G.next ?_)
  refine T.loop (α := Nat × List Nat × Nat) (fun x => [(0, .slice (some ⟨g, o, none⟩) (n + 1) c), (1, .slice A' n c'), (4, .int .u64 (x.2.2 : Int)), (7, .int .i64 (n : Int)), (8, .int .i64 (x.1 : Int))])
    (fun x w' => x.1 ≤ n ∧ x.2.1.length = x.1 ∧ U64 x.2.1 ∧ x.2.2 ≤ 1 ∧ Upd g w w' ∧ Bk u64v w'.heap g 45 (Pr ++ ((x.2.1 ++ S.drop x.1) ++ Po)) ∧ val x.2.1 + 18446744073709551616 ^ x.1 * x.2.2 = val (S.take x.1) + val (l'.take x.1))
    (fun x => n - x.1) (0, [], 0) (by repeat (first | exact Sub.nil _ | refine Sub.cons rfl ?_ | refine Sub.cons' rfl (int_congr (by omega)) ?_)) ⟨Nat.zero_le _, rfl, U64.nil, Nat.zero_le _, upd_refl _ _, by simpa using hB, by simp [val]⟩ ?_
  rintro ⟨i, D, cy⟩ w2 ⟨hi, hD, hDu, hcy, hE2, hB2, hv⟩
  dsimp only at hi hD hDu hcy hE2 hB2 hv ⊢
  have k1 := sl_off hE2 hs' hoff
  have hX : (D ++ S.drop i).length = n + 1 := by simp; omega
  have k2 := bk_slIn (B := w2.heap.size) hB2 ho (n := n + 1) (c := c) hX hc0 hB2.lt
  have x1 := hu.getD i
  have x2 := hu'.getD i
  have ex := getD_win D S i hD
  rw [ex.symm] at x1
  rcases Nat.lt_or_ge i n with hin | hin
  · have hlB : (Pr ++ ((D ++ S.drop i) ++ Po)).length = o + (n + 1) + Po.length := by simp; omega
    repeat' (first | refine TL.ev (ev_simple rfl) rfl ?_ | (refine TL.cmpG rfl rfl rfl rfl (fun hc => ?_) (fun hc => ?_) <;> try (exfalso; omega)) | refine TL.ev (ev_arN rfl rfl rfl (by omega)) rfl ?_ | refine TM.f rfl (fun _ => ev_simple rfl) rfl ?_ | refine TM.f rfl (fun _ => ev_indexN rfl rfl (by omega) (by first | exact Or.inr rfl | exact Sl.some (by assumption))) rfl ?_ | refine TM.s rfl (ev_loadU rfl (by assumption) (by omega)) rfl ?_ | refine TM.s rfl (ev_callx rfl (fun w => add64_run w (by omega))) rfl ?_ | refine T.regionM [(0, 0), (1, 0), (2, 0), (3, 0), (4, 0), (6, 0), (7, 0), (8, 0), (10, 0), (5, 1), (9, 1), (11, 1), (12, 0), (13, 0), (14, 0), (15, 0), (16, 2), (17, 0)] mixed (by kernel_rfl) ?_ | (refine TL.storeUo rfl rfl hB2 (by rw [hlB]; omega) (fun w3 hB3 hU => ?_)) | refine T.seq ?_ | refine T.region ?_ | refine TL.nil ?_ | refine T.block ?_ | refine T.cond_t rfl ?_ | refine T.skip ?_ | refine G.next ?_ | refine G.blockN ?_ | refine G.only ?_ | refine G.mixed ?_ | refine TM.nil ?_ | refine TM.e rfl ?_)
    rw [drop_cons S i (by omega), show o + i = Pr.length + D.length by omega, set_in, ← drop_cons S i (by omega)] at hB3
    refine G.again (i + 1, D ++ [((D ++ S.drop i).getD i 0 + l'.getD i 0 + cy) % 18446744073709551616], ((D ++ S.drop i).getD i 0 + l'.getD i 0 + cy) / 18446744073709551616) (by repeat (first | exact Sub.nil _ | refine Sub.cons rfl ?_ | refine Sub.cons' rfl (int_congr (by omega)) ?_)) ⟨by dsimp only; omega, by simp [hD], hDu.append (U64.one (Nat.mod_lt _ (by omega))), by dsimp only; omega, upd_trans hE2 (upd_undrewN hU), hB3, ?_⟩ (by dsimp only; omega)
    dsimp only
    rw [val_snoc, val_take_succ, val_take_succ, hD, Nat.pow_succ, ← ex]
    exact add_step hv (by omega)
  · obtain rfl : i = n := by omega
    have hlB : (Pr ++ ((D ++ S.drop i) ++ Po)).length = o + (i + 1) + Po.length := by simp; omega
    repeat' (first | refine TL.ev (ev_simple rfl) rfl ?_ | refine TL.ev (ev_len rfl) rfl ?_ | (refine TL.cmpG rfl rfl rfl rfl (fun hc => ?_) (fun hc => ?_) <;> try (exfalso; omega)) | refine TL.ev (ev_indexN rfl rfl (by omega) (by first | exact Or.inr rfl | exact Sl.some (by assumption))) rfl ?_ | refine TL.ev (ev_loadU rfl (by assumption) (by omega)) rfl ?_ | refine TL.ev (ev_arU rfl rfl rfl (by first | exact True.intro | omega)) rfl ?_ | (refine TL.storeUo rfl rfl hB2 (by rw [hlB]; omega) (fun w3 hB3 hU => ?_)) | refine T.seq ?_ | refine T.region ?_ | refine TL.nil ?_ | refine T.cond_f rfl ?_ | refine T.exit ?_ | refine G.next ?_ | refine G.blockE ?_ | refine G.thenE ?_)
    rw [drop_cons S i (by omega), show o + i = Pr.length + D.length by omega, set_in, ← drop_cons S i (by omega), List.drop_of_length_le (show S.length ≤ i + 1 by omega), List.append_nil] at hB3
    have hl : val (l'.take i) = val l' := by rw [List.take_of_length_le (by omega)]
    have hs : val S = val (S.take i) + 18446744073709551616 ^ i * S.getD i 0 := by rw [← val_take_succ, List.take_of_length_le (by omega)]
    rw [hl] at hv
    refine G.end0 rfl ⟨_, ((D ++ S.drop i).getD i 0 + cy) / 18446744073709551616, rfl, hB3, by simp [hD], hDu.append (U64.one (Nat.mod_lt _ (by omega))), ?_, upd_trans hE2 hU⟩
    rw [val_snoc, hD, hs, Nat.pow_succ, ← ex]
    have hx : ((D ++ S.drop i).getD i 0 + cy) % 18446744073709551616 + 18446744073709551616 * (((D ++ S.drop i).getD i 0 + cy) / 18446744073709551616) = (D ++ S.drop i).getD i 0 + 0 + cy := by omega
    have hq := add_step (vb := val l') (y := 0) hv hx
    simpa using hq
/-- the words of l times 2^s -/
theorem or_shl' {y x n : Nat} (h : n ≤ 64) (hy : y < 2 ^ n) : x * 2 ^ n % 18446744073709551616 ||| y = x * 2 ^ n % 18446744073709551616 + y := by rw [Nat.or_comm, or_shl h hy, Nat.add_comm]
theorem shifted_next {vD P cy b x vt u c' : Nat} (hv : vD + P * cy = vt * b) (e : u + 18446744073709551616 * c' = x * b + cy) : vD + P * u + P * 18446744073709551616 * c' = (vt + P * x) * b := by
  have h2 : P * u + P * (18446744073709551616 * c') = P * (x * b) + P * cy := by rw [← Nat.mul_add, e, Nat.mul_add]
  rw [Nat.add_mul, Nat.mul_assoc P, Nat.mul_assoc P]
  omega
theorem shr_zero {x : Nat} (hx : x < 18446744073709551616) : x / 2 ^ 64 = 0 := Nat.div_eq_of_lt hx
set_option maxRecDepth 100000 in
set_option maxHeartbeats 8000000 in
theorem shifted_ok (w : World) (B : Nat) (A : Option Addr) (n c : Nat) (l : List Nat) {z1 z2 : Int} {s m : Nat} [e1 : IsN z1 s] [e2 : IsN z2 m] (hs : Sl u64v w.heap B A n c l) (hu : U64 l) (hss : s < 64) (hm : m ≤ 17592186044416) (hn : n ≤ m) (hfit : val l * 2 ^ s < 18446744073709551616 ^ m) :
    Cl Tryz.prog 102 #[.slice A n c, .int .u64 z1, .int .i64 z2] w (RetB w m (val l * 2 ^ s)) := by
  obtain rfl := e1.out
  obtain rfl := e2.out
  have hlen := hs.len
  replace hs := hs.size
  refine enter Tryz.func102 rfl rfl rfl ?_
  repeat' (first | refine TL.ev (ev_simple rfl) rfl ?_ | refine TL.ev (ev_len rfl) rfl ?_ | (refine TL.makeU rfl rfl rfl (by omega) (by omega) (fun w1 b1 eb hB hE hz => ?_)) | refine T.seq ?_ | refine T.region ?_ | refine TL.nil ?_ | refine T.block ?_ | refine G.next ?_)
  refine T.loop (α := Nat × List Nat × Nat) (fun x => [(0, .slice A n c), (1, .int .u64 (s : Int)), (7, .slice (some ⟨b1, 0, none⟩) m m), (8, .int .u64 (x.2.2 : Int)), (14, .int .i64 (m : Int)), (15, .int .i64 (x.1 : Int))])
    (fun x w' => x.1 ≤ m ∧ x.2.1.length = x.1 ∧ U64 x.2.1 ∧ x.2.2 < 2 ^ s ∧ Ext w w' ∧ Bk u64v w'.heap b1 45 (x.2.1 ++ List.replicate (m - x.1) 0) ∧ val x.2.1 + 18446744073709551616 ^ x.1 * x.2.2 = val (l.take x.1) * 2 ^ s)
    (fun x => m - x.1) (0, [], 0) (by repeat (first | exact Sub.nil _ | refine Sub.cons rfl ?_ | refine Sub.cons' rfl (int_congr (by omega)) ?_)) ⟨Nat.zero_le _, rfl, U64.nil, Nat.two_pow_pos s, hE, by simpa using hB, by simp [val]⟩ ?_
  have hb1 : w.heap.size ≤ b1 := by omega
  clear hB hE hz eb
  rintro ⟨i, D, cy⟩ w2 ⟨hi, hD, hDu, hcy, hE2, hB2, hv⟩
  dsimp only at hi hD hDu hcy hE2 hB2 hv ⊢
  have hs2 := hs.ext hE2
  have hlB : (D ++ List.replicate (m - i) 0).length = m := by simp; omega
  have hcy2 : cy < 18446744073709551616 := Nat.lt_of_lt_of_le hcy (show 2 ^ s ≤ 2 ^ 64 from Nat.pow_le_pow_right (by omega) (by omega))
  rcases Nat.lt_or_ge i m with him | him
  · have hmk : ∀ x, x < 18446744073709551616 → x * 2 ^ s % 18446744073709551616 ||| cy = x * 2 ^ s % 18446744073709551616 + cy ∧ x * 2 ^ s % 18446744073709551616 + cy < 18446744073709551616 := fun x hx => by
      refine ⟨or_shl' (by omega) hcy, ?_⟩
      rw [shl_mod x (show s ≤ 64 by omega)]
      have h1 : x % 2 ^ (64 - s) < 2 ^ (64 - s) := Nat.mod_lt _ (Nat.two_pow_pos _)
      have h2 : 2 ^ s * (x % 2 ^ (64 - s) + 1) ≤ 2 ^ s * 2 ^ (64 - s) := Nat.mul_le_mul_left _ h1
      rw [← Nat.pow_add, show s + (64 - s) = 64 by omega, Nat.mul_add, Nat.mul_one] at h2
      omega
    have hgo : ∀ (x : Nat) (w3 : World), l.getD i 0 = x → x < 18446744073709551616 → Ext w w3 → Bk u64v w3.heap b1 45 ((D ++ List.replicate (m - i) 0).set i (x * 2 ^ s % 18446744073709551616 ||| cy)) →
        ((D ++ [x * 2 ^ s % 18446744073709551616 + cy]).length = i + 1 ∧ U64 (D ++ [x * 2 ^ s % 18446744073709551616 + cy]) ∧ x / 2 ^ (64 - s) < 2 ^ s ∧ Ext w w3 ∧ Bk u64v w3.heap b1 45 ((D ++ [x * 2 ^ s % 18446744073709551616 + cy]) ++ List.replicate (m - (i + 1)) 0) ∧ val (D ++ [x * 2 ^ s % 18446744073709551616 + cy]) + 18446744073709551616 ^ (i + 1) * (x / 2 ^ (64 - s)) = val (l.take (i + 1)) * 2 ^ s) := fun x w3 hx hlt hE3 hB3 => by
      obtain ⟨h1, h2⟩ := hmk x hlt
      rw [h1, show m - i = (m - (i + 1)) + 1 by omega, ← hD, set_zeros, hD] at hB3
      refine ⟨by simp [hD], hDu.append (U64.one h2), shr_lt (by omega) hlt, hE3, hB3, ?_⟩
      rw [val_snoc, val_take_succ, hD, hx, Nat.pow_succ]
      have h3 := shl_word x (show s ≤ 64 by omega) hlt
      exact shifted_next hv (by omega)
    rcases Nat.lt_or_ge i n with hin | hin
    · have x1 := hu.getD i
      have h2 := hmk _ x1
      rcases Nat.eq_zero_or_pos s with h0 | h0
      · subst h0
        repeat' (first | refine TL.ev (ev_simple rfl) rfl ?_ | refine TL.ev (ev_len rfl) rfl ?_ | (refine TL.cmpG rfl rfl rfl rfl (fun hc => ?_) (fun hc => ?_) <;> try (exfalso; omega)) | refine TL.ev (ev_arN rfl rfl rfl (by omega)) rfl ?_ | refine TL.ev (ev_indexN rfl rfl (by omega) (by first | exact Or.inr rfl | exact Sl.some (by assumption))) rfl ?_ | refine TL.ev (ev_loadU rfl (by assumption) (by omega)) rfl ?_ | refine TL.ev (ev_shlU rfl rfl) rfl ?_ | refine TL.ev (ev_orU rfl rfl (by first | omega | exact U64.getD (by assumption) _) (by first | omega | exact U64.getD (by assumption) _)) rfl ?_ | (refine TL.storeU rfl rfl hB2 (by rw [hlB]; omega) (fun w3 hB3 hU => ?_)) | refine T.seq ?_ | refine T.region ?_ | refine TL.nil ?_ | refine T.block ?_ | refine T.cond_t rfl ?_ | refine T.cond_f rfl ?_ | refine T.skip ?_ | refine G.next ?_ | refine G.blockN ?_)
        obtain ⟨g1, g2, g3, g4, g5, g6⟩ := hgo _ w3 rfl x1 (hE2.upd hU hb1) hB3
        rw [shr_zero x1] at g3 g6
        exact G.again (i + 1, _, 0) (by repeat (first | exact Sub.nil _ | refine Sub.cons rfl ?_ | refine Sub.cons' rfl (int_congr (by omega)) ?_)) ⟨by dsimp only; omega, g1, g2, g3, g4, g5, g6⟩ (by dsimp only; omega)
      · repeat' (first | refine TL.ev (ev_simple rfl) rfl ?_ | refine TL.ev (ev_len rfl) rfl ?_ | (refine TL.cmpG rfl rfl rfl rfl (fun hc => ?_) (fun hc => ?_) <;> try (exfalso; omega)) | refine TL.ev (ev_arN rfl rfl rfl (by omega)) rfl ?_ | refine TL.ev (ev_indexN rfl rfl (by omega) (by first | exact Or.inr rfl | exact Sl.some (by assumption))) rfl ?_ | refine TL.ev (ev_loadU rfl (by assumption) (by omega)) rfl ?_ | refine TL.ev (ev_subU rfl rfl (by omega)) rfl ?_ | refine TL.ev (ev_shrU rfl rfl (by first | omega | exact U64.getD (by assumption) _)) rfl ?_ | refine TL.ev (ev_shlU rfl rfl) rfl ?_ | refine TL.ev (ev_orU rfl rfl (by first | omega | exact U64.getD (by assumption) _) (by first | omega | exact U64.getD (by assumption) _)) rfl ?_ | (refine TL.storeU rfl rfl hB2 (by rw [hlB]; omega) (fun w3 hB3 hU => ?_)) | refine T.seq ?_ | refine T.region ?_ | refine TL.nil ?_ | refine T.block ?_ | refine T.cond_t rfl ?_ | refine T.skip ?_ | refine G.next ?_ | refine G.blockN ?_)
        obtain ⟨g1, g2, g3, g4, g5, g6⟩ := hgo _ w3 rfl x1 (hE2.upd hU hb1) hB3
        exact G.again (i + 1, _, _) (by repeat (first | exact Sub.nil _ | refine Sub.cons rfl ?_ | refine Sub.cons' rfl (int_congr (by omega)) ?_)) ⟨by dsimp only; omega, g1, g2, g3, g4, g5, g6⟩ (by dsimp only; omega)
    · have x1 : l.getD i 0 = 0 := getD_ge (by omega)
      have h2 := hmk 0 (by omega)
      rcases Nat.eq_zero_or_pos s with h0 | h0
      · subst h0
        repeat' (first | refine TL.ev (ev_simple rfl) rfl ?_ | refine TL.ev (ev_len rfl) rfl ?_ | (refine TL.cmpG rfl rfl rfl rfl (fun hc => ?_) (fun hc => ?_) <;> try (exfalso; omega)) | refine TL.ev (ev_arN rfl rfl rfl (by omega)) rfl ?_ | refine TL.ev (ev_indexN rfl rfl (by omega) (by first | exact Or.inr rfl | exact Sl.some (by assumption))) rfl ?_ | refine TL.ev (ev_shlU rfl rfl) rfl ?_ | refine TL.ev (ev_orU rfl rfl (by first | omega | exact U64.getD (by assumption) _) (by first | omega | exact U64.getD (by assumption) _)) rfl ?_ | (refine TL.storeU rfl rfl hB2 (by rw [hlB]; omega) (fun w3 hB3 hU => ?_)) | refine T.seq ?_ | refine T.region ?_ | refine TL.nil ?_ | refine T.block ?_ | refine T.cond_t rfl ?_ | refine T.cond_f rfl ?_ | refine T.skip ?_ | refine G.next ?_ | refine G.blockN ?_)
        obtain ⟨g1, g2, g3, g4, g5, g6⟩ := hgo 0 w3 x1 (by omega) (hE2.upd hU hb1) hB3
        exact G.again (i + 1, _, 0) (by repeat (first | exact Sub.nil _ | refine Sub.cons rfl ?_ | refine Sub.cons' rfl (int_congr (by omega)) ?_)) ⟨by dsimp only; omega, g1, g2, g3, g4, g5, g6⟩ (by dsimp only; omega)
      · repeat' (first | refine TL.ev (ev_simple rfl) rfl ?_ | refine TL.ev (ev_len rfl) rfl ?_ | (refine TL.cmpG rfl rfl rfl rfl (fun hc => ?_) (fun hc => ?_) <;> try (exfalso; omega)) | refine TL.ev (ev_arN rfl rfl rfl (by omega)) rfl ?_ | refine TL.ev (ev_indexN rfl rfl (by omega) (by first | exact Or.inr rfl | exact Sl.some (by assumption))) rfl ?_ | refine TL.ev (ev_subU rfl rfl (by omega)) rfl ?_ | refine TL.ev (ev_shrU rfl rfl (by first | omega | exact U64.getD (by assumption) _)) rfl ?_ | refine TL.ev (ev_shlU rfl rfl) rfl ?_ | refine TL.ev (ev_orU rfl rfl (by first | omega | exact U64.getD (by assumption) _) (by first | omega | exact U64.getD (by assumption) _)) rfl ?_ | (refine TL.storeU rfl rfl hB2 (by rw [hlB]; omega) (fun w3 hB3 hU => ?_)) | refine T.seq ?_ | refine T.region ?_ | refine TL.nil ?_ | refine T.block ?_ | refine T.cond_t rfl ?_ | refine T.cond_f rfl ?_ | refine T.skip ?_ | refine G.next ?_ | refine G.blockN ?_)
        obtain ⟨g1, g2, g3, g4, g5, g6⟩ := hgo 0 w3 x1 (by omega) (hE2.upd hU hb1) hB3
        exact G.again (i + 1, _, _) (by repeat (first | exact Sub.nil _ | refine Sub.cons rfl ?_ | refine Sub.cons' rfl (int_congr (by omega)) ?_)) ⟨by dsimp only; omega, g1, g2, g3, g4, g5, g6⟩ (by dsimp only; omega)
  · obtain rfl : i = m := by omega
    rw [Nat.sub_self, List.replicate_zero, List.append_nil] at hB2
    have hvl : val (l.take i) = val l := by rw [List.take_of_length_le (by omega)]
    rw [hvl] at hv
    have hz : cy = 0 := by
      rcases Nat.eq_zero_or_pos cy with h | h
      · exact h
      · have := Nat.mul_le_mul_left (18446744073709551616 ^ i) h
        omega
    subst hz
    repeat' (first | refine TL.ev (ev_simple rfl) rfl ?_ | (refine TL.cmpG rfl rfl rfl rfl (fun hc => ?_) (fun hc => ?_) <;> try (exfalso; omega)) | refine T.seq ?_ | refine T.region ?_ | refine TL.nil ?_ | refine T.cond_f rfl ?_ | refine T.exit ?_ | refine T.ret ?_ | refine G.next ?_ | refine G.blockE ?_ | refine G.thenE ?_)
    exact G.ret1 rfl rfl (RetB.mk hb1 hB2 hD hDu (by omega) hE2)
end Go.Proofs.YthlbihbchobllaaGreat

namespace Go.Eng
open Go Go.RowKit

theorem Vr.exs {S : Nat → Prop} {w w' : World} {b : Nat} {t : TypeId} {cs : List Value} (hE : Exs S w w') (hS : ¬ S b) (h : Vr w.heap b t cs) : Vr w'.heap b t cs := (hE.block b h.lt hS).trans h
theorem Sl.exs {α : Type} {f : α → Value} {S : Nat → Prop} {w w' : World} {B n c : Nat} {A : Option Addr} {l : List α} (hE : Exs S w w') (hS : ∀ k, fpA A n k → ¬ S k) (h : Sl f w.heap B A n c l) : Sl f w'.heap B A n c l := by
  refine ⟨h.len, h.cap, ?_⟩
  rcases h.mem with h0 | ⟨b, o, e, hlt, hm⟩
  · exact .inl h0
  · rcases Nat.eq_zero_or_pos n with h0 | h0
    · exact .inl h0
    · have hl : 0 < l.length := by have := h.len; omega
      have hb := hcell_lt (hm 0 l[0] (List.getElem?_eq_getElem hl))
      exact .inr ⟨b, o, e, hlt, fun j x hx => hcell_eq (hE.block b hb (hS b ⟨h0, o, e⟩)) (hm j x hx)⟩
/-- the blocks of F are as they were -/
structure DEk (F : Nat → Prop) (H H' : Array Obj) : Prop where
  size : H.size ≤ H'.size
  block : ∀ k, k < H.size → F k → H'[k]? = H[k]?
/-- a fact on data, and the blocks that it looks at -/
structure DK where
  p : Array Obj → Prop
  fp : Nat → Prop
  lt : ∀ H k, p H → fp k → k < H.size
  st : ∀ H H', DEk fp H H' → p H → p H'
structure Fk (S : Nat → Prop) (w0 w : World) (L : List VB) (D : List DK) : Prop where
  exs : Exs S w0 w
  vars : ∀ v ∈ L, (w0.heap.size ≤ v.b ∨ S v.b) ∧ Vr w.heap v.b v.t v.cs
  dist : L.Pairwise (fun x y => x.b ≠ y.b)
  data : ∀ d ∈ D, d.p w.heap
  apart : ∀ v ∈ L, ∀ d ∈ D, ¬ d.fp v.b
  dd : D.Pairwise (fun d e => ∀ k, d.fp k → ¬ e.fp k)
  own : ∀ d ∈ D, ∀ k, d.fp k → w0.heap.size ≤ k ∨ S k
section
variable {S : Nat → Prop} {w0 w w' : World} {L L' : List VB} {D D' : List DK} {b : Nat} {t : TypeId} {cs r : List Value}
theorem Fk.refl (S : Nat → Prop) (w : World) : Fk S w w [] [] := ⟨Exs.refl _ _, fun _ h => (by cases h), List.Pairwise.nil, fun _ h => (by cases h), fun _ h => (by cases h), List.Pairwise.nil, fun _ h => (by cases h)⟩
theorem Fk.ext (h : Fk (fun _ => False) w0 w L D) : Ext w0 w := h.exs.ext0
theorem Fk.get (h : Fk S w0 w L D) {d : DK} (hd : d ∈ D) : d.p w.heap := h.data d hd
theorem Fk.exts (h : Fk S w0 w L D) (hE : Ext w w') : Fk S w0 w' L D :=
  ⟨h.exs.trans (.of hE), fun v hv => ⟨(h.vars v hv).1, (h.vars v hv).2.ext hE⟩, h.dist, fun d hd => d.st _ _ ⟨hE.size, fun k hk _ => hE.block k hk⟩ (h.data d hd), h.apart, h.dd, h.own⟩
/-- data in blocks that are not older than w -/
theorem Fk.addNew (h : Fk S w0 w L D) (hE : Ext w w') (d : DK) (hd : d.p w'.heap) (hn : ∀ k, d.fp k → w.heap.size ≤ k) : Fk S w0 w' L (d :: D) := by
  have h1 := h.exts hE
  refine ⟨h1.exs, h1.vars, h1.dist, fun x hx => ?_, fun v hv x hx => ?_, List.pairwise_cons.2 ⟨fun e he k hk hek => ?_, h1.dd⟩, fun x hx k hk => ?_⟩
  · rcases List.mem_cons.1 hx with rfl | hx
    · exact hd
    · exact h1.data x hx
  · rcases List.mem_cons.1 hx with rfl | hx
    · intro hk; have q1 := (h.vars v hv).2.lt; have q2 := hn _ hk; omega
    · exact h1.apart v hv x hx
  · have q1 := e.lt _ _ (h.data e he) hek; have q2 := hn _ hk; omega
  · rcases List.mem_cons.1 hx with rfl | hx
    · exact .inl (Nat.le_trans h.exs.size (hn _ hk))
    · exact h1.own x hx k hk
theorem Fk.var (h : Fk S w0 w L D) (hv : InV L b t cs) : Vr w.heap b t cs := (h.vars _ hv.mem).2
theorem Fk.new (h : Fk S w0 w L D) (hb : b = w.heap.size) (hV : Vr w'.heap b t cs) (hE : Ext w w') : Fk S w0 w' (⟨b, t, cs⟩ :: L) D := by
  have h1 := h.exts hE
  refine ⟨h1.exs, fun v hv => ?_, List.pairwise_cons.2 ⟨fun v hv e => ?_, h.dist⟩, h1.data, fun v hv d hd => ?_, h1.dd, h1.own⟩
  · rcases List.mem_cons.1 hv with rfl | hv
    · exact ⟨.inl (by rw [hb]; exact h.exs.size), hV⟩
    · exact h1.vars v hv
  · have := (h.vars v hv).2.lt
    simp only at e
    omega
  · rcases List.mem_cons.1 hv with rfl | hv
    · intro hk
      have := d.lt _ _ (h.data d hd) hk
      simp only at this
      omega
    · exact h.apart v hv d hd
/-- a block known whole is written -/
theorem Fk.store (h : Fk S w0 w L D) (hS : SetV L b t cs r L') (hu : Upd b w w') (hV : Vr w'.heap b t r) : Fk S w0 w' L' D := by
  have hb := (h.vars _ hS.inV.mem).1
  have hap := fun d hd => h.apart _ hS.inV.mem d hd
  refine ⟨h.exs.then hu.exs fun i hi e => ?_, ?_, ?_, fun d hd => d.st _ _ ⟨Nat.le_of_eq hu.size.symm, fun k _ hk => hu.block k fun e => hap d hd (e ▸ hk)⟩ (h.data d hd), ?_, h.dd, h.own⟩
  · subst e
    rcases hb with hb | hb
    · simp only at hb; omega
    · exact hb
  · intro v hv
    obtain ⟨pre, post, e1, e2⟩ := hS.split
    subst e1 e2
    have hdist := h.dist
    rw [List.pairwise_append] at hdist
    have hq : ∀ v, v ∈ pre ∨ v ∈ post → (w0.heap.size ≤ v.b ∨ S v.b) ∧ Vr w'.heap v.b v.t v.cs := by
      intro v hv
      have hm : v ∈ pre ++ (⟨b, t, cs⟩ : VB) :: post := by
        rcases hv with hv | hv
        · exact List.mem_append_left _ hv
        · exact List.mem_append_right _ (List.mem_cons_of_mem _ hv)
      have hne : v.b ≠ b := by
        rcases hv with hv | hv
        · exact hdist.2.2 v hv _ (List.mem_cons_self ..)
        · exact fun e => (List.pairwise_cons.1 hdist.2.1).1 v hv e.symm
      exact ⟨(h.vars v hm).1, (h.vars v hm).2.upd hu hne⟩
    rcases List.mem_append.1 hv with hv | hv
    · exact hq v (.inl hv)
    · rcases List.mem_cons.1 hv with rfl | hv
      · exact ⟨hb, hV⟩
      · exact hq v (.inr hv)
  · obtain ⟨pre, post, e1, e2⟩ := hS.split
    subst e1 e2
    have hdist := h.dist
    rw [List.pairwise_append, List.pairwise_cons] at hdist ⊢
    refine ⟨hdist.1, ⟨fun v hv => hdist.2.1.1 v hv, hdist.2.1.2⟩, fun x hx y hy => ?_⟩
    rcases List.mem_cons.1 hy with rfl | hy
    · exact hdist.2.2 x hx ⟨b, t, cs⟩ (List.mem_cons_self ..)
    · exact hdist.2.2 x hx y (List.mem_cons_of_mem _ hy)
  · intro v hv d hd
    obtain ⟨pre, post, e1, e2⟩ := hS.split
    subst e1 e2
    rcases List.mem_append.1 hv with hv | hv
    · exact h.apart v (List.mem_append_left _ hv) d hd
    · rcases List.mem_cons.1 hv with rfl | hv
      · exact hap d hd
      · exact h.apart v (List.mem_append_right _ (List.mem_cons_of_mem _ hv)) d hd
theorem Fk.weak (h : Fk S w0 w L' D') (hL : L.Sublist L') (hD : D.Sublist D') : Fk S w0 w L D :=
  ⟨h.exs, fun v hv => h.vars v (hL.subset hv), h.dist.sublist hL, fun d hd => h.data d (hD.subset hd), fun v hv d hd => h.apart v (hL.subset hv) d (hD.subset hd), h.dd.sublist hD, fun d hd => h.own d (hD.subset hd)⟩
inductive SetD : List DK → DK → DK → List DK → Prop
  | head {D : List DK} {d e : DK} : SetD (d :: D) d e (e :: D)
  | tail {x d e : DK} {D D' : List DK} : SetD D d e D' → SetD (x :: D) d e (x :: D')
theorem SetD.mem {D D' : List DK} {d e : DK} (h : SetD D d e D') : d ∈ D := by
  induction h with
  | head => exact List.mem_cons_self ..
  | tail _ ih => exact List.mem_cons_of_mem _ ih
theorem SetD.split {D D' : List DK} {d e : DK} (h : SetD D d e D') : ∃ pre post, D = pre ++ d :: post ∧ D' = pre ++ e :: post := by
  induction h with
  | head => exact ⟨[], _, rfl, rfl⟩
  | @tail x d e D D' _ ih =>
    obtain ⟨pre, post, h1, h2⟩ := ih
    exact ⟨x :: pre, post, by rw [h1]; rfl, by rw [h2]; rfl⟩
/-- the blocks of one fact are written: all others stand -/
theorem Fk.write (h : Fk S w0 w L D) {d e : DK} (hS : SetD D d e D') (hE : Exs d.fp w w') (he : e.p w'.heap) (hfp : ∀ k, e.fp k → d.fp k ∨ w.heap.size ≤ k) : Fk S w0 w' L D' := by
  have hd := hS.mem
  have hst : ∀ x ∈ D, (∀ k, x.fp k → ¬ d.fp k) → x.p w'.heap := fun x hx hap => x.st _ _ ⟨hE.size, fun k hk hf => hE.block k hk (hap k hf)⟩ (h.data x hx)
  obtain ⟨pre, post, e1, e2⟩ := hS.split
  subst e1 e2
  have hdd := h.dd
  rw [List.pairwise_append, List.pairwise_cons] at hdd
  have hot : ∀ x, x ∈ pre ∨ x ∈ post → x ∈ pre ++ d :: post ∧ ∀ k, x.fp k → ¬ d.fp k := fun x hx => by
    rcases hx with hx | hx
    · exact ⟨List.mem_append_left _ hx, fun k hk => hdd.2.2 x hx d (List.mem_cons_self ..) k hk⟩
    · exact ⟨List.mem_append_right _ (List.mem_cons_of_mem _ hx), fun k hk hk' => hdd.2.1.1 x hx k hk' hk⟩
  have hne : ∀ x, x ∈ pre ∨ x ∈ post → ∀ k, x.fp k → ¬ e.fp k := fun x hx k hk hk' => by
    rcases hfp k hk' with h1 | h1
    · exact (hot x hx).2 k hk h1
    · have := x.lt _ _ (h.data x (hot x hx).1) hk; omega
  refine ⟨h.exs.then hE fun i hi hf => (h.own d hd i hf).resolve_left (by omega), fun v hv => ⟨(h.vars v hv).1, (h.vars v hv).2.exs hE (h.apart v hv d hd)⟩, h.dist, fun x hx => ?_, fun v hv x hx => ?_, ?_, fun x hx k hk => ?_⟩
  · rcases List.mem_append.1 hx with hx | hx
    · exact hst x (hot x (.inl hx)).1 (hot x (.inl hx)).2
    · rcases List.mem_cons.1 hx with rfl | hx
      · exact he
      · exact hst x (hot x (.inr hx)).1 (hot x (.inr hx)).2
  · rcases List.mem_append.1 hx with hx | hx
    · exact h.apart v hv x (hot x (.inl hx)).1
    · rcases List.mem_cons.1 hx with rfl | hx
      · intro hk
        rcases hfp _ hk with h1 | h1
        · exact h.apart v hv d hd h1
        · have := (h.vars v hv).2.lt; omega
      · exact h.apart v hv x (hot x (.inr hx)).1
  · rw [List.pairwise_append, List.pairwise_cons]
    refine ⟨hdd.1, ⟨fun x hx k hk hk' => hne x (.inr hx) k hk' hk, hdd.2.1.2⟩, fun x hx y hy k hk => ?_⟩
    rcases List.mem_cons.1 hy with rfl | hy
    · exact hne x (.inl hx) k hk
    · exact hdd.2.2 x hx y (List.mem_cons_of_mem _ hy) k hk
  · rcases List.mem_append.1 hx with hx | hx
    · exact h.own x (hot x (.inl hx)).1 k hk
    · rcases List.mem_cons.1 hx with rfl | hx
      · rcases hfp k hk with h1 | h1
        · exact h.own d hd k h1
        · exact .inl (Nat.le_trans h.exs.size h1)
      · exact h.own x (hot x (.inr hx)).1 k hk
/-- the facts D1 are given up: their blocks may be written -/
theorem Fk.drop (h : Fk S w0 w L D) (D1 D2 : List DK) (h1 : ∀ d ∈ D1, d ∈ D) (h2 : D2.Sublist D) {F : Nat → Prop} (hE : Exs F w w') (hF : ∀ k, F k → ∃ d ∈ D1, d.fp k) (hap : ∀ x ∈ D2, ∀ d ∈ D1, ∀ k, x.fp k → ¬ d.fp k) : Fk S w0 w' L D2 := by
  have hs := h2.subset
  refine ⟨h.exs.then hE fun i hi hf => ?_, fun v hv => ⟨(h.vars v hv).1, (h.vars v hv).2.exs hE fun hk => ?_⟩, h.dist, fun x hx => x.st _ _ ⟨hE.size, fun k hk hf => hE.block k hk fun he => ?_⟩ (h.data x (hs hx)), fun v hv x hx => h.apart v hv x (hs hx), h.dd.sublist h2, fun x hx => h.own x (hs hx)⟩
  · obtain ⟨d, hd, hk⟩ := hF i hf
    exact (h.own d (h1 d hd) i hk).resolve_left (by omega)
  · obtain ⟨d, hd, hk⟩ := hF _ hk
    exact h.apart v hv d (h1 d hd) hk
  · obtain ⟨d, hd, hk'⟩ := hF _ he
    exact hap x hx d hd k hf hk'
/-- D1 and D2 are parts of D -/
inductive Mrg : List DK → List DK → List DK → Prop
  | nil : Mrg [] [] []
  | l {x : DK} {D1 D2 D : List DK} : Mrg D1 D2 D → Mrg (x :: D1) D2 (x :: D)
  | r {x : DK} {D1 D2 D : List DK} : Mrg D1 D2 D → Mrg D1 (x :: D2) (x :: D)
theorem Mrg.left {D1 D2 D : List DK} (h : Mrg D1 D2 D) : D1.Sublist D := by
  induction h with
  | nil => exact List.Sublist.refl _
  | l _ ih => exact ih.cons_cons _
  | r _ ih => exact ih.cons _
theorem Mrg.right {D1 D2 D : List DK} (h : Mrg D1 D2 D) : D2.Sublist D := by
  induction h with
  | nil => exact List.Sublist.refl _
  | l _ ih => exact ih.cons _
  | r _ ih => exact ih.cons_cons _
theorem Mrg.apart {D1 D2 D : List DK} (h : Mrg D1 D2 D) (hp : D.Pairwise (fun d e => ∀ k, d.fp k → ¬ e.fp k)) : ∀ x ∈ D2, ∀ d ∈ D1, ∀ k, x.fp k → ¬ d.fp k := by
  induction h with
  | nil => intro x hx; cases hx
  | @l y D1 D2 D hm ih =>
    rw [List.pairwise_cons] at hp
    intro x hx d hd k hk hk'
    rcases List.mem_cons.1 hd with rfl | hd
    · exact hp.1 x (hm.right.subset hx) k hk' hk
    · exact ih hp.2 x hx d hd k hk hk'
  | @r y D1 D2 D hm ih =>
    rw [List.pairwise_cons] at hp
    intro x hx d hd k hk hk'
    rcases List.mem_cons.1 hx with rfl | hx
    · exact hp.1 d (hm.left.subset hd) k hk hk'
    · exact ih hp.2 x hx d hd k hk hk'
/-- two facts of the list -/
theorem Fk.two (h : Fk S w0 w L D) {D1 D2 : List DK} {d e : DK} (hD : D = D1 ++ d :: D2) (he : e ∈ D1 ∨ e ∈ D2) : ∀ k, d.fp k → ¬ e.fp k := by
  subst hD
  have hdd := h.dd
  rw [List.pairwise_append, List.pairwise_cons] at hdd
  intro k hk hk'
  rcases he with he | he
  · exact hdd.2.2 e he d (List.mem_cons_self ..) k hk' hk
  · exact hdd.2.1.1 e he k hk hk'
theorem kmemH {d : DK} {D : List DK} : d ∈ d :: D := List.mem_cons_self ..
theorem kmemT {d x : DK} {D : List DK} (h : d ∈ D) : d ∈ x :: D := List.mem_cons_of_mem _ h
end

/-! ### Steps -/
section
variable {P : Program} {N : Fm} {Q : Exit → Act → World → Prop} {σ : Store} {S : Nat → Prop} {w0 w : World} {L : List VB} {D : List DK} {ops : Array Oper} {d : Nat} {t : TypeId} {pos : String} {af : Array Edge} {rest : List Oper} {l : List Oper}
theorem T.regionFk (hF : Fk S w0 w L D) (id : Nat) (f : Nat) (t : Rt) (hm : P.follows .mixedOrders = true) (hB : treeB l.toArray f t = true)
    (h : ∀ w1 : World, Fk S w0 w1 L D → TF P N l Q (fun w' => Fk S w0 w' L D) f t σ w1) : T P N (.region id l.toArray true) Q σ w :=
  T.regionF _ f t hm hB (hF.exts (ext_drewN w 1)) (h _ (hF.exts (ext_drewN w 1)))
end
section
variable {P : Program} {σ : Store} {d : Option Tmp} {t : TypeId} {pos : String} {af : Array Edge} {gd : Option (Nat × Bool)} {S : Nat → Prop} {w0 w : World} {L : List VB} {D : List DK}
end

/-! ### Lists of words that have a block of their own -/
theorem putO_set : ∀ {cs : List Value} {k : Nat} (v : Value), k < cs.length → putO cs k [v] = some (cs.set k v)
  | [], k, v, h => by simp at h
  | a :: cs, 0, v, h => by simp [putO]
  | a :: cs, k + 1, v, h => by
    have := putO_set (cs := cs) (k := k) v (by simpa using h)
    simp only [putO, this, List.set_cons_succ]
theorem ow_iff {α : Type} {f : α → Value} {H : Array Obj} {lo : Nat} {t : TypeId} {A : Option Addr} {n c : Nat} {l : List α} : Ow f H lo t A n c l ↔ l.length = n ∧ ((A = none ∧ n = 0 ∧ c = 0) ∨ ∃ g cur, A = some ⟨g, 0, none⟩ ∧ lo ≤ g ∧ H[g]? = some (.cells cur t (0, 0)) ∧ n ≤ c ∧ c ≤ maxLen ∧ cur.size = c ∧ cur.toList.take n = l.map f) := by unfold Ow; exact Iff.rfl
section
variable {H : Array Obj} {t : TypeId} {A : Option Addr} {n c : Nat} {l : List Nat}
/-- a list at the head of a block of its own -/
def dkO (t : TypeId) (A : Option Addr) (n c : Nat) (l : List Nat) : DK where
  p H := Ow u64v H 0 t A n c l
  fp k := A = some ⟨k, 0, none⟩
  lt H k h hk := by
    rcases (ow_iff.1 h).2 with ⟨e, _⟩ | ⟨g, cur, e, _, hg, _⟩
    · rw [e] at hk; cases hk
    · rw [e] at hk; cases hk; exact (Array.getElem?_eq_some_iff.1 hg).1
  st H H' hd h := by
    have h' := ow_iff.1 h
    refine ow_iff.2 ⟨h'.1, h'.2.imp id ?_⟩
    rintro ⟨g, cur, e, h1, hg, h2⟩
    exact ⟨g, cur, e, h1, (hd.block g (Array.getElem?_eq_some_iff.1 hg).1 e).trans hg, h2⟩
theorem Ow.fresh {α : Type} {f : α → Value} {l : List α} {lo : Nat} (h : Ow f H lo t A n c l) (k : Nat) (hk : A = some ⟨k, 0, none⟩) : lo ≤ k := by
  rcases (ow_iff.1 h).2 with ⟨e, _⟩ | ⟨g, cur, e, h1, _⟩
  · rw [e] at hk; cases hk
  · rw [e] at hk; cases hk; exact h1
theorem Ow.at0 {α : Type} {f : α → Value} {l : List α} {lo : Nat} (h : Ow f H lo t A n c l) : Ow f H 0 t A n c l := h.mono (Nat.zero_le _)
theorem Fk.addO {S : Nat → Prop} {w0 w w' : World} {L : List VB} {D : List DK} (h : Fk S w0 w L D) (hE : Ext w w') (hO : Ow u64v w'.heap w.heap.size t A n c l) : Fk S w0 w' L (dkO t A n c l :: D) := h.addNew hE _ hO.at0 fun k hk => hO.fresh k hk
theorem Fk.o {S : Nat → Prop} {w0 w : World} {L : List VB} {D : List DK} (h : Fk S w0 w L D) (hm : dkO t A n c l ∈ D) : Ow u64v w.heap 0 t A n c l := h.data _ hm
theorem Fk.sl {S : Nat → Prop} {w0 w : World} {L : List VB} {D : List DK} (h : Fk S w0 w L D) (hm : dkO t A n c l ∈ D) : Sl u64v w.heap w.heap.size A n c l := (h.o hm).sl (Nat.le_refl _)
theorem Fk.storeO {S : Nat → Prop} {w0 w w' : World} {L : List VB} {D D' : List DK} {n' : Nat} {l' : List Nat} (h : Fk S w0 w L D) (hS : SetD D (dkO t A n c l) (dkO t A n' c l') D') (hE : Exs (fun j => A = some ⟨j, 0, none⟩) w w') (hO : Ow u64v w'.heap 0 t A n' c l') : Fk S w0 w' L D' := h.write hS hE hO fun k hk => .inl hk
theorem Ow.exs {α : Type} {f : α → Value} {l : List α} {S : Nat → Prop} {w w' : World} {lo : Nat} (hE : Exs S w w') (hS : ∀ k, A = some ⟨k, 0, none⟩ → ¬ S k) (h : Ow f w.heap lo t A n c l) : Ow f w'.heap lo t A n c l := by
  have h' := ow_iff.1 h
  refine ow_iff.2 ⟨h'.1, h'.2.imp id ?_⟩
  rintro ⟨g, cur, e, h1, hg, h2⟩
  exact ⟨g, cur, e, h1, (hE.block g (Array.getElem?_eq_some_iff.1 hg).1 (hS g e)).trans hg, h2⟩
theorem Ow.de {α : Type} {f : α → Value} {l : List α} {F : Nat → Prop} {H' : Array Obj} {lo : Nat} (hE : DEk F H H') (hS : ∀ k, A = some ⟨k, 0, none⟩ → F k) (h : Ow f H lo t A n c l) : Ow f H' lo t A n c l := by
  have h' := ow_iff.1 h
  refine ow_iff.2 ⟨h'.1, h'.2.imp id ?_⟩
  rintro ⟨g, cur, e, h1, hg, h2⟩
  exact ⟨g, cur, e, h1, (hE.block g (Array.getElem?_eq_some_iff.1 hg).1 (hS g e)).trans hg, h2⟩
theorem Ow.blt {α : Type} {f : α → Value} {l : List α} {lo : Nat} (h : Ow f H lo t A n c l) {k : Nat} (hk : A = some ⟨k, 0, none⟩) : k < H.size := by
  rcases (ow_iff.1 h).2 with ⟨e, _⟩ | ⟨g, cur, e, _, hg, _⟩
  · rw [e] at hk; cases hk
  · rw [e] at hk; cases hk; exact (Array.getElem?_eq_some_iff.1 hg).1
theorem dkO_fp {k : Nat} : (dkO t A n c l).fp k ↔ A = some ⟨k, 0, none⟩ := Iff.rfl
end
section
variable {P : Program} {N : Fm} {Q : Exit → Act → World → Prop} {σ : Store} {w : World} {ops : Array Oper} {d : Nat} {t : TypeId} {pos : String} {af : Array Edge} {rest : List Oper}
/-- a new list of words, all 0 -/
theorem TL.makeOw {S : Nat → Prop} {w0 : World} {L : List VB} {D : List DK} (hF : Fk S w0 w L D) {x y : Operand} {ty e : TypeId} [hT : USlice P ty e] {b1 : Nat} [hS : USize P e (.int .u64 0) 1 b1] {k k' : IntKind} {z1 z2 : Int} {n : Nat} [e1 : IsN z1 n] [e2 : IsN z2 n]
    (hx : look σ x = some (.int k z1)) (hy : look σ y = some (.int k' z2)) (hd : Nat.blt d N.n = true) (hc : b1 * n ≤ 281474976710656 ∧ n ≤ 9223372036854775807)
    (K : ∀ w' b, Fk S w0 w' L (dkO e (some ⟨b, 0, none⟩) n n (List.replicate n 0) :: D) → TL P N .seq ops Q rest ((d, .slice (some ⟨b, 0, none⟩) n n) :: σ) w') :
    TL P N .seq ops Q (⟨some d, .makeSlice ty x y, t, pos, af, none⟩ :: rest) σ w :=
  TL.makeU hx hy hd (Nat.le_refl _) hc fun w' b hb hB hE _ => K w' b (hF.addO hE (by
    have h := hB.ow (k := n) (c := n) (lo := w.heap.size) (by simp) (by simp) (by simp; unfold maxLen; omega) (by omega)
    simpa using h))
/-- a word stored into a list with a block of its own -/
theorem TL.storeOw {x y : Operand} {ty e : TypeId} {z0 : Value} {b1 : Nat} [hS : USize P ty z0 1 b1] {A : Option Addr} {n c k lo : Nat} {l : List Nat} {zu : Int} {u : Nat} [eu : IsN zu u]
    (hx : look σ x = some (.pointer (elemA A k))) (hy : look σ y = some (.int .u64 zu)) (hO : Ow u64v w.heap lo e A n c l) (hk : k < n)
    (K : ∀ w', Ow u64v w'.heap lo e A n c (l.set k u) → Exs (fun j => A = some ⟨j, 0, none⟩) w w' → TL P N .seq ops Q rest σ w') :
    TL P N .seq ops Q (⟨none, .store ty x y, t, pos, af, none⟩ :: rest) σ w := by
  obtain ⟨hl, h⟩ := ow_iff.1 hO
  rcases h with ⟨_, h0, _⟩ | ⟨g, cur, rfl, hlo, hg, hnc, hcm, hsz, htk⟩
  · omega
  · have hV : Vr w.heap g e cur.toList := by unfold Vr; simpa using hg
    have hlen : cur.toList.length = c := by simpa using hsz
    have hput := putO_set (k := k) (u64v u) (show k < cur.toList.length by omega)
    refine TL.storeV (b := g) (o := k) (e := e) (cs := cur.toList) (v := u64v u) (by rw [hx]; simp [elemA, add_mk]) (by rw [hy, eu.out]; rfl) rfl rfl hV hput fun w' hV' hu => K w' (ow_iff.2 ⟨by simpa using hl, .inr ⟨g, (cur.toList.set k (u64v u)).toArray, rfl, hlo, hV', hnc, hcm, by simp [hsz], ?_⟩⟩) (hu.exs.mono fun j _ e => by rw [e])
    simp only [List.take_set, htk]
    exact (List.map_set).symm
end
section
variable {α : Type} {f : α → Value} {H : Array Obj} {t : TypeId} {A : Option Addr} {n c : Nat} {l : List α}
end
attribute [irreducible] dkO

end Go.Eng

namespace Go.Proofs.YthlbihbchobllaaGreat
open Go Go.Eng Go.Proofs Go.NatM

def tabN : List Int := [0, 1, 56, 2, 57, 49, 28, 3, 61, 58, 42, 50, 38, 29, 17, 4, 62, 47, 59, 36, 45, 43, 51, 22, 53, 39, 33, 30, 24, 18, 12, 5, 63, 55, 48, 27, 60, 41, 37, 16, 46, 35, 44, 21, 52, 32, 23, 11, 54, 26, 40, 15, 34, 20, 31, 10, 25, 14, 19, 9, 13, 8, 7, 6]
/-- the table lies in its place -/
def Tab (H : Array Obj) : Prop := ∀ m, m < 64 → hcell H 0 m = some (.int .u8 (tabN.getD m 0))
theorem Tab.ext {w w' : World} (h : Tab w.heap) (hE : Ext w w') : Tab w'.heap := fun m hm => by
  have := h m hm
  rw [hcell_below hE (hcell_lt this), this]
end Go.Proofs.YthlbihbchobllaaGreat

namespace Go.Proofs.YthlbihbchobllaaGreat
open Go Go.Eng Go.Proofs Go.NatM

theorem shr_val (l : List Nat) (k : Nat) : val l / 2 ^ k = val (l.drop (k / 64)) / 2 ^ (k % 64) ∨ ¬ U64 l := by
  by_cases hu : U64 l
  · left
    have e := val_split l (k / 64)
    have h1 := hu.take_lt (k / 64)
    rw [W_split k, ← Nat.div_div_eq_div_mul, e, Nat.add_mul_div_left _ _ (Nat.pow_pos (by omega)), Nat.div_eq_of_lt h1, Nat.zero_add]
  · exact .inr hu
theorem shr_end {vD b0 v n : Nat} (h : 2 ^ n * vD + b0 = v) (hb : b0 < 2 ^ n) : vD = v / 2 ^ n := by
  rw [← h, Nat.mul_add_div (Nat.two_pow_pos n), Nat.div_eq_of_lt hb, Nat.add_zero]
theorem getD_mid (D : List Nat) (r x : Nat) (R : List Nat) : (D ++ [x] ++ R).getD D.length 0 = x := by simp [List.getD]
theorem set_mid2 (D : List Nat) (x y : Nat) (R : List Nat) : (D ++ [x] ++ R).set D.length y = D ++ [y] ++ R := by
  rw [List.append_assoc, List.set_append_right _ _ (by omega), Nat.sub_self]; simp

set_option maxHeartbeats 4000000 in
theorem shr_ok (w : World) (B : Nat) (A : Option Addr) (n c : Nat) (l : List Nat) {z : Int} {k : Nat} [e0 : IsN z k] (hs : Sl u64v w.heap B A n c l) (hu : U64 l) (hn : n ≤ 35184372088832) (hk : k < 9223372036854775808) :
    Cl Tryz.prog 106 #[.slice A n c, .int .i64 z] w (RetNE w (dig (val l / 2 ^ k)) n 0) := by
  obtain rfl := e0.out
  have hlen := hs.len
  have hcap := hs.cap
  have hsz := sz_le l
  replace hs := hs.size
  have hsv := (shr_val l k).resolve_right (fun h => h hu)
  refine enter Tryz.func106 rfl rfl rfl ?_
  repeat' (first | refine TL.ev (ev_simple rfl) rfl ?_ | refine TL.ev (ev_len rfl) rfl ?_ | (refine TL.cmpG rfl rfl rfl rfl (fun hc => ?_) (fun hc => ?_) <;> try (exfalso; omega)) | refine TL.ev (ev_arN rfl rfl rfl (by omega)) rfl ?_ | refine TL.ev (ev_convU rfl (by omega)) rfl ?_ | (refine TL.callP rfl rfl (size_ok _ _ _ _ _ _ hs (by omega)) (fun q1 => ?_)) | (refine TL.makeU rfl rfl rfl (by omega) (by omega) (fun w1 b1 eb hB hE hz => ?_); simp only [World.heap_drewN] at eb hz; have hE1 := (ext_drewN w q1).trans hE) | refine T.seq ?_ | refine T.region ?_ | refine TL.nil ?_ | refine T.block ?_ | refine T.cond_t rfl ?_ | refine T.cond_f rfl ?_ | refine T.ret ?_ | refine T.skip ?_ | refine G.next ?_ | refine G.thenR ?_)
  · have e : val l / 2 ^ k = 0 := by
      have h2 : (18446744073709551616 : Nat) ^ sz l ≤ 2 ^ k := by rw [W_pow]; exact Nat.pow_le_pow_right (by omega) (by omega)
      exact Nat.div_eq_of_lt (Nat.lt_of_lt_of_le (val_lt_sz hu) h2)
    rw [e, dig_zero]
    exact G.ret2 rfl rfl rfl (RetNE.mk (Ow.nil _ _ _ _) (ext_drewN _ _) (by omega))
  · refine T.loop (α := Nat × List Nat) (fun x => [(0, .slice A n c), (6, .int .i64 (sz l : Int)), (7, .int .i64 ((k / 64 : Nat) : Int)), (8, .int .u64 ((k % 64 : Nat) : Int)), (9, .slice (some ⟨b1, 0, none⟩) (sz l - k / 64) (sz l - k / 64)), (28, .int .i64 ((sz l - k / 64 : Nat) : Int)), (29, .int .i64 (x.1 : Int))])
      (fun x w' => x.1 ≤ sz l - k / 64 ∧ x.2.length = x.1 ∧ U64 x.2 ∧ Ext w w' ∧ Bk u64v w'.heap b1 45 (x.2 ++ List.replicate (sz l - k / 64 - x.1) 0) ∧
        2 ^ (k % 64) * val x.2 + (l.drop (k / 64)).getD 0 0 % 2 ^ (k % 64) = val ((l.drop (k / 64)).take x.1) + 18446744073709551616 ^ x.1 * ((l.drop (k / 64)).getD x.1 0 % 2 ^ (k % 64)))
      (fun x => sz l - k / 64 - x.1) (0, []) (by repeat (first | exact Sub.nil _ | refine Sub.cons rfl ?_ | refine Sub.cons' rfl (int_congr (by omega)) ?_)) ⟨Nat.zero_le _, rfl, U64.nil, hE1, by simpa using hB, by simp [val]⟩ ?_
    rintro ⟨i, D⟩ w2 ⟨hi, hD, hDu, hE2, hB2, hv⟩
    dsimp only at hi hD hDu hE2 hB2 hv ⊢
    have t1 := hs.ext hE2
    have x1 := hu.getD (k / 64 + i)
    have x2 := hu.getD (k / 64 + i + 1)
    have x3 : l.getD (k / 64 + i) 0 / 2 ^ (k % 64) < 18446744073709551616 := Nat.lt_of_le_of_lt (Nat.div_le_self _ _) x1
    have hlB : (D ++ List.replicate (sz l - k / 64 - i) 0).length = sz l - k / 64 := by simp; omega
    have hstep := shr_step (n := k % 64) (bj := (l.drop (k / 64)).getD (i + 1) 0) (by omega) hv
    have hm : l.getD (k / 64 + i + 1) 0 * 2 ^ (64 - k % 64) % 18446744073709551616 < 18446744073709551616 := Nat.mod_lt _ (by omega)
    have hor := or_shl (x := l.getD (k / 64 + i + 1) 0) (n := 64 - k % 64) (by omega) (shr_lt' (n := k % 64) (by omega) x1)
    rw [getD_drop, getD_drop, getD_drop, Nat.add_zero, ← Nat.add_assoc] at hstep
    rw [getD_drop, getD_drop, Nat.add_zero] at hv
    rcases Nat.lt_or_ge i (sz l - k / 64) with hin | hin
    · have e1 : sz l - k / 64 - i = (sz l - k / 64 - (i + 1)) + 1 := by omega
      repeat' (first | refine TL.ev (ev_simple rfl) rfl ?_ | (refine TL.cmpG rfl rfl rfl rfl (fun hc => ?_) (fun hc => ?_) <;> try (exfalso; omega)) | refine TL.ev (ev_arN rfl rfl rfl (by omega)) rfl ?_ | refine TL.ev (ev_indexN rfl rfl (by omega) (by first | exact Or.inr rfl | exact Sl.some (by assumption))) rfl ?_ | refine TL.ev (ev_loadU rfl (by assumption) (by omega)) rfl ?_ | refine TL.ev (ev_shrU rfl rfl (by first | omega | exact U64.getD (by assumption) _)) rfl ?_ | refine TM.f rfl (fun _ => ev_simple rfl) rfl ?_ | refine TM.f rfl (fun _ => ev_arN rfl rfl rfl (by omega)) rfl ?_ | refine TM.f rfl (fun _ => ev_indexN rfl rfl (by omega) (by first | exact Or.inr rfl | exact Sl.some (by assumption))) rfl ?_ | refine TM.s rfl (ev_loadU rfl (by assumption) (by omega)) rfl ?_ | refine TM.f rfl (fun _ => ev_subU rfl rfl (by omega)) rfl ?_ | refine TM.f rfl (fun _ => ev_shlU rfl rfl) rfl ?_ | refine TM.f rfl (fun _ => ev_orU rfl rfl (by first | omega | exact U64.getD (by assumption) _) (by first | omega | exact U64.getD (by assumption) _)) rfl ?_ | refine T.regionM [(0, 0), (1, 0), (2, 0), (4, 0), (5, 0), (6, 0), (7, 0), (8, 0), (9, 0), (11, 0), (12, 0), (3, 1), (10, 1), (13, 0), (14, 0), (15, 0), (16, 2)] mixed (by kernel_rfl) ?_ | (refine TL.storeU rfl rfl hB2 (by rw [hlB]; omega) (fun w3 hB3 hU3 => ?_); rw [e1, ← hD, set_zeros, hD] at hB3; have hl3 : (D ++ [l.getD (k / 64 + i) 0 / 2 ^ (k % 64)] ++ List.replicate (sz l - k / 64 - (i + 1)) 0).length = sz l - k / 64 := (by (simp; omega)); have k3 := hB3.slN (c := sz l - k / 64) hl3 (Nat.le_refl _) hB3.lt; have t3 := (hs.ext hE2).upd hU3 (by omega); have eg := getD_mid D 0 (l.getD (k / 64 + i) 0 / 2 ^ (k % 64)) (List.replicate (sz l - k / 64 - (i + 1)) 0); rw [hD] at eg) | (refine TL.storeU rfl rfl hB3 (by rw [hl3]; omega) (fun w4 hB4 hU4 => ?_)) | refine T.seq ?_ | refine T.region ?_ | refine TL.nil ?_ | refine T.block ?_ | refine T.cond_t rfl ?_ | refine T.cond_f rfl ?_ | refine T.skip ?_ | refine G.next ?_ | refine G.blockN ?_ | refine G.only ?_ | refine G.mixed ?_ | refine TM.nil ?_ | refine TM.e rfl ?_)
      · have hu2 : U64 [l.getD (k / 64 + i) 0 / 2 ^ (k % 64) ||| l.getD (k / 64 + i + 1) 0 * 2 ^ (64 - k % 64) % 18446744073709551616] := U64.one (Nat.or_lt_two_pow (n := 64) x3 hm)
        have es := set_mid2 D (l.getD (k / 64 + i) 0 / 2 ^ (k % 64)) (l.getD (k / 64 + i) 0 / 2 ^ (k % 64) ||| l.getD (k / 64 + i + 1) 0 * 2 ^ (64 - k % 64) % 18446744073709551616) (List.replicate (sz l - k / 64 - (i + 1)) 0)
        rw [hD] at es
        rw [eg, es] at hB4
        refine G.again (i + 1, D ++ [l.getD (k / 64 + i) 0 / 2 ^ (k % 64) ||| l.getD (k / 64 + i + 1) 0 * 2 ^ (64 - k % 64) % 18446744073709551616]) (by repeat (first | exact Sub.nil _ | refine Sub.cons rfl ?_ | refine Sub.cons' rfl (int_congr (by omega)) ?_)) ⟨by dsimp only; omega, by simp [hD], hDu.append hu2, ((hE2.upd hU3 (by omega)).drewN _).upd hU4 (by omega), hB4, ?_⟩ (by dsimp only; omega)
        dsimp only
        rw [val_snoc, hD, hor, val_take_succ, getD_drop, getD_drop, getD_drop, Nat.pow_succ, ← Nat.add_assoc]
        exact hstep
      · have hz0 : l.getD (k / 64 + i + 1) 0 = 0 := sz_zero l _ (by omega)
        refine G.again (i + 1, D ++ [l.getD (k / 64 + i) 0 / 2 ^ (k % 64)]) (by repeat (first | exact Sub.nil _ | refine Sub.cons rfl ?_ | refine Sub.cons' rfl (int_congr (by omega)) ?_)) ⟨by dsimp only; omega, by simp [hD], hDu.append (U64.one x3), hE2.upd hU3 (by omega), hB3, ?_⟩ (by dsimp only; omega)
        dsimp only
        rw [hz0, Nat.zero_mul, Nat.zero_mod, Nat.add_zero, Nat.zero_mod, Nat.mul_zero, Nat.add_zero] at hstep
        rw [val_snoc, hD, val_take_succ, getD_drop, getD_drop, getD_drop, ← Nat.add_assoc, hz0, Nat.zero_mod, Nat.mul_zero, Nat.add_zero]
        exact hstep
    · obtain rfl : i = sz l - k / 64 := by omega
      have hz0 : l.getD (k / 64 + (sz l - k / 64)) 0 = 0 := sz_zero l _ (by omega)
      rw [hz0, Nat.zero_mod, Nat.mul_zero, Nat.add_zero] at hv
      have hdv : val ((l.drop (k / 64)).take (sz l - k / 64)) = val (l.drop (k / 64)) := by
        refine val_ext fun j => ?_
        rw [getD_drop]
        simp only [List.getD, List.getElem?_take, List.getElem?_drop]
        split
        · rfl
        · have := sz_zero l (k / 64 + j) (by omega)
          simpa [List.getD] using this.symm
      have hfin := shr_end (hv.trans hdv) (Nat.mod_lt _ (Nat.two_pow_pos _))
      rw [← hsv] at hfin
      rw [Nat.sub_self, List.replicate_zero, List.append_nil] at hB2
      have hS := hB2.slN hD (Nat.le_refl _) hB2.lt
      have hs0 := sz_le D
      repeat' (first | refine TL.ev (ev_simple rfl) rfl ?_ | (refine TL.cmpG rfl rfl rfl rfl (fun hc => ?_) (fun hc => ?_) <;> try (exfalso; omega)) | refine TL.ev (ev_sl_h rfl rfl (by omega)) rfl ?_ | (refine TL.callP rfl rfl (size_ok _ _ _ _ _ _ hS (by omega)) (fun _ => ?_)) | refine T.seq ?_ | refine T.region ?_ | refine TL.nil ?_ | refine T.cond_f rfl ?_ | refine T.exit ?_ | refine T.ret ?_ | refine G.next ?_ | refine G.blockE ?_ | refine G.thenE ?_)
      have := hB2.ow (lo := w.heap.size) (k := sz D) (c := sz l - k / 64) hs0 (by omega) (by unfold maxLen; omega) (by omega)
      rw [take_sz hDu, hfin] at this
      exact G.ret2 rfl rfl rfl (RetNE.mk this (hE2.drewN _) (by omega))
end Go.Proofs.YthlbihbchobllaaGreat

namespace Go.Proofs.YthlbihbchobllaaGreat
open Go Go.Eng Go.Proofs Go.NatM Go.RowKit

/-- quotient and rest by one word -/
def RetWd (w : World) (V x K : Nat) (e : Ending) (w' : World) : Prop := ∃ A n c, e = .returned (.tuple #[.slice A n c, .int .u64 ((V % x : Nat) : Int), .int .i64 0]) ∧ Ow u64v w'.heap w.heap.size 45 A n c (dig (V / x)) ∧ Ext w w' ∧ n ≤ K
theorem word_math {vz x rest V1 o : Nat} (h : vz * x + rest = V1) : ((rest * 18446744073709551616 + o) / x + 18446744073709551616 * vz) * x + (rest * 18446744073709551616 + o) % x = o + 18446744073709551616 * V1 := by
  have h1 := Nat.div_add_mod (rest * 18446744073709551616 + o) x
  rw [Nat.mul_comm] at h1
  rw [Nat.add_mul, Nat.mul_assoc, ← h, Nat.mul_add]
  omega
theorem drop_set_self {l : List Nat} {j u : Nat} (h : j < l.length) : val ((l.set j u).drop j) = u + 18446744073709551616 * val (l.drop (j + 1)) := by
  rw [val_drop, getD_set _ _ _ _ h, if_pos rfl, List.drop_set_of_lt (by omega)]
set_option maxRecDepth 100000 in
set_option maxHeartbeats 8000000 in
theorem wordD_ok (w : World) (B : Nat) (A : Option Addr) (n c : Nat) (l : List Nat) {z : Int} {x : Nat} [e0 : IsN z x] (hx0 : 0 < x) (hx : x < 18446744073709551616) (hs : Sl u64v w.heap B A n c l) (hu : U64 l) (hn : n ≤ 35184372088832) :
    Cl Tryz.prog 98 #[.slice A n c, .int .u64 z] w (RetWd w (val l) x n) := by
  obtain rfl := e0.out
  replace hs := hs.size
  refine enter Tryz.func98 rfl rfl rfl ?_
  have hF := Fk.refl (fun _ => False) w
  repeat' (first | (refine TL.isOp ?_; first | (refine TL.isCall ?_; refine TL.call rfl rfl ?_; first | (refine (least_ok _ _ A n c l (hs.ext hF.ext) hu hn).mono ?_; rintro _ w1 ⟨A1, n1, c1, rfl, hO1, hE1, hK1⟩; replace hF := hF.addO hE1 hO1; clear hO1 hE1; refine Back.mk ?_)) | (refine TL.isBin ?_; refine TL.cmpG rfl rfl rfl rfl (fun hc => ?_) (fun hc => ?_) <;> (try (first | (exfalso; omega) | exact absurd rfl hc))) | (apply TL.ev; (case hd => rfl); (case h => (first | exact ev_simple rfl | (apply Ev.isBin; first | exact ev_arI rfl rfl rfl (by omega)) | exact ev_len rfl)))) | (refine T.is ?_; first | refine T.seq ?_ | refine T.region ?_ | refine T.block ?_ | refine T.cond_f rfl ?_ | refine T.skip ?_) | (refine G.is ?_; first | refine G.next ?_) | refine TL.nil ?_)
  obtain ⟨L0, hL0⟩ : ∃ L0, L0 = dig (val l) := ⟨_, rfl⟩
  have hU0 : U64 L0 := by rw [hL0]; exact U64_dig _
  have hV0 : val L0 = val l := by rw [hL0]; exact val_dig _
  rw [← hL0] at hF
  have hl1 := (hF.o (by ((repeat (first | apply kmemH | apply kmemT)); done))).len
  refine T.loop (α := Nat × Nat × List Nat) (fun s => [(1, .int .u64 (x : Int)), (7, .slice A1 n1 c1), (8, .int .u64 (s.2.1 : Int)), (9, .int .i64 ((s.1 : Int) - 1))])
    (fun s w' => s.1 ≤ n1 ∧ s.2.2.length = n1 ∧ U64 s.2.2 ∧ s.2.1 < x ∧ (∀ j, j < s.1 → s.2.2.getD j 0 = L0.getD j 0) ∧ val (s.2.2.drop s.1) * x + s.2.1 = val (L0.drop s.1) ∧ Fk (fun _ => False) w w' [] [dkO 45 A1 n1 c1 s.2.2])
    (fun s => s.1) (n1, 0, L0) (by repeat (first | exact Sub.nil _ | refine Sub.cons rfl ?_ | refine Sub.cons' rfl (int_congr (by omega)) ?_)) ⟨Nat.le_refl _, hl1, hU0, hx0, fun _ _ => rfl, by dsimp only; rw [List.drop_of_length_le (by omega)]; simp [val], hF⟩ ?_
  clear hF
  rintro ⟨k, rest, Z⟩ w2 ⟨hk, hZ, hZu, hr, hlow, hv, hF⟩
  dsimp only at hk hZ hZu hr hlow hv hF ⊢
  rcases Nat.eq_zero_or_pos k with h0 | h0
  · subst h0
    rw [List.drop_zero, List.drop_zero, hV0] at hv
    have hq : val Z = val l / x := guess_is (by omega) (by rw [Nat.add_mul, Nat.one_mul]; omega)
    have hm : rest = val l % x := by
      have h1 := Nat.div_add_mod (val l) x
      rw [Nat.mul_comm, ← hq] at h1
      omega
    repeat' (first | (refine TL.isOp ?_; first | (refine TL.isCall ?_; refine TL.call rfl rfl ?_; first | (refine (least_ok _ _ A1 n1 c1 Z (hF.sl (by ((repeat (first | apply kmemH | apply kmemT)); done))) hZu (by omega)).mono ?_; rintro _ w3 ⟨A3, n3, c3, rfl, hO3, hE3, hK3⟩; rw [hq] at hO3; have hX := hF.exs.size; have hE := hF.ext.trans hE3; refine Back.mk ?_)) | (refine TL.isBin ?_; refine TL.cmpG rfl rfl rfl rfl (fun hc => ?_) (fun hc => ?_) <;> (try (first | (exfalso; omega) | exact absurd rfl hc))) | (apply TL.ev; (case hd => rfl); (case h => (first | exact ev_simple rfl)))) | (refine T.is ?_; first | refine T.seq ?_ | refine T.region ?_ | refine T.cond_f rfl ?_ | refine T.exit ?_ | refine T.ret ?_) | (refine G.is ?_; first | refine G.next ?_ | refine G.blockE ?_ | refine G.thenE ?_) | refine TL.nil ?_)
    rw [hm]
    exact G.ret3 rfl rfl rfl rfl ⟨A3, n3, c3, rfl, hO3.mono hX, hE, by omega⟩
  · obtain ⟨j, rfl⟩ : ∃ j, k = j + 1 := ⟨k - 1, by omega⟩
    have hjn : j < n1 := by omega
    have ho := hlow j (by omega)
    have hoW : L0.getD j 0 < 18446744073709551616 := hU0.getD j
    have e1 : ((j + 1 : Nat) : Int) - 1 = (j : Int) := by omega
    rw [e1]
    have hfin := word_math (x := x) (o := L0.getD j 0) hv
    rw [← val_drop] at hfin
    have hqW : (rest * 18446744073709551616 + L0.getD j 0) / x < 18446744073709551616 := Nat.div_lt_of_lt_mul (by have := Nat.mul_le_mul_right 18446744073709551616 hr; omega)
    have hrx : (rest * 18446744073709551616 + L0.getD j 0) % x < x := Nat.mod_lt _ hx0
    rw [← ho] at hoW hfin hqW hrx
    have hZj := getD_set Z j
    generalize hq : (rest * 18446744073709551616 + Z.getD j 0) / x = q at *
    generalize hm : (rest * 18446744073709551616 + Z.getD j 0) % x = r at *
    have hlo2 := fun i (hi : i < j) => hlow i (by omega)
    clear hlow hv
    repeat' (first | (refine TL.isOp ?_; first | (refine TL.isCall ?_; refine TL.call rfl rfl ?_; first | (refine (div64_ok _ (hi := rest) (lo := Z.getD j 0) (y := x) hr hoW hx).mono ?_; rintro _ wd ⟨rfl, hE⟩; rw [hq, hm]; replace hF := hF.exts hE; clear hE; refine Back.mk ?_)) | (refine TL.isBin ?_; refine TL.cmpG rfl rfl rfl rfl (fun hc => ?_) (fun hc => ?_) <;> (try (first | (exfalso; omega) | exact absurd rfl hc))) | (apply TL.ev; (case hd => rfl); (case h => (first | exact ev_simple rfl | (apply Ev.isBin; first | exact ev_arI rfl rfl rfl (by omega)) | (apply Ev.isLoad; first | exact ev_loadU rfl (hF.sl (by ((repeat (first | apply kmemH | apply kmemT)); done))) hjn) | exact ev_indexN rfl rfl hjn (hF.sl (by ((repeat (first | apply kmemH | apply kmemT)); done))).some))) | (refine TL.storeOw (k := j) (u := q) rfl rfl (hF.o (by ((repeat (first | apply kmemH | apply kmemT)); done))) hjn ?_; intro ws hOs hEs; replace hF := hF.storeO (by ((repeat (first | apply SetD.head | apply SetD.tail)); done)) hEs hOs; clear hOs hEs)) | (refine T.is ?_; first | refine T.seq ?_ | refine T.region ?_ | refine T.block ?_ | refine T.cond_t rfl ?_ | refine T.skip ?_) | (refine G.is ?_; first | refine G.next ?_ | refine G.blockN ?_) | refine TL.nil ?_)
    refine G.again (j, r, Z.set j q) (by repeat (first | exact Sub.nil _ | refine Sub.cons rfl ?_ | refine Sub.cons' rfl (int_congr (by omega)) ?_)) ⟨by dsimp only; omega, by dsimp only; rw [List.length_set]; exact hZ, hZu.set _ _ hqW, hrx, fun i hi => ?_, ?_, hF⟩ (by dsimp only; omega)
    · dsimp only at hi ⊢
      rw [hZj i q (by omega), if_neg (by omega)]
      exact hlo2 i hi
    · dsimp only
      rw [drop_set_self (by omega)]
      exact hfin
/-- a digit told by three words over two -/
def RetGs (w : World) (u V : Nat) (e : Ending) (w' : World) : Prop := ∃ d : Nat, e = .returned (.int .u64 (d : Int)) ∧ d < 18446744073709551616 ∧ d * V ≤ u ∧ (d = 18446744073709551616 - 1 ∨ u < (d + 1) * V) ∧ Ext w w'
set_option maxRecDepth 100000 in
set_option maxHeartbeats 8000000 in
theorem guess_ok (w : World) {z2 z1 z0 y1 y0 : Int} {u2 u1 u0 v1 v0 : Nat} [i1 : IsN z2 u2] [i2 : IsN z1 u1] [i3 : IsN z0 u0] [i4 : IsN y1 v1] [i5 : IsN y0 v0] (h2 : u2 < 18446744073709551616) (h1 : u1 < 18446744073709551616) (h0 : u0 < 18446744073709551616) (k1 : v1 < 18446744073709551616) (k0 : v0 < 18446744073709551616)
    (hv : 0 < v1) (hle : u2 < v1 ∨ u2 = v1 ∧ u1 ≤ v0) :
    Cl Tryz.prog 103 #[.int .u64 z2, .int .u64 z1, .int .u64 z0, .int .u64 y1, .int .u64 y0] w (RetGs w ((u2 * 18446744073709551616 + u1) * 18446744073709551616 + u0) (v1 * 18446744073709551616 + v0)) := by
  obtain rfl := i1.out
  obtain rfl := i2.out
  obtain rfl := i3.out
  obtain rfl := i4.out
  obtain rfl := i5.out
  obtain ⟨un, hun⟩ : ∃ un, un = u2 * 18446744073709551616 + u1 := ⟨_, rfl⟩
  rw [← hun]
  have hV1 : 0 < v1 * 18446744073709551616 + v0 := by omega
  refine enter Tryz.func103 rfl rfl rfl ?_
  have hF := Fr.refl w
  repeat' (first | (refine TL.isOp ?_; first | (apply TL.ev; (case hd => rfl); (case h => (first | exact ev_simple rfl)))) | (refine T.is ?_; first | refine T.seqM 2 rfl ?_ | refine T.region ?_ | refine T.scope ?_) | (refine G.is ?_; first | refine G.next ?_) | refine TL.nil ?_)
  refine T.cut (α := Nat × Nat) (fun x => [(2, .int .u64 (u0 : Int)), (3, .int .u64 (v1 : Int)), (4, .int .u64 (v0 : Int)), (11, .int .u64 (x.1 : Int)), (12, .int .u64 (x.2 : Int))])
    (fun x w' => x.1 * v1 + x.2 = un ∧ x.2 < 18446744073709551616 ∧ x.1 < 18446744073709551616 ∧ (x.1 = 18446744073709551616 - 1 ∨ un * 18446744073709551616 + u0 < (x.1 + 1) * (v1 * 18446744073709551616 + v0)) ∧ Fr w w' [] []) ?_ ?_
  · rcases Nat.lt_or_ge u2 v1 with hlt | hge
    · repeat' (first | (refine TL.isOp ?_; first | (refine TL.isCall ?_; refine TL.call rfl rfl ?_; first | (refine (div64_ok _ (hi := u2) (lo := u1) (y := v1) hlt h1 k1).mono ?_; rintro _ wd ⟨rfl, hE⟩; rw [← hun]; replace hF := hF.exts hE; clear hE; refine Back.mk ?_)) | (refine TL.isBin ?_; refine TL.cmpG rfl rfl rfl rfl (fun hc => ?_) (fun hc => ?_) <;> (try (first | (exfalso; omega) | exact absurd rfl hc))) | (apply TL.ev; (case hd => rfl); (case h => (first | exact ev_simple rfl)))) | (refine T.is ?_; first | refine T.seq ?_ | refine T.region ?_ | refine T.cond_f rfl ?_) | (refine G.is ?_; first | refine G.next ?_) | refine TL.nil ?_)
      have e1 := Nat.div_add_mod un v1
      rw [Nat.mul_comm] at e1
      exact G.cut (un / v1, un % v1) (by repeat (first | exact Sub.nil _ | refine Sub.cons rfl ?_ | refine Sub.cons' rfl (int_congr (by omega)) ?_)) ⟨e1, Nat.lt_trans (Nat.mod_lt _ hv) k1, Nat.div_lt_of_lt_mul (by omega), .inr (guess_top hv h0), hF⟩
    · obtain ⟨rfl, hle1⟩ : u2 = v1 ∧ u1 ≤ v0 := by omega
      repeat' (first | (refine TL.isOp ?_; first | (refine TL.isBin ?_; refine TL.cmpG rfl rfl rfl rfl (fun hc => ?_) (fun hc => ?_) <;> (try (first | (exfalso; omega) | exact absurd rfl hc))) | (apply TL.ev; (case hd => rfl); (case h => (first | exact ev_simple rfl))) | (refine TL.ev (ev_callx rfl (fun w => add64_run w (by omega))) rfl ?_)) | (refine T.is ?_; first | refine T.seq ?_ | refine T.region ?_ | refine T.cond_t rfl ?_ | refine T.cond_f rfl ?_ | refine T.ret ?_ | refine T.skip ?_) | (refine G.is ?_; first | refine G.next ?_ | refine G.scopeR ?_ | refine G.thenR ?_) | refine TL.nil ?_)
      · exact G.ret1 rfl rfl ⟨18446744073709551615, rfl, by omega, guess_big (rest := u1 + u2) (by omega) (by omega) k0 (by omega), .inl rfl, hF.ext⟩
      · exact G.cut (18446744073709551615, u1 + u2) (by repeat (first | exact Sub.nil _ | refine Sub.cons rfl ?_ | refine Sub.cons' rfl (int_congr (by omega)) ?_)) ⟨by dsimp only; omega, by dsimp only; omega, by dsimp only; omega, .inl rfl, hF⟩
  · clear hF
    rintro ⟨d0, r0⟩ w1 ⟨g1, g2, g3, g4, hF⟩
    dsimp only at g1 g2 g3 g4 hF ⊢
    repeat' (first | (refine T.is ?_; first | refine T.seq ?_ | refine T.block ?_ | refine T.label ?_) | (refine G.is ?_; first | refine G.next ?_))
    refine T.loop (α := Nat × Nat) (fun x => [(2, .int .u64 (u0 : Int)), (3, .int .u64 (v1 : Int)), (4, .int .u64 (v0 : Int)), (11, .int .u64 (x.1 : Int)), (12, .int .u64 (x.2 : Int))])
      (fun x w' => x.1 * v1 + x.2 = un ∧ x.2 < 18446744073709551616 ∧ x.1 < 18446744073709551616 ∧ (x.1 = 18446744073709551616 - 1 ∨ un * 18446744073709551616 + u0 < (x.1 + 1) * (v1 * 18446744073709551616 + v0)) ∧ Fr w w' [] []) (fun x => x.1) (d0, r0) (by repeat (first | exact Sub.nil _ | refine Sub.cons rfl ?_ | refine Sub.cons' rfl (int_congr (by omega)) ?_)) ⟨g1, g2, g3, g4, hF⟩ ?_
    clear hF g1 g2 g3 g4
    rintro ⟨d, r⟩ w2 ⟨g1, g2, g3, g4, hF⟩
    dsimp only at g1 g2 g3 g4 hF ⊢
    obtain ⟨p, hp⟩ : ∃ p, p = d * v0 := ⟨_, rfl⟩
    have hpW : p / 18446744073709551616 < 18446744073709551616 := by
      rw [hp]
      exact Nat.div_lt_of_lt_mul (Nat.mul_lt_mul'' g3 k0)
    have G1 := hide g1
    have G4 := hide g4
    have HU := hide hun
    have HV := hide hV1
    clear g1 g4 hun hV1 hle
    rcases Nat.lt_or_ge (r * 18446744073709551616 + u0) p with hcmp | hcmp
    · have hd0 : 0 < d := by
        rcases Nat.eq_zero_or_pos d with h | h
        · subst h; rw [Nat.zero_mul] at hp; omega
        · exact h
      have n1 : (d - 1) * v1 + (r + v1) = un := by
        obtain ⟨e, rfl⟩ : ∃ e, d = e + 1 := ⟨d - 1, by omega⟩
        have := G1 ()
        rw [Nat.add_mul, Nat.one_mul] at this
        rw [Nat.add_sub_cancel]; omega
      have n2 : un * 18446744073709551616 + u0 < (d - 1 + 1) * (v1 * 18446744073709551616 + v0) := by
        rw [Nat.sub_add_cancel hd0]
        exact guess_go (G1 ()) (by rw [← hp]; exact hcmp)
      have N1 := hide n1
      have N2 := hide n2
      clear n1 n2
      repeat' (first | (refine TL.isOp ?_; first | (refine TL.isG ?_; first | refine TL.grun rfl rfl rfl ?_ | refine TL.gskip rfl rfl rfl rfl ?_) | (refine TL.isCall ?_; refine TL.call rfl rfl ?_; first | (refine (mul64_ok _ g3 k0).cl.mono ?_; rintro _ _ ⟨rfl, q1, rfl⟩; rw [← hp]; replace hF := hF.exts (ext_drewN _ q1); refine Back.mk ?_)) | (refine TL.isBin ?_; refine TL.cmpG rfl rfl rfl rfl (fun hc => ?_) (fun hc => ?_) <;> (try (first | (exfalso; omega) | exact absurd rfl hc))) | (apply TL.ev; (case hd => rfl); (case h => (first | exact ev_simple rfl | exact ev_subU rfl rfl ⟨by omega, by omega⟩))) | (refine TL.ev (ev_callx rfl (fun w => add64_run w (by omega))) rfl ?_)) | (refine T.is ?_; first | refine T.seq ?_ | refine T.region ?_ | refine T.block ?_ | refine T.cond_t rfl ?_ | refine T.cond_f rfl ?_ | refine T.exit ?_ | refine T.ret ?_ | refine T.skip ?_) | (refine G.is ?_; first | refine G.next ?_ | refine G.scopeR ?_ | refine G.blockN ?_ | refine G.blockE ?_ | refine G.blockE' rfl ?_ | refine G.thenE ?_) | refine TL.nil ?_)
      all_goals first
        | exact G.ret1 rfl rfl ⟨d - 1, rfl, by omega, guess_big (N1 ()) (by omega) k0 (by omega), .inr (N2 ()), hF.ext⟩
        | exact G.again (d - 1, r + v1) (by repeat (first | exact Sub.nil _ | refine Sub.cons rfl ?_ | refine Sub.cons' rfl (int_congr (by omega)) ?_)) ⟨N1 (), by dsimp only; omega, by dsimp only; omega, .inr (N2 ()), hF⟩ (by dsimp only; omega)
    · repeat' (first | (refine TL.isOp ?_; first | (refine TL.isG ?_; first | refine TL.grun rfl rfl rfl ?_) | (refine TL.isCall ?_; refine TL.call rfl rfl ?_; first | (refine (mul64_ok _ g3 k0).cl.mono ?_; rintro _ _ ⟨rfl, q1, rfl⟩; rw [← hp]; replace hF := hF.exts (ext_drewN _ q1); refine Back.mk ?_)) | (refine TL.isBin ?_; refine TL.cmpG rfl rfl rfl rfl (fun hc => ?_) (fun hc => ?_) <;> (try (first | (exfalso; omega) | exact absurd rfl hc))) | (apply TL.ev; (case hd => rfl); (case h => (first | exact ev_simple rfl)))) | (refine T.is ?_; first | refine T.seq ?_ | refine T.region ?_ | refine T.block ?_ | refine T.cond_t rfl ?_ | refine T.cond_f rfl ?_ | refine T.exit ?_ | refine T.ret ?_ | refine T.skip ?_) | (refine G.is ?_; first | refine G.next ?_ | refine G.scopeR ?_ | refine G.blockE ?_ | refine G.blockE' rfl ?_ | refine G.thenE ?_) | refine TL.nil ?_)
      all_goals exact G.ret1 rfl rfl ⟨d, rfl, g3, guess_stop (G1 ()) (by rw [← hp]; exact hcmp), G4 (), hF.ext⟩
end Go.Proofs.YthlbihbchobllaaGreat

namespace Go.NatM
theorem top_le {u2 u1 u0 v1 v0 P sl vl : Nat} (h1 : u1 < 18446744073709551616) (hv : vl < P) (h : sl + P * (u0 + 18446744073709551616 * (u1 + 18446744073709551616 * u2)) < (vl + P * (v0 + 18446744073709551616 * v1)) * 18446744073709551616) (h0 : v0 < 18446744073709551616) : u2 < v1 ∨ u2 = v1 ∧ u1 ≤ v0 := by
  have key : u2 * 18446744073709551616 + u1 ≤ v1 * 18446744073709551616 + v0 := by
    rcases Nat.lt_or_ge (v1 * 18446744073709551616 + v0) (u2 * 18446744073709551616 + u1) with h2 | h2
    · exfalso
      have a1 : P * ((v1 * 18446744073709551616 + v0 + 1) * 18446744073709551616) ≤ P * (u0 + 18446744073709551616 * (u1 + 18446744073709551616 * u2)) := Nat.mul_le_mul_left P (by omega)
      have a2 : P * ((v1 * 18446744073709551616 + v0 + 1) * 18446744073709551616) = P * (v0 + 18446744073709551616 * v1) * 18446744073709551616 + P * 18446744073709551616 := by
        rw [← Nat.mul_assoc, Nat.mul_add P, Nat.mul_one, Nat.add_mul, Nat.mul_comm v1, Nat.add_comm (18446744073709551616 * v1)]
      rw [Nat.add_mul] at h
      omega
    · exact h2
  omega
theorem top_norm {V : List Nat} {n y : Nat} (hu : U64 V) (hl : V.length = n + 1) (h : 9223372036854775808 * 18446744073709551616 ^ n ≤ val V) : 9223372036854775808 ≤ V.getD n 0 := by
  have h1 := val_split V n
  rw [val_drop, List.drop_of_length_le (show V.length ≤ n + 1 by omega)] at h1
  simp only [val, Nat.mul_zero, Nat.add_zero] at h1
  have h2 := hu.take_lt n
  rcases Nat.lt_or_ge (V.getD n 0) 9223372036854775808 with h3 | h3
  · exfalso
    have h4 : 18446744073709551616 ^ n * (V.getD n 0 + 1) ≤ 18446744073709551616 ^ n * 9223372036854775808 := Nat.mul_le_mul_left _ h3
    rw [Nat.mul_add, Nat.mul_one] at h4
    rw [Nat.mul_comm] at h
    omega
  · exact h3
/-- the divisor times a power of 2 fits, and fills its words -/
theorem norm_fit {l : List Nat} {n s : Nat} (hu : U64 l) (hl : l.length = n + 1) (hs : s = 64 - bl (l.getD n 0)) (h0 : 0 < l.getD n 0) : val l * 2 ^ s < 18446744073709551616 ^ (n + 1) ∧ 9223372036854775808 * 18446744073709551616 ^ n ≤ val l * 2 ^ s := by
  have h1 := val_split l n
  rw [val_drop, List.drop_of_length_le (show l.length ≤ n + 1 by omega)] at h1
  simp only [val, Nat.mul_zero, Nat.add_zero] at h1
  have h2 := hu.take_lt n
  have hy := hu.getD n
  generalize l.getD n 0 = y at *
  have b1 : bl y ≤ 64 := bl_le.2 (by omega)
  have b2 := lt_two_pow_bl y
  have b3 := two_pow_bl_le (n := y) (by omega)
  have b4 : bl y ≠ 0 := fun h => by rw [h] at b2; omega
  constructor
  · have a1 : val l < 18446744073709551616 ^ n * 2 ^ bl y := by
      have : 18446744073709551616 ^ n * (y + 1) ≤ 18446744073709551616 ^ n * 2 ^ bl y := Nat.mul_le_mul_left _ b2
      rw [Nat.mul_add, Nat.mul_one] at this
      omega
    have a2 := Nat.mul_lt_mul_of_pos_right a1 (Nat.two_pow_pos s)
    rw [Nat.mul_assoc, ← Nat.pow_add, hs, show bl y + (64 - bl y) = 64 by omega] at a2
    rw [Nat.pow_succ, hs]
    exact a2
  · have a1 : 18446744073709551616 ^ n * 2 ^ (bl y - 1) ≤ val l := by
      have : 18446744073709551616 ^ n * 2 ^ (bl y - 1) ≤ 18446744073709551616 ^ n * y := Nat.mul_le_mul_left _ b3
      omega
    have a2 := Nat.mul_le_mul_right (2 ^ s) a1
    rw [Nat.mul_assoc, ← Nat.pow_add, hs, show bl y - 1 + (64 - bl y) = 63 by omega] at a2
    rw [Nat.mul_comm, hs]
    exact a2
theorem val_mid {P S T : List Nat} {j n : Nat} (hP : P.length = j) (hS : S.length = n) : val (P ++ (S ++ T)) = val P + 18446744073709551616 ^ j * (val S + 18446744073709551616 ^ n * val T) := by rw [val_append, val_append, hP, hS]
/-- what lies above the window is 0 -/
theorem mid_zero {P S T : List Nat} {j n Y : Nat} (hP : P.length = j) (hS : S.length = n + 1) (hY : Y < 18446744073709551616 ^ n) (h : val (P ++ (S ++ T)) < Y * 18446744073709551616 ^ (j + 1)) : val T = 0 ∧ val S < Y * 18446744073709551616 := by
  rw [val_mid hP hS] at h
  constructor
  · rcases Nat.eq_zero_or_pos (val T) with h1 | h1
    · exact h1
    · exfalso
      have a1 : 18446744073709551616 ^ (n + 1) * 1 ≤ 18446744073709551616 ^ (n + 1) * val T := Nat.mul_le_mul_left _ h1
      have a2 : 18446744073709551616 ^ j * 18446744073709551616 ^ (n + 1) ≤ 18446744073709551616 ^ j * (val S + 18446744073709551616 ^ (n + 1) * val T) := Nat.mul_le_mul_left _ (by omega)
      have a3 : Y * 18446744073709551616 ^ (j + 1) ≤ 18446744073709551616 ^ n * 18446744073709551616 ^ (j + 1) := Nat.mul_le_mul_right _ (Nat.le_of_lt hY)
      rw [← Nat.pow_add] at a2 a3
      rw [show n + (j + 1) = j + (n + 1) by omega] at a3
      omega
  · have a1 : 18446744073709551616 ^ j * val S ≤ 18446744073709551616 ^ j * (val S + 18446744073709551616 ^ (n + 1) * val T) := Nat.mul_le_mul_left _ (Nat.le_add_right _ _)
    have e : Y * 18446744073709551616 ^ (j + 1) = 18446744073709551616 ^ j * (Y * 18446744073709551616) := by rw [Nat.pow_succ, Nat.mul_left_comm]
    rw [e] at h
    have a2 : 18446744073709551616 ^ j * val S < 18446744073709551616 ^ j * (Y * 18446744073709551616) := by omega
    exact Nat.lt_of_mul_lt_mul_left a2
/-- a digit further -/
theorem mid_step {P S D T Q : List Nat} {j n Y X d : Nat} (hP : P.length = j) (hS : S.length = n + 1) (hD : D.length = n + 1) (hU : U64 P) (hT : val T = 0) (hX : val (P ++ (S ++ T)) + Y * val Q = X) (hq : j < Q.length) (h0 : Q.getD j 0 = 0) (hY : 0 < Y) (hd : d = val S / Y) (hr : val D = val S % Y) :
    val (P ++ (D ++ T)) + Y * val (Q.set j d) = X ∧ val (P ++ (D ++ T)) < Y * 18446744073709551616 ^ j := by
  have hs := val_set Q j d hq
  rw [h0, Nat.mul_zero, Nat.add_zero] at hs
  rw [val_mid hP hS, hT, Nat.mul_zero, Nat.add_zero] at hX
  rw [val_mid hP hD, hT, Nat.mul_zero, Nat.add_zero, hs, hd, hr]
  have hm := Nat.div_add_mod (val S) Y
  have hl := Nat.mod_lt (val S) hY
  have hp := val_lt hU
  rw [hP] at hp
  generalize val S / Y = q at *
  generalize val S % Y = r at *
  constructor
  · rw [← hX, ← hm, Nat.mul_add, Nat.mul_add, Nat.mul_left_comm Y (18446744073709551616 ^ j) q]
    omega
  · have a1 : 18446744073709551616 ^ j * (r + 1) ≤ 18446744073709551616 ^ j * Y := Nat.mul_le_mul_left _ hl
    rw [Nat.mul_add, Nat.mul_one] at a1
    rw [Nat.mul_comm Y]
    omega
theorem div_end {z Y q X y x p : Nat} (h : z + Y * q = X) (hz : z < Y) (hX : X = x * p) (hY : Y = y * p) (hp : 0 < p) : q = x / y ∧ z / p = x % y := by
  have hY0 : 0 < Y := by omega
  have h1 : q = X / Y := by rw [← h, Nat.add_mul_div_left _ _ hY0, Nat.div_eq_of_lt hz, Nat.zero_add]
  have h2 : z = X % Y := by rw [← h, Nat.add_mul_mod_self_left, Nat.mod_eq_of_lt hz]
  rw [h1, h2, hX, hY, Nat.mul_div_mul_right _ _ hp, Nat.mul_mod_mul_right, Nat.mul_div_cancel _ hp]
  exact ⟨rfl, rfl⟩
theorem digit_bounds {u2 u1 u0 v1 v0 sl vl P S Y d : Nat} (hS : S = sl + P * (u0 + 18446744073709551616 * (u1 + 18446744073709551616 * u2))) (hY : Y = vl + P * (v0 + 18446744073709551616 * v1)) (hsl : sl < P) (hvl : vl < P) (hv1 : 9223372036854775808 ≤ v1) (hSY : S < Y * 18446744073709551616)
    (hd : d < 18446744073709551616) (h1 : d * (v1 * 18446744073709551616 + v0) ≤ (u2 * 18446744073709551616 + u1) * 18446744073709551616 + u0) (h2 : d = 18446744073709551616 - 1 ∨ (u2 * 18446744073709551616 + u1) * 18446744073709551616 + u0 < (d + 1) * (v1 * 18446744073709551616 + v0)) : S / Y ≤ d ∧ d ≤ S / Y + 1 := by
  have e1 : S = ((u2 * 18446744073709551616 + u1) * 18446744073709551616 + u0) * P + sl := by
    rw [hS, Nat.add_comm, Nat.mul_comm P]; congr 2; omega
  have e2 : Y = (v1 * 18446744073709551616 + v0) * P + vl := by rw [hY, Nat.add_comm, Nat.mul_comm P]; congr 2; omega
  rw [e1, e2] at hSY ⊢
  exact qhat (by omega) hsl hvl (by omega) hSY hd h1 h2
theorem lent_pos {D1 d Y S M : Nat} (h : D1 + d * Y = S + M) (h1 : D1 < M) : 1 ≤ d := by
  rcases Nat.eq_zero_or_pos d with h0 | h0
  · subst h0; rw [Nat.zero_mul] at h; omega
  · exact h0
theorem lent_pos2 {D1 S V : List Nat} {d n : Nat} {b : Bool} (h : val D1 + d * val V = val S + 18446744073709551616 ^ n * (if b = true then 1 else 0)) (hb : b = true) (hD : D1.length = n) (hu : U64 D1) : 1 ≤ d := by
  rw [if_pos hb, Nat.mul_one] at h
  exact lent_pos h (by rw [← hD]; exact val_lt hu)
theorem win_getD {P S T : List Nat} {j i n : Nat} (hP : P.length = j) (hS : S.length = n) (hi : i < n) : (P ++ (S ++ T)).getD (j + i) 0 = S.getD i 0 := by
  simp only [List.getD]
  rw [List.getElem?_append_right (by omega), show j + i - P.length = i by omega, List.getElem?_append_left (by omega)]
end Go.NatM
namespace Go.Proofs.YthlbihbchobllaaGreat
open Go Go.Eng Go.Proofs Go.NatM Go.RowKit
theorem owBk {H : Array Obj} {lo : Nat} {t : TypeId} {g n : Nat} {l : List Nat} (h : Ow u64v H lo t (some ⟨g, 0, none⟩) n n l) : Bk u64v H g t l := by
  rcases (ow_iff.1 h).2 with ⟨e, _⟩ | ⟨g', cur, e, _, hg, _, _, hc, ht⟩
  · cases e
  · cases e
    unfold Bk
    rw [← ht, List.take_of_length_le (by simp [hc])]
    simpa using hg
theorem bkOw {H : Array Obj} {lo : Nat} {t : TypeId} {g n : Nat} {l : List Nat} (h : Bk u64v H g t l) (hl : l.length = n) (hn : n ≤ maxLen) (hlo : lo ≤ g) : Ow u64v H lo t (some ⟨g, 0, none⟩) n n l := by
  have := h.ow (lo := lo) (k := l.length) (c := n) (Nat.le_refl _) hl.symm (by omega) hlo
  rw [List.take_length, hl] at this
  exact this
/-- a list is written over in its block -/
theorem Fk.bk {S : Nat → Prop} {w0 w w' : World} {L : List VB} {D D' : List DK} {t : TypeId} {g n : Nat} {l l' : List Nat} (h : Fk S w0 w L D) (hS : SetD D (dkO t (some ⟨g, 0, none⟩) n n l) (dkO t (some ⟨g, 0, none⟩) n n l') D') (hB : Bk u64v w'.heap g t l') (hl : l'.length = n) (hn : n ≤ maxLen) (hU : Upd g w w') : Fk S w0 w' L D' :=
  h.storeO hS (hU.exs.mono fun k _ e => by rw [e]) (bkOw hB hl hn (Nat.zero_le _))
/-- a window of a block known whole -/
theorem ev_sl_win {P : Program} {σ : Store} {H : Array Obj} {d : Option Tmp} {t : TypeId} {pos : String} {af : Array Edge} {gd : Option (Nat × Bool)} {x : Operand} {g N j m h : Nat} {ty e : TypeId} [hT : USlice P ty e] {z : Value} {b1 : Nat} [hS : USize P e z 1 b1] {y u : Operand} {k k' : IntKind} {z1 z2 : Int} [e1 : IsN z1 j] [e2 : IsN z2 h]
    (hx : Eng.look σ x = some (.slice (some ⟨g, 0, none⟩) N N)) (hy : Eng.look σ y = some (.int k z1)) (hu : Eng.look σ u = some (.int k' z2)) (hh : h = j + m) (hN : j + m ≤ N) (hj : j < N) : Ev P σ H ⟨d, .slice ty x (some y) (some u) none, t, pos, af, gd⟩ (.slice (some ⟨g, j, none⟩) m (N - j)) := by
  have := ev_sl_lh (P := P) (σ := σ) (H := H) (d := d) (t := t) (pos := pos) (af := af) (gd := gd) (ty := ty) (e := e) (z := z) (b1 := b1) (l := j) (h := h) hx hy hu (by omega) (by omega)
  have e3 : cutA (some (⟨g, 0, none⟩ : Addr)) N j = some ⟨g, j, none⟩ := by unfold cutA; rw [if_neg (by omega)]; simp [elemA, add_mk]
  rw [e3, hh, Nat.add_sub_cancel_left] at this
  exact this
def RetLong (w : World) (x y m : Nat) (e : Ending) (w' : World) : Prop := ∃ A n c A' n' c', e = .returned (.tuple #[.slice A n c, .slice A' n' c']) ∧ Ow u64v w'.heap w.heap.size 45 A n c (dig (x / y)) ∧ Ow u64v w'.heap w.heap.size 45 A' n' c' (dig (x % y)) ∧ Ext w w' ∧ n ≤ m ∧ n' ≤ m
set_option maxRecDepth 100000 in
set_option maxHeartbeats 16000000 in
theorem dlong_ok (w : World) (B B' : Nat) (A A' : Option Addr) (m c n c' : Nat) (lx ly : List Nat) (hs : Sl u64v w.heap B A m c lx) (hs' : Sl u64v w.heap B' A' n c' ly) (hu : U64 lx) (hu' : U64 ly) (hm : m ≤ 8796093022208) (hn2 : 2 ≤ n) (htop : 0 < ly.getD (n - 1) 0) (hle : val ly ≤ val lx) :
    Cl Tryz.prog 99 #[.slice A m c, .slice A' n c'] w (RetLong w (val lx) (val ly) m) := by
  have hlx := hs.len
  have hly := hs'.len
  replace hs := hs.size
  replace hs' := hs'.size
  obtain ⟨n0, rfl⟩ : ∃ n0, n = n0 + 1 := ⟨n - 1, by omega⟩
  rw [Nat.add_sub_cancel] at htop
  obtain ⟨s, es⟩ : ∃ s, s = 64 - bl (ly.getD n0 0) := ⟨_, rfl⟩
  have hyW := hu'.getD n0
  obtain ⟨hs64, _, _⟩ := half_shift es htop hyW
  obtain ⟨hfit, hnorm⟩ := norm_fit hu' hly es htop
  have hmn : n0 + 1 ≤ m := by
    have h1 := val_lt hu
    rw [hlx] at h1
    have h2 : 18446744073709551616 ^ n0 ≤ val ly := by
      have := val_split ly n0
      rw [val_drop] at this
      have h3 : 18446744073709551616 ^ n0 * 1 ≤ 18446744073709551616 ^ n0 * (ly.getD n0 0 + 18446744073709551616 * val (ly.drop (n0 + 1))) := Nat.mul_le_mul_left _ (by omega)
      omega
    have h3 : 18446744073709551616 ^ n0 < 18446744073709551616 ^ m := by omega
    have := (Nat.pow_lt_pow_iff_right (by omega : 1 < 18446744073709551616)).1 h3
    omega
  have hfitx : val lx * 2 ^ s < 18446744073709551616 ^ (m + 1) := by
    have h1 := val_lt hu
    rw [hlx] at h1
    have h2 := Nat.mul_lt_mul_of_pos_right h1 (Nat.two_pow_pos s)
    have h3 : 18446744073709551616 ^ m * 2 ^ s ≤ 18446744073709551616 ^ m * 18446744073709551616 := Nat.mul_le_mul_left _ (show 2 ^ s ≤ 2 ^ 64 from Nat.pow_le_pow_right (by omega) (by omega))
    rw [Nat.pow_succ]
    omega
  refine enter Tryz.func99 rfl rfl rfl ?_
  have hF := Fk.refl (fun _ => False) w
  have hn0 : n0 < n0 + 1 := by omega
  repeat' (first | (refine TL.isOp ?_; first | (refine TL.isCall ?_; refine TL.call rfl rfl ?_; first | (refine (lead_ok _ hyW).mono ?_; rintro _ wl ⟨rfl, hE⟩; rw [← es]; replace hF := hF.exts hE; clear hE; refine Back.mk ?_) | (refine (shifted_ok _ _ A' (n0 + 1) c' ly (s := s) (m := n0 + 1) (hs'.ext hF.ext) hu' hs64 (by omega) (by omega) hfit).mono ?_; rintro _ wv ⟨bv, V, rfl, hbv, hBV, hV, hVu, hVv, hE⟩; replace hF := hF.addO hE (bkOw hBV hV (by unfold maxLen; omega) hbv); clear hE hBV hbv; refine Back.mk ?_) | (refine (shifted_ok _ _ A m c lx (s := s) (m := m + 1) (hs.ext hF.ext) hu hs64 (by omega) (by omega) hfitx).mono ?_; rintro _ wx ⟨bu, Z0, rfl, hbu, hBZ, hZ, hZu, hZv, hE⟩; replace hF := hF.addO hE (bkOw hBZ hZ (by unfold maxLen; omega) hbu); clear hE hBZ hbu; refine Back.mk ?_)) | (apply TL.ev; (case hd => rfl); (case h => (first | exact ev_simple rfl | (apply Ev.isBin; first | exact ev_arN rfl rfl rfl (by omega)) | (apply Ev.isLoad; first | exact ev_loadU rfl (hs'.ext hF.ext) hn0) | exact ev_len rfl | exact ev_convU rfl (by omega) | exact ev_indexN rfl rfl hn0 (hs'.ext hF.ext).some))) | (refine TL.makeOw hF rfl rfl rfl (by omega) ?_; clear hF; intro w10 b10 hF)) | (refine T.is ?_; first | refine T.seqL 7 rfl ?_ | refine T.region ?_ | refine T.block ?_) | (refine G.is ?_; first | refine G.next ?_) | refine TL.nil ?_)
  have hbvu : bv ≠ bu := fun e => Fk.two hF (D1 := [_, _]) (d := dkO 45 (some ⟨bv, 0, none⟩) (n0 + 1) (n0 + 1) V) rfl (.inl (List.mem_cons_of_mem _ (List.mem_cons_self ..))) bv (dkO_fp.2 rfl) (dkO_fp.2 (by rw [e]))
  obtain ⟨e, rfl⟩ : ∃ e, n0 = e + 1 := ⟨n0 - 1, by omega⟩
  obtain ⟨Y, hY⟩ : ∃ Y, Y = val V := ⟨_, rfl⟩
  obtain ⟨X, hX⟩ : ∃ X, X = val Z0 := ⟨_, rfl⟩
  have hv1 := top_norm (y := 0) hVu hV (by rw [hVv]; exact hnorm)
  have hv1W := hVu.getD (e + 1)
  have hv0W := hVu.getD e
  have hVt := val_top2 hV
  have hVl := hVu.take_lt e
  have hYW : Y < 18446744073709551616 ^ (e + 1 + 1) := by rw [hY, hVv]; exact hfit
  have hY0 : 0 < Y := by
    have h1 : 0 < 18446744073709551616 ^ (e + 1) := Nat.pow_pos (by omega)
    have h2 : 18446744073709551616 ^ (e + 1) ≤ 9223372036854775808 * 18446744073709551616 ^ (e + 1) := Nat.le_mul_of_pos_left _ (by omega)
    rw [hY, hVv]; omega
  rw [← hY] at hVt
  obtain ⟨v1, ev1⟩ : ∃ v1, v1 = V.getD (e + 1) 0 := ⟨_, rfl⟩
  obtain ⟨v0, ev0⟩ : ∃ v0, v0 = V.getD e 0 := ⟨_, rfl⟩
  obtain ⟨vl, evl⟩ : ∃ vl, vl = val (V.take e) := ⟨_, rfl⟩
  rw [← ev1] at hv1 hv1W hVt
  rw [← ev0] at hv0W hVt
  rw [← evl] at hVl hVt
  have hX0 : X < Y * 18446744073709551616 ^ (m - (e + 1 + 1) + 1) := by
    rw [hX, hY, hVv, hZv]
    have h1 := val_lt hu
    rw [hlx] at h1
    have h2 : val lx * 2 ^ s < 18446744073709551616 ^ m * 2 ^ s := Nat.mul_lt_mul_of_pos_right h1 (Nat.two_pow_pos s)
    have h3 : 18446744073709551616 ^ m * 2 ^ s ≤ 18446744073709551616 ^ m * 9223372036854775808 := Nat.mul_le_mul_left _ (show 2 ^ s ≤ 2 ^ 63 from Nat.pow_le_pow_right (by omega) (by omega))
    have h4 := Nat.mul_le_mul_right (18446744073709551616 ^ (m - (e + 1 + 1) + 1)) hnorm
    have h5 : 9223372036854775808 * 18446744073709551616 ^ (e + 1) * 18446744073709551616 ^ (m - (e + 1 + 1) + 1) = 18446744073709551616 ^ m * 9223372036854775808 := by
      rw [Nat.mul_assoc, ← Nat.pow_add, show e + 1 + (m - (e + 1 + 1) + 1) = m by omega, Nat.mul_comm]
    omega
  have HYW := hide hYW
  have HVt := hide hVt
  have HVl := hide hVl
  have HX0 := hide hX0
  have HZv := hide hZv
  have HVv := hide hVv
  clear hYW hVt hVl hX0 hfit hfitx hnorm
  refine T.loop (α := Nat × List Nat × List Nat) (fun x => [(6, .int .i64 ((e + 1 + 1 : Nat) : Int)), (7, .int .u64 (s : Int)), (8, .slice (some ⟨bv, 0, none⟩) (e + 1 + 1) (e + 1 + 1)), (9, .slice (some ⟨bu, 0, none⟩) (m + 1) (m + 1)), (10, .slice (some ⟨b10, 0, none⟩) (m - (e + 1 + 1) + 1) (m - (e + 1 + 1) + 1)), (11, .int .i64 ((x.1 : Int) - 1))])
    (fun x w' => x.1 ≤ m - (e + 1 + 1) + 1 ∧ x.2.1.length = m + 1 ∧ U64 x.2.1 ∧ x.2.2.length = m - (e + 1 + 1) + 1 ∧ U64 x.2.2 ∧ (∀ i, i < x.1 → x.2.2.getD i 0 = 0) ∧ (Unit → val x.2.1 + Y * val x.2.2 = X) ∧ (Unit → val x.2.1 < Y * 18446744073709551616 ^ x.1) ∧
      Fk (fun _ => False) w w' [] [dkO 45 (some ⟨b10, 0, none⟩) (m - (e + 1 + 1) + 1) (m - (e + 1 + 1) + 1) x.2.2, dkO 45 (some ⟨bu, 0, none⟩) (m + 1) (m + 1) x.2.1, dkO 45 (some ⟨bv, 0, none⟩) (e + 1 + 1) (e + 1 + 1) V])
    (fun x => x.1) (m - (e + 1 + 1) + 1, Z0, List.replicate (m - (e + 1 + 1) + 1) 0) (by repeat (first | exact Sub.nil _ | refine Sub.cons rfl ?_ | refine Sub.cons' rfl (int_congr (by omega)) ?_)) ⟨Nat.le_refl _, hZ, hZu, by simp, U64.replicate _, fun i _ => by simp [List.getD, List.getElem?_replicate]; split <;> rfl, fun _ => by dsimp only; rw [val_zeros, Nat.mul_zero, Nat.add_zero]; exact hX.symm, fun _ => by dsimp only; rw [← hX]; exact HX0 (), hF⟩ ?_
  clear hF hZ hZu
  rintro ⟨t, Z, Q⟩ w2 ⟨ht, hZ, hZu, hQ, hQu, hQ0, hsum, hlt, hF⟩
  dsimp only at ht hZ hZu hQ hQu hQ0 hsum hlt hF ⊢
  rcases Nat.eq_zero_or_pos t with h0 | h0
  · subst h0
    have hz := hlt ()
    rw [Nat.pow_zero, Nat.mul_one] at hz
    obtain ⟨hq, hr⟩ := div_end (hsum ()) hz (hX.trans (HZv ())) (hY.trans (HVv ())) (Nat.two_pow_pos s)
    have hsm : val (Z.take (e + 1 + 1)) = val Z := val_small hZu (Nat.lt_trans hz (HYW ()))
    have hcap : e + 1 + 1 ≤ m + 1 := by omega
    have hsz : m - (e + 1 + 1) + 1 ≤ m := by omega
    repeat' (first | (refine TL.isOp ?_; first | (refine TL.isCall ?_; refine TL.call rfl rfl ?_; first | (refine (shr_ok _ _ (some ⟨bu, 0, none⟩) (e + 1 + 1) (m + 1) (Z.take (e + 1 + 1)) (k := s) ((hF.sl (by ((repeat (first | apply kmemH | apply kmemT)); done))).take hcap hcap) (hZu.take _) (by omega) (by omega)).mono ?_; rintro _ wr ⟨A3, n3, c3, rfl, hO3, hE3, hK3⟩; rw [hsm, hr] at hO3; replace hO3 := hO3.mono hF.exs.size; have hE0 := hF.ext; replace hF := hF.exts hE3; clear hE3; refine Back.mk ?_) | (refine (least_ok _ _ (some ⟨b10, 0, none⟩) (m - (e + 1 + 1) + 1) (m - (e + 1 + 1) + 1) Q (hF.sl (by ((repeat (first | apply kmemH | apply kmemT)); done))) hQu (by omega)).mono ?_; rintro _ wq ⟨A4, n4, c4, rfl, hO4, hE4, hK4⟩; rw [hq] at hO4; replace hO4 := hO4.mono hF.exs.size; replace hO3 := hO3.ext hE4; replace hF := hF.exts hE4; clear hE4; refine Back.mk ?_)) | (refine TL.isBin ?_; refine TL.cmpG rfl rfl rfl rfl (fun hc => ?_) (fun hc => ?_) <;> (try (first | (exfalso; omega) | exact absurd rfl hc))) | (apply TL.ev; (case hd => rfl); (case h => (first | exact ev_simple rfl | (apply Ev.isSlice; first | exact ev_sl_h rfl rfl (by omega)) | exact ev_convI rfl (by omega))))) | (refine T.is ?_; first | refine T.seq ?_ | refine T.region ?_ | refine T.cond_f rfl ?_ | refine T.exit ?_ | refine T.ret ?_) | (refine G.is ?_; first | refine G.next ?_ | refine G.blockE ?_ | refine G.thenE ?_) | refine TL.nil ?_)
    exact G.ret2 rfl rfl rfl ⟨A4, n4, c4, A3, n3, c3, rfl, hO4, hO3, hF.ext, by omega, by omega⟩
  · obtain ⟨j, rfl⟩ : ∃ j, t = j + 1 := ⟨t - 1, by omega⟩
    have e1 : ((j + 1 : Nat) : Int) - 1 = (j : Int) := by omega
    rw [e1]
    obtain ⟨P, S, T', rfl, hP, hS⟩ : ∃ P S T', Z = P ++ (S ++ T') ∧ P.length = j ∧ S.length = (e + 1 + 1) + 1 := ⟨Z.take j, (Z.drop j).take (e + 1 + 1 + 1), (Z.drop j).drop (e + 1 + 1 + 1), by rw [List.take_append_drop, List.take_append_drop], by rw [List.length_take]; omega, by rw [List.length_take, List.length_drop]; omega⟩
    obtain ⟨hT0, hSY⟩ := mid_zero hP hS (HYW ()) (hlt ())
    have hPu : U64 P := fun x hx => hZu x (List.mem_append_left _ hx)
    have hSu : U64 S := fun x hx => hZu x (List.mem_append_right _ (List.mem_append_left _ hx))
    have hTu : U64 T' := fun x hx => hZu x (List.mem_append_right _ (List.mem_append_right _ hx))
    have g2 : (P ++ (S ++ T')).getD (j + (e + 1 + 1)) 0 = S.getD (e + 2) 0 := win_getD hP hS (by omega)
    have g1 : (P ++ (S ++ T')).getD (j + (e + 1 + 1) - 1) 0 = S.getD (e + 1) 0 := win_getD (i := e + 1) hP hS (by omega)
    have g0 : (P ++ (S ++ T')).getD (j + (e + 1 + 1) - 2) 0 = S.getD e 0 := win_getD (i := e) hP hS (by omega)
    have hS3 := val_top3 hS
    have hSl := hSu.take_lt e
    have x2 := hSu.getD (e + 2)
    have x1 := hSu.getD (e + 1)
    have x0 := hSu.getD e
    obtain ⟨u2, eu2⟩ : ∃ u2, S.getD (e + 2) 0 = u2 := ⟨_, rfl⟩
    obtain ⟨u1, eu1⟩ : ∃ u1, S.getD (e + 1) 0 = u1 := ⟨_, rfl⟩
    obtain ⟨u0, eu0⟩ : ∃ u0, S.getD e 0 = u0 := ⟨_, rfl⟩
    rw [eu2] at g2 hS3 x2
    rw [eu1] at g1 hS3 x1
    rw [eu0] at g0 hS3 x0
    have hgl : u2 < v1 ∨ u2 = v1 ∧ u1 ≤ v0 := by
      have h1 := hSY
      rw [hS3, HVt ()] at h1
      exact top_le x1 (HVl ()) h1 hv0W
    have hi2 : j + (e + 1 + 1) < m + 1 := by omega
    have hi1 : j + (e + 1 + 1) - 1 < m + 1 := by omega
    have hi0 : j + (e + 1 + 1) - 2 < m + 1 := by omega
    have hvi1 : e + 1 + 1 - 1 < e + 1 + 1 := by omega
    have hvi0 : e + 1 + 1 - 2 < e + 1 + 1 := by omega
    have gv1 : V.getD (e + 1 + 1 - 1) 0 = v1 := ev1.symm
    have gv0 : V.getD (e + 1 + 1 - 2) 0 = v0 := ev0.symm
    have hwin : j + (e + 1 + 1 + 1) ≤ m + 1 := by omega
    have hwc : e + 1 + 1 + 1 ≤ m + 1 - j := by omega
    have hjm : j < m + 1 := by omega
    have hjq : j < m - (e + 1 + 1) + 1 := by omega
    have hoff : Off bu (e + 1 + 1) (some (⟨bv, 0, none⟩ : Addr)) := .inr fun a ha => by cases ha; exact hbvu
    have hnew : ∀ D : List Nat, D.length = e + 1 + 1 + 1 → (P ++ (D ++ T')).length = m + 1 := fun D hD => by
      have h1 := hZ
      rw [List.length_append, List.length_append] at h1 ⊢
      omega
    have hmx : m + 1 ≤ maxLen := by unfold maxLen; omega
    have hv10 : 0 < v1 := by omega
    have hMS : val S < 18446744073709551616 ^ (e + 1 + 1 + 1) := by rw [← hS]; exact val_lt hSu
    have hdig := fun d (hd : d < 18446744073709551616) h1 h2 => digit_bounds (d := d) hS3 (HVt ()) hSl (HVl ()) hv1 hSY hd h1 h2
    have hgo : ∀ (D : List Nat) (d : Nat) (W : World), D.length = e + 1 + 1 + 1 → U64 D → d < 18446744073709551616 → d = val S / Y → val D = val S % Y → Fk (fun _ => False) w W [] [dkO 45 (some ⟨b10, 0, none⟩) (m - (e + 1 + 1) + 1) (m - (e + 1 + 1) + 1) (Q.set j d), dkO 45 (some ⟨bu, 0, none⟩) (m + 1) (m + 1) (P ++ (D ++ T')), dkO 45 (some ⟨bv, 0, none⟩) (e + 1 + 1) (e + 1 + 1) V] →
        (j ≤ m - (e + 1 + 1) + 1 ∧ (P ++ (D ++ T')).length = m + 1 ∧ U64 (P ++ (D ++ T')) ∧ (Q.set j d).length = m - (e + 1 + 1) + 1 ∧ U64 (Q.set j d) ∧ (∀ i, i < j → (Q.set j d).getD i 0 = 0) ∧ (Unit → val (P ++ (D ++ T')) + Y * val (Q.set j d) = X) ∧ (Unit → val (P ++ (D ++ T')) < Y * 18446744073709551616 ^ j) ∧
          Fk (fun _ => False) w W [] [dkO 45 (some ⟨b10, 0, none⟩) (m - (e + 1 + 1) + 1) (m - (e + 1 + 1) + 1) (Q.set j d), dkO 45 (some ⟨bu, 0, none⟩) (m + 1) (m + 1) (P ++ (D ++ T')), dkO 45 (some ⟨bv, 0, none⟩) (e + 1 + 1) (e + 1 + 1) V]) := fun D d W hD hDu hd h1 h2 hFk => by
      have hst := mid_step hP hS hD hPu hT0 (hsum ()) (by omega) (hQ0 j (by omega)) hY0 h1 h2
      refine ⟨by omega, hnew D hD, hPu.append (hDu.append hTu), by rw [List.length_set]; exact hQ, hQu.set _ _ hd, fun i hi => ?_, fun _ => hst.1, fun _ => hst.2, hFk⟩
      rw [getD_set _ _ _ _ (by omega), if_neg (by omega)]
      exact hQ0 i (by omega)
    clear hQ0 hsum hlt hS3 hSl hSY eu2 eu1 eu0 ev1 ev0 hT0
    have HM := hide hMS
    clear hMS
    repeat' (first | (refine TL.isOp ?_; first | (refine TL.isCall ?_; refine TL.call rfl rfl ?_; first | (refine (guess_ok _ (u2 := u2) (u1 := u1) (u0 := u0) (v1 := v1) (v0 := v0) x2 x1 x0 hv1W hv0W hv10 hgl).mono ?_; rintro _ wg ⟨d, rfl, hd, hdV, hdU, hE⟩; replace hF := hF.exts hE; have hdg := hide (hdig d hd hdV hdU); clear hE hdV hdU; refine Back.mk ?_) | (refine (take_ok _ _ bu j (e + 1 + 1) (m + 1 - j) (e + 1 + 1) _ (some ⟨bv, 0, none⟩) P S T' V (d := d) (owBk (hF.o (by ((repeat (first | apply kmemH | apply kmemT)); done)))) hP hS hwc (hF.sl (by ((repeat (first | apply kmemH | apply kmemT)); done))) hoff hSu hVu hd (by omega)).mono ?_; rintro _ wt ⟨D1, b, rfl, hB1, hD1, hD1u, hD1v, hU1⟩; replace hF := Fk.bk hF (by ((repeat (first | apply SetD.head | apply SetD.tail)); done)) hB1 (hnew D1 hD1) hmx hU1; clear hB1 hU1; have hD1p := fun hb => lent_pos2 hD1v hb hD1 hD1u; replace hD1v := hide hD1v; refine Back.mk ?_; rcases b with _ | _) | (refine (give_ok _ _ bu j (e + 1 + 1) (m + 1 - j) (e + 1 + 1) _ (some ⟨bv, 0, none⟩) P D1 T' V (owBk (hF.o (by ((repeat (first | apply kmemH | apply kmemT)); done)))) hP hD1 hwc (hF.sl (by ((repeat (first | apply kmemH | apply kmemT)); done))) hoff hD1u hVu (by omega)).mono ?_; rintro _ wt ⟨D2, k2, rfl, hB2, hD2, hD2u, hD2v, hU2⟩; replace hF := Fk.bk hF (by ((repeat (first | apply SetD.head | apply SetD.tail)); done)) hB2 (hnew D2 hD2) hmx hU2; clear hB2 hU2; replace hD2v := hide hD2v; refine Back.mk ?_)) | (refine TL.isBin ?_; refine TL.cmpG rfl rfl rfl rfl (fun hc => ?_) (fun hc => ?_) <;> (try (first | (exfalso; omega) | exact absurd rfl hc))) | (apply TL.ev; (case hd => rfl); (case h => (first | exact ev_simple rfl | (apply Ev.isBin; first | exact ev_arN rfl rfl rfl (by omega) | exact ev_arI rfl rfl rfl (by omega)) | (apply Ev.isSlice; first | exact ev_sl_win (j := j) (m := e + 1 + 1 + 1) rfl rfl rfl (Nat.add_assoc _ _ _) hwin hjm) | exact ev_indexN rfl rfl hjq (.inr rfl) | exact ev_subU rfl rfl ⟨hD1p rfl, hd⟩))) | (refine TL.storeOw (k := j) rfl rfl (hF.o (by ((repeat (first | apply kmemH | apply kmemT)); done))) hjq ?_; intro ws hOs hEs; replace hF := hF.storeO (by ((repeat (first | apply SetD.head | apply SetD.tail)); done)) hEs hOs; clear hOs hEs)) | (refine TF.is ?_; first | refine TF.nil ?_ | refine TF.e rfl ?_ | (refine TF.pick rfl ?_; first | (apply TFo.ev; (case hd => rfl); (case h => (intro wh hF; first | exact ev_simple rfl | (apply Ev.isBin; first | exact ev_arN rfl rfl rfl (by omega)) | exact ev_indexN rfl rfl hi2 (.inr rfl) | exact ev_indexN rfl rfl hi1 (.inr rfl) | exact ev_indexN rfl rfl hi0 (.inr rfl) | exact ev_indexN rfl rfl hvi1 (.inr rfl) | exact ev_indexN rfl rfl hvi0 (.inr rfl) | exact ev_castU (ev_loadU rfl (hF.sl (by ((repeat (first | apply kmemH | apply kmemT)); done))) hi2) g2 | exact ev_castU (ev_loadU rfl (hF.sl (by ((repeat (first | apply kmemH | apply kmemT)); done))) hi1) g1 | exact ev_castU (ev_loadU rfl (hF.sl (by ((repeat (first | apply kmemH | apply kmemT)); done))) hi0) g0 | exact ev_castU (ev_loadU rfl (hF.sl (by ((repeat (first | apply kmemH | apply kmemT)); done))) hvi1) gv1 | exact ev_castU (ev_loadU rfl (hF.sl (by ((repeat (first | apply kmemH | apply kmemT)); done))) hvi0) gv0))))) | (refine T.is ?_; first | refine T.seq ?_ | refine T.region ?_ | refine T.block ?_ | refine T.cond_t rfl ?_ | refine T.cond_f rfl ?_ | refine T.skip ?_ | (refine T.regionFk hF 9 32 (.s 0 (.s 1 (.s 2 (.s 3 (.s 4 (.s 5 (.s 6 (.s 7 (.s 8 (.s 9 (.s 10 (.s 11 (.s 12 (.s 13 (.s 14 (.s 15 (.s 16 (.s 17 (.s 18 (.s 19 (.s 20 (.s 21 (.s 22 (.s 23 (.s 24 (.s 25 (.s 26 (.s 27 (.s 28 (.s 29 (.e 30 (.s 31 .nil)))))))))))))))))))))))))))))))) mixed (by kernel_rfl) ?_; clear hF; intro wr hF)) | (refine G.is ?_; first | refine G.next ?_ | refine G.blockN ?_ | refine G.only ?_ | refine G.tree rfl (by first | exact hF | exact hF.weak (by repeat (first | exact List.Sublist.refl _ | apply List.Sublist.cons)) (by repeat (first | exact List.Sublist.refl _ | apply List.Sublist.cons))) ?_) | refine TL.nil ?_)
    · have h1 := hD1v ()
      rw [if_neg (by decide), Nat.mul_zero, Nat.add_zero, ← hY] at h1
      obtain ⟨a1, a2⟩ := digit_low (M := 0) hY0 (hdg ()).2 (hdg ()).1 h1
      exact G.again (j, P ++ (D1 ++ T'), Q.set j d) (by repeat (first | exact Sub.nil _ | refine Sub.cons rfl ?_ | refine Sub.cons' rfl (int_congr (by omega)) ?_)) (hgo D1 d _ hD1 hD1u hd a1 a2 hF) (by dsimp only; omega)
    · have h1 := hD1v ()
      rw [if_pos rfl, Nat.mul_one, ← hY] at h1
      have h2 := hD2v ()
      rw [← hY] at h2
      obtain ⟨_, a1, a2⟩ := digit_high hY0 (hdg ()).2 (HM ()) (hD1 ▸ val_lt hD1u) h1 (hD2 ▸ val_lt hD2u) h2
      exact G.again (j, P ++ (D2 ++ T'), Q.set j (d - 1)) (by repeat (first | exact Sub.nil _ | refine Sub.cons rfl ?_ | refine Sub.cons' rfl (int_congr (by omega)) ?_)) (hgo D2 (d - 1) _ hD2 hD2u (by omega) a1 a2 hF) (by dsimp only; omega)
end Go.Proofs.YthlbihbchobllaaGreat

namespace Go.Proofs.YthlbihbchobllaaGreat
open Go Go.Eng Go.Proofs Go.NatM Go.RowKit

/-- quotient and rest -/
def RetDm (w : World) (x y m : Nat) (e : Ending) (w' : World) : Prop := ∃ A n c A' n' c', e = .returned (.tuple #[.slice A n c, .slice A' n' c', .int .i64 0]) ∧ Ow u64v w'.heap w.heap.size 45 A n c (dig (x / y)) ∧ Ow u64v w'.heap w.heap.size 45 A' n' c' (dig (x % y)) ∧ Ext w w' ∧ n ≤ m ∧ n' ≤ m + 1
theorem dig_word {l : List Nat} {v : Nat} (h : l = dig v) (hl : l.length = 1) : v = l.getD 0 0 ∧ 0 < l.getD 0 0 := by
  have h1 : val l = v := by rw [h, val_dig]
  match l, hl with
  | [x], _ =>
    simp [val] at h1
    subst h1
    refine ⟨rfl, ?_⟩
    show 0 < x
    rcases Nat.eq_zero_or_pos x with h2 | h2
    · subst h2; rw [dig_zero] at h; cases h
    · exact h2
theorem dig_top {v n : Nat} (h : (dig v).length = n + 1) : 0 < (dig v).getD n 0 := by
  have h1 := sz_top (dig v)
  rw [sz_dig, h, Nat.add_sub_cancel] at h1
  omega
theorem dig_nil {v : Nat} (h : (dig v).length = 0) : v = 0 := by
  have : dig v = [] := List.eq_nil_of_length_eq_zero h
  rw [← val_dig v, this]; rfl
set_option maxRecDepth 100000 in
set_option maxHeartbeats 8000000 in
theorem divMod_ok (w : World) (B B' : Nat) (A A' : Option Addr) (m c n c' : Nat) (lx ly : List Nat) (hs : Sl u64v w.heap B A m c lx) (hs' : Sl u64v w.heap B' A' n c' ly) (hu : U64 lx) (hu' : U64 ly) (hm : m ≤ 8796093022208) (hn : n ≤ 8796093022208) (h0 : val ly ≠ 0) :
    Cl Tryz.prog 93 #[.slice A m c, .slice A' n c'] w (RetDm w (val lx) (val ly) m) := by
  replace hs := hs.size
  replace hs' := hs'.size
  refine enter Tryz.func93 rfl rfl rfl ?_
  have hF := Fr.refl w
  have hy0 : 0 < (dig (val ly)).length := by
    rcases Nat.eq_zero_or_pos (dig (val ly)).length with h | h
    · exact absurd (dig_nil h) h0
    · exact h
  obtain ⟨Y, hY⟩ : ∃ Y, Y = dig (val ly) := ⟨_, rfl⟩
  have hYu : U64 Y := by rw [hY]; exact U64_dig _
  have hYv : val Y = val ly := by rw [hY]; exact val_dig _
  obtain ⟨X, hX⟩ : ∃ X, X = dig (val lx) := ⟨_, rfl⟩
  have hXu : U64 X := by rw [hX]; exact U64_dig _
  have hXv : val X = val lx := by rw [hX]; exact val_dig _
  rw [← hY] at hy0
  repeat' (first | (refine TL.isOp ?_; first | (refine TL.isCall ?_; refine TL.call rfl rfl ?_; first | (refine (least_ok _ _ A' n c' ly (hs'.ext hF.ext) hu' (by omega)).mono ?_; rintro _ w1 ⟨A1, n1, c1, rfl, hO1, hE1, hK1⟩; rw [← hY] at hO1; have hl1 := hO1.len; have hS1 := hO1.sl (Nat.le_refl _); replace hF := Fr.addSl (hF.exts hE1) hS1; clear hO1 hE1 hS1; refine Back.mk ?_)) | (apply TL.ev; (case hd => rfl); (case h => (first | exact ev_simple rfl)))) | (refine T.is ?_; first | refine T.seqM 2 rfl ?_ | refine T.region ?_) | (refine G.is ?_; first | refine G.next ?_) | refine TL.nil ?_)
  rcases Nat.eq_zero_or_pos (n1 - 1) with h1 | h1
  · obtain rfl : n1 = 1 := by omega
    obtain ⟨e1, e2⟩ := dig_word hY hl1
    have hW := hYu.getD 0
    have h01 : 0 < 1 := by decide
    have hU1 : U64 [val lx % val ly] := U64.one (by rw [e1]; exact Nat.lt_trans (Nat.mod_lt _ e2) hW)
    have hv1 : val [val lx % val ly] = val lx % val ly := by simp [val]
    repeat' (first | (refine TL.isOp ?_; first | (refine TL.isCall ?_; refine TL.call rfl rfl ?_; first | (refine (wordD_ok _ _ A m c lx (x := Y.getD 0 0) e2 hW (hs.ext hF.ext) hu (by omega)).mono ?_; rintro _ wq ⟨A3, n3, c3, rfl, hO3, hE3, hK3⟩; rw [← e1] at hO3 ⊢; replace hO3 := hO3.mono hF.exs.size; have hE03 := hF.ext.trans hE3; clear hF hE3; have hF := Fr.refl wq; refine Back.mk ?_) | (refine (least_ok _ _ (some ⟨bn, 0, none⟩) 1 1 [val lx % val ly] (Fr.sl hF (by repeat (first | exact memH | apply memT))) hU1 (by omega)).mono ?_; rintro _ wr ⟨A4, n4, c4, rfl, hO4, hE4, hK4⟩; rw [hv1] at hO4; replace hO4 := hO4.mono (Nat.le_trans hE03.size hF.exs.size); have hEr := hF.ext.trans hE4; refine Back.mk ?_)) | (refine TL.isBin ?_; refine TL.cmpG rfl rfl rfl rfl (fun hc => ?_) (fun hc => ?_) <;> (try (first | (exfalso; omega) | exact absurd rfl hc))) | (apply TL.ev; (case hd => rfl); (case h => (first | exact ev_simple rfl | (apply Ev.isLoad; first | exact ev_loadU rfl (Fr.sl hF (by repeat (first | exact memH | apply memT))) h01) | exact ev_len rfl | exact ev_indexN rfl rfl h01 (Fr.sl hF (by repeat (first | exact memH | apply memT))).some))) | (refine TL.build1U rfl rfl ?_; intro wn bn ebn hBn hEn hzn; have hSn := hBn.slN (n := 1) (c := 1) rfl (Nat.le_refl _) hBn.lt; replace hF := Fr.addSl (hF.exts hEn) hSn; clear ebn hBn hEn hzn hSn)) | (refine T.is ?_; first | refine T.seq ?_ | refine T.region ?_ | refine T.cond_t rfl ?_ | refine T.cond_f rfl ?_ | refine T.ret ?_ | refine T.skip ?_) | (refine G.is ?_; first | refine G.next ?_ | refine G.thenR ?_) | refine TL.nil ?_)
    exact G.ret3 rfl rfl rfl rfl ⟨A3, n3, c3, A4, n4, c4, rfl, hO3.ext hEr, hO4, hE03.trans hEr, hK3, by omega⟩
  · have hn12 : 2 ≤ n1 := by omega
    have htop : 0 < Y.getD (n1 - 1) 0 := by
      rw [hY]
      exact dig_top (by rw [← hY]; omega)
    have hlX : ∀ {w1 : World} {A2 : Option Addr} {n2 c2 : Nat}, Sl u64v w1.heap w1.heap.size A2 n2 c2 X → n2 = X.length := fun h => h.len.symm
    rcases Nat.lt_or_ge (val lx) (val ly) with hlt | hge
    · have hq : cmp3 (val X) (val Y) = -1 := by rw [hXv, hYv]; exact if_pos hlt
      have hd0 : dig (val lx / val ly) = [] := by rw [Nat.div_eq_of_lt hlt, dig_zero]
      have hm0 : dig (val lx % val ly) = X := by rw [Nat.mod_eq_of_lt hlt, hX]
      repeat' (first | (refine TL.isOp ?_; first | (refine TL.isCall ?_; refine TL.call rfl rfl ?_; first | (refine (least_ok _ _ A m c lx (hs.ext hF.ext) hu (by omega)).mono ?_; rintro _ w2 ⟨A2, n2, c2, rfl, hO2, hE2, hK2⟩; rw [← hX] at hO2; have hO2' := hO2.mono hF.exs.size; have hS2 := hO2.sl (Nat.le_refl _); have hE02 := hF.ext.trans hE2; have hS1 := (Fr.sl hF (by repeat (first | exact memH | apply memT))).ext hE2; clear hF hO2 hE2; have hF := Fr.refl w2; replace hF := Fr.addSl (Fr.addSl hF hS2) hS1.size; clear hS2 hS1; refine Back.mk ?_) | (refine (cmp_eqX _ _ _ A2 A1 n2 c2 n1 c1 X Y (Fr.sl hF (by repeat (first | exact memH | apply memT))) (Fr.sl hF (by repeat (first | exact memH | apply memT))) hXu hYu (by omega) (by omega) hq).cl.mono ?_; rintro _ _ ⟨rfl, q1, rfl⟩; replace hF := hF.exts (ext_drewN _ q1); refine Back.mk ?_)) | (refine TL.isBin ?_; refine TL.cmpG rfl rfl rfl rfl (fun hc => ?_) (fun hc => ?_) <;> (try (first | (exfalso; omega) | exact absurd rfl hc))) | (apply TL.ev; (case hd => rfl); (case h => (first | exact ev_simple rfl | exact ev_len rfl)))) | (refine T.is ?_; first | refine T.seq ?_ | refine T.region ?_ | refine T.cond_t rfl ?_ | refine T.cond_f rfl ?_ | refine T.ret ?_ | refine T.skip ?_) | (refine G.is ?_; first | refine G.next ?_ | refine G.thenR ?_) | refine TL.nil ?_)
      refine G.ret3 rfl rfl rfl rfl ⟨none, 0, 0, A2, n2, c2, rfl, ?_, ?_, hE02.trans hF.ext, by omega, by omega⟩
      · rw [hd0]; exact Ow.nil _ _ _ _
      · rw [hm0]; exact hO2'.ext hF.ext
    · obtain ⟨q, hq, hq0⟩ : ∃ q, cmp3 (val X) (val Y) = q ∧ 0 ≤ q := ⟨_, rfl, by rw [hXv, hYv]; unfold cmp3; rw [if_neg (by omega)]; split <;> omega⟩
      have hle : val Y ≤ val X := by rw [hXv, hYv]; exact hge
      repeat' (first | (refine TL.isOp ?_; first | (refine TL.isCall ?_; refine TL.call rfl rfl ?_; first | (refine (least_ok _ _ A m c lx (hs.ext hF.ext) hu (by omega)).mono ?_; rintro _ w2 ⟨A2, n2, c2, rfl, hO2, hE2, hK2⟩; rw [← hX] at hO2; have hS2 := hO2.sl (Nat.le_refl _); replace hF := Fr.addSl (hF.exts hE2) hS2; clear hO2 hS2 hE2; refine Back.mk ?_) | (refine (cmp_eqX _ _ _ A2 A1 n2 c2 n1 c1 X Y (Fr.sl hF (by repeat (first | exact memH | apply memT))) (Fr.sl hF (by repeat (first | exact memH | apply memT))) hXu hYu (by omega) (by omega) hq).cl.mono ?_; rintro _ _ ⟨rfl, q1, rfl⟩; replace hF := hF.exts (ext_drewN _ q1); refine Back.mk ?_) | (refine (dlong_ok _ _ _ A2 A1 n2 c2 n1 c1 X Y (Fr.sl hF (by repeat (first | exact memH | apply memT))) (Fr.sl hF (by repeat (first | exact memH | apply memT))) hXu hYu (by omega) hn12 htop hle).mono ?_; rintro _ w3 ⟨A3, n3, c3, A4, n4, c4, rfl, hO3, hO4, hE3, hK3, hK4⟩; rw [hXv, hYv] at hO3 hO4; replace hO3 := hO3.mono hF.exs.size; replace hO4 := hO4.mono hF.exs.size; have hEr := hF.ext.trans hE3; refine Back.mk ?_)) | (refine TL.isBin ?_; refine TL.cmpG rfl rfl rfl rfl (fun hc => ?_) (fun hc => ?_) <;> (try (first | (exfalso; omega) | exact absurd rfl hc))) | (apply TL.ev; (case hd => rfl); (case h => (first | exact ev_simple rfl | exact ev_len rfl)))) | (refine T.is ?_; first | refine T.seq ?_ | refine T.region ?_ | refine T.cond_f rfl ?_ | refine T.ret ?_ | refine T.skip ?_) | (refine G.is ?_; first | refine G.next ?_) | refine TL.nil ?_)
      exact G.ret3 rfl rfl rfl rfl ⟨A3, n3, c3, A4, n4, c4, rfl, hO3, hO4, hEr, by omega, by omega⟩
end Go.Proofs.YthlbihbchobllaaGreat

namespace Go.Eng
open Go Go.Proofs Go.NatM Go.RowKit Go.Proofs.YthlbihbchobllaaGreat
section
variable {P : Program} {σ : Go.Eng.Store} {H : Array Obj} {d : Option Tmp} {t : TypeId} {pos : String} {af : Array Edge} {gd : Option (Nat × Bool)}
end
end Go.Eng
namespace Go.Proofs.YthlbihbchobllaaGreat
open Go Go.Eng Go.Proofs Go.NatM Go.RowKit
end Go.Proofs.YthlbihbchobllaaGreat

namespace Go.Eng
open Go Go.RowKit
inductive OutM : Nat → List Nat → Prop
  | head {b : Nat} {bs : List Nat} : OutM b (b :: bs)
  | tail {b x : Nat} {bs : List Nat} : OutM b bs → OutM b (x :: bs)
/-- a list of blocks without some -/
inductive Outs (bs : List Nat) : List VB → List VB → Prop
  | nil {L : List VB} : Outs bs L L
  | drop {L L' : List VB} {b : Nat} {t : TypeId} {cs : List Value} : OutM b bs → Outs bs L L' → Outs bs (⟨b, t, cs⟩ :: L) L'
  | keep {x : VB} {L L' : List VB} : Outs bs L L' → Outs bs (x :: L) (x :: L')
theorem Outs.sub {bs : List Nat} {L L' : List VB} (h : Outs bs L L') : L'.Sublist L := by
  induction h with
  | nil => exact List.Sublist.refl _
  | drop _ _ ih => exact List.Sublist.cons _ ih
  | keep _ ih => exact List.Sublist.cons_cons _ ih
section
variable {P : Program} {N : Fm} {Q : Exit → Act → World → Prop} {σ : Store} {S : Nat → Prop} {w0 w : World} {L L' : List VB} {D : List DP} {l : List Oper}
/-- a drawn region in which the blocks bs may be written -/
theorem T.regionFs (bs : List Nat) (hF : Fr w0 w L D S) (hp : Outs bs L L') (id : Nat) (f : Nat) (t : Rt) (hm : P.follows .mixedOrders = true) (hB : treeB l.toArray f t = true)
    (h : ∀ w1 : World, Fr w0 w1 L D S → TF P N l Q (fun w' => Fr w0 w' L' D S) f t σ w1) : T P N (.region id l.toArray true) Q σ w :=
  T.regionF _ f t hm hB ((hF.weak hp.sub allR).exts (ext_drewN w 1)) (h _ (hF.exts (ext_drewN w 1)))
end
end Go.Eng
