/- Layer 2: contracts of mulnat.trim, addTo. -/
import Derived.Test.YtgmhldapndhoeaaNatB
set_option linter.unusedVariables false
set_option linter.unusedSimpArgs false
namespace Go.Proofs.Ytgmhldapndhoeaa
open Go Go.Eng Go.Proofs Go.NatM

/-- the slice does not lie in block g -/
def Off (g : Nat) (n : Nat) (A : Option Addr) : Prop := n = 0 ∨ ∀ a, A = some a → a.block ≠ g
theorem sl_off {α : Type} {f : α → Value} {w w' : World} {g B n c : Nat} {A : Option Addr} {l : List α} (hu : Upd g w w') (h : Sl f w.heap B A n c l) (ho : Off g n A) : Sl f w'.heap B A n c l :=
  ⟨h.len, h.cap, by
    rcases ho with h0 | ho
    · exact .inl h0
    rcases h.mem with h0 | ⟨b, o, e, hlt, hc⟩
    · exact .inl h0
    · refine .inr ⟨b, o, e, hlt, fun j x hx => ?_⟩
      have hne : b ≠ g := ho ⟨b, o, none⟩ e
      have := hc j x hx
      unfold hcell at this ⊢
      rwa [hu.block b hne]⟩
theorem bk_slMid {α : Type} {f : α → Value} {H : Array Obj} {b B n c o : Nat} {t : TypeId} {Pr S : List α} (h : Bk f H b t (Pr ++ S)) (ho : Pr.length = o) (hn : S.length = n) (hc : n ≤ c) (hb : b < B) : Sl f H B (some ⟨b, o, none⟩) n c S :=
  ⟨hn, hc, .inr ⟨b, o, rfl, hb, fun j x hx => by
    rw [h.cell, List.getElem?_append_right (by omega), show o + j - Pr.length = j by omega, hx]
    rfl⟩⟩
theorem set_mid (Pr D R : List Nat) (r x : Nat) : (Pr ++ (D ++ r :: R)).set (Pr.length + D.length) x = Pr ++ ((D ++ [x]) ++ R) := by
  rw [List.set_append_right _ _ (by omega), Nat.add_sub_cancel_left, List.set_append_right _ _ (by omega), Nat.sub_self]
  simp
theorem drop_cons (S : List Nat) (i : Nat) (h : i < S.length) : S.drop i = S.getD i 0 :: S.drop (i + 1) := by
  rw [List.drop_eq_getElem_cons h]; simp [List.getD, h]
theorem getD_win (D S : List Nat) (i : Nat) (h : D.length = i) : (D ++ S.drop i).getD i 0 = S.getD i 0 := by
  subst h
  simp [List.getD, List.getElem?_append_right]

theorem trim_ok (H : Array Obj) (B : Nat) (A : Option Addr) (n c : Nat) (l : List Nat) (hs : Sl u64v H B A n c l) (hn : n < 9223372036854775808) :
    Pure Try.prog 58 #[.slice A n c] H (.slice A (sz l) (sz l)) := by
  refine Pure.of fun w hw => ?_
  subst hw
  have hlen := hs.len
  have hcap := hs.cap
  refine enter Try.func58 rfl rfl rfl ?_
  repeat' (first | refine TL.ev (ev_simple rfl) rfl ?_ | refine TL.grun rfl rfl rfl ?_ | refine TL.gskip rfl rfl rfl rfl ?_ | refine TL.gskipU rfl rfl rfl ?_ | refine TL.ev (ev_len rfl) rfl ?_ | (refine TL.cmpG rfl rfl rfl rfl (fun hc => ?_) (fun hc => ?_) <;> try (exfalso; omega)) | refine TL.ev (ev_arN rfl rfl rfl (by omega)) rfl ?_ | refine TL.ev (ev_arI rfl rfl rfl (by omega)) rfl ?_ | refine TL.ev (ev_neg rfl (by omega)) rfl ?_ | refine TL.ev (ev_indexN rfl rfl (by omega) (by first | exact Or.inr rfl | exact Sl.some (by assumption))) rfl ?_ | refine TL.ev (ev_index rfl rfl (by omega) (by first | exact Or.inr rfl | exact Sl.some (by assumption))) rfl ?_ | refine TL.ev (ev_loadU rfl (by assumption) (by omega)) rfl ?_ | refine TL.ev (ev_loadI rfl (by assumption) (by omega)) rfl ?_ | refine T.seq ?_ | refine T.region ?_ | refine TL.nil ?_ | refine T.block ?_ | refine T.cond_t rfl ?_ | refine T.cond_f rfl ?_ | refine T.exit ?_ | refine T.ret ?_ | refine T.skip ?_ | refine G.next ?_ | refine G.blockN ?_ | refine G.blockE ?_ | refine G.blockE' rfl ?_ | refine G.blockR ?_ | refine G.thenE ?_ | refine G.thenR ?_ | refine T.regionQ mixed (by kernel_rfl) ?_ | refine TL.nilQ (fun _ => ?_) | refine G.only ?_ | refine G.mixed ?_ | refine TM.nil ?_ | refine TM.e rfl ?_)
  refine T.loop (fun k : Nat => [(0, .slice A n c), (3, .int .i64 (k : Int))]) (fun k w' => w' = w ∧ k ≤ n ∧ ∀ j, k ≤ j → l.getD j 0 = 0) (fun k => k) n (by repeat (first | exact Sub.nil _ | refine Sub.cons rfl ?_ | refine Sub.cons' rfl (int_congr (by omega)) ?_)) ⟨rfl, Nat.le_refl _, ?_⟩ ?_
  · intro j hj; simp [List.getD, List.getElem?_eq_none (show l.length ≤ j by omega)]
  · rintro k w' ⟨rfl, hk, hz⟩
    repeat' (first | refine TL.ev (ev_simple rfl) rfl ?_ | refine TL.grun rfl rfl rfl ?_ | refine TL.gskip rfl rfl rfl rfl ?_ | refine TL.gskipU rfl rfl rfl ?_ | refine TL.ev (ev_len rfl) rfl ?_ | (refine TL.cmpG rfl rfl rfl rfl (fun hc => ?_) (fun hc => ?_) <;> try (exfalso; omega)) | refine TL.ev (ev_arN rfl rfl rfl (by omega)) rfl ?_ | refine TL.ev (ev_arI rfl rfl rfl (by omega)) rfl ?_ | refine TL.ev (ev_neg rfl (by omega)) rfl ?_ | refine TL.ev (ev_indexN rfl rfl (by omega) (by first | exact Or.inr rfl | exact Sl.some (by assumption))) rfl ?_ | refine TL.ev (ev_index rfl rfl (by omega) (by first | exact Or.inr rfl | exact Sl.some (by assumption))) rfl ?_ | refine TL.ev (ev_loadU rfl (by assumption) (by omega)) rfl ?_ | refine TL.ev (ev_loadI rfl (by assumption) (by omega)) rfl ?_ | refine TL.ev (ev_sl_h rfl rfl (by omega)) rfl ?_ | refine TL.ev (ev_sl_l rfl rfl (by omega) (by omega)) rfl ?_ | refine TL.ev (ev_sl_lh rfl rfl rfl (by omega) (by omega)) rfl ?_ | refine TL.ev (ev_sl_hm rfl rfl rfl (by omega) (by omega)) rfl ?_ | refine TL.ev (ev_sl_lhm rfl rfl rfl rfl (by omega) (by omega) (by omega)) rfl ?_ | refine T.seq ?_ | refine T.region ?_ | refine TL.nil ?_ | refine T.block ?_ | refine T.cond_t rfl ?_ | refine T.cond_f rfl ?_ | refine T.exit ?_ | refine T.ret ?_ | refine T.skip ?_ | refine G.next ?_ | refine G.blockN ?_ | refine G.blockE ?_ | refine G.blockE' rfl ?_ | refine G.blockR ?_ | refine G.thenE ?_ | refine G.thenR ?_ | refine T.regionQ mixed (by kernel_rfl) ?_ | refine TL.nilQ (fun _ => ?_) | refine G.only ?_ | refine G.mixed ?_ | refine TM.nil ?_ | refine TM.e rfl ?_)
    · refine G.again (k - 1) (by repeat (first | exact Sub.nil _ | refine Sub.cons rfl ?_ | refine Sub.cons' rfl (int_congr (by omega)) ?_)) ⟨rfl, by omega, fun j hj => ?_⟩ (by omega)
      rcases Nat.lt_or_ge j k with h | h
      · obtain rfl : j = k - 1 := by omega
        omega
      · exact hz j h
    · rw [sz_eq l k (by omega) hz (.inr (by omega))]
      exact G.ret1 rfl rfl ⟨rfl, Qt.refl _⟩
    · rw [sz_eq l k (by omega) hz (.inl (by omega))]
      exact G.ret1 rfl rfl ⟨rfl, Qt.refl _⟩

/-- nothing is answered; block g turns -/
def RetU (w : World) (g : Nat) (K : World → Prop) (e : Ending) (w' : World) : Prop := e = .returned (.tuple #[]) ∧ K w' ∧ Upd g w w'
theorem upd_trans {g : Nat} {a b c : World} (h : Upd g a b) (k : Upd g b c) : Upd g a c := ⟨k.os.trans h.os, k.tape.trans h.tape, k.output.trans h.output, k.size.trans h.size, fun q hq => (k.block q hq).trans (h.block q hq)⟩
theorem upd_drewN {g : Nat} {a b : World} (h : Upd g a b) (n : Nat) : Upd g a (b.drewN n) := ⟨h.os, h.tape, h.output, h.size, h.block⟩
theorem upd_undrewN {g n : Nat} {a b : World} (h : Upd g (a.drewN n) b) : Upd g a b := ⟨h.os, h.tape, h.output, h.size, h.block⟩

set_option maxHeartbeats 1000000 in
theorem addTo_ok (w : World) (B g o n c : Nat) (A' : Option Addr) (n' c' : Nat) (Pr S l' : List Nat) (hB : Bk u64v w.heap g 25 (Pr ++ S)) (ho : Pr.length = o) (hS : S.length = n) (hc0 : n ≤ c) (hs' : Sl u64v w.heap B A' n' c' l') (hoff : Off g n' A') (hu : U64 S) (hu' : U64 l')
    (hn : n ≤ 140737488355328) (hnn : n' ≤ n) (hlt : val S + val l' < 18446744073709551616 ^ n) :
    Cl Try.prog 60 #[.slice (some ⟨g, o, none⟩) n c, .slice A' n' c'] w (RetU w g fun w' => ∃ D, Bk u64v w'.heap g 25 (Pr ++ D) ∧ D.length = n ∧ U64 D ∧ val D = val S + val l') := by
  have hlen' := hs'.len
  refine enter Try.func60 rfl rfl rfl ?_
  repeat' (first | refine TL.ev (ev_simple rfl) rfl ?_ | refine TL.grun rfl rfl rfl ?_ | refine TL.gskip rfl rfl rfl rfl ?_ | refine TL.gskipU rfl rfl rfl ?_ | refine TL.ev (ev_len rfl) rfl ?_ | (refine TL.cmpG rfl rfl rfl rfl (fun hc => ?_) (fun hc => ?_) <;> try (exfalso; omega)) | refine TL.ev (ev_arN rfl rfl rfl (by omega)) rfl ?_ | refine TL.ev (ev_arI rfl rfl rfl (by omega)) rfl ?_ | refine TL.ev (ev_neg rfl (by omega)) rfl ?_ | refine TL.ev (ev_indexN rfl rfl (by omega) (by first | exact Or.inr rfl | exact Sl.some (by assumption))) rfl ?_ | refine TL.ev (ev_index rfl rfl (by omega) (by first | exact Or.inr rfl | exact Sl.some (by assumption))) rfl ?_ | refine TL.ev (ev_loadU rfl (by assumption) (by omega)) rfl ?_ | refine TL.ev (ev_loadI rfl (by assumption) (by omega)) rfl ?_ | refine T.seq ?_ | refine T.region ?_ | refine TL.nil ?_ | refine T.block ?_ | refine T.cond_t rfl ?_ | refine T.cond_f rfl ?_ | refine T.exit ?_ | refine T.ret ?_ | refine T.skip ?_ | refine G.next ?_ | refine G.blockN ?_ | refine G.blockE ?_ | refine G.blockE' rfl ?_ | refine G.blockR ?_ | refine G.thenE ?_ | refine G.thenR ?_ | refine T.regionQ mixed (by kernel_rfl) ?_ | refine TL.nilQ (fun _ => ?_) | refine G.only ?_ | refine G.mixed ?_ | refine TM.nil ?_ | refine TM.e rfl ?_)
  refine T.loop (α := Nat × List Nat × Nat) (fun x => [(0, .slice (some ⟨g, o, none⟩) n c), (1, .slice A' n' c'), (4, .int .u64 (x.2.2 : Int)), (8, .int .i64 (n' : Int)), (9, .int .i64 (x.1 : Int))])
    (fun x w' => x.1 ≤ n' ∧ x.2.1.length = x.1 ∧ U64 x.2.1 ∧ x.2.2 ≤ 1 ∧ Upd g w w' ∧ Bk u64v w'.heap g 25 (Pr ++ (x.2.1 ++ S.drop x.1)) ∧ val x.2.1 + 18446744073709551616 ^ x.1 * x.2.2 = val (S.take x.1) + val (l'.take x.1))
    (fun x => n' - x.1) (0, [], 0) (by repeat (first | exact Sub.nil _ | refine Sub.cons rfl ?_ | refine Sub.cons' rfl (int_congr (by omega)) ?_)) ⟨Nat.zero_le _, rfl, U64.nil, Nat.zero_le _, upd_refl _ _, by simpa using hB, by simp [val]⟩ ?_
  · rintro ⟨i, D, cy⟩ w2 ⟨hi, hD, hDu, hcy, hE2, hB2, hv⟩
    dsimp only at hi hD hDu hcy hE2 hB2 hv ⊢
    have k1 := sl_off hE2 hs' hoff
    have k2 := bk_slMid (B := w2.heap.size) hB2 ho (n := n) (c := c) (by simp; omega) hc0 hB2.lt
    have x1 := hu.getD i
    have x2 := hu'.getD i
    have hlB : (Pr ++ (D ++ S.drop i)).length = o + n := by simp; omega
    repeat' (first | refine TL.ev (ev_simple rfl) rfl ?_ | refine TL.grun rfl rfl rfl ?_ | refine TL.gskip rfl rfl rfl rfl ?_ | refine TL.gskipU rfl rfl rfl ?_ | refine TL.ev (ev_len rfl) rfl ?_ | (refine TL.cmpG rfl rfl rfl rfl (fun hc => ?_) (fun hc => ?_) <;> try (exfalso; omega)) | refine TL.ev (ev_arN rfl rfl rfl (by omega)) rfl ?_ | refine TL.ev (ev_arI rfl rfl rfl (by omega)) rfl ?_ | refine TL.ev (ev_neg rfl (by omega)) rfl ?_ | refine TL.ev (ev_indexN rfl rfl (by omega) (by first | exact Or.inr rfl | exact Sl.some (by assumption))) rfl ?_ | refine TL.ev (ev_index rfl rfl (by omega) (by first | exact Or.inr rfl | exact Sl.some (by assumption))) rfl ?_ | refine TL.ev (ev_loadU rfl (by assumption) (by omega)) rfl ?_ | refine TL.ev (ev_loadI rfl (by assumption) (by omega)) rfl ?_ | refine TM.f rfl (fun _ => ev_simple rfl) rfl ?_ | refine TM.s rfl (ev_simple rfl) rfl ?_ | refine TM.f rfl (fun _ => ev_len rfl) rfl ?_ | refine TM.s rfl (ev_len rfl) rfl ?_ | refine TM.f rfl (fun _ => ev_arN rfl rfl rfl (by omega)) rfl ?_ | refine TM.s rfl (ev_arN rfl rfl rfl (by omega)) rfl ?_ | refine TM.f rfl (fun _ => ev_arI rfl rfl rfl (by omega)) rfl ?_ | refine TM.s rfl (ev_arI rfl rfl rfl (by omega)) rfl ?_ | refine TM.f rfl (fun _ => ev_neg rfl (by omega)) rfl ?_ | refine TM.s rfl (ev_neg rfl (by omega)) rfl ?_ | refine TM.f rfl (fun _ => ev_indexN rfl rfl (by omega) (by first | exact Or.inr rfl | exact Sl.some (by assumption))) rfl ?_ | refine TM.s rfl (ev_indexN rfl rfl (by omega) (by first | exact Or.inr rfl | exact Sl.some (by assumption))) rfl ?_ | refine TM.f rfl (fun _ => ev_index rfl rfl (by omega) (by first | exact Or.inr rfl | exact Sl.some (by assumption))) rfl ?_ | refine TM.s rfl (ev_index rfl rfl (by omega) (by first | exact Or.inr rfl | exact Sl.some (by assumption))) rfl ?_ | refine TM.f rfl (fun _ => ev_loadU rfl (by assumption) (by omega)) rfl ?_ | refine TM.s rfl (ev_loadU rfl (by assumption) (by omega)) rfl ?_ | refine TM.f rfl (fun _ => ev_loadI rfl (by assumption) (by omega)) rfl ?_ | refine TM.s rfl (ev_loadI rfl (by assumption) (by omega)) rfl ?_ | refine TM.f rfl (fun _ => ev_callx rfl (fun w => add64_run w (by omega))) rfl ?_ | refine TM.s rfl (ev_callx rfl (fun w => add64_run w (by omega))) rfl ?_ | refine T.regionM [(0, 0), (1, 0), (2, 0), (3, 0), (4, 0), (6, 0), (7, 0), (8, 0), (10, 0), (5, 1), (9, 1), (11, 1), (12, 0), (13, 0), (14, 0), (15, 0), (16, 2), (17, 0)] mixed (by kernel_rfl) ?_ | (refine TL.ev (ev_callx rfl (fun w => add64_run w (by omega))) rfl ?_) | (refine TL.storeUo rfl rfl hB2 (by rw [hlB]; omega) (fun w3 hB3 hU => ?_)) | refine T.seq ?_ | refine T.region ?_ | refine TL.nil ?_ | refine T.block ?_ | refine T.cond_t rfl ?_ | refine T.cond_f rfl ?_ | refine T.exit ?_ | refine T.ret ?_ | refine T.skip ?_ | refine G.next ?_ | refine G.blockN ?_ | refine G.blockE ?_ | refine G.blockE' rfl ?_ | refine G.blockR ?_ | refine G.thenE ?_ | refine G.thenR ?_ | refine T.regionQ mixed (by kernel_rfl) ?_ | refine TL.nilQ (fun _ => ?_) | refine G.only ?_ | refine G.mixed ?_ | refine TM.nil ?_ | refine TM.e rfl ?_)
    · have ex := getD_win D S i hD
      have hlt1 : ((D ++ S.drop i).getD i 0 + l'.getD i 0 + cy) % 18446744073709551616 < 18446744073709551616 := Nat.mod_lt _ (by omega)
      refine G.again (i + 1, D ++ [((D ++ S.drop i).getD i 0 + l'.getD i 0 + cy) % 18446744073709551616], ((D ++ S.drop i).getD i 0 + l'.getD i 0 + cy) / 18446744073709551616) (by repeat (first | exact Sub.nil _ | refine Sub.cons rfl ?_ | refine Sub.cons' rfl (int_congr (by omega)) ?_)) ⟨by dsimp only; omega, by simp [hD], hDu.append (U64.one hlt1), by dsimp only; omega, upd_trans hE2 (upd_undrewN hU), ?_, ?_⟩ (by dsimp only; omega)
      · dsimp only
        rw [drop_cons S i (by omega), show o + i = Pr.length + D.length by omega, set_mid, ← drop_cons S i (by omega)] at hB3
        exact hB3
      · dsimp only
        rw [val_snoc, val_take_succ, val_take_succ, hD, Nat.pow_succ, ex]
        exact add_step hv (by omega)
    · obtain rfl : i = n' := by omega
      rw [← hlen', List.take_length, hlen'] at hv
      refine T.loop (α := Nat × List Nat × Nat) (fun x => [(0, .slice (some ⟨g, o, none⟩) n c), (4, .int .u64 (x.2.2 : Int)), (6, .int .i64 (x.1 : Int))])
        (fun x w' => x.1 ≤ n ∧ x.2.1.length = x.1 ∧ U64 x.2.1 ∧ x.2.2 ≤ 1 ∧ Upd g w w' ∧ Bk u64v w'.heap g 25 (Pr ++ (x.2.1 ++ S.drop x.1)) ∧ val x.2.1 + 18446744073709551616 ^ x.1 * x.2.2 = val (S.take x.1) + val l')
        (fun x => n - x.1) (i, D, cy) (by repeat (first | exact Sub.nil _ | refine Sub.cons rfl ?_ | refine Sub.cons' rfl (int_congr (by omega)) ?_)) ⟨hnn, hD, hDu, hcy, hE2, hB2, hv⟩ ?_
      clear hB2 hE2 k1 k2 hlB hv x1 x2 hD hDu hcy hi hc
      clear D cy w2
      rintro ⟨j, D, cy⟩ w2 ⟨hi, hD, hDu, hcy, hE2, hB2, hv⟩
      dsimp only at hi hD hDu hcy hE2 hB2 hv ⊢
      have k2 := bk_slMid (B := w2.heap.size) hB2 ho (n := n) (c := c) (by simp; omega) hc0 hB2.lt
      have x1 := hu.getD j
      have hlB : (Pr ++ (D ++ S.drop j)).length = o + n := by simp; omega
      have fin : cy = 0 → RetU w g (fun w' => ∃ D, Bk u64v w'.heap g 25 (Pr ++ D) ∧ D.length = n ∧ U64 D ∧ val D = val S + val l') (.returned (.tuple #[])) w2 := by
        intro h0
        refine ⟨rfl, ⟨_, hB2, by simp; omega, hDu.append (hu.drop j), ?_⟩, hE2⟩
        rw [val_append, hD, val_split S j]
        rw [h0] at hv
        omega
      repeat' (first | refine TL.ev (ev_simple rfl) rfl ?_ | refine TL.grun rfl rfl rfl ?_ | refine TL.gskip rfl rfl rfl rfl ?_ | refine TL.gskipU rfl rfl rfl ?_ | refine TL.ev (ev_len rfl) rfl ?_ | (refine TL.cmpG rfl rfl rfl rfl (fun hc => ?_) (fun hc => ?_) <;> try (exfalso; omega)) | refine TL.ev (ev_arN rfl rfl rfl (by omega)) rfl ?_ | refine TL.ev (ev_arI rfl rfl rfl (by omega)) rfl ?_ | refine TL.ev (ev_neg rfl (by omega)) rfl ?_ | refine TL.ev (ev_indexN rfl rfl (by omega) (by first | exact Or.inr rfl | exact Sl.some (by assumption))) rfl ?_ | refine TL.ev (ev_index rfl rfl (by omega) (by first | exact Or.inr rfl | exact Sl.some (by assumption))) rfl ?_ | refine TL.ev (ev_loadU rfl (by assumption) (by omega)) rfl ?_ | refine TL.ev (ev_loadI rfl (by assumption) (by omega)) rfl ?_ | refine TM.f rfl (fun _ => ev_simple rfl) rfl ?_ | refine TM.s rfl (ev_simple rfl) rfl ?_ | refine TM.f rfl (fun _ => ev_len rfl) rfl ?_ | refine TM.s rfl (ev_len rfl) rfl ?_ | refine TM.f rfl (fun _ => ev_arN rfl rfl rfl (by omega)) rfl ?_ | refine TM.s rfl (ev_arN rfl rfl rfl (by omega)) rfl ?_ | refine TM.f rfl (fun _ => ev_arI rfl rfl rfl (by omega)) rfl ?_ | refine TM.s rfl (ev_arI rfl rfl rfl (by omega)) rfl ?_ | refine TM.f rfl (fun _ => ev_neg rfl (by omega)) rfl ?_ | refine TM.s rfl (ev_neg rfl (by omega)) rfl ?_ | refine TM.f rfl (fun _ => ev_indexN rfl rfl (by omega) (by first | exact Or.inr rfl | exact Sl.some (by assumption))) rfl ?_ | refine TM.s rfl (ev_indexN rfl rfl (by omega) (by first | exact Or.inr rfl | exact Sl.some (by assumption))) rfl ?_ | refine TM.f rfl (fun _ => ev_index rfl rfl (by omega) (by first | exact Or.inr rfl | exact Sl.some (by assumption))) rfl ?_ | refine TM.s rfl (ev_index rfl rfl (by omega) (by first | exact Or.inr rfl | exact Sl.some (by assumption))) rfl ?_ | refine TM.f rfl (fun _ => ev_loadU rfl (by assumption) (by omega)) rfl ?_ | refine TM.s rfl (ev_loadU rfl (by assumption) (by omega)) rfl ?_ | refine TM.f rfl (fun _ => ev_loadI rfl (by assumption) (by omega)) rfl ?_ | refine TM.s rfl (ev_loadI rfl (by assumption) (by omega)) rfl ?_ | refine TM.f rfl (fun _ => ev_callx rfl (fun w => add64_run w (by omega))) rfl ?_ | refine TM.s rfl (ev_callx rfl (fun w => add64_run w (by omega))) rfl ?_ | (refine TL.ev (ev_callx rfl (fun w => add64_run w (by omega))) rfl ?_) | (refine TL.storeUo rfl rfl hB2 (by rw [hlB]; omega) (fun w3 hB3 hU => ?_)) | refine T.seq ?_ | refine T.region ?_ | refine TL.nil ?_ | refine T.block ?_ | refine T.cond_t rfl ?_ | refine T.cond_f rfl ?_ | refine T.exit ?_ | refine T.ret ?_ | refine T.skip ?_ | refine G.next ?_ | refine G.blockN ?_ | refine G.blockE ?_ | refine G.blockE' rfl ?_ | refine G.blockR ?_ | refine G.thenE ?_ | refine G.thenR ?_ | refine T.regionQ mixed (by kernel_rfl) ?_ | refine TL.nilQ (fun _ => ?_) | refine G.only ?_ | refine G.mixed ?_ | refine TM.nil ?_ | refine TM.e rfl ?_)
      · have ex := getD_win D S j hD
        have hlt1 : ((D ++ S.drop j).getD j 0 + 0 + cy) % 18446744073709551616 < 18446744073709551616 := Nat.mod_lt _ (by omega)
        refine G.again (j + 1, D ++ [((D ++ S.drop j).getD j 0 + 0 + cy) % 18446744073709551616], ((D ++ S.drop j).getD j 0 + 0 + cy) / 18446744073709551616) (by repeat (first | exact Sub.nil _ | refine Sub.cons rfl ?_ | refine Sub.cons' rfl (int_congr (by omega)) ?_)) ⟨by dsimp only; omega, by simp [hD], hDu.append (U64.one hlt1), by dsimp only; omega, upd_trans hE2 hU, ?_, ?_⟩ (by dsimp only; omega)
        · dsimp only
          rw [drop_cons S j (by omega), show o + j = Pr.length + D.length by omega, set_mid, ← drop_cons S j (by omega)] at hB3
          exact hB3
        · dsimp only
          rw [val_snoc, val_take_succ, hD, Nat.pow_succ, ex]
          have := add_step (vb := val l') (y := 0) hv (show ((S.getD j 0 + 0 + cy) % 18446744073709551616) + 18446744073709551616 * ((S.getD j 0 + 0 + cy) / 18446744073709551616) = S.getD j 0 + 0 + cy by omega)
          simpa using this
      · obtain rfl : j = n := by omega
        have h1 : val (S.take j) = val S := by rw [← hS, List.take_length]
        have h2 : cy = 1 := by omega
        rw [h1, h2] at hv
        exfalso
        omega
      · exact G.end0 rfl (fin (by omega))
end Go.Proofs.Ytgmhldapndhoeaa
