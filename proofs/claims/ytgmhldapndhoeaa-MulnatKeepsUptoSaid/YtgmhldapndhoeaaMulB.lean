/- Layer 2: contracts of math/bits.Mul64, mulnat.subFrom, sum, rows. -/
import Derived.Test.YtgmhldapndhoeaaMulA
import Derived.Test.YtgmhldapndhoeaaMathB
import Derived.Test.YtgmhldapndhoeaaEngB
set_option linter.unusedVariables false
set_option linter.unusedSimpArgs false
namespace Go.Proofs.Ytgmhldapndhoeaa
open Go Go.Eng Go.Proofs Go.NatM

theorem mul64_ok (H : Array Obj) {z1 z2 : Int} {x y : Nat} [e1 : IsN z1 x] [e2 : IsN z2 y] (hx : x < 18446744073709551616) (hy : y < 18446744073709551616) :
    Pure Try.prog 69 #[.int .u64 z1, .int .u64 z2] H (.tuple #[.int .u64 ((x * y / 18446744073709551616 : Nat) : Int), .int .u64 ((x * y % 18446744073709551616 : Nat) : Int)]) := by
  obtain rfl := e1.out
  obtain rfl := e2.out
  refine Pure.of fun w hw => ?_
  subst hw
  refine enter Try.func69 rfl rfl rfl ?_
  repeat' (first | refine TL.ev (ev_simple rfl) rfl ?_ | refine TL.grun rfl rfl rfl ?_ | refine TL.gskip rfl rfl rfl rfl ?_ | refine TL.gskipU rfl rfl rfl ?_ | refine TL.ev (ev_len rfl) rfl ?_ | refine TL.ev (ev_shrU rfl rfl (by first | omega | exact U64.getD (by assumption) _)) rfl ?_ | refine TL.ev (ev_shlU rfl rfl) rfl ?_ | refine TL.ev (ev_andU rfl rfl (by first | omega | exact U64.getD (by assumption) _) (by first | omega | exact U64.getD (by assumption) _)) rfl ?_ | refine TL.ev (ev_orU rfl rfl (by first | omega | exact U64.getD (by assumption) _) (by first | omega | exact U64.getD (by assumption) _)) rfl ?_ | refine TL.ev (ev_xorU rfl rfl (by first | omega | exact U64.getD (by assumption) _) (by first | omega | exact U64.getD (by assumption) _)) rfl ?_ | refine TL.ev (ev_convU rfl (by omega)) rfl ?_ | refine TL.ev (ev_convI rfl (by omega)) rfl ?_ | refine TL.ev (ev_arU rfl rfl rfl (by first | exact True.intro | omega)) rfl ?_ | refine T.seq ?_ | refine T.region ?_ | refine TL.nil ?_ | refine T.block ?_ | refine T.cond_t rfl ?_ | refine T.cond_f rfl ?_ | refine T.exit ?_ | refine T.ret ?_ | refine T.skip ?_ | refine G.next ?_ | refine G.blockN ?_ | refine G.blockE ?_ | refine G.blockE' rfl ?_ | refine G.blockR ?_ | refine G.thenE ?_ | refine G.thenR ?_ | refine T.regionQ mixed (by kernel_rfl) ?_ | refine TL.nilQ (fun _ => ?_) | refine G.only ?_ | refine G.mixed ?_ | refine TM.nil ?_ | refine TM.e rfl ?_)
  refine G.ret2 rfl rfl rfl ⟨?_, Qt.refl _⟩
  rw [← mul64_walk x y hx hy]

set_option maxHeartbeats 1000000 in
theorem subFrom_ok (w : World) (B g n c : Nat) (A' : Option Addr) (n' c' : Nat) (S l' : List Nat) (hB : Bk u64v w.heap g 25 S) (hS : S.length = n) (hc0 : n ≤ c) (hs' : Sl u64v w.heap B A' n' c' l') (hoff : Off g n' A') (hu : U64 S) (hu' : U64 l')
    (hn : n ≤ 140737488355328) (hnn : n' ≤ n) (hle : val l' ≤ val S) :
    Cl Try.prog 71 #[.slice (some ⟨g, 0, none⟩) n c, .slice A' n' c'] w (RetU w g fun w' => ∃ D, Bk u64v w'.heap g 25 D ∧ D.length = n ∧ U64 D ∧ val D = val S - val l') := by
  have hlen' := hs'.len
  refine enter Try.func71 rfl rfl rfl ?_
  repeat' (first | refine TL.ev (ev_simple rfl) rfl ?_ | refine TL.grun rfl rfl rfl ?_ | refine TL.gskip rfl rfl rfl rfl ?_ | refine TL.gskipU rfl rfl rfl ?_ | refine TL.ev (ev_len rfl) rfl ?_ | (refine TL.cmpG rfl rfl rfl rfl (fun hc => ?_) (fun hc => ?_) <;> try (exfalso; omega)) | refine TL.ev (ev_arN rfl rfl rfl (by omega)) rfl ?_ | refine TL.ev (ev_arI rfl rfl rfl (by omega)) rfl ?_ | refine TL.ev (ev_neg rfl (by omega)) rfl ?_ | refine TL.ev (ev_indexN rfl rfl (by omega) (by first | exact Or.inr rfl | exact Sl.some (by assumption))) rfl ?_ | refine TL.ev (ev_index rfl rfl (by omega) (by first | exact Or.inr rfl | exact Sl.some (by assumption))) rfl ?_ | refine TL.ev (ev_loadU rfl (by assumption) (by omega)) rfl ?_ | refine TL.ev (ev_loadI rfl (by assumption) (by omega)) rfl ?_ | refine T.seq ?_ | refine T.region ?_ | refine TL.nil ?_ | refine T.block ?_ | refine T.cond_t rfl ?_ | refine T.cond_f rfl ?_ | refine T.exit ?_ | refine T.ret ?_ | refine T.skip ?_ | refine G.next ?_ | refine G.blockN ?_ | refine G.blockE ?_ | refine G.blockE' rfl ?_ | refine G.blockR ?_ | refine G.thenE ?_ | refine G.thenR ?_ | refine T.regionQ mixed (by kernel_rfl) ?_ | refine TL.nilQ (fun _ => ?_) | refine G.only ?_ | refine G.mixed ?_ | refine TM.nil ?_ | refine TM.e rfl ?_)
  refine T.loop (α := Nat × List Nat × Nat) (fun x => [(0, .slice (some ⟨g, 0, none⟩) n c), (1, .slice A' n' c'), (4, .int .u64 (x.2.2 : Int)), (8, .int .i64 (n : Int)), (9, .int .i64 (x.1 : Int))])
    (fun x w' => x.1 ≤ n ∧ x.2.1.length = x.1 ∧ U64 x.2.1 ∧ x.2.2 ≤ 1 ∧ Upd g w w' ∧ Bk u64v w'.heap g 25 (x.2.1 ++ S.drop x.1) ∧ val x.2.1 + val (l'.take x.1) = val (S.take x.1) + 18446744073709551616 ^ x.1 * x.2.2)
    (fun x => n - x.1) (0, [], 0) (by repeat (first | exact Sub.nil _ | refine Sub.cons rfl ?_ | refine Sub.cons' rfl (int_congr (by omega)) ?_)) ⟨Nat.zero_le _, rfl, U64.nil, Nat.zero_le _, upd_refl _ _, by simpa using hB, by simp [val]⟩ ?_
  rintro ⟨i, D, cy⟩ w2 ⟨hi, hD, hDu, hcy, hE2, hB2, hv⟩
  dsimp only at hi hD hDu hcy hE2 hB2 hv ⊢
  have k1 := sl_off hE2 hs' hoff
  have hlB : (D ++ S.drop i).length = n := by simp; omega
  have k2 := hB2.slN (c := c) hlB hc0 hB2.lt
  have x1 := hu.getD i
  have x2 := hu'.getD i
  have ex := getD_win D S i hD
  repeat' (first | refine TL.ev (ev_simple rfl) rfl ?_ | refine TL.grun rfl rfl rfl ?_ | refine TL.gskip rfl rfl rfl rfl ?_ | refine TL.gskipU rfl rfl rfl ?_ | refine TL.ev (ev_len rfl) rfl ?_ | (refine TL.cmpG rfl rfl rfl rfl (fun hc => ?_) (fun hc => ?_) <;> try (exfalso; omega)) | refine TL.ev (ev_arN rfl rfl rfl (by omega)) rfl ?_ | refine TL.ev (ev_arI rfl rfl rfl (by omega)) rfl ?_ | refine TL.ev (ev_neg rfl (by omega)) rfl ?_ | refine TL.ev (ev_indexN rfl rfl (by omega) (by first | exact Or.inr rfl | exact Sl.some (by assumption))) rfl ?_ | refine TL.ev (ev_index rfl rfl (by omega) (by first | exact Or.inr rfl | exact Sl.some (by assumption))) rfl ?_ | refine TL.ev (ev_loadU rfl (by assumption) (by omega)) rfl ?_ | refine TL.ev (ev_loadI rfl (by assumption) (by omega)) rfl ?_ | (refine TL.ev (ev_callx rfl (fun w => sub64_run w (by omega))) rfl ?_) | (refine TL.storeU rfl rfl hB2 (by rw [hlB]; omega) (fun w3 hB3 hU => ?_)) | refine T.seq ?_ | refine T.region ?_ | refine TL.nil ?_ | refine T.block ?_ | refine T.cond_t rfl ?_ | refine T.cond_f rfl ?_ | refine T.exit ?_ | refine T.ret ?_ | refine T.skip ?_ | refine G.next ?_ | refine G.blockN ?_ | refine G.blockE ?_ | refine G.blockE' rfl ?_ | refine G.blockR ?_ | refine G.thenE ?_ | refine G.thenR ?_ | refine T.regionQ mixed (by kernel_rfl) ?_ | refine TL.nilQ (fun _ => ?_) | refine G.only ?_ | refine G.mixed ?_ | refine TM.nil ?_ | refine TM.e rfl ?_)
  · have hlt : ((D ++ S.drop i).getD i 0 + 18446744073709551616 - l'.getD i 0 - cy) % 18446744073709551616 < 18446744073709551616 := Nat.mod_lt _ (by omega)
    refine G.again (i + 1, D ++ [((D ++ S.drop i).getD i 0 + 18446744073709551616 - l'.getD i 0 - cy) % 18446744073709551616], if (D ++ S.drop i).getD i 0 < l'.getD i 0 + cy then 1 else 0) (by repeat (first | exact Sub.nil _ | refine Sub.cons rfl ?_ | refine Sub.cons' rfl (int_congr (by omega)) ?_)) ⟨by dsimp only; omega, by simp [hD], hDu.append (U64.one hlt), by dsimp only; split <;> omega, upd_trans hE2 hU, ?_, ?_⟩ (by dsimp only; omega)
    · dsimp only
      have e := set_mid [] D (S.drop (i + 1)) (S.getD i 0) (((D ++ S.drop i).getD i 0 + 18446744073709551616 - l'.getD i 0 - cy) % 18446744073709551616)
      rw [← drop_cons S i (by omega), List.nil_append, List.nil_append, List.length_nil, Nat.zero_add, hD] at e
      rwa [e] at hB3
    · dsimp only
      rw [val_snoc, val_take_succ, val_take_succ, hD, Nat.pow_succ, ex]
      exact sub_step hv (by split <;> omega)
  · have hz : cy = 0 := by omega
    subst hz
    have h1 : val (l'.take i) = val l' := by rw [List.take_of_length_le (by omega)]
    refine G.ret0 rfl ⟨rfl, ⟨_, hB2, hlB, hDu.append (hu.drop i), ?_⟩, hE2⟩
    rw [val_append, hD, val_split S i]
    omega
  · have e2 : l'.getD i 0 = 0 := getD_ge (by omega)
    have hlt : ((D ++ S.drop i).getD i 0 + 18446744073709551616 - 0 - cy) % 18446744073709551616 < 18446744073709551616 := Nat.mod_lt _ (by omega)
    refine G.again (i + 1, D ++ [((D ++ S.drop i).getD i 0 + 18446744073709551616 - 0 - cy) % 18446744073709551616], if (D ++ S.drop i).getD i 0 < 0 + cy then 1 else 0) (by repeat (first | exact Sub.nil _ | refine Sub.cons rfl ?_ | refine Sub.cons' rfl (int_congr (by omega)) ?_)) ⟨by dsimp only; omega, by simp [hD], hDu.append (U64.one hlt), by dsimp only; split <;> omega, upd_trans hE2 hU, ?_, ?_⟩ (by dsimp only; omega)
    · dsimp only
      have e := set_mid [] D (S.drop (i + 1)) (S.getD i 0) (((D ++ S.drop i).getD i 0 + 18446744073709551616 - 0 - cy) % 18446744073709551616)
      rw [← drop_cons S i (by omega), List.nil_append, List.nil_append, List.length_nil, Nat.zero_add, hD] at e
      rwa [e] at hB3
    · dsimp only
      rw [val_snoc, val_take_succ, val_take_succ, hD, Nat.pow_succ, ex, e2]
      exact sub_step hv (by split <;> omega)
  · obtain rfl : i = n := by omega
    have h0 := hS
    rw [List.drop_of_length_le (by omega), List.append_nil] at hB2
    have h1 : val (S.take i) = val S := by rw [List.take_of_length_le (by omega)]
    have h2 : val (l'.take i) = val l' := by rw [List.take_of_length_le (by omega)]
    rw [h1, h2] at hv
    have hb := val_lt hDu
    rw [hD] at hb
    have hz : cy = 0 := by
      rcases Nat.eq_zero_or_pos cy with h | h
      · exact h
      · obtain rfl : cy = 1 := by omega
        omega
    subst hz
    exact G.end0 rfl ⟨rfl, ⟨_, hB2, hD, hDu, by omega⟩, hE2⟩

/-- a new block, whole: a list of n words with a value -/
def RetB (w : World) (n : Nat) (v : Nat) (e : Ending) (w' : World) : Prop := ∃ b D, e = .returned (.slice (some ⟨b, 0, none⟩) n n) ∧ w.heap.size ≤ b ∧ Bk u64v w'.heap b 25 D ∧ D.length = n ∧ U64 D ∧ val D = v ∧ Ext w w'
theorem RetB.mk {w w' : World} {n v b : Nat} {D : List Nat} (h1 : w.heap.size ≤ b) (h2 : Bk u64v w'.heap b 25 D) (h3 : D.length = n) (h4 : U64 D) (h5 : val D = v) (h6 : Ext w w') : RetB w n v (.returned (.slice (some ⟨b, 0, none⟩) n n)) w' := ⟨b, D, rfl, h1, h2, h3, h4, h5, h6⟩
theorem off_lt {α : Type} {f : α → Value} {H : Array Obj} {g B n c : Nat} {A : Option Addr} {l : List α} (h : Sl f H B A n c l) (hg : B ≤ g) : Off g n A := by
  rcases h.mem with h0 | ⟨b, o, e, hlt, _⟩
  · exact .inl h0
  · refine .inr fun a ha => ?_
    rw [e] at ha; cases ha
    show b ≠ g
    omega
theorem val_ge {l : List Nat} (h : U64 l) (k : Nat) (hk : sz l ≤ k) : val l < 18446744073709551616 ^ k :=
  Nat.lt_of_lt_of_le (val_lt_sz h) (Nat.pow_le_pow_right (by omega) hk)

set_option maxHeartbeats 1000000 in
theorem sum_ok (w : World) (B B' : Nat) (A A' : Option Addr) (n c n' c' : Nat) (l l' : List Nat) (hs : Sl u64v w.heap B A n c l) (hs' : Sl u64v w.heap B' A' n' c' l') (hu : U64 l) (hu' : U64 l') (hn : n ≤ 35184372088830) (hn' : n' ≤ 35184372088830) :
    Cl Try.prog 70 #[.slice A n c, .slice A' n' c'] w (RetB w (max n n' + 1) (val l + val l')) := by
  have hlen := hs.len
  have hlen' := hs'.len
  replace hs := hs.size
  replace hs' := hs'.size
  have h1 := val_lt hu
  have h2 := val_lt hu'
  have h3 : val l + val l' < 18446744073709551616 ^ (max n n' + 1) := by
    have p1 : 18446744073709551616 ^ l.length ≤ 18446744073709551616 ^ max n n' := Nat.pow_le_pow_right (by omega) (by omega)
    have p2 : 18446744073709551616 ^ l'.length ≤ 18446744073709551616 ^ max n n' := Nat.pow_le_pow_right (by omega) (by omega)
    rw [Nat.pow_succ]
    omega
  refine enter Try.func70 rfl rfl rfl ?_
  repeat' (first | refine TL.ev (ev_simple rfl) rfl ?_ | refine TL.grun rfl rfl rfl ?_ | refine TL.gskip rfl rfl rfl rfl ?_ | refine TL.gskipU rfl rfl rfl ?_ | refine TL.ev (ev_len rfl) rfl ?_ | (refine TL.cmpG rfl rfl rfl rfl (fun hc => ?_) (fun hc => ?_) <;> try (exfalso; omega)) | refine TL.ev (ev_arN rfl rfl rfl (by omega)) rfl ?_ | refine TL.ev (ev_arI rfl rfl rfl (by omega)) rfl ?_ | refine TL.ev (ev_neg rfl (by omega)) rfl ?_ | (refine TL.ev (ev_max2 rfl rfl) rfl ?_) | (refine TL.makeU rfl rfl rfl (by omega) (by omega) (fun w1 b1 eb hB hE hz => ?_); have hs1 := hs.ext hE; have hs1' := hs'.ext hE) | (refine TL.copy (f := u64v) (fun _ => rfl) rfl rfl rfl hB hs1 (by simp) (fun w2 hB2 hU => ?_)) | refine T.seq ?_ | refine T.region ?_ | refine TL.nil ?_ | refine T.block ?_ | refine T.cond_t rfl ?_ | refine T.cond_f rfl ?_ | refine T.exit ?_ | refine T.ret ?_ | refine T.skip ?_ | refine G.next ?_ | refine G.blockN ?_ | refine G.blockE ?_ | refine G.blockE' rfl ?_ | refine G.blockR ?_ | refine G.thenE ?_ | refine G.thenR ?_ | refine T.regionQ mixed (by kernel_rfl) ?_ | refine TL.nilQ (fun _ => ?_) | refine G.only ?_ | refine G.mixed ?_ | refine TM.nil ?_ | refine TM.e rfl ?_)
  have hl2 : (List.take 0 (List.replicate (max n n' + 1) 0) ++ List.take (min n (max n n' + 1)) l ++ List.drop (0 + min n (max n n' + 1)) (List.replicate (max n n' + 1) 0)).length = max n n' + 1 := by simp; omega
  have hv2 : val (List.take 0 (List.replicate (max n n' + 1) 0) ++ List.take (min n (max n n' + 1)) l ++ List.drop (0 + min n (max n n' + 1)) (List.replicate (max n n' + 1) 0)) = val l := by
    rw [Nat.min_eq_left (by omega), List.take_of_length_le (show l.length ≤ n by omega)]
    simp [val_append, val_zeros, List.drop_replicate]
  have hu2 : U64 (List.take 0 (List.replicate (max n n' + 1) 0) ++ List.take (min n (max n n' + 1)) l ++ List.drop (0 + min n (max n n' + 1)) (List.replicate (max n n' + 1) 0)) :=
    (((U64.replicate _).take _).append (hu.take _)).append ((U64.replicate _).drop _)
  generalize (List.take 0 (List.replicate (max n n' + 1) 0) ++ List.take (min n (max n n' + 1)) l ++ List.drop (0 + min n (max n n' + 1)) (List.replicate (max n n' + 1) 0)) = Z at *
  have hs2' := hs1'.upd hU (by omega)
  have hoff := off_lt hs2' (g := b1) (by omega)
  repeat' (first | refine TL.ev (ev_simple rfl) rfl ?_ | refine TL.grun rfl rfl rfl ?_ | refine TL.gskip rfl rfl rfl rfl ?_ | refine TL.gskipU rfl rfl rfl ?_ | (refine TL.call rfl rfl ?_; first | (refine (addTo_ok w2 _ b1 0 (max n n' + 1) (max n n' + 1) _ _ _ [] Z l' hB2 rfl hl2 (Nat.le_refl _) hs2' hoff hu2 hu' (by omega) (by omega) (by rw [hv2]; exact h3)).mono ?_; rintro _ w3 ⟨rfl, ⟨D, hB3, hD, hDu, hv3⟩, hU3⟩; refine Back.mk ?_)) | refine TL.ev (ev_len rfl) rfl ?_ | (refine TL.cmpG rfl rfl rfl rfl (fun hc => ?_) (fun hc => ?_) <;> try (exfalso; omega)) | refine TL.ev (ev_arN rfl rfl rfl (by omega)) rfl ?_ | refine TL.ev (ev_arI rfl rfl rfl (by omega)) rfl ?_ | refine TL.ev (ev_neg rfl (by omega)) rfl ?_ | refine T.seq ?_ | refine T.region ?_ | refine TL.nil ?_ | refine T.block ?_ | refine T.cond_t rfl ?_ | refine T.cond_f rfl ?_ | refine T.exit ?_ | refine T.ret ?_ | refine T.skip ?_ | refine G.next ?_ | refine G.blockN ?_ | refine G.blockE ?_ | refine G.blockE' rfl ?_ | refine G.blockR ?_ | refine G.thenE ?_ | refine G.thenR ?_ | refine T.regionQ mixed (by kernel_rfl) ?_ | refine TL.nilQ (fun _ => ?_) | refine G.only ?_ | refine G.mixed ?_ | refine TM.nil ?_ | refine TM.e rfl ?_)
  rw [List.nil_append] at hB3
  exact G.ret1 rfl rfl (RetB.mk (by omega) hB3 hD hDu (by rw [hv3, hv2]) ((hE.upd hU (by omega)).upd hU3 (by omega)))

set_option maxHeartbeats 1000000 in
theorem rows_ok (w : World) (B B' g : Nat) (A A' : Option Addr) (n c m c' : Nat) (l l' : List Nat) (hs : Sl u64v w.heap B A n c l) (hs' : Sl u64v w.heap B' A' m c' l') (hoff : Off g n A) (hoff' : Off g m A') (hu : U64 l) (hu' : U64 l') (hn : n ≤ 35184372088832) (hm : m ≤ 35184372088832)
    (hB : Bk u64v w.heap g 25 (List.replicate (n + m) 0)) :
    Cl Try.prog 59 #[.slice (some ⟨g, 0, none⟩) (n + m) (n + m), .slice A n c, .slice A' m c'] w (RetU w g fun w' => ∃ D, Bk u64v w'.heap g 25 D ∧ D.length = n + m ∧ U64 D ∧ val D = val l * val l') := by
  have hlen := hs.len
  have hlen' := hs'.len
  refine enter Try.func59 rfl rfl rfl ?_
  repeat' (first | refine TL.ev (ev_simple rfl) rfl ?_ | refine TL.grun rfl rfl rfl ?_ | refine TL.gskip rfl rfl rfl rfl ?_ | refine TL.gskipU rfl rfl rfl ?_ | refine TL.ev (ev_len rfl) rfl ?_ | (refine TL.cmpG rfl rfl rfl rfl (fun hc => ?_) (fun hc => ?_) <;> try (exfalso; omega)) | refine TL.ev (ev_arN rfl rfl rfl (by omega)) rfl ?_ | refine TL.ev (ev_arI rfl rfl rfl (by omega)) rfl ?_ | refine TL.ev (ev_neg rfl (by omega)) rfl ?_ | refine TL.ev (ev_indexN rfl rfl (by omega) (by first | exact Or.inr rfl | exact Sl.some (by assumption))) rfl ?_ | refine TL.ev (ev_index rfl rfl (by omega) (by first | exact Or.inr rfl | exact Sl.some (by assumption))) rfl ?_ | refine TL.ev (ev_loadU rfl (by assumption) (by omega)) rfl ?_ | refine TL.ev (ev_loadI rfl (by assumption) (by omega)) rfl ?_ | refine T.seq ?_ | refine T.region ?_ | refine TL.nil ?_ | refine T.block ?_ | refine T.cond_t rfl ?_ | refine T.cond_f rfl ?_ | refine T.exit ?_ | refine T.ret ?_ | refine T.skip ?_ | refine G.next ?_ | refine G.blockN ?_ | refine G.blockE ?_ | refine G.blockE' rfl ?_ | refine G.blockR ?_ | refine G.thenE ?_ | refine G.thenR ?_ | refine T.regionQ mixed (by kernel_rfl) ?_ | refine TL.nilQ (fun _ => ?_) | refine G.only ?_ | refine G.mixed ?_ | refine TM.nil ?_ | refine TM.e rfl ?_)
  refine T.loop (α := Nat × List Nat) (fun x => [(0, .slice (some ⟨g, 0, none⟩) (n + m) (n + m)), (2, .slice A' m c'), (14, .slice A n c), (15, .int .i64 (n : Int)), (16, .int .i64 (x.1 : Int))])
    (fun x w' => x.1 ≤ n ∧ x.2.length = n + m ∧ U64 x.2 ∧ Upd g w w' ∧ Bk u64v w'.heap g 25 x.2 ∧ (∀ j, x.1 + m ≤ j → x.2.getD j 0 = 0) ∧ val x.2 = val (l.take x.1) * val l')
    (fun x => n - x.1) (0, List.replicate (n + m) 0) (by repeat (first | exact Sub.nil _ | refine Sub.cons rfl ?_ | refine Sub.cons' rfl (int_congr (by omega)) ?_)) ⟨Nat.zero_le _, by simp, U64.replicate _, upd_refl _ _, hB, fun j _ => by simp [List.getD, List.getElem?_replicate]; split <;> rfl, by simp [val, val_zeros]⟩ ?_
  rintro ⟨i, Z⟩ w2 ⟨hi, hZ, hZu, hE2, hB2, hzero, hv⟩
  dsimp only at hi hZ hZu hE2 hB2 hzero hv ⊢
  have k1 := sl_off hE2 hs hoff
  have x1 := hu.getD i
  repeat' (first | refine TL.ev (ev_simple rfl) rfl ?_ | refine TL.grun rfl rfl rfl ?_ | refine TL.gskip rfl rfl rfl rfl ?_ | refine TL.gskipU rfl rfl rfl ?_ | refine TL.ev (ev_len rfl) rfl ?_ | (refine TL.cmpG rfl rfl rfl rfl (fun hc => ?_) (fun hc => ?_) <;> try (exfalso; omega)) | refine TL.ev (ev_arN rfl rfl rfl (by omega)) rfl ?_ | refine TL.ev (ev_arI rfl rfl rfl (by omega)) rfl ?_ | refine TL.ev (ev_neg rfl (by omega)) rfl ?_ | refine TL.ev (ev_indexN rfl rfl (by omega) (by first | exact Or.inr rfl | exact Sl.some (by assumption))) rfl ?_ | refine TL.ev (ev_index rfl rfl (by omega) (by first | exact Or.inr rfl | exact Sl.some (by assumption))) rfl ?_ | refine TL.ev (ev_loadU rfl (by assumption) (by omega)) rfl ?_ | refine TL.ev (ev_loadI rfl (by assumption) (by omega)) rfl ?_ | refine TL.ev (ev_shrU rfl rfl (by first | omega | exact U64.getD (by assumption) _)) rfl ?_ | refine TL.ev (ev_shlU rfl rfl) rfl ?_ | refine TL.ev (ev_andU rfl rfl (by first | omega | exact U64.getD (by assumption) _) (by first | omega | exact U64.getD (by assumption) _)) rfl ?_ | refine TL.ev (ev_orU rfl rfl (by first | omega | exact U64.getD (by assumption) _) (by first | omega | exact U64.getD (by assumption) _)) rfl ?_ | refine TL.ev (ev_xorU rfl rfl (by first | omega | exact U64.getD (by assumption) _) (by first | omega | exact U64.getD (by assumption) _)) rfl ?_ | refine TL.ev (ev_convU rfl (by omega)) rfl ?_ | refine TL.ev (ev_convI rfl (by omega)) rfl ?_ | refine TL.ev (ev_arU rfl rfl rfl (by first | exact True.intro | omega)) rfl ?_ | refine T.seq ?_ | refine T.region ?_ | refine TL.nil ?_ | refine T.block ?_ | refine T.cond_t rfl ?_ | refine T.cond_f rfl ?_ | refine T.exit ?_ | refine T.ret ?_ | refine T.skip ?_ | refine G.next ?_ | refine G.blockN ?_ | refine G.blockE ?_ | refine G.blockE' rfl ?_ | refine G.blockR ?_ | refine G.thenE ?_ | refine G.thenR ?_ | refine T.regionQ mixed (by kernel_rfl) ?_ | refine TL.nilQ (fun _ => ?_) | refine G.only ?_ | refine G.mixed ?_ | refine TM.nil ?_ | refine TM.e rfl ?_)
  · refine G.again (i + 1, Z) (by repeat (first | exact Sub.nil _ | refine Sub.cons rfl ?_ | refine Sub.cons' rfl (int_congr (by omega)) ?_)) ⟨by dsimp only; omega, hZ, hZu, hE2, hB2, fun j hj => hzero j (by dsimp only at hj; omega), ?_⟩ (by dsimp only; omega)
    dsimp only
    rw [val_take_succ, show l.getD i 0 = 0 by omega, Nat.mul_zero, Nat.add_zero]
    exact hv
  · refine T.loop (α := Nat × List Nat × Nat) (fun x => [(0, .slice (some ⟨g, 0, none⟩) (n + m) (n + m)), (2, .slice A' m c'), (14, .slice A n c), (15, .int .i64 (n : Int)), (16, .int .i64 (i : Int)), (6, .int .i64 (i : Int)), (7, .int .u64 (l.getD i 0 : Int)), (8, .int .u64 (x.2.2 : Int)), (23, .slice A' m c'), (24, .int .i64 (m : Int)), (25, .int .i64 (x.1 : Int))])
      (fun x w' => x.1 ≤ m ∧ x.2.1.length = n + m ∧ U64 x.2.1 ∧ x.2.2 < 18446744073709551616 ∧ Upd g w w' ∧ Bk u64v w'.heap g 25 x.2.1 ∧ (∀ j, i + m ≤ j → x.2.1.getD j 0 = 0) ∧ val x.2.1 + 18446744073709551616 ^ (i + x.1) * x.2.2 = val Z + 18446744073709551616 ^ i * (l.getD i 0 * val (l'.take x.1)))
      (fun x => m - x.1) (0, Z, 0) (by repeat (first | exact Sub.nil _ | refine Sub.cons rfl ?_ | refine Sub.cons' rfl (int_congr (by omega)) ?_)) ⟨Nat.zero_le _, hZ, hZu, by dsimp only; omega, hE2, hB2, hzero, by simp [val]⟩ ?_
    rintro ⟨j, Y, cy⟩ w3 ⟨hj, hY, hYu, hcy, hE3, hB3, hzero3, hv3⟩
    dsimp only at hj hY hYu hcy hE3 hB3 hzero3 hv3 ⊢
    have k2 := sl_off hE3 hs' hoff'
    have x2 := hu'.getD j
    have x3 := hYu.getD (i + j)
    have kY := hB3.slN (c := n + m) hY (Nat.le_refl _) hB3.lt
    have hbig := mul_hi_lt x1 x2 hcy x3
    repeat' (first | refine TL.ev (ev_simple rfl) rfl ?_ | refine TL.grun rfl rfl rfl ?_ | refine TL.gskip rfl rfl rfl rfl ?_ | refine TL.gskipU rfl rfl rfl ?_ | refine TL.ev (ev_len rfl) rfl ?_ | (refine TL.cmpG rfl rfl rfl rfl (fun hc => ?_) (fun hc => ?_) <;> try (exfalso; omega)) | refine TL.ev (ev_arN rfl rfl rfl (by omega)) rfl ?_ | refine TL.ev (ev_arI rfl rfl rfl (by omega)) rfl ?_ | refine TL.ev (ev_neg rfl (by omega)) rfl ?_ | refine TL.ev (ev_indexN rfl rfl (by omega) (by first | exact Or.inr rfl | exact Sl.some (by assumption))) rfl ?_ | refine TL.ev (ev_index rfl rfl (by omega) (by first | exact Or.inr rfl | exact Sl.some (by assumption))) rfl ?_ | refine TL.ev (ev_loadU rfl (by assumption) (by omega)) rfl ?_ | refine TL.ev (ev_loadI rfl (by assumption) (by omega)) rfl ?_ | refine TL.ev (ev_shrU rfl rfl (by first | omega | exact U64.getD (by assumption) _)) rfl ?_ | refine TL.ev (ev_shlU rfl rfl) rfl ?_ | refine TL.ev (ev_andU rfl rfl (by first | omega | exact U64.getD (by assumption) _) (by first | omega | exact U64.getD (by assumption) _)) rfl ?_ | refine TL.ev (ev_orU rfl rfl (by first | omega | exact U64.getD (by assumption) _) (by first | omega | exact U64.getD (by assumption) _)) rfl ?_ | refine TL.ev (ev_xorU rfl rfl (by first | omega | exact U64.getD (by assumption) _) (by first | omega | exact U64.getD (by assumption) _)) rfl ?_ | refine TL.ev (ev_convU rfl (by omega)) rfl ?_ | refine TL.ev (ev_convI rfl (by omega)) rfl ?_ | refine TL.ev (ev_arU rfl rfl rfl (by first | exact True.intro | omega)) rfl ?_ | (refine TL.callP rfl rfl (mul64_ok _ x1 x2) (fun _ => ?_)) | (refine TL.ev (ev_callx rfl (fun w => add64_run w (by omega))) rfl ?_) | (refine TL.storeU rfl rfl hB3 (by omega) (fun w4 hB4 hU => ?_)) | refine T.seq ?_ | refine T.region ?_ | refine TL.nil ?_ | refine T.block ?_ | refine T.cond_t rfl ?_ | refine T.cond_f rfl ?_ | refine T.exit ?_ | refine T.ret ?_ | refine T.skip ?_ | refine G.next ?_ | refine G.blockN ?_ | refine G.blockE ?_ | refine G.blockE' rfl ?_ | refine G.blockR ?_ | refine G.thenE ?_ | refine G.thenR ?_ | refine T.regionQ mixed (by kernel_rfl) ?_ | refine TL.nilQ (fun _ => ?_) | refine G.only ?_ | refine G.mixed ?_ | refine TM.nil ?_ | refine TM.e rfl ?_)
    · have e := mac_step (l.getD i 0 * l'.getD j 0) cy (Y.getD (i + j) 0) hbig
      have hset := val_set Y (i + j) ((Y.getD (i + j) 0 + (l.getD i 0 * l'.getD j 0 % 18446744073709551616 + cy + 0) % 18446744073709551616 + 0) % 18446744073709551616) (by omega)
      refine G.again (j + 1, _, _) (by repeat (first | exact Sub.nil _ | refine Sub.cons rfl ?_ | refine Sub.cons' rfl (int_congr (by omega)) ?_)) ⟨by dsimp only; omega, ?_, ?_, ?_, upd_trans hE3 (upd_undrewN hU), hB4, ?_, ?_⟩ (by dsimp only; omega)
      · dsimp only; rw [List.length_set]; exact hY
      · exact hYu.set _ _ (Nat.mod_lt _ (by omega))
      · exact Nat.mod_lt _ (by omega)
      · intro q hq
        dsimp only
        rw [getD_set _ _ _ _ (by omega), if_neg (by omega)]
        exact hzero3 q hq
      · dsimp only
        rw [val_take_succ, show i + (j + 1) = i + j + 1 by omega, Nat.pow_succ, Nat.pow_add, Nat.mul_assoc (18446744073709551616 ^ i)]
        rw [Nat.pow_add] at hset hv3
        exact rows_step hset hv3 e
    · obtain rfl : j = m := by omega
      have hset := val_set Y (i + j) cy (by omega)
      rw [hzero3 (i + j) (by omega), Nat.mul_zero, Nat.add_zero] at hset
      have h2 : val (l'.take j) = val l' := by rw [List.take_of_length_le (by omega)]
      refine G.again (i + 1, _) (by repeat (first | exact Sub.nil _ | refine Sub.cons rfl ?_ | refine Sub.cons' rfl (int_congr (by omega)) ?_)) ⟨by dsimp only; omega, ?_, ?_, upd_trans hE3 hU, hB4, ?_, ?_⟩ (by dsimp only; omega)
      · dsimp only; rw [List.length_set]; exact hY
      · exact hYu.set _ _ hcy
      · intro q hq
        dsimp only at hq ⊢
        rw [getD_set _ _ _ _ (by omega), if_neg (by omega)]
        exact hzero3 q (by omega)
      · dsimp only
        rw [hset, hv3, h2, hv, val_take_succ, Nat.add_mul, Nat.mul_assoc]
  · obtain rfl : i = n := by omega
    have h2 : val (l.take i) = val l := by rw [List.take_of_length_le (by omega)]
    exact G.end0 rfl ⟨rfl, ⟨Z, hB2, hZ, hZu, by rw [hv, h2]⟩, hE2⟩
end Go.Proofs.Ytgmhldapndhoeaa
