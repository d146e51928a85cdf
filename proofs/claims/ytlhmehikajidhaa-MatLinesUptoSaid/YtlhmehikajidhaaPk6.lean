/- Layer 2: contract of mulnat.product. Layer 1: contract of nat.Sub. Layer 1: contracts of math/bits.Len64 and nat.BitLen. Layers 1 and 2: contracts of nat.Low, nat.Shl, mulnat.Mul, Word, MulAdd, MulLow, Square. Layer 5: contracts of zint: of, Least, Add, Mul, MulAdd, Of. The engine: blocks of structs known whole, filled from the front; guarded operations of drawn regions. -/
import Derived.Test.YtlhmehikajidhaaPk5
import Derived.Test.YtlhmehikajidhaaPk4
import Derived.Test.YtlhmehikajidhaaPk3
import Derived.Great.BuildSlice
set_option linter.unusedVariables false
set_option linter.unusedSimpArgs false
namespace Go.Proofs.Ytlhmehikajidhaa
open Go Go.Eng Go.Proofs Go.NatM

theorem ProdSpec.mono {j k : Nat} (h : ProdSpec k) (hj : j ≤ k) : ProdSpec j := fun w B B' A A' n c n' c' l l' h1 h2 h3 h4 h5 h6 => h w B B' A A' n c n' c' l l' h1 h2 h3 h4 h5 (by omega)
theorem sz_take (l : List Nat) : sz (l.take (sz l)) = sz l := by
  refine sz_eq _ _ (by rw [List.length_take]; have := sz_le l; omega) (fun j hj => getD_ge (by rw [List.length_take]; omega)) ?_
  rcases sz_top l with h | h
  · exact .inl h
  · rcases Nat.eq_zero_or_pos (sz l) with h0 | h0
    · exact .inl h0
    · refine .inr ?_
      have e : (l.take (sz l)).getD (sz l - 1) 0 = l.getD (sz l - 1) 0 := by simp [List.getD, List.getElem?_take, show sz l - 1 < sz l by omega]
      rwa [e]

set_option maxHeartbeats 2000000 in
theorem prod_step (k : Nat) (IH : ProdSpec k) : ProdSpec (k + 1) := by
  intro w B B' A A' n c n' c' l l' hs hs' hu hu' hnn hk
  have hlen := hs.len
  have hlen' := hs'.len
  replace hs := hs.size
  replace hs' := hs'.size
  have z1 := sz_le l
  have z2 := sz_le l'
  have g1 := hs.take (k := sz l) (m := sz l) (by omega) (Nat.le_refl _)
  have g2 := hs'.take (k := sz l') (m := sz l') (by omega) (Nat.le_refl _)
  have v1 := val_sz l
  have v2 := val_sz l'
  refine enter Try.func77 rfl rfl rfl ?_
  skip
  refine T.seq (T.region ?_)
  repeat' (first | refine TL.ev (ev_simple rfl) rfl ?_ | refine TL.nil ?_ | refine G.next ?_)
  refine T.seq (T.region ?_)
  repeat' (first | refine TL.ev (ev_simple rfl) rfl ?_ | (refine TL.callP rfl rfl (trim_ok _ _ _ _ _ _ hs (by omega)) (fun q1 => ?_)) | (refine TL.callP rfl rfl (trim_ok _ _ _ _ _ _ hs' (by omega)) (fun q2 => ?_)) | refine TL.nil ?_ | refine G.next ?_)
  refine T.cut (α := SA Nat × SA Nat) (fun x => [(0, .slice x.1.A x.1.n x.1.n), (1, .slice x.2.A x.2.n x.2.n)]) (fun x w' => Qt w w' ∧ Sl u64v w.heap w.heap.size x.1.A x.1.n x.1.n x.1.l ∧ Sl u64v w.heap w.heap.size x.2.A x.2.n x.2.n x.2.l ∧ U64 x.1.l ∧ U64 x.2.l ∧
    x.1.n + x.2.n = sz l + sz l' ∧ x.2.n ≤ x.1.n ∧ sz x.1.l = x.1.n ∧ sz x.2.l = x.2.n ∧ val x.1.l * val x.2.l = val l * val l') ?_ ?_
  · repeat' (first | refine TL.ev (ev_simple rfl) rfl ?_ | refine TL.ev (ev_len rfl) rfl ?_ | (refine TL.cmpG rfl rfl rfl rfl (fun hc => ?_) (fun hc => ?_) <;> try (exfalso; omega)) | refine T.seq ?_ | refine T.region ?_ | refine TL.nil ?_ | refine T.cond_t rfl ?_ | refine T.cond_f rfl ?_ | refine T.skip ?_ | refine G.next ?_)
    · exact G.cut (⟨A', sz l', c', l'.take (sz l')⟩, ⟨A, sz l, c, l.take (sz l)⟩) (by repeat (first | exact Sub.nil _ | refine Sub.cons rfl ?_ | refine Sub.cons' rfl (int_congr (by omega)) ?_)) ⟨((Qt.refl w).drewN _).drewN _, g2, g1, hu'.take _, hu.take _, Nat.add_comm _ _, by dsimp only; omega, sz_take _, sz_take _, by dsimp only; rw [v1, v2, Nat.mul_comm]⟩
    · exact G.cut (⟨A, sz l, c, l.take (sz l)⟩, ⟨A', sz l', c', l'.take (sz l')⟩) (by repeat (first | exact Sub.nil _ | refine Sub.cons rfl ?_ | refine Sub.cons' rfl (int_congr (by omega)) ?_)) ⟨((Qt.refl w).drewN _).drewN _, g1, g2, hu.take _, hu'.take _, rfl, by dsimp only; omega, sz_take _, sz_take _, by dsimp only; rw [v1, v2]⟩
  rintro ⟨⟨A1, n1, c1, l1⟩, ⟨A2, n2, c2, l2⟩⟩ w0 ⟨⟨q, rfl⟩, s1, s2, u1, u2, hsum, hle, hz1, hz2, hval⟩
  dsimp only at s1 s2 u1 u2 hsum hle hz1 hz2 hval ⊢
  have hl1 := s1.len
  have hl2 := s2.len
  have hsum' : n1 + n2 ≤ n + n' := by omega
  clear hs hs' g1 g2 v1 v2 hlen hlen' hu hu'
  rw [← hsum, ← hval]
  clear hval
  repeat' (first | refine TL.ev (ev_simple rfl) rfl ?_ | refine TL.ev (ev_len rfl) rfl ?_ | (refine TL.cmpG rfl rfl rfl rfl (fun hc => ?_) (fun hc => ?_) <;> try (exfalso; omega)) | refine TL.ev (ev_arN rfl rfl rfl (by omega)) rfl ?_ | (refine TL.makeU rfl rfl rfl (by omega) (by omega) (fun w1 b1 eb hB hE hz => ?_); simp only [World.heap_drewN] at eb hz; have hE1 : Ext w w1 := (ext_drewN _ _).trans hE; clear hE; have t1 := s1.ext hE1; have t2 := s2.ext hE1; have hg := off_lt t1 (g := b1) (by omega); have hg' := off_lt t2 (g := b1) (by omega)) | refine T.seq ?_ | refine T.region ?_ | refine TL.nil ?_ | refine T.block ?_ | refine T.cond_t rfl ?_ | refine T.cond_f rfl ?_ | refine G.next ?_)
  · refine TL.call rfl rfl ((rows_ok w1 _ _ b1 _ _ _ _ _ _ l1 l2 t1 t2 hg hg' u1 u2 (by omega) (by omega) hB).mono ?_)
    rintro _ w2 ⟨rfl, ⟨D, B2, L2, U2, V2⟩, E2⟩
    refine Back.mk ?_
    repeat' (first | refine TL.ev (ev_simple rfl) rfl ?_ | refine T.seq ?_ | refine T.region ?_ | refine TL.nil ?_ | refine T.ret ?_ | refine G.next ?_ | refine G.blockN ?_)
    exact G.ret1 rfl rfl (RetB.mk (by omega) B2 L2 U2 V2 (hE1.upd E2 (by omega)))
  · have h24 : 24 ≤ n2 := by omega
    refine T.loop (α := Nat × List Nat) (fun x => [(5, .slice (some ⟨b1, 0, none⟩) (n1 + n2) (n1 + n2)), (0, .slice A1 n1 n1), (1, .slice A2 n2 n2), (6, .int .i64 (x.1 : Int))])
      (fun x w' => x.1 < n1 + n2 ∧ x.2.length = n1 + n2 ∧ U64 x.2 ∧ Ext w w' ∧ Bk u64v w'.heap b1 51 x.2 ∧ val x.2 = val (l1.take x.1) * val l2)
      (fun x => n1 + n2 - x.1) (0, List.replicate (n1 + n2) 0) (by repeat (first | exact Sub.nil _ | refine Sub.cons rfl ?_ | refine Sub.cons' rfl (int_congr (by omega)) ?_)) ⟨by dsimp only; omega, by simp, U64.replicate _, hE1, hB, by simp [val, val_zeros]⟩ ?_
    rintro ⟨i, Z⟩ w2 ⟨hi, hZ, hZu, hE2, hB2, hv⟩
    dsimp only at hi hZ hZu hE2 hB2 hv ⊢
    clear hB t1 t2 hE1
    have t1 := s1.ext hE2
    have t2 := s2.ext hE2
    repeat' (first | refine TL.ev (ev_simple rfl) rfl ?_ | refine TL.ev (ev_len rfl) rfl ?_ | (refine TL.cmpG rfl rfl rfl rfl (fun hc => ?_) (fun hc => ?_) <;> try (exfalso; omega)) | refine TL.ev (ev_arN rfl rfl rfl (by omega)) rfl ?_ | refine TM.f rfl (fun _ => ev_simple rfl) rfl ?_ | refine TM.f rfl (fun _ => ev_sl_l rfl rfl (by omega) (by omega)) rfl ?_ | refine TM.f rfl (fun _ => ev_sl_lhm rfl rfl rfl rfl (by omega) (by omega) (by omega)) rfl ?_ | refine T.regionM [(0, 0), (1, 0), (2, 0), (3, 0), (4, 0), (5, 0), (6, 0), (7, 0), (8, 0), (9, 2), (10, 2), (11, 2)] mixed (by kernel_rfl) ?_ | (refine TL.ev (ev_min2 rfl rfl) rfl ?_) | refine T.seq ?_ | refine T.region ?_ | refine TL.nil ?_ | refine T.block ?_ | refine T.cond_t rfl ?_ | refine T.cond_f rfl ?_ | refine T.exit ?_ | refine T.ret ?_ | refine T.skip ?_ | refine G.next ?_ | refine G.blockN ?_ | refine G.blockE ?_ | refine G.thenE ?_ | refine TM.e rfl ?_)
    · have f1 : i < min (i + n2) n1 := by omega
      have f2 : min (i + n2) n1 ≤ n1 := Nat.min_le_right _ _
      have f3 : min (i + n2) n1 ≤ i + n2 := Nat.min_le_left _ _
      have f4 : i + n2 = min (i + n2) n1 ∨ n1 = min (i + n2) n1 := by omega
      generalize min (i + n2) n1 = e at *
      have t3 := (t1.take (k := e) (m := e) (by omega) (Nat.le_refl _)).dropC (k := i) (m := e) (m' := e - i) (by omega) (Nat.le_refl _) (Nat.le_refl _)
      have u3 := (u1.take e).drop i
      have lv := val_split (l1.take e) i
      rw [List.take_take, Nat.min_eq_left (by omega)] at lv
      refine TL.call rfl rfl ((IH _ _ _ _ _ _ _ _ _ _ _ (by exact t3) (by exact t2) u3 u2 (by omega) (by omega)).mono ?_)
      rintro _ w3 ⟨b3, D3, rfl, k3, B3, L3, U3, V3, E3⟩
      refine Back.mk ?_
      have hE3 : Ext w w3 := (hE2.drewN _).trans E3
      have hB3 : Bk u64v w3.heap b1 51 Z := hB2.ext ((ext_drewN _ _).trans E3)
      have l3 := t3.len
      have zz1 := sz_le ((l1.take e).drop i)
      have zz3 := sz_le D3
      have hb2 := hB2.lt
      simp only [World.heap_drewN] at k3
      repeat' (first | (refine TL.callP rfl rfl (trim_ok _ _ _ _ _ _ (B3.slN L3 (Nat.le_refl _) B3.lt) (by omega)) (fun q1 => ?_)) | refine TL.nil ?_ | refine G.only ?_ | refine G.mixed ?_ | refine TM.e rfl ?_)
      have e1 := List.take_append_drop i Z
      have zv := val_split Z i
      have hnew : val Z + 18446744073709551616 ^ i * val D3 = val (l1.take e) * val l2 := by
        rw [lv, hv, V3, Nat.add_mul, Nat.mul_assoc]
      have hle2 : val (l1.take e) * val l2 < 18446744073709551616 ^ (n1 + n2) := by
        have p1 := u1.take_lt e
        have p2 := val_lt u2
        rw [hl2] at p2
        have p3 := Nat.mul_lt_mul'' p1 p2
        rw [← Nat.pow_add] at p3
        exact Nat.lt_of_lt_of_le p3 (Nat.pow_le_pow_right (by omega) (by omega))
      have hlt : val (Z.drop i) + val D3 < 18446744073709551616 ^ (n1 + n2 - i) := by
        have hp : 18446744073709551616 ^ (n1 + n2) = 18446744073709551616 ^ i * 18446744073709551616 ^ (n1 + n2 - i) := by
          rw [← Nat.pow_add, show i + (n1 + n2 - i) = n1 + n2 by omega]
        rw [← hnew, zv, hp] at hle2
        refine Nat.lt_of_mul_lt_mul_left (a := 18446744073709551616 ^ i) ?_
        rw [Nat.mul_add]
        omega
      have hs3 := sz_le_of U3 (k := n1 + n2 - i) (by omega)
      have S3 := B3.sl (sz_le D3) (Nat.le_refl _) B3.lt
      have vl3 := val_sz D3
      rw [cutA_some (by omega), Nat.zero_add]
      refine TL.call rfl rfl ((addTo_ok _ _ b1 i (n1 + n2 - i) (n1 + n2 - i) _ _ _ (Z.take i) (Z.drop i) _ (by rw [e1]; exact hB3) (by simp; omega) (by simp; omega) (Nat.le_refl _) (by exact S3) (off_ne (by omega)) (hZu.drop _) (U3.take _) (by omega) (by omega) (by rw [vl3]; exact hlt)).mono ?_)
      rintro _ w4 ⟨rfl, ⟨F, B4, L4, U4, V4⟩, E4⟩
      refine Back.mk ?_
      repeat' (first | refine TL.ev (ev_simple rfl) rfl ?_ | refine TL.ev (ev_len rfl) rfl ?_ | refine TL.ev (ev_arN rfl rfl rfl (by omega)) rfl ?_ | refine T.region ?_ | refine TL.nil ?_ | refine G.next ?_ | refine G.blockN ?_ | refine G.only ?_ | refine G.mixed ?_ | refine TM.nil ?_)
      refine G.again (i + n2, Z.take i ++ F) (by repeat (first | exact Sub.nil _ | refine Sub.cons rfl ?_ | refine Sub.cons' rfl (int_congr (by omega)) ?_)) ⟨by dsimp only; omega, by simp; omega, (hZu.take _).append U4, (hE3.drewN _).upd E4 (by omega), B4, ?_⟩ (by dsimp only; omega)
      dsimp only
      have h5 : val (l1.take (i + n2)) = val (l1.take e) := by
        rcases f4 with h | h
        · rw [h]
        · rw [List.take_of_length_le (show l1.length ≤ i + n2 by omega), List.take_of_length_le (show l1.length ≤ e by omega)]
      rw [h5, ← hnew, val_append, List.length_take, Nat.min_eq_left (by omega), V4, vl3, zv, Nat.mul_add, Nat.add_assoc]
    · have h2 : val (l1.take i) = val l1 := by rw [List.take_of_length_le (by omega)]
      exact G.ret1 rfl rfl (RetB.mk (by omega) hB2 hZ hZu (by rw [hv, h2]) hE2)
  · refine TL.call rfl rfl ((halves_ok w1 _ _ b1 _ _ _ _ l1 l2 (IH.mono (by omega)) t1 t2 hg hg' u1 u2 (by omega) (by omega) (by omega) (by omega) hB).mono ?_)
    rintro _ w2 ⟨rfl, ⟨D, B2, L2, U2, V2⟩, E2⟩
    refine Back.mk ?_
    repeat' (first | refine TL.ev (ev_simple rfl) rfl ?_ | refine T.seq ?_ | refine T.region ?_ | refine TL.nil ?_ | refine T.ret ?_ | refine G.next ?_ | refine G.blockN ?_)
    exact G.ret1 rfl rfl (RetB.mk (by omega) B2 L2 U2 V2 (Ext.turn hE1 E2 (by omega)))
theorem prod_all : ∀ k, ProdSpec k
  | 0 => fun w B B' A A' n c n' c' l l' h1 h2 h3 h4 h5 h6 => absurd h6 (Nat.not_lt_zero _)
  | k + 1 => prod_step k (prod_all k)
theorem product_ok (w : World) (B B' : Nat) (A A' : Option Addr) (n c n' c' : Nat) (l l' : List Nat) (hs : Sl u64v w.heap B A n c l) (hs' : Sl u64v w.heap B' A' n' c' l') (hu : U64 l) (hu' : U64 l') (hn : n + n' ≤ 35184372088832) :
    Cl Try.prog 77 #[.slice A n c, .slice A' n' c'] w (RetB w (sz l + sz l') (val l * val l')) := prod_all (n + n' + 1) w B B' A A' n c n' c' l l' hs hs' hu hu' hn (by omega)
end Go.Proofs.Ytlhmehikajidhaa

namespace Go.Proofs.Ytlhmehikajidhaa
open Go Go.Eng Go.Proofs Go.NatM

set_option maxRecDepth 100000 in
set_option maxHeartbeats 1000000 in
theorem sub_ok (w : World) (B B' : Nat) (A A' : Option Addr) (n c n' c' : Nat) (l l' : List Nat) (hs : Sl u64v w.heap B A n c l) (hs' : Sl u64v w.heap B' A' n' c' l') (hu : U64 l) (hu' : U64 l') (hn : n ≤ 35184372088831) (hn' : n' ≤ 35184372088831)
    (hge : val l' ≤ val l) : Cl Try.prog 67 #[.slice A n c, .slice A' n' c'] w (RetNE w (dig (val l - val l')) n 0) := by
  have hlen := hs.len
  have hlen' := hs'.len
  replace hs := hs.size
  replace hs' := hs'.size
  obtain ⟨q, hq, hq0⟩ : ∃ q, cmp3 (val l) (val l') = q ∧ 0 ≤ q := ⟨_, rfl, by unfold cmp3; rw [if_neg (by omega)]; split <;> omega⟩
  have hcmp := cmp_ok w.heap _ _ A A' n c n' c' l l' hs hs' hu hu' (by omega) (by omega)
  rw [hq] at hcmp
  have z1 := sz_le l
  have z2 := sz_le l'
  have hle : sz l' ≤ sz l := by
    rcases Nat.lt_or_ge (sz l) (sz l') with h | h
    · have := lt_of_sz_lt hu h; omega
    · exact h
  refine enter Try.func67 rfl rfl rfl ?_
  repeat' (first | refine TL.ev (ev_simple rfl) rfl ?_ | (refine TL.cmpG rfl rfl rfl rfl (fun hc => ?_) (fun hc => ?_) <;> try (exfalso; omega)) | (refine TL.callP rfl rfl hcmp (fun _ => ?_)) | (refine TL.callP rfl rfl (size_ok _ _ _ _ _ _ hs (by omega)) (fun _ => ?_)) | (refine TL.callP rfl rfl (size_ok _ _ _ _ _ _ hs' (by omega)) (fun _ => ?_)) | (refine TL.makeU rfl rfl rfl (by omega) (by omega) (fun w1 b1 eb hB hE hz => ?_); simp only [World.heap_drewN] at eb hz; have hE1 : Ext w w1 := ((ext_drewN _ _).trans (ext_drewN _ _)).trans ((ext_drewN _ _).trans hE)) | refine T.seq ?_ | refine T.region ?_ | refine TL.nil ?_ | refine T.block ?_ | refine T.cond_f rfl ?_ | refine T.skip ?_ | refine G.next ?_)
  clear hE
  refine T.loop (α := Nat × List Nat × Nat) (fun x => [(0, .slice A n c), (1, .slice A' n' c'), (6, .int .i64 (sz l : Int)), (7, .int .i64 (sz l' : Int)), (8, .slice (some ⟨b1, 0, none⟩) (sz l) (sz l)), (9, .int .u64 (x.2.2 : Int)), (22, .int .i64 (sz l : Int)), (23, .int .i64 (x.1 : Int))])
    (fun x w' => x.1 ≤ sz l ∧ x.2.1.length = x.1 ∧ U64 x.2.1 ∧ x.2.2 ≤ 1 ∧ Ext w w' ∧ Bk u64v w'.heap b1 51 (x.2.1 ++ List.replicate (sz l - x.1) 0) ∧ val x.2.1 + val (l'.take x.1) = val (l.take x.1) + 18446744073709551616 ^ x.1 * x.2.2)
    (fun x => sz l - x.1) (0, [], 0) (by repeat (first | exact Sub.nil _ | refine Sub.cons rfl ?_ | refine Sub.cons' rfl (int_congr (by omega)) ?_)) ⟨Nat.zero_le _, rfl, U64.nil, Nat.zero_le _, hE1, by simpa using hB, by simp [val]⟩ ?_
  rintro ⟨i, D, cy⟩ w2 ⟨hi, hD, hDu, hcy, hE2, hB2, hv⟩
  dsimp only at hi hD hDu hcy hE2 hB2 hv ⊢
  have k1 := hs.ext hE2
  have k2 := hs'.ext hE2
  have x1 := hu.getD i
  have x2 := hu'.getD i
  have hlB : (D ++ List.replicate (sz l - i) 0).length = sz l := by simp; omega
  repeat' (first | refine TL.ev (ev_simple rfl) rfl ?_ | (refine TL.cmpG rfl rfl rfl rfl (fun hc => ?_) (fun hc => ?_) <;> try (exfalso; omega)) | refine TL.ev (ev_arN rfl rfl rfl (by omega)) rfl ?_ | refine TL.ev (ev_indexN rfl rfl (by omega) (by first | exact Or.inr rfl | exact Sl.some (by assumption))) rfl ?_ | refine TL.ev (ev_loadU rfl (by assumption) (by omega)) rfl ?_ | (refine TL.ev (ev_callx rfl (fun w => sub64_run w (by omega))) rfl ?_) | (refine TL.storeU rfl rfl hB2 (by rw [hlB]; omega) (fun w3 hB3 hU => ?_)) | refine T.seq ?_ | refine T.region ?_ | refine TL.nil ?_ | refine T.block ?_ | refine T.cond_t rfl ?_ | refine T.cond_f rfl ?_ | refine T.exit ?_ | refine T.skip ?_ | refine G.next ?_ | refine G.blockN ?_ | refine G.blockE ?_ | refine G.thenE ?_)
  · have e1 : sz l - i = (sz l - (i + 1)) + 1 := by omega
    rw [e1, ← hD, set_zeros, hD] at hB3
    have hlt : (l.getD i 0 + 18446744073709551616 - l'.getD i 0 - cy) % 18446744073709551616 < 18446744073709551616 := Nat.mod_lt _ (by omega)
    refine G.again (i + 1, D ++ [(l.getD i 0 + 18446744073709551616 - l'.getD i 0 - cy) % 18446744073709551616], if l.getD i 0 < l'.getD i 0 + cy then 1 else 0) (by repeat (first | exact Sub.nil _ | refine Sub.cons rfl ?_ | refine Sub.cons' rfl (int_congr (by omega)) ?_)) ⟨by dsimp only; omega, by simp [hD], hDu.append (U64.one hlt), by dsimp only; split <;> omega, hE2.upd hU (by omega), hB3, ?_⟩ (by dsimp only; omega)
    dsimp only
    rw [val_snoc, val_take_succ, val_take_succ, hD, Nat.pow_succ]
    exact sub_step hv (by split <;> omega)
  · have e1 : sz l - i = (sz l - (i + 1)) + 1 := by omega
    have e2 : l'.getD i 0 = 0 := sz_zero l' i (by omega)
    rw [e1, ← hD, set_zeros, hD] at hB3
    have hlt : (l.getD i 0 + 18446744073709551616 - 0 - cy) % 18446744073709551616 < 18446744073709551616 := Nat.mod_lt _ (by omega)
    refine G.again (i + 1, D ++ [(l.getD i 0 + 18446744073709551616 - 0 - cy) % 18446744073709551616], if l.getD i 0 < 0 + cy then 1 else 0) (by repeat (first | exact Sub.nil _ | refine Sub.cons rfl ?_ | refine Sub.cons' rfl (int_congr (by omega)) ?_)) ⟨by dsimp only; omega, by simp [hD], hDu.append (U64.one hlt), by dsimp only; split <;> omega, hE2.upd hU (by omega), hB3, ?_⟩ (by dsimp only; omega)
    dsimp only
    rw [val_snoc, val_take_succ, val_take_succ, hD, Nat.pow_succ, e2]
    exact sub_step hv (by split <;> omega)
  · have hi' : i = sz l := by omega
    subst hi'
    rw [Nat.sub_self, List.replicate_zero, List.append_nil] at hB2
    rw [val_sz, val_take_ge l' _ hle] at hv
    have hb := val_lt hDu
    rw [hD] at hb
    have hcy0 : cy = 0 := by
      rcases Nat.eq_zero_or_pos cy with h | h
      · exact h
      · obtain rfl : cy = 1 := by omega
        omega
    subst hcy0
    have hval2 : val D = val l - val l' := by omega
    have hs0 := sz_le D
    have hS := hB2.slN hD (Nat.le_refl _) hB2.lt
    repeat' (first | refine TL.ev (ev_simple rfl) rfl ?_ | refine TL.ev (ev_sl_h rfl rfl (by omega)) rfl ?_ | (refine TL.callP rfl rfl (size_ok _ _ _ _ _ _ hS (by omega)) (fun _ => ?_)) | refine TL.nil ?_ | refine T.ret ?_ | refine G.next ?_)
    have := hB2.ow (lo := w.heap.size) (k := sz D) (c := sz l) hs0 (by omega) (by unfold maxLen; omega) (by omega)
    rw [take_sz hDu, hval2] at this
    exact G.ret2 rfl rfl rfl (RetNE.mk this (hE2.drewN _) (by omega))
end Go.Proofs.Ytlhmehikajidhaa

namespace Go.Proofs.Ytlhmehikajidhaa
open Go Go.Eng Go.Proofs Go.NatM

theorem sh (k y : Nat) (h : 1 ≤ y / 2 ^ k) (j : Nat) : j + bl y = (j + k) + bl (y / 2 ^ k) := by rw [bl_shift h, Nat.add_assoc]
end Go.Proofs.Ytlhmehikajidhaa

namespace Go.Proofs.Ytlhmehikajidhaa
open Go Go.Eng Go.Proofs Go.NatM

theorem mul_ok (w : World) (B B' : Nat) (A A' : Option Addr) (n c n' c' : Nat) (l l' : List Nat) (hs : Sl u64v w.heap B A n c l) (hs' : Sl u64v w.heap B' A' n' c' l') (hu : U64 l) (hu' : U64 l') (hn : n + n' ≤ 35184372088832) :
    Cl Try.prog 60 #[.slice A n c, .slice A' n' c'] w (RetN w (dig (val l * val l')) (n + n')) := by
  have h1 := sz_le l
  have h2 := sz_le l'
  rw [hs.len] at h1
  rw [hs'.len] at h2
  refine enter Try.func60 rfl rfl rfl ?_
  repeat' (first | refine TL.ev (ev_simple rfl) rfl ?_ | (refine TL.call rfl rfl ?_; first | (refine (product_ok _ _ _ _ _ _ _ _ _ _ _ hs hs' hu hu' hn).mono ?_; rintro _ w1 ⟨b1, D1, rfl, k1, B1, L1, u1, v1, E1⟩; refine Back.mk ?_; rw [← v1]) | (refine (least_ok _ _ _ _ _ _ (B1.slN L1 (Nat.le_refl _) B1.lt) u1 (by omega)).mono ?_; rintro _ w2 ⟨A2, n2, c2, rfl, hO2, hE2, hK2⟩; refine Back.mk ?_)) | refine T.seq ?_ | refine T.region ?_ | refine TL.nil ?_ | refine T.ret ?_ | refine G.next ?_)
  exact G.ret1 rfl rfl (RetN.mk (hO2.mono E1.size) (E1.trans hE2) (by omega))
end Go.Proofs.Ytlhmehikajidhaa

namespace Go.Proofs.Ytlhmehikajidhaa
open Go Go.Eng Go.Proofs Go.NatM Go.RowKit

def sgn (neg : Bool) (n : Nat) : Int := if neg then -(n : Int) else n
def ival (x : IV) : Int := sgn x.neg (val x.m.l)
/-- an integer that reads -/
structure GI (H : Array Obj) (x : IV) : Prop where
  s : Sl u64v H H.size x.m.A x.m.n x.m.c x.m.l
  u : U64 x.m.l
/-- .. in least form: z -/
structure LI (H : Array Obj) (z : Int) (x : IV) : Prop where
  g : GI H x
  d : x.m.l = dig z.natAbs
  e : x.neg = decide (z < 0)
theorem GI.ext {w w' : World} {x : IV} (hE : Ext w w') (h : GI w.heap x) : GI w'.heap x := ⟨(h.s.ext hE).size, h.u⟩
theorem LI.ext {w w' : World} {x : IV} {z : Int} (hE : Ext w w') (h : LI w.heap z x) : LI w'.heap z x := ⟨h.g.ext hE, h.d, h.e⟩
theorem LI.updV {w w' : World} {x : IV} {z : Int} {b : Nat} {t : TypeId} {cs : List Value} (hu : Upd b w w') (hV : Vr w.heap b t cs) (hc : cs.all noU64 = true) (h : LI w.heap z x) : LI w'.heap z x := ⟨⟨(sl_updV hu hV hc h.g.s).size, h.g.u⟩, h.d, h.e⟩
theorem LI.val {H : Array Obj} {z : Int} {x : IV} (h : LI H z x) : ival x = z := by
  unfold ival sgn
  rw [h.d, h.e, val_dig]
  by_cases hz : z < 0
  · simp only [hz, decide_true, if_true]; omega
  · simp only [hz, decide_false, Bool.false_eq_true, if_false]; omega
theorem sgn_abs (neg : Bool) (n : Nat) : (sgn neg n).natAbs = n := by unfold sgn; split <;> omega
theorem dig_pos_len {n : Nat} : 0 < (dig n).length ↔ n ≠ 0 := by
  constructor
  · rintro h rfl; rw [dig_zero] at h; simp at h
  · intro h; rw [dig_pos h]; simp
theorem li_mk {H : Array Obj} {neg : Bool} {N n c : Nat} {A : Option Addr} (hs : Sl u64v H H.size A n c (dig N)) : LI H (sgn neg N) ⟨neg && decide (0 < n), ⟨A, n, c, dig N⟩⟩ := by
  refine ⟨⟨hs, U64_dig _⟩, by rw [sgn_abs], ?_⟩
  have hl := hs.len
  have h0 := dig_pos_len (n := N)
  show (neg && decide (0 < n)) = decide (sgn neg N < 0)
  unfold sgn
  cases neg
  · simp
  · simp only [Bool.true_and, if_true]
    congr 1
    apply propext
    constructor
    · intro h; have := h0.1 (by omega); omega
    · intro h; have := h0.2 (by omega); omega
/-- a new integer, z, of at most K words -/
def RetZ (w : World) (z : Int) (K : Nat) (e : Ending) (w' : World) : Prop := ∃ x : IV, e = .returned (.agg (ivc x).toArray) ∧ LI w'.heap z x ∧ Ext w w' ∧ x.m.n ≤ K
theorem of_ok (w : World) (neg : Bool) (A : Option Addr) (n c N : Nat) (hs : Sl u64v w.heap w.heap.size A n c (dig N)) : Cl Try.prog 59 #[.bool neg, .slice A n c] w (fun e w' => e = .returned (.agg (ivc ⟨neg && decide (0 < n), ⟨A, n, c, dig N⟩⟩).toArray) ∧ LI w'.heap (sgn neg N) ⟨neg && decide (0 < n), ⟨A, n, c, dig N⟩⟩ ∧ Ext w w') := by
  have hsz0 := hs.len
  cases neg
  · refine enter Try.func59 rfl rfl rfl ?_
    repeat' (first | refine TL.ev (ev_simple rfl) rfl ?_ | refine TL.gskip rfl rfl rfl rfl ?_ | (refine TL.alloc rfl (fun wa ba eba hVa hEa hza => ?_); have hla := box_lo (w0 := w) (by repeat (first | exact Ext.refl _ | (refine Ext.trans ?_ (by assumption)) | (apply ext_upd; assumption; rotate_left; omega))) eba) | (refine TL.storeVX rfl rfl rfl rfl (by refine ⟨?_, ?_⟩; (focus (repeat (first | assumption | (apply Vr.ext; assumption) | (apply Vr.updX; assumption; rotate_left; omega)))); rfl) (fun ws hVs hUs hzs => ?_)) | (refine TL.ev (ev_buildX rfl rfl) rfl ?_) | refine T.seq ?_ | refine T.region ?_ | refine TL.nil ?_ | refine T.ret ?_ | refine G.next ?_)
    have hE : Ext w ws := (by repeat (first | exact Ext.refl _ | (refine Ext.trans ?_ (by assumption)) | (apply ext_upd; assumption; rotate_left; omega)))
    exact G.retC1 rfl rfl (held_agg hVs rfl) ⟨rfl, li_mk (neg := false) (hs.ext hE).size, hE⟩
  · rcases Nat.eq_zero_or_pos n with h0 | h0
    · refine enter Try.func59 rfl rfl rfl ?_
      repeat' (first | refine TL.ev (ev_simple rfl) rfl ?_ | refine TL.grun rfl rfl rfl ?_ | refine TL.ev (ev_len rfl) rfl ?_ | (refine TL.cmpG rfl rfl rfl rfl (fun hc => ?_) (fun hc => ?_) <;> try (exfalso; omega)) | (refine TL.alloc rfl (fun wa ba eba hVa hEa hza => ?_); have hla := box_lo (w0 := w) (by repeat (first | exact Ext.refl _ | (refine Ext.trans ?_ (by assumption)) | (apply ext_upd; assumption; rotate_left; omega))) eba) | (refine TL.storeVX rfl rfl rfl rfl (by refine ⟨?_, ?_⟩; (focus (repeat (first | assumption | (apply Vr.ext; assumption) | (apply Vr.updX; assumption; rotate_left; omega)))); rfl) (fun ws hVs hUs hzs => ?_)) | (refine TL.ev (ev_buildX rfl rfl) rfl ?_) | refine T.seq ?_ | refine T.region ?_ | refine TL.nil ?_ | refine T.ret ?_ | refine G.next ?_)
      have hE : Ext w ws := (by repeat (first | exact Ext.refl _ | (refine Ext.trans ?_ (by assumption)) | (apply ext_upd; assumption; rotate_left; omega)))
      have e := li_mk (neg := true) (hs.ext hE).size
      have e2 : (true && decide (0 < n)) = false := by simp; omega
      rw [e2] at e ⊢
      exact G.retC1 rfl rfl (held_agg hVs rfl) ⟨rfl, e, hE⟩
    · refine enter Try.func59 rfl rfl rfl ?_
      repeat' (first | refine TL.ev (ev_simple rfl) rfl ?_ | refine TL.grun rfl rfl rfl ?_ | refine TL.ev (ev_len rfl) rfl ?_ | (refine TL.cmpG rfl rfl rfl rfl (fun hc => ?_) (fun hc => ?_) <;> try (exfalso; omega)) | (refine TL.alloc rfl (fun wa ba eba hVa hEa hza => ?_); have hla := box_lo (w0 := w) (by repeat (first | exact Ext.refl _ | (refine Ext.trans ?_ (by assumption)) | (apply ext_upd; assumption; rotate_left; omega))) eba) | (refine TL.storeVX rfl rfl rfl rfl (by refine ⟨?_, ?_⟩; (focus (repeat (first | assumption | (apply Vr.ext; assumption) | (apply Vr.updX; assumption; rotate_left; omega)))); rfl) (fun ws hVs hUs hzs => ?_)) | (refine TL.ev (ev_buildX rfl rfl) rfl ?_) | refine T.seq ?_ | refine T.region ?_ | refine TL.nil ?_ | refine T.ret ?_ | refine G.next ?_)
      have hE : Ext w ws := (by repeat (first | exact Ext.refl _ | (refine Ext.trans ?_ (by assumption)) | (apply ext_upd; assumption; rotate_left; omega)))
      have e := li_mk (neg := true) (hs.ext hE).size
      have e2 : (true && decide (0 < n)) = true := by simp; omega
      rw [e2] at e ⊢
      exact G.retC1 rfl rfl (held_agg hVs rfl) ⟨rfl, e, hE⟩
theorem cmp_eqX (H : Array Obj) (B B' : Nat) (A A' : Option Addr) (n c n' c' : Nat) (l l' : List Nat) (hs : Sl u64v H B A n c l) (hs' : Sl u64v H B' A' n' c' l') (hu : U64 l) (hu' : U64 l') (hn : n ≤ 35184372088832) (hn' : n' ≤ 35184372088832) {q : Int} (hq : cmp3 (val l) (val l') = q) :
    Pure Try.prog 66 #[.slice A n c, .slice A' n' c'] H (.int .i64 q) := by rw [← hq]; exact cmp_ok H B B' A A' n c n' c' l l' hs hs' hu hu' hn hn'
theorem zleast_ok (w : World) (x : IV) (g : GI w.heap x) (hn : x.m.n ≤ 35184372088832) : Cl Try.prog 39 #[.agg (ivc x).toArray] w (RetZ w (ival x) x.m.n) := by
  have hs := g.s
  have hu := g.u
  refine enter Try.func39 rfl rfl rfl ?_
  repeat' (first | (refine TL.call rfl rfl ?_; first | (refine (least_ok _ _ _ _ _ _ (by first | ((repeat (first | assumption | (apply Sl.ext; assumption) | (apply Sm.ext; assumption) | (apply Sl.upd; assumption) | (apply Sm.upd; assumption) | omega)); done) | ((repeat (first | assumption | (apply Sl.ext; assumption) | (apply Sm.ext; assumption) | (apply sl_updV; assumption; (focus (repeat (first | assumption | (apply Vr.ext; assumption) | (apply Vr.updX; assumption; rotate_left; omega)))); rfl))); done)) hu hn).mono ?_; rintro _ wl ⟨Al, nl, cl, rfl, hOl, hEl, hKl⟩; refine Back.mk ?_; have hSl := hOl.sl (Nat.le_refl _); have hzl := hEl.size) | (refine (of_ok _ _ _ _ _ _ hSl).mono ?_; rintro _ wo ⟨rfl, hLo, hEo⟩; refine Back.mk ?_; have hzo := hEo.size)) | refine T.regionX 1 6 (.s 0 (.s 1 (.s 2 (.s 3 (.e 4 (.e 5 (.e 6 .nil))))))) mixed (by kernel_rfl) (fun wr hzr hEr => ?_) | (refine TL.boxA rfl rfl (fun wb bb ebb hVb hEb hzb => ?_); have hlb := box_lo (w0 := w) (by repeat (first | exact Ext.refl _ | (refine Ext.trans ?_ (by assumption)) | (apply ext_upd; assumption; rotate_left; omega))) ebb) | (refine TL.alloc rfl (fun wa ba eba hVa hEa hza => ?_); have hla := box_lo (w0 := w) (by repeat (first | exact Ext.refl _ | (refine Ext.trans ?_ (by assumption)) | (apply ext_upd; assumption; rotate_left; omega))) eba) | (refine TF.s rfl (fun _ _ => ev_fieldAddr rfl) rfl ?_) | (refine TF.s rfl (fun _ hh => ev_loadVX rfl (by refine ⟨Vr.ext hh ?_, ?_⟩; (focus (repeat (first | assumption | (apply Vr.ext; assumption) | (apply Vr.updX; assumption; rotate_left; omega)))); rfl)) rfl ?_) | (refine TL.storeVX rfl rfl rfl rfl (by refine ⟨?_, ?_⟩; (focus (repeat (first | assumption | (apply Vr.ext; assumption) | (apply Vr.updX; assumption; rotate_left; omega)))); rfl) (fun ws hVs hUs hzs => ?_)) | refine TF.nil ?_ | refine TF.e rfl ?_ | refine G.treeEnd rfl ?_ | refine G.tree rfl (by repeat (first | exact Ext.refl _ | (refine Ext.trans ?_ (by assumption)) | (apply ext_upd; assumption; rotate_left; omega))) ?_ | refine T.seq ?_ | refine T.region ?_ | refine TL.nil ?_ | refine T.ret ?_ | refine G.next ?_ | refine G.only ?_)
  exact G.retC1 rfl rfl (held_agg hVs rfl) ⟨_, rfl, LI.updV hUs (by repeat (first | assumption | (apply Vr.ext; assumption) | (apply Vr.updX; assumption; rotate_left; omega))) rfl hLo, (by repeat (first | exact Ext.refl _ | (refine Ext.trans ?_ (by assumption)) | (apply ext_upd; assumption; rotate_left; omega))), hKl⟩
theorem sgn_mul (a b : Bool) (m n : Nat) : sgn (a != b) (m * n) = sgn a m * sgn b n := by
  unfold sgn
  cases a <;> cases b <;> simp [Int.neg_mul, Int.mul_neg, Int.natCast_mul]
theorem zmul_ok (w : World) (x y : IV) (gx : GI w.heap x) (gy : GI w.heap y) (hx : x.m.n ≤ 8796093022208) (hy : y.m.n ≤ 8796093022208) : Cl Try.prog 36 #[.agg (ivc x).toArray, .agg (ivc y).toArray] w (RetZ w (ival x * ival y) (x.m.n + y.m.n)) := by
  have hs := gx.s
  have hu := gx.u
  have hs' := gy.s
  have hu' := gy.u
  unfold ival
  rw [← sgn_mul]
  refine enter Try.func36 rfl rfl rfl ?_
  repeat' (first | (refine TL.call rfl rfl ?_; first | (refine (mul_ok _ _ _ _ _ _ _ _ _ _ _ (by first | ((repeat (first | assumption | (apply Sl.ext; assumption) | (apply Sm.ext; assumption) | (apply Sl.upd; assumption) | (apply Sm.upd; assumption) | omega)); done) | ((repeat (first | assumption | (apply Sl.ext; assumption) | (apply Sm.ext; assumption) | (apply sl_updV; assumption; (focus (repeat (first | assumption | (apply Vr.ext; assumption) | (apply Vr.updX; assumption; rotate_left; omega)))); rfl))); done)) (by first | ((repeat (first | assumption | (apply Sl.ext; assumption) | (apply Sm.ext; assumption) | (apply Sl.upd; assumption) | (apply Sm.upd; assumption) | omega)); done) | ((repeat (first | assumption | (apply Sl.ext; assumption) | (apply Sm.ext; assumption) | (apply sl_updV; assumption; (focus (repeat (first | assumption | (apply Vr.ext; assumption) | (apply Vr.updX; assumption; rotate_left; omega)))); rfl))); done)) hu hu' (by omega)).mono ?_; rintro _ wl ⟨Al, nl, cl, rfl, hOl, hEl, hKl⟩; refine Back.mk ?_; have hSl := hOl.sl (Nat.le_refl _); have hzl := hEl.size) | (refine (of_ok _ _ _ _ _ _ hSl).mono ?_; rintro _ wo ⟨rfl, hLo, hEo⟩; refine Back.mk ?_; have hzo := hEo.size)) | refine T.regionX 1 11 (.s 0 (.s 1 (.s 2 (.s 3 (.s 4 (.s 5 (.s 6 (.s 7 (.s 8 (.e 9 (.e 10 (.e 11 .nil)))))))))))) mixed (by kernel_rfl) (fun wr hzr hEr => ?_) | (refine TL.boxA rfl rfl (fun wb bb ebb hVb hEb hzb => ?_); have hlb := box_lo (w0 := w) (by repeat (first | exact Ext.refl _ | (refine Ext.trans ?_ (by assumption)) | (apply ext_upd; assumption; rotate_left; omega))) ebb) | (refine TL.alloc rfl (fun wa ba eba hVa hEa hza => ?_); have hla := box_lo (w0 := w) (by repeat (first | exact Ext.refl _ | (refine Ext.trans ?_ (by assumption)) | (apply ext_upd; assumption; rotate_left; omega))) eba) | (refine TF.s rfl (fun _ _ => ev_fieldAddr rfl) rfl ?_) | (refine TF.s rfl (fun _ hh => ev_loadVX rfl (by refine ⟨Vr.ext hh ?_, ?_⟩; (focus (repeat (first | assumption | (apply Vr.ext; assumption) | (apply Vr.updX; assumption; rotate_left; omega)))); rfl)) rfl ?_) | (refine TL.storeVX rfl rfl rfl rfl (by refine ⟨?_, ?_⟩; (focus (repeat (first | assumption | (apply Vr.ext; assumption) | (apply Vr.updX; assumption; rotate_left; omega)))); rfl) (fun ws hVs hUs hzs => ?_)) | (refine TF.s rfl (fun _ _ => ev_neqB (r := x.neg != y.neg) rfl rfl rfl) rfl ?_) | refine TF.nil ?_ | refine TF.e rfl ?_ | refine G.treeEnd rfl ?_ | refine G.tree rfl (by repeat (first | exact Ext.refl _ | (refine Ext.trans ?_ (by assumption)) | (apply ext_upd; assumption; rotate_left; omega))) ?_ | refine T.seq ?_ | refine T.region ?_ | refine TL.nil ?_ | refine T.ret ?_ | refine G.next ?_ | refine G.only ?_)
  exact G.retC1 rfl rfl (held_agg hVs rfl) ⟨_, rfl, LI.updV hUs (by repeat (first | assumption | (apply Vr.ext; assumption) | (apply Vr.updX; assumption; rotate_left; omega))) rfl hLo, (by repeat (first | exact Ext.refl _ | (refine Ext.trans ?_ (by assumption)) | (apply ext_upd; assumption; rotate_left; omega))), hKl⟩
theorem zadd_same (w : World) (x y : IV) (gx : GI w.heap x) (gy : GI w.heap y) (hx : x.m.n ≤ 17592186044416) (hy : y.m.n ≤ 17592186044416) (hxy : x.neg = y.neg) : Cl Try.prog 42 #[.agg (ivc x).toArray, .agg (ivc y).toArray] w (RetZ w (ival x + ival y) (max x.m.n y.m.n + 1)) := by
  have hs := gx.s
  have hu := gx.u
  have hs' := gy.s
  have hu' := gy.u
  have e : ival x + ival y = sgn x.neg (val x.m.l + val y.m.l) := by unfold ival sgn; rw [← hxy]; split <;> omega
  rw [e]
  refine enter Try.func42 rfl rfl rfl ?_
  repeat' (first | (refine TL.call rfl rfl ?_; first | (refine (add_ok _ _ _ _ _ _ _ _ _ _ _ (by first | ((repeat (first | assumption | (apply Sl.ext; assumption) | (apply Sm.ext; assumption) | (apply Sl.upd; assumption) | (apply Sm.upd; assumption) | omega)); done) | ((repeat (first | assumption | (apply Sl.ext; assumption) | (apply Sm.ext; assumption) | (apply sl_updV; assumption; (focus (repeat (first | assumption | (apply Vr.ext; assumption) | (apply Vr.updX; assumption; rotate_left; omega)))); rfl))); done)) (by first | ((repeat (first | assumption | (apply Sl.ext; assumption) | (apply Sm.ext; assumption) | (apply Sl.upd; assumption) | (apply Sm.upd; assumption) | omega)); done) | ((repeat (first | assumption | (apply Sl.ext; assumption) | (apply Sm.ext; assumption) | (apply sl_updV; assumption; (focus (repeat (first | assumption | (apply Vr.ext; assumption) | (apply Vr.updX; assumption; rotate_left; omega)))); rfl))); done)) hu hu' (by omega) (by omega)).mono ?_; rintro _ wl ⟨Al, nl, cl, rfl, hOl, hEl, hKl⟩; refine Back.mk ?_; have hSl := hOl.sl (Nat.le_refl _); have hzl := hEl.size) | (refine (of_ok _ _ _ _ _ _ hSl).mono ?_; rintro _ wo ⟨rfl, hLo, hEo⟩; refine Back.mk ?_; have hzo := hEo.size)) | refine T.regionX 2 8 (.s 0 (.s 1 (.s 2 (.s 3 (.s 4 (.s 5 (.e 6 (.e 7 (.e 8 .nil))))))))) mixed (by kernel_rfl) (fun wr hzr hEr => ?_) | (refine TL.boxA rfl rfl (fun wb bb ebb hVb hEb hzb => ?_); have hlb := box_lo (w0 := w) (by repeat (first | exact Ext.refl _ | (refine Ext.trans ?_ (by assumption)) | (apply ext_upd; assumption; rotate_left; omega))) ebb) | (refine TL.alloc rfl (fun wa ba eba hVa hEa hza => ?_); have hla := box_lo (w0 := w) (by repeat (first | exact Ext.refl _ | (refine Ext.trans ?_ (by assumption)) | (apply ext_upd; assumption; rotate_left; omega))) eba) | (refine TL.ev (ev_fieldAddr rfl) rfl ?_) | (refine TF.s rfl (fun _ _ => ev_fieldAddr rfl) rfl ?_) | (refine TL.ev (ev_loadVX rfl (by refine ⟨?_, ?_⟩; (focus (repeat (first | assumption | (apply Vr.ext; assumption) | (apply Vr.updX; assumption; rotate_left; omega)))); rfl)) rfl ?_) | (refine TF.s rfl (fun _ hh => ev_loadVX rfl (by refine ⟨Vr.ext hh ?_, ?_⟩; (focus (repeat (first | assumption | (apply Vr.ext; assumption) | (apply Vr.updX; assumption; rotate_left; omega)))); rfl)) rfl ?_) | (refine TL.storeVX rfl rfl rfl rfl (by refine ⟨?_, ?_⟩; (focus (repeat (first | assumption | (apply Vr.ext; assumption) | (apply Vr.updX; assumption; rotate_left; omega)))); rfl) (fun ws hVs hUs hzs => ?_)) | (refine TL.ev (ev_eqlB (r := true) rfl rfl (by rw [hxy]; exact beq_self_eq_true _)) rfl ?_) | refine TF.nil ?_ | refine TF.e rfl ?_ | refine G.treeEnd rfl ?_ | refine G.tree rfl (by repeat (first | exact Ext.refl _ | (refine Ext.trans ?_ (by assumption)) | (apply ext_upd; assumption; rotate_left; omega))) ?_ | refine T.seq ?_ | refine T.region ?_ | refine TL.nil ?_ | refine T.cond_t rfl ?_ | refine T.ret ?_ | refine G.next ?_ | refine G.thenR ?_ | refine G.only ?_)
  exact G.retC1 rfl rfl (held_agg hVs rfl) ⟨_, rfl, LI.updV hUs (by repeat (first | assumption | (apply Vr.ext; assumption) | (apply Vr.updX; assumption; rotate_left; omega))) rfl hLo, (by repeat (first | exact Ext.refl _ | (refine Ext.trans ?_ (by assumption)) | (apply ext_upd; assumption; rotate_left; omega))), hKl⟩
theorem zadd_lt (w : World) (x y : IV) (gx : GI w.heap x) (gy : GI w.heap y) (hx : x.m.n ≤ 17592186044416) (hy : y.m.n ≤ 17592186044416) (hxy : (x.neg == y.neg) = false) {q : Int} (hq : cmp3 (val x.m.l) (val y.m.l) = q) (hq0 : q < 0) (hle : val x.m.l ≤ val y.m.l) : Cl Try.prog 42 #[.agg (ivc x).toArray, .agg (ivc y).toArray] w (RetZ w (sgn y.neg (val y.m.l - val x.m.l)) (max x.m.n y.m.n + 1)) := by
  have hs := gx.s
  have hu := gx.u
  have hs' := gy.s
  have hu' := gy.u
  refine enter Try.func42 rfl rfl rfl ?_
  repeat' (first | refine TL.ev (ev_simple rfl) rfl ?_ | (refine TL.call rfl rfl ?_; first | (refine (cmp_eqX _ _ _ _ _ _ _ _ _ _ _ (by first | ((repeat (first | assumption | (apply Sl.ext; assumption) | (apply Sm.ext; assumption) | (apply Sl.upd; assumption) | (apply Sm.upd; assumption) | omega)); done) | ((repeat (first | assumption | (apply Sl.ext; assumption) | (apply Sm.ext; assumption) | (apply sl_updV; assumption; (focus (repeat (first | assumption | (apply Vr.ext; assumption) | (apply Vr.updX; assumption; rotate_left; omega)))); rfl))); done)) (by first | ((repeat (first | assumption | (apply Sl.ext; assumption) | (apply Sm.ext; assumption) | (apply Sl.upd; assumption) | (apply Sm.upd; assumption) | omega)); done) | ((repeat (first | assumption | (apply Sl.ext; assumption) | (apply Sm.ext; assumption) | (apply sl_updV; assumption; (focus (repeat (first | assumption | (apply Vr.ext; assumption) | (apply Vr.updX; assumption; rotate_left; omega)))); rfl))); done)) hu hu' (by omega) (by omega) hq).clX.mono ?_; rintro _ wc ⟨rfl, hzc, hEc⟩; refine Back.mk ?_) | (refine (sub_ok _ _ _ _ _ _ _ _ _ _ _ (by first | ((repeat (first | assumption | (apply Sl.ext; assumption) | (apply Sm.ext; assumption) | (apply Sl.upd; assumption) | (apply Sm.upd; assumption) | omega)); done) | ((repeat (first | assumption | (apply Sl.ext; assumption) | (apply Sm.ext; assumption) | (apply sl_updV; assumption; (focus (repeat (first | assumption | (apply Vr.ext; assumption) | (apply Vr.updX; assumption; rotate_left; omega)))); rfl))); done)) (by first | ((repeat (first | assumption | (apply Sl.ext; assumption) | (apply Sm.ext; assumption) | (apply Sl.upd; assumption) | (apply Sm.upd; assumption) | omega)); done) | ((repeat (first | assumption | (apply Sl.ext; assumption) | (apply Sm.ext; assumption) | (apply sl_updV; assumption; (focus (repeat (first | assumption | (apply Vr.ext; assumption) | (apply Vr.updX; assumption; rotate_left; omega)))); rfl))); done)) hu' hu (by omega) (by omega) hle).mono ?_; rintro _ wl ⟨Al, nl, cl, rfl, hOl, hEl, hKl⟩; refine Back.mk ?_; have hSl := hOl.sl (Nat.le_refl _); have hzl := hEl.size) | (refine (of_ok _ _ _ _ _ _ hSl).mono ?_; rintro _ wo ⟨rfl, hLo, hEo⟩; refine Back.mk ?_; have hzo := hEo.size)) | (refine TL.cmpG rfl rfl rfl rfl (fun hc => ?_) (fun hc => ?_) <;> try (exfalso; omega)) | (refine TL.boxA rfl rfl (fun wb bb ebb hVb hEb hzb => ?_); have hlb := box_lo (w0 := w) (by repeat (first | exact Ext.refl _ | (refine Ext.trans ?_ (by assumption)) | (apply ext_upd; assumption; rotate_left; omega))) ebb) | (refine TL.alloc rfl (fun wa ba eba hVa hEa hza => ?_); have hla := box_lo (w0 := w) (by repeat (first | exact Ext.refl _ | (refine Ext.trans ?_ (by assumption)) | (apply ext_upd; assumption; rotate_left; omega))) eba) | (refine TL.ev (ev_fieldAddr rfl) rfl ?_) | (refine TL.ev (ev_loadVX rfl (by refine ⟨?_, ?_⟩; (focus (repeat (first | assumption | (apply Vr.ext; assumption) | (apply Vr.updX; assumption; rotate_left; omega)))); rfl)) rfl ?_) | (refine TL.ev (ev_loadVAX rfl (by refine ⟨?_, ?_⟩; (focus (repeat (first | assumption | (apply Vr.ext; assumption) | (apply Vr.updX; assumption; rotate_left; omega)))); rfl)) rfl ?_) | (refine TL.storeVX rfl rfl rfl rfl (by refine ⟨?_, ?_⟩; (focus (repeat (first | assumption | (apply Vr.ext; assumption) | (apply Vr.updX; assumption; rotate_left; omega)))); rfl) (fun ws hVs hUs hzs => ?_)) | (refine TL.ev (ev_eqlB (r := false) rfl rfl hxy) rfl ?_) | refine T.seq ?_ | refine T.region ?_ | refine TL.nil ?_ | refine T.cond_t rfl ?_ | refine T.cond_f rfl ?_ | refine T.ret ?_ | refine T.skip ?_ | refine G.next ?_)
  exact G.retC1 rfl rfl (held_agg hVs rfl) ⟨_, rfl, LI.updV hUs (by repeat (first | assumption | (apply Vr.ext; assumption) | (apply Vr.updX; assumption; rotate_left; omega))) rfl hLo, (by repeat (first | exact Ext.refl _ | (refine Ext.trans ?_ (by assumption)) | (apply ext_upd; assumption; rotate_left; omega))), by exact Nat.le_trans hKl (by omega)⟩
theorem zadd_ge (w : World) (x y : IV) (gx : GI w.heap x) (gy : GI w.heap y) (hx : x.m.n ≤ 17592186044416) (hy : y.m.n ≤ 17592186044416) (hxy : (x.neg == y.neg) = false) {q : Int} (hq : cmp3 (val x.m.l) (val y.m.l) = q) (hq0 : ¬ q < 0) (hle : val y.m.l ≤ val x.m.l) : Cl Try.prog 42 #[.agg (ivc x).toArray, .agg (ivc y).toArray] w (RetZ w (sgn x.neg (val x.m.l - val y.m.l)) (max x.m.n y.m.n + 1)) := by
  have hs := gx.s
  have hu := gx.u
  have hs' := gy.s
  have hu' := gy.u
  refine enter Try.func42 rfl rfl rfl ?_
  repeat' (first | refine TL.ev (ev_simple rfl) rfl ?_ | (refine TL.call rfl rfl ?_; first | (refine (cmp_eqX _ _ _ _ _ _ _ _ _ _ _ (by first | ((repeat (first | assumption | (apply Sl.ext; assumption) | (apply Sm.ext; assumption) | (apply Sl.upd; assumption) | (apply Sm.upd; assumption) | omega)); done) | ((repeat (first | assumption | (apply Sl.ext; assumption) | (apply Sm.ext; assumption) | (apply sl_updV; assumption; (focus (repeat (first | assumption | (apply Vr.ext; assumption) | (apply Vr.updX; assumption; rotate_left; omega)))); rfl))); done)) (by first | ((repeat (first | assumption | (apply Sl.ext; assumption) | (apply Sm.ext; assumption) | (apply Sl.upd; assumption) | (apply Sm.upd; assumption) | omega)); done) | ((repeat (first | assumption | (apply Sl.ext; assumption) | (apply Sm.ext; assumption) | (apply sl_updV; assumption; (focus (repeat (first | assumption | (apply Vr.ext; assumption) | (apply Vr.updX; assumption; rotate_left; omega)))); rfl))); done)) hu hu' (by omega) (by omega) hq).clX.mono ?_; rintro _ wc ⟨rfl, hzc, hEc⟩; refine Back.mk ?_) | (refine (sub_ok _ _ _ _ _ _ _ _ _ _ _ (by first | ((repeat (first | assumption | (apply Sl.ext; assumption) | (apply Sm.ext; assumption) | (apply Sl.upd; assumption) | (apply Sm.upd; assumption) | omega)); done) | ((repeat (first | assumption | (apply Sl.ext; assumption) | (apply Sm.ext; assumption) | (apply sl_updV; assumption; (focus (repeat (first | assumption | (apply Vr.ext; assumption) | (apply Vr.updX; assumption; rotate_left; omega)))); rfl))); done)) (by first | ((repeat (first | assumption | (apply Sl.ext; assumption) | (apply Sm.ext; assumption) | (apply Sl.upd; assumption) | (apply Sm.upd; assumption) | omega)); done) | ((repeat (first | assumption | (apply Sl.ext; assumption) | (apply Sm.ext; assumption) | (apply sl_updV; assumption; (focus (repeat (first | assumption | (apply Vr.ext; assumption) | (apply Vr.updX; assumption; rotate_left; omega)))); rfl))); done)) hu hu' (by omega) (by omega) hle).mono ?_; rintro _ wl ⟨Al, nl, cl, rfl, hOl, hEl, hKl⟩; refine Back.mk ?_; have hSl := hOl.sl (Nat.le_refl _); have hzl := hEl.size) | (refine (of_ok _ _ _ _ _ _ hSl).mono ?_; rintro _ wo ⟨rfl, hLo, hEo⟩; refine Back.mk ?_; have hzo := hEo.size)) | (refine TL.cmpG rfl rfl rfl rfl (fun hc => ?_) (fun hc => ?_) <;> try (exfalso; omega)) | (refine TL.boxA rfl rfl (fun wb bb ebb hVb hEb hzb => ?_); have hlb := box_lo (w0 := w) (by repeat (first | exact Ext.refl _ | (refine Ext.trans ?_ (by assumption)) | (apply ext_upd; assumption; rotate_left; omega))) ebb) | (refine TL.alloc rfl (fun wa ba eba hVa hEa hza => ?_); have hla := box_lo (w0 := w) (by repeat (first | exact Ext.refl _ | (refine Ext.trans ?_ (by assumption)) | (apply ext_upd; assumption; rotate_left; omega))) eba) | (refine TL.ev (ev_fieldAddr rfl) rfl ?_) | (refine TL.ev (ev_loadVX rfl (by refine ⟨?_, ?_⟩; (focus (repeat (first | assumption | (apply Vr.ext; assumption) | (apply Vr.updX; assumption; rotate_left; omega)))); rfl)) rfl ?_) | (refine TL.storeVX rfl rfl rfl rfl (by refine ⟨?_, ?_⟩; (focus (repeat (first | assumption | (apply Vr.ext; assumption) | (apply Vr.updX; assumption; rotate_left; omega)))); rfl) (fun ws hVs hUs hzs => ?_)) | (refine TL.ev (ev_eqlB (r := false) rfl rfl hxy) rfl ?_) | refine T.seq ?_ | refine T.region ?_ | refine TL.nil ?_ | refine T.cond_f rfl ?_ | refine T.ret ?_ | refine T.skip ?_ | refine G.next ?_)
  exact G.retC1 rfl rfl (held_agg hVs rfl) ⟨_, rfl, LI.updV hUs (by repeat (first | assumption | (apply Vr.ext; assumption) | (apply Vr.updX; assumption; rotate_left; omega))) rfl hLo, (by repeat (first | exact Ext.refl _ | (refine Ext.trans ?_ (by assumption)) | (apply ext_upd; assumption; rotate_left; omega))), by exact Nat.le_trans hKl (by omega)⟩
theorem zadd_ok (w : World) (x y : IV) (gx : GI w.heap x) (gy : GI w.heap y) (hx : x.m.n ≤ 17592186044416) (hy : y.m.n ≤ 17592186044416) : Cl Try.prog 42 #[.agg (ivc x).toArray, .agg (ivc y).toArray] w (RetZ w (ival x + ival y) (max x.m.n y.m.n + 1)) := by
  by_cases hxy : x.neg = y.neg
  · exact zadd_same w x y gx gy hx hy hxy
  · have hb : (x.neg == y.neg) = false := by simpa using hxy
    rcases Nat.lt_or_ge (val x.m.l) (val y.m.l) with h | h
    · have e : ival x + ival y = sgn y.neg (val y.m.l - val x.m.l) := by unfold ival sgn; cases hx1 : x.neg <;> cases hy1 : y.neg <;> simp_all <;> omega
      rw [e]
      exact zadd_lt w x y gx gy hx hy hb rfl (by rw [cmp3, if_pos h]; omega) (by omega)
    · have e : ival x + ival y = sgn x.neg (val x.m.l - val y.m.l) := by unfold ival sgn; cases hx1 : x.neg <;> cases hy1 : y.neg <;> simp_all <;> omega
      rw [e]
      exact zadd_ge w x y gx gy hx hy hb rfl (by rw [cmp3, if_neg (by omega)]; split <;> omega) h
theorem zmulAdd_ok (w : World) (x y z : IV) (gx : GI w.heap x) (gy : GI w.heap y) (gz : GI w.heap z) (hx : x.m.n ≤ 8796093022208) (hy : y.m.n ≤ 8796093022208) (hz : z.m.n ≤ 17592186044416) : Cl Try.prog 62 #[.agg (ivc x).toArray, .agg (ivc y).toArray, .agg (ivc z).toArray] w (RetZ w (ival x * ival y + ival z) (max (x.m.n + y.m.n) z.m.n + 1)) := by
  refine enter Try.func62 rfl rfl rfl ?_
  repeat' (first | (refine TL.call rfl rfl ?_; first | (refine (zmul_ok _ x y (by repeat (first | assumption | (apply GI.ext; assumption))) (by repeat (first | assumption | (apply GI.ext; assumption))) hx hy).mono ?_; rintro _ wm ⟨p, rfl, hLp, hEm, hKp⟩; refine Back.mk ?_; have hzm := hEm.size) | (refine (zadd_ok _ p z hLp.g (by repeat (first | assumption | (apply GI.ext; assumption))) (by omega) hz).mono ?_; rintro _ wo ⟨s, rfl, hLs, hEo, hKs⟩; refine Back.mk ?_; have hzo := hEo.size; rw [hLp.val] at hLs)) | refine T.regionX 1 5 (.s 0 (.s 1 (.s 3 (.e 2 (.e 4 (.e 5 .nil)))))) mixed (by kernel_rfl) (fun wr hzr hEr => ?_) | (refine TL.boxA rfl rfl (fun wb bb ebb hVb hEb hzb => ?_); have hlb := box_lo (w0 := w) (by repeat (first | exact Ext.refl _ | (refine Ext.trans ?_ (by assumption)) | (apply ext_upd; assumption; rotate_left; omega))) ebb) | (refine TL.alloc rfl (fun wa ba eba hVa hEa hza => ?_); have hla := box_lo (w0 := w) (by repeat (first | exact Ext.refl _ | (refine Ext.trans ?_ (by assumption)) | (apply ext_upd; assumption; rotate_left; omega))) eba) | (refine TF.s rfl (fun _ hh => ev_loadVAX rfl (by refine ⟨Vr.ext hh ?_, ?_⟩; (focus (repeat (first | assumption | (apply Vr.ext; assumption) | (apply Vr.updX; assumption; rotate_left; omega)))); rfl)) rfl ?_) | (refine TL.storeVX rfl rfl rfl rfl (by refine ⟨?_, ?_⟩; (focus (repeat (first | assumption | (apply Vr.ext; assumption) | (apply Vr.updX; assumption; rotate_left; omega)))); rfl) (fun ws hVs hUs hzs => ?_)) | refine TF.nil ?_ | refine TF.e rfl ?_ | refine G.treeEnd rfl ?_ | refine G.tree rfl (by repeat (first | exact Ext.refl _ | (refine Ext.trans ?_ (by assumption)) | (apply ext_upd; assumption; rotate_left; omega))) ?_ | refine T.seq ?_ | refine T.region ?_ | refine TL.nil ?_ | refine T.ret ?_ | refine G.next ?_ | refine G.only ?_)
  exact G.retC1 rfl rfl (held_agg hVs rfl) ⟨s, rfl, LI.updV hUs (by repeat (first | assumption | (apply Vr.ext; assumption) | (apply Vr.updX; assumption; rotate_left; omega))) rfl hLs, (by repeat (first | exact Ext.refl _ | (refine Ext.trans ?_ (by assumption)) | (apply ext_upd; assumption; rotate_left; omega))), by omega⟩
end Go.Proofs.Ytlhmehikajidhaa

namespace Go.Eng
open Go Go.RowKit

theorem flatMap_len {α : Type} {f : α → List Value} {k : Nat} {l : List α} (hw : ∀ x ∈ l, (f x).length = k) : (l.flatMap f).length = l.length * k := by
  induction l with
  | nil => simp
  | cons x l ih =>
    rw [List.flatMap_cons, List.length_append, hw x (List.mem_cons_self ..), ih (fun y hy => hw y (List.mem_cons_of_mem _ hy)), List.length_cons, Nat.add_mul]
    omega
theorem flatMap_get {α : Type} {f : α → List Value} {k : Nat} : ∀ {l : List α} (hw : ∀ x ∈ l, (f x).length = k) (j q : Nat) (x : α), l[j]? = some x → q < k → (l.flatMap f)[j * k + q]? = (f x)[q]?
  | [], hw, j, q, x, h, hq => by simp at h
  | y :: l, hw, 0, q, x, h, hq => by
    simp at h
    subst h
    rw [List.flatMap_cons, Nat.zero_mul, Nat.zero_add, List.getElem?_append_left (by rw [hw y (List.mem_cons_self ..)]; exact hq)]
  | y :: l, hw, j + 1, q, x, h, hq => by
    rw [List.getElem?_cons_succ] at h
    have hy := hw y (List.mem_cons_self ..)
    rw [List.flatMap_cons, List.getElem?_append_right (by rw [hy, Nat.add_mul]; omega), hy, show (j + 1) * k + q - k = j * k + q by rw [Nat.add_mul]; omega]
    exact flatMap_get (fun z hz => hw z (List.mem_cons_of_mem _ hz)) j q x h hq
/-- a slice at the head of a block known whole -/
theorem vr_sm {α : Type} {f : α → List Value} {k : Nat} {H : Array Obj} {b B n c : Nat} {t : TypeId} {l : List α} {zs : List Value} (hk : 0 < k) (hw : ∀ x ∈ l, (f x).length = k) (hV : Vr H b t (l.flatMap f ++ zs)) (hn : l.length = n) (hc : n ≤ c) (hb : b < B) : Sm k f H B (some ⟨b, 0, none⟩) n c l := by
  refine ⟨hn, hc, hk, hw, .inr ⟨b, 0, rfl, hb, fun j x hx q v hv => ?_⟩⟩
  have hq : q < k := by have := (List.getElem?_eq_some_iff.1 hv).1; rwa [hw x (List.mem_of_getElem? hx)] at this
  have hj := (List.getElem?_eq_some_iff.1 hx).1
  rw [Nat.zero_add, hV.cell, List.getElem?_append_left, flatMap_get hw j q x hx hq, hv]
  rw [flatMap_len hw]
  have : (j + 1) * k ≤ l.length * k := Nat.mul_le_mul_right _ hj
  rw [Nat.add_mul] at this
  omega
section
variable {P : Program} {N : Fm} {Q : Exit → Act → World → Prop} {σ : Store} {w : World} {ops : Array Oper} {d : Nat} {t : TypeId} {pos : String} {af : Array Edge} {rest : List Oper}
/-- a new block of structs -/
theorem TL.makeX {x y : Operand} {ty e : TypeId} [hT : USlice P ty e] {z : List Value} {sz b1 : Nat} [hS : USize P e (.agg z.toArray) sz b1] {k k' : IntKind} {z1 z2 : Int} {n c : Nat} [e1 : IsN z1 n] [e2 : IsN z2 c]
    (hx : look σ x = some (.int k z1)) (hy : look σ y = some (.int k' z2)) (hd : Nat.blt d N.n = true) (hn : n ≤ c) (hc : b1 * c ≤ 281474976710656 ∧ c ≤ 9223372036854775807) (hz : z.all noU64 = true) (hzl : Nat.beq z.length sz = true) (hz0 : Nat.blt 0 sz = true)
    (K : ∀ w' b zs, b = w.heap.size → zs.length = c * sz → zs.all noU64 = true → Vr w'.heap b e zs → Ext w w' → w'.heap.size = w.heap.size + 1 → TL P N .seq ops Q rest ((d, .slice (some ⟨b, 0, none⟩) n c) :: σ) w') :
    TL P N .seq ops Q (⟨some d, .makeSlice ty x y, t, pos, af, none⟩ :: rest) σ w := by
  obtain rfl := e1.out
  obtain rfl := e2.out
  obtain ⟨i, hi, hz0', hsz, hby⟩ := hS.info
  have hb : (i.bytes : Int) * (c : Int) ≤ 281474976710656 := by
    have h : ((i.bytes * c : Nat) : Int) ≤ 281474976710656 := by rw [hby]; omega
    rwa [Int.natCast_mul] at h
  have hr := fun (w : World) => run_make (P := P) w ty e i (.agg z.toArray) hT.out hi hz0' k k' (n : Int) (c : Int) (by omega) (by omega) hb (by omega)
  simp only [Int.toNat_natCast, hsz] at hr
  have hzl' := Nat.eq_of_beq_eq_true hzl
  have hsz0 : 0 < sz := by simpa [Nat.blt_eq] using hz0
  refine TL.op (w' := w.alloc (.cells (madeCells z.toArray (c * sz)) e)) (fun ρ hρ => ?_) hd (K _ _ (madeCells z.toArray (c * sz)).toList rfl (by simp [madeCells]) ?_ ?_ (ext_alloc _ _) (size_alloc _ _))
  · simp [execOp, hρ x _ hx, hρ y _ hy]
    have := hr w
    simp only [Value.cells] at this
    simp [this]
  · rw [List.all_eq_true]
    intro v hv
    simp only [madeCells, Array.toList_map, List.mem_map] at hv
    obtain ⟨q, _, rfl⟩ := hv
    have hlt : q % z.toArray.size < z.length := by simp only [List.size_toArray]; exact Nat.mod_lt _ (by omega)
    have hlt2 : q % z.length < z.length := by simpa using hlt
    have : z.toArray[q % z.toArray.size]! = z[q % z.toArray.size] := by simp [List.getElem?_eq_getElem hlt2]
    rw [this]
    exact List.all_eq_true.1 hz _ (List.getElem_mem hlt)
  · unfold Vr
    rw [heap_alloc]
/-- append of one struct in place -/
theorem TL.appendX {α : Type} {f : α → List Value} {x y : Operand} {ty e : TypeId} [hT : USlice P ty e] {z : Value} {k b1 : Nat} [hS : USize P e z k b1] (h1 : ∀ u, (f u).all (·.oneCell') = true) {b n c B c' : Nat} {A' : Option Addr} {l : List α} {u : α} {zs : List Value}
    (hx : look σ x = some (.slice (some ⟨b, 0, none⟩) n c)) (hy : look σ y = some (.slice A' 1 c')) (hd : Nat.blt d N.n = true) (hs : Sm k f w.heap B A' 1 c' [u]) (hV : Vr w.heap b e (l.flatMap f ++ zs)) (hw : ∀ x ∈ l, (f x).length = k) (hn : l.length = n) (hc : n + 1 ≤ c) (hzs : zs.length = (c - n) * k)
    (K : ∀ w', Vr w'.heap b e ((l ++ [u]).flatMap f ++ zs.drop k) → Upd b w w' → w'.heap.size = w.heap.size → TL P N .seq ops Q rest ((d, .slice (some ⟨b, 0, none⟩) (n + 1) c) :: σ) w') :
    TL P N .seq ops Q (⟨some d, .call { callee := .builtin .append, args := #[x, y], argTypes := #[ty, ty] }, t, pos, af, none⟩ :: rest) σ w := by
  obtain ⟨i, hi, hz0, hsz, hby⟩ := hS.info
  have hu := hs.wid u (by simp)
  have hl : (l.flatMap f).length = n * k := by rw [flatMap_len hw, hn]
  have hk := hs.pos
  have hck : k ≤ (c - n) * k := Nat.le_mul_of_pos_left _ (by omega)
  rcases hs.mem with h | ⟨b', o, rfl, _, hm⟩
  · omega
  have hnews : ∀ j v, (f u)[j]? = some v → w.cell? ((⟨b', o, none⟩ : Addr).add j) = some v := fun j v hv => by
    have := hm 0 u rfl j v hv
    rw [Nat.zero_mul, Nat.zero_add] at this
    rw [add_mk, cell_of_hcell]; exact this
  have hr := run_append_room (P := P) w ty t e i hT.out hi b n c (l.flatMap f ++ zs).toArray hV ⟨b', o, none⟩ 1 c' (f u) (by rw [hu, hsz, Nat.one_mul]) hnews (fun v hv => List.all_eq_true.1 (h1 u) v hv) hc (by simp [hl, hsz, hu, hzs]; exact hck)
  refine TL.op (w' := w.setRow b ((l.flatMap f) ++ f u ++ zs.drop k).toArray) (fun ρ hρ => ?_) hd (K _ ?_ (upd_setRow _ _ _) (by simp [World.setRow]))
  · simp only [execOp, resolve, invoke, builtin, Sem.run_bind, Sem.run_pure, Result.andThen_ok, List.map_toArray, List.map_cons, List.map_nil, hρ x _ hx, hρ y _ hy]
    rw [hr]
    simp only [Result.andThen_ok, Sem.run_pure, hsz]
    have e1 : List.take (n * k) (l.flatMap f ++ zs) = l.flatMap f := by rw [← hl, List.take_left]
    have e2 : List.drop (n * k + (f u).length) (l.flatMap f ++ zs) = zs.drop k := by rw [← hl, hu, List.drop_append, List.drop_of_length_le (by omega)]; simp
    rw [e1, e2]
  · unfold Vr at hV ⊢
    rw [setRow_heap w b _ _ e _ hV, List.flatMap_append]
    simp
/-- a literal of one struct -/
theorem TL.buildX1 {α : Type} {f : α → List Value} {x : Operand} {ty e : TypeId} [hT : USlice P ty e] {z : List Value} {sz b1 : Nat} [hS : USize P e (.agg z.toArray) sz b1] {u : α} {vs : List Value} (hx : look σ x = some (.agg vs.toArray)) (hvs : f u = vs) (hd : Nat.blt d N.n = true) (hl : Nat.beq vs.length sz = true) (hzl : Nat.beq z.length sz = true) (h0 : Nat.blt 0 sz = true) (h16 : Nat.ble sz 1000 = true)
    (K : ∀ w' b, b = w.heap.size → Vr w'.heap b e (f u) → Sm sz f w'.heap w'.heap.size (some ⟨b, 0, none⟩) 1 1 [u] → Ext w w' → w'.heap.size = w.heap.size + 1 → TL P N .seq ops Q rest ((d, .slice (some ⟨b, 0, none⟩) 1 1) :: σ) w') :
    TL P N .seq ops Q (⟨some d, .buildSlice ty 1 #[(0, x)], t, pos, af, none⟩ :: rest) σ w := by
  subst hvs
  obtain ⟨i, hi, hz0, hsz, hby⟩ := hS.info
  have hlen := Nat.eq_of_beq_eq_true hl
  have hzlen := Nat.eq_of_beq_eq_true hzl
  have hpos : 0 < sz := by simpa [Nat.blt_eq] using h0
  have h16' : sz ≤ 1000 := by simpa [Nat.ble_eq] using h16
  have hm : ((Array.range (1 * i.size)).map (fun q => z.toArray[q % z.toArray.size]!)) = z.toArray := by
    apply Array.ext
    · simp [hsz, hzlen]
    · intro q h1 h2
      simp at h2
      simp [Nat.mod_eq_of_lt h2, getElem!_pos, h2]
  have hfill : Instr.fill (fun j => some (j * i.size, i.size)) z.toArray [(0, Value.agg (f u).toArray)] = some (f u).toArray := by
    have e2 : Array.foldl (fun (cs : Array Value) (p : Value × Nat) => cs.setIfInBounds (0 * i.size + p.2) p.1) z.toArray (f u).toArray.zipIdx = (f u).toArray := by
      apply Array.ext'
      have := foldl_put (f u) 0 0 z.toArray
      rw [Nat.zero_mul, ← Array.foldl_toList, Array.toList_zipIdx]
      simp only [Nat.add_zero] at this
      rw [this]
      apply List.ext_getElem?
      intro j
      rw [putV_get]
      simp only [Nat.zero_le, true_and, Nat.zero_add, Nat.sub_zero]
      split
      · rfl
      · rename_i hj
        have hge : sz ≤ j := by simp only [hlen, List.toList_toArray, hzlen] at hj; omega
        rw [List.getElem?_eq_none (by simp [hzlen]; omega), List.getElem?_eq_none (by omega)]
    have e3 : (decide ((Value.agg (f u).toArray).cells.size ≠ i.size) || decide (0 * i.size + (Value.agg (f u).toArray).cells.size > z.toArray.size)) = false := by simp [Value.cells, hsz, hlen, hzlen]
    unfold Instr.fill
    simp only [e3]
    unfold Instr.fill
    exact congrArg some e2
  have hrun : (Instr.buildSlice ty 1 #[(0, Value.agg (f u).toArray)]).run P w = .ok (.slice (some ⟨w.heap.size, 0, none⟩) 1 1) (w.alloc (.cells (f u).toArray e)) := by
    refine run_buildSlice w ty e 1 _ (f u).toArray i (.agg z.toArray) hT.out hi hz0 (by rw [hsz]; omega) (by rw [hsz]; omega) ?_
    simp only [Value.cells]
    rw [hm]
    exact hfill
  refine TL.op (w' := w.alloc (.cells (f u).toArray e)) (fun ρ hρ => ?_) hd (K _ _ rfl (by unfold Vr; rw [heap_alloc]) ?_ (ext_alloc _ _) (size_alloc _ _))
  · simp [execOp, hρ x _ hx, hrun]
  · have hV : Vr (w.alloc (.cells (f u).toArray e)).heap w.heap.size e ([u].flatMap f ++ []) := by unfold Vr; rw [heap_alloc]; simp
    exact vr_sm hpos (fun x hx => by rw [List.mem_singleton] at hx; subst hx; exact hlen) hV rfl (Nat.le_refl _) (by simp)
end
section
variable {P : Program} {N : Fm} {Q : Exit → Act → World → Prop} {S : World → Prop} {σ : Store} {w : World} {l : List Oper} {f : Nat}
/-- a guarded operation whose guard says yes -/
theorem TF.sg {i : Nat} {t : Rt} {d : Nat} {op : Op} {ty : TypeId} {pos : String} {af : Array Edge} {v : Value} {j s : Nat} {want b : Bool} (hi : pick1 l i = some ⟨some d, op, ty, pos, af, some (j, want)⟩) (hj : (pick1 l j).bind (·.dst) = some s) (hb : look1 σ s = some (.bool b)) (heq : (b == want) = true)
    (h : ∀ w', S w' → Ev P σ w'.heap ⟨some d, op, ty, pos, af, some (j, want)⟩ v) (hd : Nat.blt d N.n = true) (k : TF P N l Q S f t ((d, v) :: σ) w) : TF P N l Q S f (.s i t) σ w := by
  unfold TF at *
  intro a ha
  refine ⟨_, v, pick_at hi, .inl ⟨?_, fun w' hw' => by have := h w' hw'; unfold Ev at this; exact this _ w' ha.agree rfl⟩, k _ (ha.put hd v)⟩
  have hj' : (l.toArray[j]?).bind (·.dst) = some s := by rw [List.getElem?_toArray, ← pick1_eq]; exact hj
  simp only [Region.wanted, yielded_of ha hj' hb]
  cases b <;> cases want <;> simp_all
/-- a guarded operation whose guard says no -/
theorem TF.sn {i : Nat} {t : Rt} {d : Nat} {op : Op} {ty : TypeId} {pos : String} {af : Array Edge} {j s : Nat} {want b : Bool} (hi : pick1 l i = some ⟨some d, op, ty, pos, af, some (j, want)⟩) (hj : (pick1 l j).bind (·.dst) = some s) (hb : look1 σ s = some (.bool b)) (heq : (b == want) = false)
    (hd : Nat.blt d N.n = true) (k : TF P N l Q S f t ((d, undef) :: σ) w) : TF P N l Q S f (.s i t) σ w := by
  unfold TF at *
  intro a ha
  refine ⟨_, undef, pick_at hi, .inr ⟨?_, rfl⟩, k _ (ha.put hd undef)⟩
  have hj' : (l.toArray[j]?).bind (·.dst) = some s := by rw [List.getElem?_toArray, ← pick1_eq]; exact hj
  simp only [Region.wanted, yielded_of ha hj' hb]
  cases b <;> cases want <;> simp_all
end
end Go.Eng
namespace Go.Eng
open Go Go.RowKit
section
variable {P : Program} {N : Fm} {Q : Exit → Act → World → Prop} {σ : Store} {w : World} {ops : Array Oper} {d : Nat} {t : TypeId} {pos : String} {af : Array Edge} {rest : List Oper}
theorem put_front (a b z : List Value) (h : a.length = z.length) : putV (z ++ b) 0 a = a ++ b := by
  apply List.ext_getElem?
  intro j
  rw [putV_get]
  simp only [Nat.zero_le, true_and, Nat.zero_add, Nat.sub_zero, List.length_append]
  split
  · rename_i hj; rw [List.getElem?_append_left hj.1]
  · rename_i hj
    rcases Nat.lt_or_ge j a.length with h1 | h1
    · omega
    · rw [List.getElem?_append_right (by omega), List.getElem?_append_right h1, h]
theorem put_back (a b z : List Value) (h : b.length = z.length) : putV (a ++ z) a.length b = a ++ b := by
  apply List.ext_getElem?
  intro j
  rw [putV_get]
  simp only [List.length_append]
  split
  · rename_i hj; rw [List.getElem?_append_right hj.1]
  · rename_i hj
    rcases Nat.lt_or_ge j a.length with h1 | h1
    · rw [List.getElem?_append_left h1, List.getElem?_append_left h1]
    · rw [List.getElem?_eq_none (by simp; omega), List.getElem?_eq_none (by simp; omega)]
/-- a literal of two structs -/
theorem TL.buildX2 {α : Type} {f : α → List Value} {x y : Operand} {ty e : TypeId} [hT : USlice P ty e] {z : List Value} {sz b1 : Nat} [hS : USize P e (.agg z.toArray) sz b1] {u v : α} {vs vs' : List Value} (hx : look σ x = some (.agg vs.toArray)) (hy : look σ y = some (.agg vs'.toArray)) (hvs : f u = vs) (hvs' : f v = vs') (hd : Nat.blt d N.n = true)
    (hl : Nat.beq vs.length sz = true) (hl' : Nat.beq vs'.length sz = true) (hzl : Nat.beq z.length sz = true) (h0 : Nat.blt 0 sz = true) (h16 : Nat.ble sz 1000 = true)
    (K : ∀ w' b, b = w.heap.size → Sm sz f w'.heap w'.heap.size (some ⟨b, 0, none⟩) 2 2 [u, v] → Ext w w' → w'.heap.size = w.heap.size + 1 → TL P N .seq ops Q rest ((d, .slice (some ⟨b, 0, none⟩) 2 2) :: σ) w') :
    TL P N .seq ops Q (⟨some d, .buildSlice ty 2 #[(0, x), (1, y)], t, pos, af, none⟩ :: rest) σ w := by
  subst hvs hvs'
  obtain ⟨i, hi, hz0, hsz, hby⟩ := hS.info
  have hlen := Nat.eq_of_beq_eq_true hl
  have hlen' := Nat.eq_of_beq_eq_true hl'
  have hzlen := Nat.eq_of_beq_eq_true hzl
  have hpos : 0 < sz := by simpa [Nat.blt_eq] using h0
  have h16' : sz ≤ 1000 := by simpa [Nat.ble_eq] using h16
  have hm : ((Array.range (2 * i.size)).map (fun q => z.toArray[q % z.toArray.size]!)) = (z ++ z).toArray := by
    apply Array.ext
    · simp [hsz, hzlen]; omega
    · intro q h1 h2
      simp [hzlen] at h2
      have hmod : q % sz < sz := Nat.mod_lt _ hpos
      simp only [Array.getElem_map, Array.getElem_range, List.size_toArray, hzlen, List.getElem_toArray]
      rcases Nat.lt_or_ge q sz with hq | hq
      · rw [List.getElem_append_left (by omega)]
        simp [Nat.mod_eq_of_lt hq, hzlen, hq]
      · rw [List.getElem_append_right (by omega)]
        have e1 : q % sz = q - z.length := by rw [hzlen, Nat.mod_eq_sub_mod hq, Nat.mod_eq_of_lt (by omega)]
        have h3 : q - z.length < z.length := by omega
        simp [e1, List.getElem?_eq_getElem h3]
  have hfill : Instr.fill (fun j => some (j * i.size, i.size)) (z ++ z).toArray [(0, Value.agg (f u).toArray), (1, Value.agg (f v).toArray)] = some (f u ++ f v).toArray := by
    have p1 : Array.foldl (fun (cs : Array Value) (p : Value × Nat) => cs.setIfInBounds (0 * i.size + p.2) p.1) (z ++ z).toArray (f u).toArray.zipIdx = (f u ++ z).toArray := by
      apply Array.ext'
      have := foldl_put (f u) 0 0 (z ++ z).toArray
      rw [Nat.zero_mul, ← Array.foldl_toList, Array.toList_zipIdx]
      simp only [Nat.add_zero] at this
      rw [this]
      exact put_front _ _ _ (by omega)
    have p2 : Array.foldl (fun (cs : Array Value) (p : Value × Nat) => cs.setIfInBounds (1 * i.size + p.2) p.1) (f u ++ z).toArray (f v).toArray.zipIdx = (f u ++ f v).toArray := by
      apply Array.ext'
      have := foldl_put (f v) 0 sz (f u ++ z).toArray
      rw [hsz, Nat.one_mul, ← Array.foldl_toList, Array.toList_zipIdx]
      simp only [Nat.add_zero] at this
      rw [this, ← hlen]
      exact put_back _ _ _ (by omega)
    have e3 : (decide ((Value.agg (f u).toArray).cells.size ≠ i.size) || decide (0 * i.size + (Value.agg (f u).toArray).cells.size > (z ++ z).toArray.size)) = false := by simp [Value.cells, hsz, hlen, hzlen]
    have e4 : (decide ((Value.agg (f v).toArray).cells.size ≠ i.size) || decide (1 * i.size + (Value.agg (f v).toArray).cells.size > (f u ++ z).toArray.size)) = false := by simp [Value.cells, hsz, hlen, hlen', hzlen]
    unfold Instr.fill
    simp only [e3]
    rw [show (Value.agg (f u).toArray).cells = (f u).toArray from rfl, p1]
    unfold Instr.fill
    simp only [e4]
    rw [show (Value.agg (f v).toArray).cells = (f v).toArray from rfl, p2]
    unfold Instr.fill
    rfl
  have hrun : (Instr.buildSlice ty 2 #[(0, Value.agg (f u).toArray), (1, Value.agg (f v).toArray)]).run P w = .ok (.slice (some ⟨w.heap.size, 0, none⟩) 2 2) (w.alloc (.cells (f u ++ f v).toArray e)) := by
    refine run_buildSlice w ty e 2 _ (f u ++ f v).toArray i (.agg z.toArray) hT.out hi hz0 (by rw [hsz]; omega) (by rw [hsz]; omega) ?_
    simp only [Value.cells]
    rw [hm]
    exact hfill
  refine TL.op (w' := w.alloc (.cells (f u ++ f v).toArray e)) (fun ρ hρ => ?_) hd (K _ _ rfl ?_ (ext_alloc _ _) (size_alloc _ _))
  · simp [execOp, hρ x _ hx, hρ y _ hy, hrun]
  · have hV : Vr (w.alloc (.cells (f u ++ f v).toArray e)).heap w.heap.size e ([u, v].flatMap f ++ []) := by unfold Vr; rw [heap_alloc]; simp
    refine vr_sm hpos (fun x hx => ?_) hV rfl (Nat.le_refl _) (by simp)
    simp only [List.mem_cons, List.not_mem_nil, or_false] at hx
    rcases hx with rfl | rfl <;> assumption
end
end Go.Eng
namespace Go.Eng
open Go Go.RowKit
/-- what stood stands, but for block b -/
structure Exb (b : Nat) (w w' : World) : Prop where
  size : w.heap.size ≤ w'.heap.size
  block : ∀ k, k < w.heap.size → k ≠ b → w'.heap[k]? = w.heap[k]?
theorem Exb.refl (b : Nat) (w : World) : Exb b w w := ⟨Nat.le_refl _, fun _ _ _ => rfl⟩
theorem Exb.ext {b : Nat} {w w1 w2 : World} (h : Exb b w w1) (hE : Ext w1 w2) : Exb b w w2 := ⟨Nat.le_trans h.size hE.size, fun k hk hne => (hE.block k (Nat.lt_of_lt_of_le hk h.size)).trans (h.block k hk hne)⟩
theorem Exb.upd {b : Nat} {w w1 w2 : World} (h : Exb b w w1) (hu : Upd b w1 w2) : Exb b w w2 := ⟨by rw [hu.size]; exact h.size, fun k hk hne => (hu.block k hne).trans (h.block k hk hne)⟩
theorem Vr.exb {b g : Nat} {w w' : World} {t : TypeId} {cs : List Value} (hE : Exb b w w') (h : Vr w.heap g t cs) (hne : g ≠ b) : Vr w'.heap g t cs := (hE.block g h.lt hne).trans h
theorem T.regionXb {P : Program} {N : Fm} {Q : Exit → Act → World → Prop} {σ : Store} {w : World} {l : List Oper} (b : Nat) (id : Nat) (f : Nat) (t : Rt) (hm : P.follows .mixedOrders = true) (hB : treeB l.toArray f t = true) (h : ∀ w1 : World, w1.heap.size = w.heap.size → Ext w w1 → TF P N l Q (fun w' => Exb b w w') f t σ w1) : T P N (.region id l.toArray true) Q σ w :=
  T.regionF _ f t hm hB ((Exb.refl b w).ext (ext_drewN w 1)) (h (w.drewN 1) (by simp) (ext_drewN w 1))
end Go.Eng
