/- Layer 10: two rows of a dense matrix changed: the law's dense by mat.Pick; every change. Layer 10: the law SparseDense. -/
import Derived.Test.YtlpheckjogphmaaPd13
set_option linter.unusedVariables false
set_option linter.unusedSimpArgs false
set_option linter.unusedSectionVars false
namespace Go.Eng
open Go Go.Proofs Go.NatM Go.RowKit Go.Proofs.Ytlpheckjogphmaa
section
variable {P : Program} {N : Fm} {Q : Exit → Act → World → Prop} {σ : Go.Eng.Store} {S : Nat → Prop} {w0 w : World} {L : List VB} {D : List DP} {ops : Array Oper} {t : TypeId} {pos : String} {af : Array Edge} {rest : List Oper}
/-- a value of one cell stored into an element of a block known whole, with room behind -/
theorem TL.storeAt1zFr (hF : Fr w0 w L D S) {α : Type} {f : α → Value} {g : α → List Value} (hg : ∀ x, g x = [f x]) {x y : Operand} {ty e : TypeId} {z : Value} {b1 : Nat} [hS : USize P ty z 1 b1] {b i : Nat} {l : List α} {zs : List Value} (u : α) {v : Value} {L' : List VB}
    (hx : Go.Eng.look σ x = some (.pointer (elemA (some ⟨b, 0, none⟩) i))) (hy : Go.Eng.look σ y = some v) (hv : f u = v) (hvs : v.cells.toList = [v]) (h1 : v.oneCell' = true) (hi : i < l.length) (hn : (l.flatMap g ++ zs).all noU64 = true)
    (hL : SetV L b e (l.flatMap g ++ zs) ((l.set i u).flatMap g ++ zs) L')
    (K : ∀ w', Fr w0 w' L' D S → TL P N .seq ops Q rest σ w') : TL P N .seq ops Q (⟨none, .store ty x y, t, pos, af, none⟩ :: rest) σ w :=
  TL.storeFr hF (b := b) (o := i) (by rw [hx]; simp [elemA, add_mk]) hy hvs h1 ⟨hL, by rw [← hv]; exact putO_setz hg u zs l i hi⟩ hn K
end
theorem vr_ints {α : Type} {f : α → Value} {H : Array Obj} {b B n c : Nat} {t : TypeId} {l : List α} {zs : List Value} (hV : Vr H b t (l.flatMap (fun x => [f x]) ++ zs)) (hn : l.length = n) (hc : n ≤ c) (hb : b < B) : Sl f H B (some ⟨b, 0, none⟩) n c l :=
  sm_sl (vr_sm (by omega) (fun _ _ => rfl) hV hn hc hb)
theorem ints_noV (l : List Int) (zs : List Value) (hz : zs.all noU64 = true) : (l.flatMap (fun x => [i64v x]) ++ zs).all noU64 = true := by
  rw [List.all_append, hz, Bool.and_true, List.all_eq_true]
  intro v hv
  obtain ⟨x, _, hx⟩ := List.mem_flatMap.1 hv
  rw [List.mem_singleton.1 hx]; rfl
theorem cat_len {α : Type} {l : List α} {i : Nat} {x : α} (h : l.length = i) : (l ++ [x]).length = i + 1 := by simp [h]
theorem cut_noV {zs : List Value} (h : zs.all noU64 = true) (n : Nat) : (zs.drop n).all noU64 = true := List.all_eq_true.2 fun v hv => List.all_eq_true.1 h v (List.mem_of_mem_drop hv)
theorem nums_cat {nl : List Int} {i : Nat} (hl : nl.length = i) (h : ∀ q, q < i → nl.getD q 0 = (q : Int)) : ∀ q, q < i + 1 → (nl ++ [(i : Int)]).getD q 0 = (q : Int) := fun q hq => by
  by_cases e : q = i
  · subst e; subst hl; simp [List.getD]
  · have := h q (by omega)
    simp only [List.getD] at this ⊢
    rw [List.getElem?_append_left (by omega)]; exact this
theorem nums_swap {nl : List Int} {r i j : Nat} (hl : nl.length = r) (h : ∀ q, q < r → nl.getD q 0 = (q : Int)) (hi : i < r) (hj : j < r) : ∀ q, q < r → ((nl.set i (j : Int)).set j (i : Int)).getD q 0 = swp (i : Int) (j : Int) (q : Int) := fun q hq => by
  unfold swp
  by_cases e : q = j
  · subst e
    have : ((nl.set i (q : Int)).set q (i : Int)).getD q 0 = (i : Int) := by simp [List.getD, hl, hq]
    rw [this]
    by_cases e2 : q = i
    · subst e2; simp
    · rw [if_neg (by omega), if_pos rfl]
  · have h1 : ((nl.set i (j : Int)).set j (i : Int)).getD q 0 = (nl.set i (j : Int)).getD q 0 := by simp only [List.getD]; rw [List.getElem?_set_ne (fun h => e h.symm)]
    rw [h1]
    by_cases e2 : q = i
    · subst e2
      have : (nl.set q (j : Int)).getD q 0 = (j : Int) := by simp [List.getD, hl, hq]
      rw [this, if_pos rfl]
    · have h2 : (nl.set i (j : Int)).getD q 0 = nl.getD q 0 := by simp only [List.getD]; rw [List.getElem?_set_ne (fun h => e2 h.symm)]
      rw [h2, h q hq, if_neg (by omega), if_neg (by omega)]
theorem inl_of {l : List Int} {r n : Nat} (hl : l.length = n) (h : ∀ q, q < n → 0 ≤ l.getD q 0 ∧ l.getD q 0 < (r : Int)) : InL l r := InL.of fun q hq => h q (by omega)
end Go.Eng
namespace Go.Proofs.Ytlpheckjogphmaa
open Go Go.Eng Go.Proofs Go.NatM Go.RowKit
set_option maxRecDepth 100000 in
set_option maxHeartbeats 16000000 in
theorem dense_swap (w : World) (x : MV) (r c : Nat) (Z : ZF) (hx : LM w.heap x r c (natF Z) 16384) (a : CV) (hk : a.k ≠ 5 ∧ a.k ≠ 8 ∧ a.k ≠ 6) (hi : 0 ≤ a.i ∧ a.i < (r : Int)) (hj : 0 ≤ a.j ∧ a.j < (r : Int)) :
    Cl Try.prog 44 #[.agg (mvc x).toArray, .agg (cvc a).toArray] w (RetDY w r c (chZ Z a)) := by
  have hpk := fun w1 (hE : Ext w w1) B m q B' m' q' lr lc hsr hsc him hjm => mpick_ok w1 x r c 16384 (hx.ext hE).gm (by omega) B B' m q m' q' lr lc hsr hsc him hjm
  have hent := fun p q (hp : p < r) (hq : q < c) => hx.ent hp hq
  have hs := hx.sh
  unfold chZ
  rw [if_neg hk.1, if_neg hk.2.1, if_neg hk.2.2]
  clear hx
  have hr := hs.r64
  have hcc := hs.c64
  have hr1 := hs.er
  have hc1 := hs.ec
  obtain ⟨k, i, j, v⟩ := a
  obtain ⟨hk5, hk8, hk6⟩ := hk
  dsimp only at hk5 hk8 hk6 hi hj ⊢
  obtain ⟨i, rfl⟩ : ∃ n : Nat, i = (n : Int) := ⟨i.toNat, by omega⟩
  obtain ⟨j, rfl⟩ : ∃ n : Nat, j = (n : Int) := ⟨j.toNat, by omega⟩
  have hi' : i < r := by omega
  have hj' : j < r := by omega
  clear hi hj
  obtain ⟨xe, hxe⟩ : ∃ f, ent x c = f := ⟨_, rfl⟩
  rw [hxe] at hent
  have hpk' : ∀ w1, Ext w w1 → ∀ (B : Option Addr) (q : Nat) (B' : Option Addr) (q' : Nat) (lr lc : List Int), Sl i64v w1.heap w1.heap.size B r q lr → Sl i64v w1.heap w1.heap.size B' c q' lc → (∀ p, p < r → lr.getD p 0 = swp (i : Int) (j : Int) (p : Int)) → (∀ p, p < c → lc.getD p 0 = (p : Int)) →
      Cl Try.prog 78 #[.agg (mvc x).toArray, .slice B r q, .slice B' c q'] w1 (RetME w1 r c (natF (swpF Z (i : Int) (j : Int))) 16384) := fun w1 hE B q B' q' lr lc hsr hsc h1 h2 => by
    have hl1 := hsr.len
    have hl2 := hsc.len
    refine (hpk w1 hE B r q B' c q' lr lc hsr hsc (by omega) (by omega)).mono fun e w' h => ?_
    have hsw : ∀ p, p < r → ∃ p' : Nat, swp (i : Int) (j : Int) (p : Int) = (p' : Int) ∧ p' < r := fun p hp => by
      unfold swp
      by_cases e1 : p = i
      · exact ⟨j, by rw [if_pos (by omega)], hj'⟩
      · by_cases e2 : p = j
        · exact ⟨i, by rw [if_neg (by omega), if_pos (by omega)], hi'⟩
        · exact ⟨p, by rw [if_neg (by omega), if_neg (by omega)], hp⟩
    unfold RetPick at h
    rw [if_pos ⟨inl_of hl1 fun p hp => (by obtain ⟨p', e, hp'⟩ := hsw p hp; rw [h1 p hp, e]; omega), inl_of hl2 fun p hp => (by rw [h2 p hp]; omega)⟩, if_pos ⟨by omega, by omega⟩, hl1, hl2, hxe] at h
    obtain ⟨z, he, hz, hE2, hf⟩ := h
    refine ⟨z, he, LM.moreF hz (Nat.le_refl _) fun p q hp hq => ?_, hE2, hf⟩
    obtain ⟨p', e, hp'⟩ := hsw p hp
    rw [h1 p hp, h2 q hq, e, Int.toNat_natCast, Int.toNat_natCast, hent p' q hp' hq]
    unfold natF swpF
    dsimp only
    rw [e]
  clear hpk hxe hent hs
  obtain ⟨xr, xc, A1, n1, k1, l1⟩ := x
  obtain ⟨vs, ⟨vA, vn, vc, vl⟩⟩ := v
  dsimp only at hr1 hc1
  subst hr1 hc1
  refine enter Try.func44 rfl rfl rfl ?_
  have hF := Fr.refl w
  repeat' (first | (refine TL.isOp ?_; first | (refine TL.isG ?_; first | refine TL.grun rfl rfl rfl ?_) | (refine TL.isBin ?_; refine TL.cmpG rfl rfl rfl rfl (fun hc => ?_) (fun hc => ?_) <;> (try (first | (exfalso; omega) | exact absurd rfl hc))) | (apply TL.ev; (case hd => rfl); (case h => (first | exact ev_simple rfl | (apply Ev.isLoad; first | exact ev_loadFr hF rfl (by refine ⟨?_, ?_⟩; (focus (repeat (first | exact InV.head | apply InV.tail))); rfl)) | exact ev_fieldAddr rfl))) | (refine TL.boxAFr hF (d := 2) (cs := [.int .i64 (r : Int), .int .i64 (c : Int), .slice A1 n1 k1]) rfl rfl ?_; clear hF; intro w2 b2 hF) | (refine TL.boxAFr hF (d := 3) (cs := [.int .i64 k, .int .i64 (i : Int), .int .i64 (j : Int), .bool vs, .slice vA vn vc]) rfl rfl ?_; clear hF; intro w3 b3 hF) | (refine TL.allocFr hF (d := 4) rfl rfl ?_; clear hF; intro w4 b4 hF)) | (refine T.is ?_; first | refine T.seq ?_ | refine T.region ?_ | refine T.block ?_ | refine T.cond_f rfl ?_ | refine T.skip ?_) | (refine G.is ?_; first | refine G.next ?_ | refine G.blockN ?_) | refine TL.nil ?_)
  refine T.loop (α := Nat × Option Addr × Nat × List Int) (fun x => [(2, .pointer (some ⟨b2, 0, none⟩)), (3, .pointer (some ⟨b3, 0, none⟩)), (4, .pointer (some ⟨b4, 0, none⟩)), (12, .slice x.2.1 x.1 x.2.2.1), (13, .slice none 0 0), (14, .int .i64 (x.1 : Int))])
    (fun x w' => x.1 ≤ r ∧ x.2.2.2.length = x.1 ∧ (∀ q, q < x.1 → x.2.2.2.getD q 0 = (q : Int)) ∧
      ((x.1 = 0 ∧ x.2.1 = none ∧ x.2.2.1 = 0 ∧ Fr w w' [⟨b4, 24, [.int .i64 0, .int .i64 0, .slice none 0 0]⟩, ⟨b3, 44, [.int .i64 k, .int .i64 (i : Int), .int .i64 (j : Int), .bool vs, .slice vA vn vc]⟩, ⟨b2, 24, [.int .i64 (r : Int), .int .i64 (c : Int), .slice A1 n1 k1]⟩] []) ∨
       ∃ g zs, x.2.1 = some ⟨g, 0, none⟩ ∧ x.1 ≤ x.2.2.1 ∧ zs.length = x.2.2.1 - x.1 ∧ zs.all noU64 = true ∧ Fr w w' [⟨g, 3, x.2.2.2.flatMap (fun x => [i64v x]) ++ zs⟩, ⟨b4, 24, [.int .i64 0, .int .i64 0, .slice none 0 0]⟩, ⟨b3, 44, [.int .i64 k, .int .i64 (i : Int), .int .i64 (j : Int), .bool vs, .slice vA vn vc]⟩, ⟨b2, 24, [.int .i64 (r : Int), .int .i64 (c : Int), .slice A1 n1 k1]⟩] []))
    (fun x => r - x.1) (0, none, 0, []) (by repeat (first | exact Sub.nil _ | refine Sub.cons rfl ?_ | refine Sub.cons' rfl (int_congr (by omega)) ?_)) ⟨Nat.zero_le _, rfl, fun q hq => absurd hq (Nat.not_lt_zero _), .inl ⟨rfl, rfl, rfl, hF⟩⟩ ?_
  clear hF
  rintro ⟨p, RA, kR, rl⟩ w2 ⟨hp, hrl, hrq, hst⟩
  dsimp only at hp hrl hrq hst ⊢
  rcases Nat.lt_or_ge p r with hpn | hpn
  · rcases hst with ⟨h0, rfl, rfl, hF⟩ | ⟨g, zs, rfl, a1, a2, a3, hF⟩
    · subst h0
      obtain rfl : rl = [] := List.eq_nil_of_length_eq_zero hrl
      repeat' (first | (refine TL.isOp ?_; first | (refine TL.isBin ?_; refine TL.cmpG rfl rfl rfl rfl (fun hc => ?_) (fun hc => ?_) <;> (try (first | (exfalso; omega) | exact absurd rfl hc))) | (apply TL.ev; (case hd => rfl); (case h => (first | exact ev_simple rfl | (apply Ev.isBin; first | exact ev_arN rfl rfl rfl (by omega)) | (apply Ev.isLoad; first | exact ev_loadFr hF rfl (by refine ⟨?_, ?_⟩; (focus (repeat (first | exact InV.head | apply InV.tail))); rfl)) | exact ev_fieldAddr rfl))) | (refine TL.build1Fr hF (f := i64v) (u := 0) (fun _ => rfl) rfl rfl rfl ?_; clear hF; intro wl bl hbl hF hSl hEl) | (refine TL.appendNewFr hF (fun x => [i64v x]) rfl rfl rfl rfl hSl (fun _ => rfl) rfl rfl (by omega) (fun h0 => absurd h0 (by omega)) ?_; clear hF hSl hEl; intro _ wn bN cN zN hcN hzN hzNn hF)) | (refine T.is ?_; first | refine T.seq ?_ | refine T.region ?_ | refine T.block ?_ | refine T.cond_t rfl ?_ | refine T.skip ?_) | (refine G.is ?_; first | refine G.next ?_ | refine G.blockN ?_) | refine TL.nil ?_)
      exact G.again (1, some ⟨bN, 0, none⟩, cN, [(0 : Int)]) (by repeat (first | exact Sub.nil _ | refine Sub.cons rfl ?_ | refine Sub.cons' rfl (int_congr (by omega)) ?_)) ⟨by dsimp only; omega, rfl, fun q hq => (by obtain rfl : q = 0 := (by dsimp only at hq; omega); rfl), .inr ⟨bN, zN, rfl, hcN, by dsimp only; omega, hzNn, hF⟩⟩ (by dsimp only; omega)
    · repeat' (first | (refine TL.isOp ?_; first | (refine TL.isBin ?_; refine TL.cmpG rfl rfl rfl rfl (fun hc => ?_) (fun hc => ?_) <;> (try (first | (exfalso; omega) | exact absurd rfl hc))) | (apply TL.ev; (case hd => rfl); (case h => (first | exact ev_simple rfl | (apply Ev.isBin; first | exact ev_arN rfl rfl rfl (by omega)) | (apply Ev.isLoad; first | exact ev_loadFr hF rfl (by refine ⟨?_, ?_⟩; (focus (repeat (first | exact InV.head | apply InV.tail))); rfl)) | exact ev_fieldAddr rfl))) | (refine TL.build1Fr hF (f := i64v) (u := (p : Int)) (fun _ => rfl) rfl rfl rfl ?_; clear hF; intro wl bl hbl hF hSl hEl) | (refine TL.appendAtFr (f := fun x => [i64v x]) (l := rl) (zs := zs) hF rfl rfl rfl rfl hSl (fun _ => rfl) (fun _ => rfl) rfl rfl hrl (by omega) a1 (ints_noV _ _ a3) (by omega) (by repeat (first | apply SetV.head | apply SetV.tail)) (fun hle wn hFn => ?_) (fun hgr wn bN cN zN2 hcN hzN hzNn hFn => ?_) <;> (clear hF hSl hEl; have hF := hFn; clear hFn))) | (refine T.is ?_; first | refine T.seq ?_ | refine T.region ?_ | refine T.block ?_ | refine T.cond_t rfl ?_ | refine T.skip ?_) | (refine G.is ?_; first | refine G.next ?_ | refine G.blockN ?_) | refine TL.nil ?_)
      · exact G.again (p + 1, some ⟨g, 0, none⟩, kR, rl ++ [(p : Int)]) (by repeat (first | exact Sub.nil _ | refine Sub.cons rfl ?_ | refine Sub.cons' rfl (int_congr (by omega)) ?_)) ⟨by dsimp only; omega, cat_len hrl, nums_cat hrl hrq, .inr ⟨g, zs.drop (1 * 1), rfl, hle, by dsimp only; rw [List.length_drop]; omega, cut_noV a3 _, hF⟩⟩ (by dsimp only; omega)
      · exact G.again (p + 1, some ⟨bN, 0, none⟩, cN, rl ++ [(p : Int)]) (by repeat (first | exact Sub.nil _ | refine Sub.cons rfl ?_ | refine Sub.cons' rfl (int_congr (by omega)) ?_)) ⟨by dsimp only; omega, cat_len hrl, nums_cat hrl hrq, .inr ⟨bN, zN2, rfl, hcN, by dsimp only; omega, hzNn, hF.weak (by repeat (first | exact List.Sublist.refl _ | apply List.Sublist.cons_cons | apply List.Sublist.cons)) allN⟩⟩ (by dsimp only; omega)
  obtain rfl : p = r := by omega
  rcases hst with ⟨h0, rfl, rfl, hF⟩ | ⟨g, zr, rfl, a1, a2, a3, hF⟩
  · omega
  repeat' (first | (refine TL.isOp ?_; first | (refine TL.isBin ?_; refine TL.cmpG rfl rfl rfl rfl (fun hc => ?_) (fun hc => ?_) <;> (try (first | (exfalso; omega) | exact absurd rfl hc))) | (apply TL.ev; (case hd => rfl); (case h => (first | exact ev_simple rfl | (apply Ev.isLoad; first | exact ev_loadFr hF rfl (by refine ⟨?_, ?_⟩; (focus (repeat (first | exact InV.head | apply InV.tail))); rfl)) | exact ev_fieldAddr rfl)))) | (refine T.is ?_; first | refine T.seq ?_ | refine T.region ?_ | refine T.block ?_ | refine T.cond_f rfl ?_ | refine T.exit ?_) | (refine G.is ?_; first | refine G.next ?_ | refine G.blockE ?_ | refine G.thenE ?_) | refine TL.nil ?_)
  refine T.loop (α := Nat × Option Addr × Nat × List Int) (fun x => [(2, .pointer (some ⟨b2, 0, none⟩)), (3, .pointer (some ⟨b3, 0, none⟩)), (4, .pointer (some ⟨b4, 0, none⟩)), (12, .slice (some ⟨g, 0, none⟩) p kR), (13, .slice x.2.1 x.1 x.2.2.1), (15, .int .i64 (x.1 : Int))])
    (fun x w' => x.1 ≤ c ∧ x.2.2.2.length = x.1 ∧ (∀ q, q < x.1 → x.2.2.2.getD q 0 = (q : Int)) ∧
      ((x.1 = 0 ∧ x.2.1 = none ∧ x.2.2.1 = 0 ∧ Fr w w' [⟨g, 3, rl.flatMap (fun x => [i64v x]) ++ zr⟩, ⟨b4, 24, [.int .i64 0, .int .i64 0, .slice none 0 0]⟩, ⟨b3, 44, [.int .i64 k, .int .i64 (i : Int), .int .i64 (j : Int), .bool vs, .slice vA vn vc]⟩, ⟨b2, 24, [.int .i64 (p : Int), .int .i64 (c : Int), .slice A1 n1 k1]⟩] []) ∨
       ∃ h zs, x.2.1 = some ⟨h, 0, none⟩ ∧ x.1 ≤ x.2.2.1 ∧ zs.length = x.2.2.1 - x.1 ∧ zs.all noU64 = true ∧ Fr w w' [⟨h, 3, x.2.2.2.flatMap (fun x => [i64v x]) ++ zs⟩, ⟨g, 3, rl.flatMap (fun x => [i64v x]) ++ zr⟩, ⟨b4, 24, [.int .i64 0, .int .i64 0, .slice none 0 0]⟩, ⟨b3, 44, [.int .i64 k, .int .i64 (i : Int), .int .i64 (j : Int), .bool vs, .slice vA vn vc]⟩, ⟨b2, 24, [.int .i64 (p : Int), .int .i64 (c : Int), .slice A1 n1 k1]⟩] []))
    (fun x => c - x.1) (0, none, 0, []) (by repeat (first | exact Sub.nil _ | refine Sub.cons rfl ?_ | refine Sub.cons' rfl (int_congr (by omega)) ?_)) ⟨Nat.zero_le _, rfl, fun q hq => absurd hq (Nat.not_lt_zero _), .inl ⟨rfl, rfl, rfl, hF⟩⟩ ?_
  clear hF
  rintro ⟨q, CA, kC, cl⟩ w3 ⟨hq, hcl, hcq, hst⟩
  dsimp only at hq hcl hcq hst ⊢
  rcases Nat.lt_or_ge q c with hqn | hqn
  · rcases hst with ⟨h0, rfl, rfl, hF⟩ | ⟨h, zs, rfl, d1, d2, d3, hF⟩
    · subst h0
      obtain rfl : cl = [] := List.eq_nil_of_length_eq_zero hcl
      repeat' (first | (refine TL.isOp ?_; first | (refine TL.isBin ?_; refine TL.cmpG rfl rfl rfl rfl (fun hc => ?_) (fun hc => ?_) <;> (try (first | (exfalso; omega) | exact absurd rfl hc))) | (apply TL.ev; (case hd => rfl); (case h => (first | exact ev_simple rfl | (apply Ev.isBin; first | exact ev_arN rfl rfl rfl (by omega)) | (apply Ev.isLoad; first | exact ev_loadFr hF rfl (by refine ⟨?_, ?_⟩; (focus (repeat (first | exact InV.head | apply InV.tail))); rfl)) | exact ev_fieldAddr rfl))) | (refine TL.build1Fr hF (f := i64v) (u := 0) (fun _ => rfl) rfl rfl rfl ?_; clear hF; intro wl bl hbl hF hSl hEl) | (refine TL.appendNewFr hF (fun x => [i64v x]) rfl rfl rfl rfl hSl (fun _ => rfl) rfl rfl (by omega) (fun h0 => absurd h0 (by omega)) ?_; clear hF hSl hEl; intro _ wn bN cN zN hcN hzN hzNn hF)) | (refine T.is ?_; first | refine T.seq ?_ | refine T.region ?_ | refine T.block ?_ | refine T.cond_t rfl ?_ | refine T.skip ?_) | (refine G.is ?_; first | refine G.next ?_ | refine G.blockN ?_) | refine TL.nil ?_)
      exact G.again (1, some ⟨bN, 0, none⟩, cN, [(0 : Int)]) (by repeat (first | exact Sub.nil _ | refine Sub.cons rfl ?_ | refine Sub.cons' rfl (int_congr (by omega)) ?_)) ⟨by dsimp only; omega, rfl, fun q hq => (by obtain rfl : q = 0 := (by dsimp only at hq; omega); rfl), .inr ⟨bN, zN, rfl, hcN, by dsimp only; omega, hzNn, hF⟩⟩ (by dsimp only; omega)
    · repeat' (first | (refine TL.isOp ?_; first | (refine TL.isBin ?_; refine TL.cmpG rfl rfl rfl rfl (fun hc => ?_) (fun hc => ?_) <;> (try (first | (exfalso; omega) | exact absurd rfl hc))) | (apply TL.ev; (case hd => rfl); (case h => (first | exact ev_simple rfl | (apply Ev.isBin; first | exact ev_arN rfl rfl rfl (by omega)) | (apply Ev.isLoad; first | exact ev_loadFr hF rfl (by refine ⟨?_, ?_⟩; (focus (repeat (first | exact InV.head | apply InV.tail))); rfl)) | exact ev_fieldAddr rfl))) | (refine TL.build1Fr hF (f := i64v) (u := (q : Int)) (fun _ => rfl) rfl rfl rfl ?_; clear hF; intro wl bl hbl hF hSl hEl) | (refine TL.appendAtFr (f := fun x => [i64v x]) (l := cl) (zs := zs) hF rfl rfl rfl rfl hSl (fun _ => rfl) (fun _ => rfl) rfl rfl hcl (by omega) d1 (ints_noV _ _ d3) (by omega) (by repeat (first | apply SetV.head | apply SetV.tail)) (fun hle wn hFn => ?_) (fun hgr wn bN cN zN2 hcN hzN hzNn hFn => ?_) <;> (clear hF hSl hEl; have hF := hFn; clear hFn))) | (refine T.is ?_; first | refine T.seq ?_ | refine T.region ?_ | refine T.block ?_ | refine T.cond_t rfl ?_ | refine T.skip ?_) | (refine G.is ?_; first | refine G.next ?_ | refine G.blockN ?_) | refine TL.nil ?_)
      · exact G.again (q + 1, some ⟨h, 0, none⟩, kC, cl ++ [(q : Int)]) (by repeat (first | exact Sub.nil _ | refine Sub.cons rfl ?_ | refine Sub.cons' rfl (int_congr (by omega)) ?_)) ⟨by dsimp only; omega, cat_len hcl, nums_cat hcl hcq, .inr ⟨h, zs.drop (1 * 1), rfl, hle, by dsimp only; rw [List.length_drop]; omega, cut_noV d3 _, hF⟩⟩ (by dsimp only; omega)
      · exact G.again (q + 1, some ⟨bN, 0, none⟩, cN, cl ++ [(q : Int)]) (by repeat (first | exact Sub.nil _ | refine Sub.cons rfl ?_ | refine Sub.cons' rfl (int_congr (by omega)) ?_)) ⟨by dsimp only; omega, cat_len hcl, nums_cat hcl hcq, .inr ⟨bN, zN2, rfl, hcN, by dsimp only; omega, hzNn, hF.weak (by repeat (first | exact List.Sublist.refl _ | apply List.Sublist.cons_cons | apply List.Sublist.cons)) allN⟩⟩ (by dsimp only; omega)
  obtain rfl : q = c := by omega
  have hsw := nums_swap hrl hrq hi' hj'
  rcases hst with ⟨h0, rfl, rfl, hF⟩ | ⟨h, zs, rfl, d1, d2, d3, hF⟩
  · repeat' (first | (refine TL.isOp ?_; first | (refine TL.isCall ?_; refine TL.call rfl rfl ?_; first | (refine (hpk' _ hF.ext (some ⟨g, 0, none⟩) kR none 0 ((rl.set i (j : Int)).set j (i : Int)) cl (vr_ints (hF.var (b := g) (by repeat (first | exact InV.head | apply InV.tail))) (by rw [List.length_set, List.length_set]; exact hrl) a1 (hF.var (b := g) (by repeat (first | exact InV.head | apply InV.tail))).lt) (by subst h0; obtain rfl : cl = [] := List.eq_nil_of_length_eq_zero hcl; exact Sl.nil _ _ _ _ _) hsw hcq).mono ?_; rintro _ wu ⟨zu, rfl, hLu, hE, hf⟩; obtain ⟨Au, ku, lu, rfl⟩ := lm_mk hLu; rw [mvc_mk _ _ Au]; have hfp := hf.mono hF.ext.size; replace hF := Fr.addLM hF hE hLu hf; clear hE hf hLu; refine Back.mk ?_)) | (refine TL.isBin ?_; refine TL.cmpG rfl rfl rfl rfl (fun hc => ?_) (fun hc => ?_) <;> (try (first | (exfalso; omega) | exact absurd rfl hc))) | (apply TL.ev; (case hd => rfl); (case h => (first | exact ev_simple rfl | (apply Ev.isLoad; first | exact ev_loadFr hF rfl (by refine ⟨?_, ?_⟩; (focus (repeat (first | exact InV.head | apply InV.tail))); rfl) | exact ev_loadAFr hF rfl (by refine ⟨?_, ?_⟩; (focus (repeat (first | exact InV.head | apply InV.tail))); rfl)) | exact ev_fieldAddr rfl))) | (refine TL.storeAFr hF rfl rfl rfl rfl (by refine ⟨?_, ?_⟩; (focus (repeat (first | apply SetV.head | apply SetV.tail))); rfl) rfl ?_; clear hF; intro ws hF) | (refine TL.allocFr hF (d := 16) rfl rfl ?_; clear hF; intro w16 b16 hF) | (refine TL.storeAt1zFr hF (f := i64v) (g := fun x => [i64v x]) (fun _ => rfl) (i := i) (l := rl) (zs := zr) (j : Int) rfl rfl rfl rfl rfl (by omega) (ints_noV _ _ a3) (by repeat (first | apply SetV.head | apply SetV.tail)) ?_; clear hF; intro ws hF) | (refine TL.storeAt1zFr hF (f := i64v) (g := fun x => [i64v x]) (fun _ => rfl) (i := j) (l := rl.set i (j : Int)) (zs := zr) (i : Int) rfl rfl rfl rfl rfl (by rw [List.length_set]; omega) (ints_noV _ _ a3) (by repeat (first | apply SetV.head | apply SetV.tail)) ?_; clear hF; intro ws hF)) | (refine TF.is ?_; first | refine TF.nil ?_ | refine TF.e rfl ?_ | (refine TF.pick rfl ?_; first | (apply TFo.ev; (case hd => rfl); (case h => (intro wh hF; first | exact ev_simple rfl | (apply Ev.isLoad; first | exact ev_loadFr hF rfl (by refine ⟨?_, ?_⟩; (focus (repeat (first | exact InV.head | apply InV.tail))); rfl)) | exact ev_fieldAddr rfl | exact ev_indexN rfl rfl hi' (.inr rfl) | exact ev_indexN rfl rfl hj' (.inr rfl)))))) | (refine T.is ?_; first | refine T.seq ?_ | refine T.region ?_ | refine T.cond_f rfl ?_ | refine T.exit ?_ | refine T.ret ?_ | (refine T.regionFt hF 28 13 (.s 0 (.s 1 (.s 2 (.s 3 (.s 4 (.s 5 (.s 6 (.s 7 (.s 8 (.s 9 (.s 10 (.e 11 (.s 12 (.e 13 .nil)))))))))))))) mixed (by kernel_rfl) ?_; clear hF; intro wr hF)) | (refine G.is ?_; first | refine G.next ?_ | refine G.blockE ?_ | refine G.thenE ?_ | refine G.only ?_ | refine G.treeEnd rfl ?_ | refine G.tree rfl (by first | exact hF | exact hF.weak (List.sublist_append_right _ _) (by repeat (first | exact allR | apply allT)) | exact hF.weak (by repeat (first | exact List.Sublist.refl _ | apply List.Sublist.cons)) (by repeat (first | exact allR | apply allT)) | exact hF.weak (by repeat (first | exact List.Sublist.refl _ | apply List.Sublist.cons)) (by repeat (first | exact allN | refine allH (by repeat (first | exact memH | apply memT)) ?_))) ?_) | refine TL.nil ?_)
    all_goals exact G.retC2 rfl rfl rfl (held_agg (hF.var (b := b4) (by repeat (first | exact InV.head | apply InV.tail))) rfl) ⟨⟨p, q, Au, p * q, ku, lu⟩, rfl, LM.moreF (Fr.lm hF (x := ⟨p, q, Au, p * q, ku, lu⟩) (by repeat (first | exact memH | apply memT))) (by omega) (fun _ _ _ _ => rfl), hF.ext, hfp⟩
  · repeat' (first | (refine TL.isOp ?_; first | (refine TL.isCall ?_; refine TL.call rfl rfl ?_; first | (refine (hpk' _ hF.ext (some ⟨g, 0, none⟩) kR (some ⟨h, 0, none⟩) kC ((rl.set i (j : Int)).set j (i : Int)) cl (vr_ints (hF.var (b := g) (by repeat (first | exact InV.head | apply InV.tail))) (by rw [List.length_set, List.length_set]; exact hrl) a1 (hF.var (b := g) (by repeat (first | exact InV.head | apply InV.tail))).lt) (vr_ints (hF.var (b := h) (by repeat (first | exact InV.head | apply InV.tail))) hcl d1 (hF.var (b := h) (by repeat (first | exact InV.head | apply InV.tail))).lt) hsw hcq).mono ?_; rintro _ wu ⟨zu, rfl, hLu, hE, hf⟩; obtain ⟨Au, ku, lu, rfl⟩ := lm_mk hLu; rw [mvc_mk _ _ Au]; have hfp := hf.mono hF.ext.size; replace hF := Fr.addLM hF hE hLu hf; clear hE hf hLu; refine Back.mk ?_)) | (refine TL.isBin ?_; refine TL.cmpG rfl rfl rfl rfl (fun hc => ?_) (fun hc => ?_) <;> (try (first | (exfalso; omega) | exact absurd rfl hc))) | (apply TL.ev; (case hd => rfl); (case h => (first | exact ev_simple rfl | (apply Ev.isLoad; first | exact ev_loadFr hF rfl (by refine ⟨?_, ?_⟩; (focus (repeat (first | exact InV.head | apply InV.tail))); rfl) | exact ev_loadAFr hF rfl (by refine ⟨?_, ?_⟩; (focus (repeat (first | exact InV.head | apply InV.tail))); rfl)) | exact ev_fieldAddr rfl))) | (refine TL.storeAFr hF rfl rfl rfl rfl (by refine ⟨?_, ?_⟩; (focus (repeat (first | apply SetV.head | apply SetV.tail))); rfl) rfl ?_; clear hF; intro ws hF) | (refine TL.allocFr hF (d := 16) rfl rfl ?_; clear hF; intro w16 b16 hF) | (refine TL.storeAt1zFr hF (f := i64v) (g := fun x => [i64v x]) (fun _ => rfl) (i := i) (l := rl) (zs := zr) (j : Int) rfl rfl rfl rfl rfl (by omega) (ints_noV _ _ a3) (by repeat (first | apply SetV.head | apply SetV.tail)) ?_; clear hF; intro ws hF) | (refine TL.storeAt1zFr hF (f := i64v) (g := fun x => [i64v x]) (fun _ => rfl) (i := j) (l := rl.set i (j : Int)) (zs := zr) (i : Int) rfl rfl rfl rfl rfl (by rw [List.length_set]; omega) (ints_noV _ _ a3) (by repeat (first | apply SetV.head | apply SetV.tail)) ?_; clear hF; intro ws hF)) | (refine TF.is ?_; first | refine TF.nil ?_ | refine TF.e rfl ?_ | (refine TF.pick rfl ?_; first | (apply TFo.ev; (case hd => rfl); (case h => (intro wh hF; first | exact ev_simple rfl | (apply Ev.isLoad; first | exact ev_loadFr hF rfl (by refine ⟨?_, ?_⟩; (focus (repeat (first | exact InV.head | apply InV.tail))); rfl)) | exact ev_fieldAddr rfl | exact ev_indexN rfl rfl hi' (.inr rfl) | exact ev_indexN rfl rfl hj' (.inr rfl)))))) | (refine T.is ?_; first | refine T.seq ?_ | refine T.region ?_ | refine T.cond_f rfl ?_ | refine T.exit ?_ | refine T.ret ?_ | (refine T.regionFt hF.swap 28 13 (.s 0 (.s 1 (.s 2 (.s 3 (.s 4 (.s 5 (.s 6 (.s 7 (.s 8 (.s 9 (.s 10 (.e 11 (.s 12 (.e 13 .nil)))))))))))))) mixed (by kernel_rfl) ?_; clear hF; intro wr hF)) | (refine G.is ?_; first | refine G.next ?_ | refine G.blockE ?_ | refine G.thenE ?_ | refine G.only ?_ | refine G.treeEnd rfl ?_ | refine G.tree rfl (by first | exact hF | exact hF.weak (List.sublist_append_right _ _) (by repeat (first | exact allR | apply allT)) | exact hF.weak (by repeat (first | exact List.Sublist.refl _ | apply List.Sublist.cons)) (by repeat (first | exact allR | apply allT)) | exact hF.weak (by repeat (first | exact List.Sublist.refl _ | apply List.Sublist.cons)) (by repeat (first | exact allN | refine allH (by repeat (first | exact memH | apply memT)) ?_))) ?_) | refine TL.nil ?_)
    all_goals exact G.retC2 rfl rfl rfl (held_agg (hF.var (b := b4) (by repeat (first | exact InV.head | apply InV.tail))) rfl) ⟨⟨p, q, Au, p * q, ku, lu⟩, rfl, LM.moreF (Fr.lm hF (x := ⟨p, q, Au, p * q, ku, lu⟩) (by repeat (first | exact memH | apply memT))) (by omega) (fun _ _ _ _ => rfl), hF.ext, hfp⟩
/-- every change that names a place -/
theorem dense_yes (w : World) (x : MV) (r c : Nat) (Z : ZF) (hx : LM w.heap x r c (natF Z) 16384) (a : CV) (ha : CG w.heap a) (hv : a.v.m.n ≤ 1048576) (hok : DOk r c a) :
    Cl Try.prog 44 #[.agg (mvc x).toArray, .agg (cvc a).toArray] w (RetDY w r c (chZ Z a)) := by
  unfold DOk at hok
  by_cases h8 : a.k = 8
  · exact dense_clear w x r c Z hx a h8 hok.1
  by_cases h5 : a.k = 5
  · exact dense_set w x r c Z hx a ha hv h5 hok.1 (by omega)
  by_cases h6 : a.k = 6
  · exact dense_row w x r c Z hx a ha hv h6 hok.1 (by omega)
  · exact dense_swap w x r c Z hx a ⟨h5, h8, h6⟩ hok.1 (by omega)
end Go.Proofs.Ytlpheckjogphmaa

set_option linter.unusedSectionVars false
namespace Go.Eng
open Go Go.Proofs Go.NatM Go.RowKit Go.Proofs.Ytlpheckjogphmaa
theorem LM.smaller {H : Array Obj} {x : MV} {r c K : Nat} {F : Nat → Nat → Int} (h : LM H x r c F K) (hb : ∀ i j, i < r → j < c → ¬ bigZ (F i j)) : LM H x r c F 16384 := ⟨h.sh, h.s, fun i j hi hj => ⟨(h.g i j hi hj).1, by
  have h1 := (h.g i j hi hj).1
  refine LI.few (x := x.l.getD (i * c + j) default) (H := H) ?_ fun hbig => hb i j hi hj ?_
  · rw [h1.val]; exact h1
  · rw [← h1.val]; exact (big_iff _).1 hbig⟩⟩
theorem gm_bigs {H : Array Obj} {x : MV} {r c K : Nat} (gx : GM H x r c K) (hb : ∃ y ∈ x.l, big y) : ∃ i j, i < r ∧ j < c ∧ bigZ (ent x c i j) := by
  obtain ⟨y, hy, hb⟩ := hb
  have hl := gx.s.len
  have hn := gx.sh.n
  obtain ⟨q, hq⟩ := List.mem_iff_getElem?.1 hy
  have hqn : q < r * c := by have := (List.getElem?_eq_some_iff.1 hq).1; omega
  have hc : 0 < c := Nat.pos_of_ne_zero fun e => by rw [e, Nat.mul_zero] at hqn; omega
  refine ⟨q / c, q % c, (Nat.div_lt_iff_lt_mul hc).2 hqn, Nat.mod_lt q hc, ?_⟩
  unfold ent
  have e : q / c * c + q % c = q := by rw [Nat.mul_comm]; exact Nat.div_add_mod q c
  have e2 : x.l.getD q default = y := by simp [List.getD, hq]
  rw [e, e2]
  exact (big_iff y).1 hb
theorem gm_small {H : Array Obj} {x : MV} {r c K : Nat} (gx : GM H x r c K) (hb : ∀ y ∈ x.l, ¬ big y) : ∀ i j, i < r → j < c → ¬ bigZ (ent x c i j) := fun i j hi hj h => by
  have hl := gx.s.len
  have hn := gx.sh.n
  have hlt := place_lt hi hj
  have e : x.l[i * c + j]? = some (x.l.getD (i * c + j) default) := by simp [List.getD, show i * c + j < x.l.length by omega]
  exact hb _ (List.mem_of_getElem? e) ((big_iff _).2 h)
theorem fresh_fp {w : World} {x : MV} {m : Nat} (h : MF w x) (hm : m < w.heap.size) : ¬ fpA x.A x.n m := fun hk => by have := mf_fp h m hk; omega
theorem chZ_in {r c : Nat} {Z : ZF} {a : CV} (hi : InRC r c Z) (h : DOk r c a) : InRC r c (chZ Z a) := by
  unfold DOk at h
  unfold chZ
  split
  · intro k hk
    unfold updZ at hk
    by_cases e : (a.i, a.j) = k
    · rw [← e]; exact ⟨h.1, by dsimp only; omega⟩
    · rw [if_neg e] at hk; exact hi k hk
  · split
    · intro k hk
      unfold clrF at hk
      by_cases e : k.1 = a.i
      · rw [if_pos e] at hk; exact absurd rfl hk
      · rw [if_neg e] at hk; exact hi k hk
    · split
      · exact rowF_in hi h.1
      · intro k hk
        have h1 := hi _ hk
        dsimp only at h1
        refine ⟨?_, h1.2⟩
        have h2 := h1.1
        unfold swp at h2
        split at h2
        · have h3 := h.1; omega
        · split at h2 <;> omega
theorem chZ_set {Z : ZF} {a : CV} (hk : a.k = 5) : chZ Z a = updZ Z (a.i, a.j) (ival a.v) := by unfold chZ; rw [if_pos hk]
theorem chZ_row {Z : ZF} {a : CV} (hk : a.k = 6) : chZ Z a = rowF Z a.i a.j (ival a.v) := by unfold chZ; rw [if_neg (by omega), if_neg (by omega), if_pos hk]
theorem chZ_swap {Z : ZF} {a : CV} (hk : a.k = 7) : chZ Z a = swpF Z a.i a.j := by unfold chZ; rw [if_neg (by omega), if_neg (by omega), if_neg (by omega)]
theorem chZ_clear {Z : ZF} {a : CV} (hk : a.k = 8) : chZ Z a = clrF Z a.i := by unfold chZ; rw [if_neg (by omega), if_pos hk]
theorem big_set {Z : ZF} {a : CV} (hk : a.k = 5) (hz : ∀ k, ¬ bigZ (Z k)) (hb : ∃ k, bigZ (chZ Z a k)) : bigZ (ival a.v) := by
  obtain ⟨k, h⟩ := hb
  rw [chZ_set hk] at h
  unfold updZ at h
  split at h
  · exact h
  · exact absurd h (hz k)
theorem big_swap {Z : ZF} {a : CV} (hk : a.k = 7) (hz : ∀ k, ¬ bigZ (Z k)) : ¬ ∃ k, bigZ (chZ Z a k) := fun ⟨k, h⟩ => by
  rw [chZ_swap hk] at h
  exact hz _ h
theorem big_clear {Z : ZF} {a : CV} (hk : a.k = 8) (hz : ∀ k, ¬ bigZ (Z k)) : ¬ ∃ k, bigZ (chZ Z a k) := fun ⟨k, h⟩ => by
  rw [chZ_clear hk] at h
  unfold clrF at h
  split at h
  · exact bigZ_zero h
  · exact hz _ h
end Go.Eng
namespace Go.Proofs.Ytlpheckjogphmaa
open Go Go.Eng Go.Proofs Go.NatM Go.RowKit
theorem chY_set5 (w : World) (g m r c N : Nat) (Z : ZF) (a : CV) (hG : GZ w.heap g m r c Z N) (hk : a.k = 5) (hok : DOk r c a) (ha : GI w.heap a.v) (hn : a.v.m.n ≤ 1048576) (hz : ∀ k, ¬ bigZ (Z k)) (hb : ∃ k, bigZ (chZ Z a k)) :
    Cl Try.prog 16 #[.pointer (some ⟨g, 0, none⟩), .int .i64 a.i, .int .i64 a.j, ivA a.v] w (RetCh w g m r c Z 5) := by
  unfold DOk at hok
  exact chSet5 w g m r c N Z a.i a.j a.v hG ⟨hok.1, by omega⟩ ha (by omega) (big_set hk hz hb)
theorem chY_set0 (w : World) (g m r c N : Nat) (Z : ZF) (a : CV) (hG : GZ w.heap g m r c Z N) (hi : InRC r c Z) (hrc : r * c ≤ 4096) (hk : a.k = 5) (hok : DOk r c a) (ha : GI w.heap a.v) (hn : a.v.m.n ≤ 1048576) (hb : ¬ ∃ k, bigZ (chZ Z a k)) :
    Cl Try.prog 16 #[.pointer (some ⟨g, 0, none⟩), .int .i64 a.i, .int .i64 a.j, ivA a.v] w (RetCh w g m r c (chZ Z a) 0) := by
  unfold DOk at hok
  rw [chZ_set hk] at hb ⊢
  exact chSet0 w g m r c N Z a.i a.j a.v hG hi hrc ⟨hok.1, by omega⟩ ha (by omega) fun h => hb ⟨(a.i, a.j), by unfold updZ; rw [if_pos rfl]; exact h⟩
theorem chY_row5 (w : World) (g m r c N : Nat) (Z : ZF) (a : CV) (hG : GZ w.heap g m r c Z N) (hi : InRC r c Z) (hrc : r * c ≤ 4096) (hk : a.k = 6) (hok : DOk r c a) (ha : GI w.heap a.v) (hn : a.v.m.n ≤ 1048576) (hb : ∃ k, bigZ (chZ Z a k)) :
    Cl Try.prog 30 #[.pointer (some ⟨g, 0, none⟩), .int .i64 a.i, .int .i64 a.j, ivA a.v] w (RetCh w g m r c Z 5) := by
  unfold DOk at hok
  rw [chZ_row hk] at hb
  refine (chRow w g m r c N Z a.i a.j a.v hG hi hrc hok.1 (by omega) ha (by omega)).mono ?_
  rintro e w' (⟨_, h⟩ | ⟨h, _⟩)
  · exact h
  · obtain ⟨k, hk⟩ := hb; exact absurd hk (h k)
theorem chY_row0 (w : World) (g m r c N : Nat) (Z : ZF) (a : CV) (hG : GZ w.heap g m r c Z N) (hi : InRC r c Z) (hrc : r * c ≤ 4096) (hk : a.k = 6) (hok : DOk r c a) (ha : GI w.heap a.v) (hn : a.v.m.n ≤ 1048576) (hb : ¬ ∃ k, bigZ (chZ Z a k)) :
    Cl Try.prog 30 #[.pointer (some ⟨g, 0, none⟩), .int .i64 a.i, .int .i64 a.j, ivA a.v] w (RetCh w g m r c (chZ Z a) 0) := by
  unfold DOk at hok
  rw [chZ_row hk] at hb ⊢
  refine (chRow w g m r c N Z a.i a.j a.v hG hi hrc hok.1 (by omega) ha (by omega)).mono ?_
  rintro e w' (⟨h, _⟩ | ⟨_, h⟩)
  · exact absurd h hb
  · exact h
theorem chY_swap0 (w : World) (g m r c N : Nat) (Z : ZF) (a : CV) (hG : GZ w.heap g m r c Z N) (hN : N ≤ 4096) (hk : a.k = 7) (hok : DOk r c a) :
    Cl Try.prog 36 #[.pointer (some ⟨g, 0, none⟩), .int .i64 a.i, .int .i64 a.j] w (RetCh w g m r c (chZ Z a) 0) := by
  unfold DOk at hok
  rw [chZ_swap hk]
  exact chSwap w g m r c N Z a.i a.j hG hN hok.1 (by omega)
theorem chY_clear0 (w : World) (g m r c N : Nat) (Z : ZF) (a : CV) (hG : GZ w.heap g m r c Z N) (hN : N ≤ 4096) (hk : a.k = 8) (hok : DOk r c a) :
    Cl Try.prog 37 #[.pointer (some ⟨g, 0, none⟩), .int .i64 a.i] w (RetCh w g m r c (chZ Z a) 0) := by
  unfold DOk at hok
  rw [chZ_clear hk]
  exact chClear w g m r c N Z a.i hG hN hok.1
set_option maxRecDepth 100000 in
set_option maxHeartbeats 16000000 in
theorem dense_off (w : World) (x : MV) (hx : RM w.heap x 1048576 ∧ InR x) (hn : ¬ ∃ r c, Sound x r c) (A : Option Addr) (n k : Nat) :
    Cl Try.prog 8 #[.agg (mvc x).toArray, .slice A n k] w (YesM w) := by
  have h1 := fun w1 => ofBad w1 x hx.2 hn
  have h2 := fun w1 => mleast_bad w1 x hx.2 hn
  obtain ⟨xr, xc, xA, xn, xk, xl⟩ := x
  refine enter Try.func8 rfl rfl rfl ?_
  have hF := Fr.refl w
  repeat' (first | (refine TL.isOp ?_; first | (refine TL.isG ?_; first | refine TL.grun rfl rfl rfl ?_) | (refine TL.isCall ?_; refine TL.call rfl rfl ?_; first | (refine (awake_ok _).mono ?_; rintro _ wy ⟨rfl, hE⟩; replace hF := hF.exts hE; clear hE; refine Back.mk ?_) | (refine (h1 _).mono ?_; rintro _ wy ⟨rfl, hE⟩; replace hF := hF.exts hE; clear hE; refine Back.mk ?_) | (refine (h2 _).mono ?_; rintro _ wy ⟨rfl, hE⟩; replace hF := hF.exts hE; clear hE; refine Back.mk ?_)) | (refine TL.isBin ?_; refine TL.cmpG rfl rfl rfl rfl (fun hc => ?_) (fun hc => ?_) <;> (try (first | (exfalso; omega) | exact absurd rfl hc))) | (apply TL.ev; (case hd => rfl); (case h => (first | exact ev_simple rfl | (apply Ev.isBin; first | exact ev_eqlP rfl rfl rfl) | (apply Ev.isLoad; first | exact ev_loadAFr hF rfl (by refine ⟨?_, ?_⟩; (focus (repeat (first | exact InV.head | apply InV.tail))); rfl))))) | (refine TL.storeAFr hF rfl rfl rfl rfl (by refine ⟨?_, ?_⟩; (focus (repeat (first | apply SetV.head | apply SetV.tail))); rfl) rfl ?_; clear hF; intro ws hF) | (refine TL.boxAFr hF (d := 2) (cs := [.int .i64 xr, .int .i64 xc, .slice xA xn xk]) rfl rfl ?_; clear hF; intro w2 b2 hF) | (refine TL.allocFr hF (d := 7) rfl rfl ?_; clear hF; intro w7 b7 hF)) | (refine T.is ?_; first | refine T.seq ?_ | refine T.region ?_ | refine T.cond_t rfl ?_ | refine T.cond_f rfl ?_ | refine T.ret ?_ | refine T.skip ?_) | (refine G.is ?_; first | refine G.next ?_ | refine G.thenR ?_) | refine TL.nil ?_)
  all_goals exact G.ret1 rfl rfl ⟨rfl, hF.ext⟩
set_option maxRecDepth 100000 in
set_option maxHeartbeats 16000000 in
theorem dense_large (w : World) (x : MV) (r c : Nat) (gx : GM w.heap x r c 1048576) (hb : ∃ y ∈ x.l, big y) (A : Option Addr) (n k : Nat) :
    Cl Try.prog 8 #[.agg (mvc x).toArray, .slice A n k] w (YesM w) := by
  have h1 := fun w1 (hE : Ext w w1) => ofLarge w1 x r c (gx.ext hE) hb
  have h2 := fun w1 (hE : Ext w w1) => mleast_ok w1 x r c 1048576 (gx.ext hE) (by omega)
  have h3 : ∃ i j, i < r ∧ j < c ∧ bigZ (ent x c i j) := gm_bigs gx hb
  have h4 := fun w1 (m : MV) (h : LM w1.heap m r c (ent x c) 1048576) => longLM w1 m r c 1048576 (ent x c) h (by omega) true ⟨fun _ => h3, fun _ => rfl⟩
  clear h3 hb
  obtain ⟨F, hFx⟩ : ∃ F, ent x c = F := ⟨_, rfl⟩
  simp only [hFx] at h2 h4
  obtain ⟨xr, xc, xA, xn, xk, xl⟩ := x
  refine enter Try.func8 rfl rfl rfl ?_
  have hF := Fr.refl w
  repeat' (first | (refine TL.isOp ?_; first | (refine TL.isG ?_; first | refine TL.grun rfl rfl rfl ?_) | (refine TL.isCall ?_; refine TL.call rfl rfl ?_; first | (refine (awake_ok _).mono ?_; rintro _ wy ⟨rfl, hE⟩; replace hF := hF.exts hE; clear hE; refine Back.mk ?_) | (refine (h1 _ hF.ext).mono ?_; rintro _ wy ⟨rfl, hE⟩; replace hF := hF.exts hE; clear hE; refine Back.mk ?_) | (refine (h2 _ hF.ext).mono ?_; rintro _ wu ⟨zu, rfl, hLu, hE, hf⟩; obtain ⟨Au, ku, lu, rfl⟩ := lm_mk hLu; rw [mvc_mk _ _ Au]; replace hF := Fr.addLM hF hE hLu hf; clear hE hf hLu; refine Back.mk ?_) | (refine (h4 _ ⟨r, c, Au, r * c, ku, lu⟩ (Fr.lm hF (by repeat (first | exact memH | apply memT)))).mono ?_; rintro _ wy ⟨rfl, hE⟩; replace hF := hF.exts hE; clear hE; refine Back.mk ?_)) | (refine TL.isBin ?_; refine TL.cmpG rfl rfl rfl rfl (fun hc => ?_) (fun hc => ?_) <;> (try (first | (exfalso; omega) | exact absurd rfl hc))) | (apply TL.ev; (case hd => rfl); (case h => (first | exact ev_simple rfl | (apply Ev.isBin; first | exact ev_eqlP rfl rfl rfl) | (apply Ev.isLoad; first | exact ev_loadAFr hF rfl (by refine ⟨?_, ?_⟩; (focus (repeat (first | exact InV.head | apply InV.tail))); rfl))))) | (refine TL.storeAFr hF rfl rfl rfl rfl (by refine ⟨?_, ?_⟩; (focus (repeat (first | apply SetV.head | apply SetV.tail))); rfl) rfl ?_; clear hF; intro ws hF) | (refine TL.boxAFr hF (d := 2) (cs := [.int .i64 xr, .int .i64 xc, .slice xA xn xk]) rfl rfl ?_; clear hF; intro w2 b2 hF) | (refine TL.allocFr hF (d := 7) rfl rfl ?_; clear hF; intro w7 b7 hF)) | (refine T.is ?_; first | refine T.seq ?_ | refine T.region ?_ | refine T.cond_t rfl ?_ | refine T.cond_f rfl ?_ | refine T.ret ?_ | refine T.skip ?_) | (refine G.is ?_; first | refine G.next ?_ | refine G.thenR ?_) | refine TL.nil ?_)
  all_goals exact G.ret1 rfl rfl ⟨rfl, hF.ext⟩

set_option maxRecDepth 100000 in
set_option maxHeartbeats 40000000 in
theorem dense_on (w : World) (x : MV) (r c : Nat) (gx : GM w.heap x r c 1048576) (hb : ∀ y ∈ x.l, ¬ big y) (A : Option Addr) (n k : Nat) (L : List CV) (hs : Sm 5 cvc w.heap w.heap.size A n k L) (hg : ∀ s ∈ L, CG w.heap s) (hw : ∀ s ∈ L, s.v.m.n ≤ 1048576) (hn : n ≤ 1048576) :
    Cl Try.prog 8 #[.agg (mvc x).toArray, .slice A n k] w (YesM w) := by
  have hr := gx.sh.r64
  have hcc := gx.sh.c64
  have hrc := mul64 hr hcc
  have hlen := hs.len
  have h1 := fun w1 (hE : Ext w w1) => ofS w1 x r c (gx.ext hE) hb
  have h2 := fun w1 (hE : Ext w w1) => mleast_ok w1 x r c 1048576 (gx.ext hE) (by omega)
  have h3 : ∀ i j, i < r → j < c → ¬ bigZ (ent x c i j) := gm_small gx hb
  have h4 := fun w1 (m : MV) (h : LM w1.heap m r c (ent x c) 1048576) => longLM w1 m r c 1048576 (ent x c) h (by omega) false ⟨fun h => (by cases h), fun ⟨i, j, hi, hj, h⟩ => absurd h (h3 i j hi hj)⟩
  obtain ⟨F, hFx⟩ : ∃ F, ent x c = F := ⟨_, rfl⟩
  simp only [hFx] at h1 h2 h3 h4
  clear hb gx hFx
  obtain ⟨xr, xc, xA, xn, xk, xl⟩ := x
  refine enter Try.func8 rfl rfl rfl ?_
  have hF := Fr.refl w
  repeat' (first | (refine TL.isOp ?_; first | (refine TL.isG ?_; first | refine TL.grun rfl rfl rfl ?_) | (refine TL.isCall ?_; refine TL.call rfl rfl ?_; first | (refine (awake_ok _).mono ?_; rintro _ wy ⟨rfl, hE⟩; replace hF := hF.exts hE; clear hE; refine Back.mk ?_) | (refine (h1 _ hF.ext).mono ?_; rintro _ wy ⟨g, m, N0, rfl, hE, hg1, hm1, hG⟩; have hm := Nat.le_trans hF.exs.size hm1; have hmlt := hG.lt.2; replace hF := Fr.addZ hF hE hg1 hm1 hG; clear hE hG hg1 hm1; refine Back.mk ?_) | (refine (h2 _ hF.ext).mono ?_; rintro _ wu ⟨zu, rfl, hLu, hE, hf⟩; obtain ⟨dA, dk, dl, rfl⟩ := lm_mk hLu; rw [mvc_mk _ _ dA]; have hdm := fresh_fp hf hmlt; replace hF := Fr.addLM hF hE hLu hf; clear hE hf hLu; refine Back.mk ?_) | (refine (h4 _ ⟨r, c, dA, r * c, dk, dl⟩ (Fr.lm hF (by repeat (first | exact memH | apply memT)))).mono ?_; rintro _ wy ⟨rfl, hE⟩; replace hF := hF.exts hE; clear hE; refine Back.mk ?_)) | (refine TL.isBin ?_; refine TL.cmpG rfl rfl rfl rfl (fun hc => ?_) (fun hc => ?_) <;> (try (first | (exfalso; omega) | exact absurd rfl hc))) | (apply TL.ev; (case hd => rfl); (case h => (first | exact ev_simple rfl | (apply Ev.isBin; first | exact ev_eqlP rfl rfl rfl) | (apply Ev.isLoad; first | exact ev_loadAFr hF rfl (by refine ⟨?_, ?_⟩; (focus (repeat (first | exact InV.head | apply InV.tail))); rfl))))) | (refine TL.storeAFr hF rfl rfl rfl rfl (by refine ⟨?_, ?_⟩; (focus (repeat (first | apply SetV.head | apply SetV.tail))); rfl) rfl ?_; clear hF; intro ws hF) | (refine TL.boxAFr hF (d := 2) (cs := [.int .i64 xr, .int .i64 xc, .slice xA xn xk]) rfl rfl ?_; clear hF; intro w2 b2 hF) | (refine TL.allocFr hF (d := 7) rfl rfl ?_; clear hF; intro w7 b7 hF)) | (refine T.is ?_; first | refine T.seq ?_ | refine T.region ?_ | refine T.block ?_ | refine T.cond_f rfl ?_ | refine T.skip ?_) | (refine G.is ?_; first | refine G.next ?_) | refine TL.nil ?_)
  have hi0 := rowsF_in F r c
  have hz0 : ∀ k, ¬ bigZ (rowsF F c r 0 k) := fun k hk => by
    obtain ⟨i, j, hi, hj, h⟩ := (bigs_iff hi0 fun i j hi hj => rows_at F hi hj).1 ⟨k, hk⟩
    exact h3 i j hi hj h
  replace hF := Fr.swapD (Fr.moreLM hF (G := natF (rowsF F c r 0)) (K' := 16384) fun H h => LM.moreF (LM.smaller h h3) (Nat.le_refl _) fun i j hi hj => (rows_at F hi hj).symm)
  generalize rowsF F c r 0 = Z0 at *
  clear h1 h2 h3 h4

  skip
  refine T.loop (α := Nat × ZF × Nat × Option Addr × Nat × List IV) (fun x => [(1, .slice A n k), (2, .pointer (some ⟨b2, 0, none⟩)), (5, .pointer (some ⟨g, 0, none⟩)), (7, .pointer (some ⟨b7, 0, none⟩)), (9, .int .i64 (x.1 : Int))])
    (fun x w' => x.1 ≤ n ∧ InRC r c x.2.1 ∧ (∀ k, ¬ bigZ (x.2.1 k)) ∧ ¬ fpA x.2.2.2.1 (r * c) m ∧ Fr w w' [⟨b7, 24, [.int .i64 (r : Int), .int .i64 (c : Int), .slice x.2.2.2.1 (r * c) x.2.2.2.2.1]⟩, ⟨b2, 24, [.int .i64 xr, .int .i64 xc, .slice xA xn xk]⟩] [dpGZ g m r c x.2.1 x.2.2.1, dpLM ⟨r, c, x.2.2.2.1, r * c, x.2.2.2.2.1, x.2.2.2.2.2⟩ r c (natF x.2.1) 16384])
    (fun x => n - x.1) (0, Z0, N0, dA, dk, dl) (by repeat (first | exact Sub.nil _ | refine Sub.cons rfl ?_ | refine Sub.cons' rfl (int_congr (by omega)) ?_)) ⟨Nat.zero_le _, hi0, hz0, hdm, hF⟩ ?_
  clear hF hi0 hz0 hdm
  rintro ⟨i, Z, N, dA, dk, dl⟩ w1 ⟨hin, hZi, hZb, hdm, hF⟩
  dsimp only at hin hZi hZb hdm hF ⊢
  have hN := gz_n (hF.gz (by repeat (first | exact memH | apply memT))) hZi hrc
  rcases Nat.lt_or_ge i n with hlt | hge
  · obtain ⟨y, hy⟩ : ∃ y, L[i]? = some y := ⟨_, List.getElem?_eq_getElem (by omega)⟩
    have gy := hg y (List.mem_of_getElem? hy)
    have wy := hw y (List.mem_of_getElem? hy)
    have hno := fun w1 (h : ¬ DOk r c y) => dense_no w1 ⟨r, c, dA, r * c, dk, dl⟩ r c ⟨rfl, rfl, hr, hcc, rfl⟩ y h
    have hyes := fun w1 (hE : Ext w w1) (hL : LM w1.heap ⟨r, c, dA, r * c, dk, dl⟩ r c (natF Z) 16384) (h : DOk r c y) => dense_yes w1 ⟨r, c, dA, r * c, dk, dl⟩ r c Z hL y ⟨gy.k, gy.i, gy.j, gy.v.ext hE⟩ wy h
    have hch := fun (h : DOk r c y) => chZ_in hZi h
    obtain ⟨yk, yi, yj, ⟨ys, ⟨yA, yn, yc, yl⟩⟩⟩ := y

    by_cases hd : DOk r c ⟨yk, yi, yj, ⟨ys, ⟨yA, yn, yc, yl⟩⟩⟩
    · clear hno
      have hci := hch hd
      repeat' (first | (refine TL.isOp ?_; first | (refine TL.isCall ?_; refine TL.call rfl rfl ?_; first | (refine (hyes _ hF.ext (Fr.lm hF (by repeat (first | exact memH | apply memT))) hd).mono ?_; rintro _ wu ⟨zu, rfl, hLu, hE, hf⟩; obtain ⟨zA, zk, zl, rfl⟩ := lm_mk hLu; rw [mvc_mk _ _ zA]; have hzm := fresh_fp (m := m) hf (Fr.gz (g := g) (m := m) (r := r) (c := c) (N := N) (Z := Z) hF (by repeat (first | exact memH | apply memT))).lt.2; replace hF := Fr.swapD (Fr.addLM hF hE hLu hf); clear hE hf hLu; refine Back.mk ?_)) | (refine TL.isBin ?_; refine TL.cmpG rfl rfl rfl rfl (fun hc => ?_) (fun hc => ?_) <;> (try (first | (exfalso; omega) | exact absurd rfl hc))) | (apply TL.ev; (case hd => rfl); (case h => (first | exact ev_simple rfl | (apply Ev.isLoad; first | exact ev_loadAFr hF rfl (by refine ⟨?_, ?_⟩; (focus (repeat (first | exact InV.head | apply InV.tail))); rfl) | exact ev_loadMc [.int .i64 yk, .int .i64 yi, .int .i64 yj, .bool ys, .slice yA yn yc] rfl (hs.ext hF.ext) hy rfl) | exact ev_len rfl | exact ev_indexM rfl rfl hlt (hs.ext hF.ext).some))) | (refine TL.storeAFr hF rfl rfl rfl rfl (by refine ⟨?_, ?_⟩; (focus (repeat (first | apply SetV.head | apply SetV.tail))); rfl) rfl ?_; clear hF; intro ws hF) | (refine TL.allocFr hF (d := 10) rfl rfl ?_; clear hF; intro w10 b10 hF) | (refine TL.allocFr hF (d := 11) rfl rfl ?_; clear hF; intro w11 b11 hF)) | (refine T.is ?_; first | refine T.seqM 17 rfl ?_ | refine T.region ?_ | refine T.block ?_ | refine T.cond_t rfl ?_ | refine T.skip ?_) | (refine G.is ?_; first | refine G.next ?_) | refine TL.nil ?_)
      by_cases h5 : yk = 5
      · subst h5
        by_cases hb : ∃ k, bigZ (chZ Z ⟨5, yi, yj, ⟨ys, ⟨yA, yn, yc, yl⟩⟩⟩ k)
        · repeat' (first | (refine TL.isOp ?_; first | (refine TL.isG ?_; first | refine TL.grun rfl rfl rfl ?_) | (refine TL.isCall ?_; refine TL.call rfl rfl ?_; first | (refine (chY_set5 _ g m r c N Z ⟨5, yi, yj, ⟨ys, ⟨yA, yn, yc, yl⟩⟩⟩ (hF.gz (by repeat (first | exact memH | apply memT))) rfl hd (gy.v.ext hF.ext) wy hZb hb).mono ?_; rintro _ wq ⟨N1, rfl, hE, hG⟩; replace hF := hF.callZ hE (.inl hm) (nfC (nf_lm hzm) (nfC (nf_lm hdm) nfN)) hG; clear hE hG; refine Back.mk ?_) | (refine (longLM _ ⟨r, c, zA, r * c, zk, zl⟩ r c 2097152 (natF (chZ Z ⟨5, yi, yj, ⟨ys, ⟨yA, yn, yc, yl⟩⟩⟩)) (Fr.lm hF (x := ⟨r, c, zA, r * c, zk, zl⟩) (by repeat (first | exact memH | apply memT))) (by omega) true ⟨fun _ => (bigs_iff hci fun _ _ _ _ => rfl).1 hb, fun _ => rfl⟩).mono ?_; rintro _ wq ⟨rfl, hE⟩; replace hF := hF.exts hE; clear hE; refine Back.mk ?_)) | (refine TL.isBin ?_; refine TL.cmpG rfl rfl rfl rfl (fun hc => ?_) (fun hc => ?_) <;> (try (first | (exfalso; omega) | exact absurd rfl hc))) | (apply TL.ev; (case hd => rfl); (case h => (first | exact ev_simple rfl | (apply Ev.isBin; first | exact ev_arN rfl rfl rfl (by omega)) | (apply Ev.isLoad; first | exact ev_loadFr hF rfl (by refine ⟨?_, ?_⟩; (focus (repeat (first | exact InV.head | apply InV.tail))); rfl) | exact ev_loadAFr hF rfl (by refine ⟨?_, ?_⟩; (focus (repeat (first | exact InV.head | apply InV.tail))); rfl)) | exact ev_fieldAddr rfl)))) | (refine T.is ?_; first | refine T.seq ?_ | refine T.region ?_ | refine T.block ?_ | refine T.cond_t rfl ?_ | refine T.cond_f rfl ?_ | refine T.exit ?_ | refine T.skip ?_) | (refine G.is ?_; first | refine G.next ?_ | refine G.blockN ?_ | refine G.blockE ?_ | refine G.thenE ?_) | refine TL.nil ?_)
          all_goals exact G.again (i + 1, Z, N1, dA, dk, dl) (by repeat (first | exact Sub.nil _ | refine Sub.cons rfl ?_ | refine Sub.cons' rfl (int_congr (by omega)) ?_)) ⟨hlt, hZi, hZb, hdm, hF.weak (List.Sublist.cons _ (List.Sublist.cons _ (List.Sublist.refl _))) (allH (by repeat (first | exact memH | apply memT)) (allH (by repeat (first | exact memH | apply memT)) allN))⟩ (by dsimp only; omega)
        · have hsm : ∀ i j, i < r → j < c → ¬ bigZ (natF (chZ Z ⟨5, yi, yj, ⟨ys, ⟨yA, yn, yc, yl⟩⟩⟩) i j) := fun i j _ _ h => hb ⟨_, h⟩
          repeat' (first | (refine TL.isOp ?_; first | (refine TL.isG ?_; first | refine TL.grun rfl rfl rfl ?_ | refine TL.gskip rfl rfl rfl rfl ?_) | (refine TL.isCall ?_; refine TL.call rfl rfl ?_; first | (refine (chY_set0 _ g m r c N Z ⟨5, yi, yj, ⟨ys, ⟨yA, yn, yc, yl⟩⟩⟩ (hF.gz (by repeat (first | exact memH | apply memT))) hZi hrc rfl hd (gy.v.ext hF.ext) wy hb).mono ?_; rintro _ wq ⟨N1, rfl, hE, hG⟩; replace hF := hF.callZ hE (.inl hm) (nfC (nf_lm hzm) (nfC (nf_lm hdm) nfN)) hG; clear hE hG; refine Back.mk ?_) | (refine (longLM _ ⟨r, c, zA, r * c, zk, zl⟩ r c 2097152 (natF (chZ Z ⟨5, yi, yj, ⟨ys, ⟨yA, yn, yc, yl⟩⟩⟩)) (Fr.lm hF (x := ⟨r, c, zA, r * c, zk, zl⟩) (by repeat (first | exact memH | apply memT))) (by omega) false ⟨fun h => (by cases h), fun ⟨i, j, hi, hj, h⟩ => absurd h (hsm i j hi hj)⟩).mono ?_; rintro _ wq ⟨rfl, hE⟩; replace hF := hF.exts hE; clear hE; refine Back.mk ?_)) | (refine TL.isBin ?_; refine TL.cmpG rfl rfl rfl rfl (fun hc => ?_) (fun hc => ?_) <;> (try (first | (exfalso; omega) | exact absurd rfl hc))) | (apply TL.ev; (case hd => rfl); (case h => (first | exact ev_simple rfl | (apply Ev.isBin; first | exact ev_arN rfl rfl rfl (by omega) | exact ev_neqB (r := false) rfl rfl rfl) | (apply Ev.isLoad; first | exact ev_loadFr hF rfl (by refine ⟨?_, ?_⟩; (focus (repeat (first | exact InV.head | apply InV.tail))); rfl) | exact ev_loadAFr hF rfl (by refine ⟨?_, ?_⟩; (focus (repeat (first | exact InV.head | apply InV.tail))); rfl)) | exact ev_fieldAddr rfl))) | (refine TL.storeAFr hF rfl rfl rfl rfl (by refine ⟨?_, ?_⟩; (focus (repeat (first | apply SetV.head | apply SetV.tail))); rfl) rfl ?_; clear hF; intro ws hF)) | (refine T.is ?_; first | refine T.seq ?_ | refine T.region ?_ | refine T.block ?_ | refine T.cond_t rfl ?_ | refine T.cond_f rfl ?_ | refine T.skip ?_) | (refine G.is ?_; first | refine G.next ?_ | refine G.blockN ?_) | refine TL.nil ?_)
          all_goals exact G.again (i + 1, chZ Z ⟨5, yi, yj, ⟨ys, ⟨yA, yn, yc, yl⟩⟩⟩, N1, zA, zk, zl) (by repeat (first | exact Sub.nil _ | refine Sub.cons rfl ?_ | refine Sub.cons' rfl (int_congr (by omega)) ?_)) ⟨hlt, hci, fun k h => hb ⟨k, h⟩, hzm, (Fr.swapD (Fr.moreLM (Fr.swapD hF) (G := natF (chZ Z ⟨5, yi, yj, ⟨ys, ⟨yA, yn, yc, yl⟩⟩⟩)) (K' := 16384) fun H h => LM.smaller h hsm)).weak (List.Sublist.cons _ (List.Sublist.cons _ (List.Sublist.refl _))) (allH (by repeat (first | exact memH | apply memT)) (allH (by repeat (first | exact memH | apply memT)) allN))⟩ (by dsimp only; omega)
      by_cases h6 : yk = 6
      · subst h6
        by_cases hb : ∃ k, bigZ (chZ Z ⟨6, yi, yj, ⟨ys, ⟨yA, yn, yc, yl⟩⟩⟩ k)
        · repeat' (first | (refine TL.isOp ?_; first | (refine TL.isG ?_; first | refine TL.grun rfl rfl rfl ?_) | (refine TL.isCall ?_; refine TL.call rfl rfl ?_; first | (refine (chY_row5 _ g m r c N Z ⟨6, yi, yj, ⟨ys, ⟨yA, yn, yc, yl⟩⟩⟩ (hF.gz (by repeat (first | exact memH | apply memT))) hZi hrc rfl hd (gy.v.ext hF.ext) wy hb).mono ?_; rintro _ wq ⟨N1, rfl, hE, hG⟩; replace hF := hF.callZ hE (.inl hm) (nfC (nf_lm hzm) (nfC (nf_lm hdm) nfN)) hG; clear hE hG; refine Back.mk ?_) | (refine (longLM _ ⟨r, c, zA, r * c, zk, zl⟩ r c 2097152 (natF (chZ Z ⟨6, yi, yj, ⟨ys, ⟨yA, yn, yc, yl⟩⟩⟩)) (Fr.lm hF (x := ⟨r, c, zA, r * c, zk, zl⟩) (by repeat (first | exact memH | apply memT))) (by omega) true ⟨fun _ => (bigs_iff hci fun _ _ _ _ => rfl).1 hb, fun _ => rfl⟩).mono ?_; rintro _ wq ⟨rfl, hE⟩; replace hF := hF.exts hE; clear hE; refine Back.mk ?_)) | (refine TL.isBin ?_; refine TL.cmpG rfl rfl rfl rfl (fun hc => ?_) (fun hc => ?_) <;> (try (first | (exfalso; omega) | exact absurd rfl hc))) | (apply TL.ev; (case hd => rfl); (case h => (first | exact ev_simple rfl | (apply Ev.isBin; first | exact ev_arN rfl rfl rfl (by omega)) | (apply Ev.isLoad; first | exact ev_loadFr hF rfl (by refine ⟨?_, ?_⟩; (focus (repeat (first | exact InV.head | apply InV.tail))); rfl) | exact ev_loadAFr hF rfl (by refine ⟨?_, ?_⟩; (focus (repeat (first | exact InV.head | apply InV.tail))); rfl)) | exact ev_fieldAddr rfl)))) | (refine T.is ?_; first | refine T.seq ?_ | refine T.region ?_ | refine T.block ?_ | refine T.cond_t rfl ?_ | refine T.cond_f rfl ?_ | refine T.exit ?_ | refine T.skip ?_) | (refine G.is ?_; first | refine G.next ?_ | refine G.blockN ?_ | refine G.blockE ?_ | refine G.thenE ?_) | refine TL.nil ?_)
          all_goals exact G.again (i + 1, Z, N1, dA, dk, dl) (by repeat (first | exact Sub.nil _ | refine Sub.cons rfl ?_ | refine Sub.cons' rfl (int_congr (by omega)) ?_)) ⟨hlt, hZi, hZb, hdm, hF.weak (List.Sublist.cons _ (List.Sublist.cons _ (List.Sublist.refl _))) (allH (by repeat (first | exact memH | apply memT)) (allH (by repeat (first | exact memH | apply memT)) allN))⟩ (by dsimp only; omega)
        · have hsm : ∀ i j, i < r → j < c → ¬ bigZ (natF (chZ Z ⟨6, yi, yj, ⟨ys, ⟨yA, yn, yc, yl⟩⟩⟩) i j) := fun i j _ _ h => hb ⟨_, h⟩
          repeat' (first | (refine TL.isOp ?_; first | (refine TL.isG ?_; first | refine TL.grun rfl rfl rfl ?_ | refine TL.gskip rfl rfl rfl rfl ?_) | (refine TL.isCall ?_; refine TL.call rfl rfl ?_; first | (refine (chY_row0 _ g m r c N Z ⟨6, yi, yj, ⟨ys, ⟨yA, yn, yc, yl⟩⟩⟩ (hF.gz (by repeat (first | exact memH | apply memT))) hZi hrc rfl hd (gy.v.ext hF.ext) wy hb).mono ?_; rintro _ wq ⟨N1, rfl, hE, hG⟩; replace hF := hF.callZ hE (.inl hm) (nfC (nf_lm hzm) (nfC (nf_lm hdm) nfN)) hG; clear hE hG; refine Back.mk ?_) | (refine (longLM _ ⟨r, c, zA, r * c, zk, zl⟩ r c 2097152 (natF (chZ Z ⟨6, yi, yj, ⟨ys, ⟨yA, yn, yc, yl⟩⟩⟩)) (Fr.lm hF (x := ⟨r, c, zA, r * c, zk, zl⟩) (by repeat (first | exact memH | apply memT))) (by omega) false ⟨fun h => (by cases h), fun ⟨i, j, hi, hj, h⟩ => absurd h (hsm i j hi hj)⟩).mono ?_; rintro _ wq ⟨rfl, hE⟩; replace hF := hF.exts hE; clear hE; refine Back.mk ?_)) | (refine TL.isBin ?_; refine TL.cmpG rfl rfl rfl rfl (fun hc => ?_) (fun hc => ?_) <;> (try (first | (exfalso; omega) | exact absurd rfl hc))) | (apply TL.ev; (case hd => rfl); (case h => (first | exact ev_simple rfl | (apply Ev.isBin; first | exact ev_arN rfl rfl rfl (by omega) | exact ev_neqB (r := false) rfl rfl rfl) | (apply Ev.isLoad; first | exact ev_loadFr hF rfl (by refine ⟨?_, ?_⟩; (focus (repeat (first | exact InV.head | apply InV.tail))); rfl) | exact ev_loadAFr hF rfl (by refine ⟨?_, ?_⟩; (focus (repeat (first | exact InV.head | apply InV.tail))); rfl)) | exact ev_fieldAddr rfl))) | (refine TL.storeAFr hF rfl rfl rfl rfl (by refine ⟨?_, ?_⟩; (focus (repeat (first | apply SetV.head | apply SetV.tail))); rfl) rfl ?_; clear hF; intro ws hF)) | (refine T.is ?_; first | refine T.seq ?_ | refine T.region ?_ | refine T.block ?_ | refine T.cond_t rfl ?_ | refine T.cond_f rfl ?_ | refine T.skip ?_) | (refine G.is ?_; first | refine G.next ?_ | refine G.blockN ?_) | refine TL.nil ?_)
          all_goals exact G.again (i + 1, chZ Z ⟨6, yi, yj, ⟨ys, ⟨yA, yn, yc, yl⟩⟩⟩, N1, zA, zk, zl) (by repeat (first | exact Sub.nil _ | refine Sub.cons rfl ?_ | refine Sub.cons' rfl (int_congr (by omega)) ?_)) ⟨hlt, hci, fun k h => hb ⟨k, h⟩, hzm, (Fr.swapD (Fr.moreLM (Fr.swapD hF) (G := natF (chZ Z ⟨6, yi, yj, ⟨ys, ⟨yA, yn, yc, yl⟩⟩⟩)) (K' := 16384) fun H h => LM.smaller h hsm)).weak (List.Sublist.cons _ (List.Sublist.cons _ (List.Sublist.refl _))) (allH (by repeat (first | exact memH | apply memT)) (allH (by repeat (first | exact memH | apply memT)) allN))⟩ (by dsimp only; omega)
      by_cases h7 : yk = 7
      · subst h7
        have hb := big_swap (Z := Z) (a := ⟨7, yi, yj, ⟨ys, ⟨yA, yn, yc, yl⟩⟩⟩) rfl hZb
        have hsm : ∀ i j, i < r → j < c → ¬ bigZ (natF (chZ Z ⟨7, yi, yj, ⟨ys, ⟨yA, yn, yc, yl⟩⟩⟩) i j) := fun i j _ _ h => hb ⟨_, h⟩
        repeat' (first | (refine TL.isOp ?_; first | (refine TL.isG ?_; first | refine TL.grun rfl rfl rfl ?_ | refine TL.gskip rfl rfl rfl rfl ?_) | (refine TL.isCall ?_; refine TL.call rfl rfl ?_; first | (refine (chY_swap0 _ g m r c N Z ⟨7, yi, yj, ⟨ys, ⟨yA, yn, yc, yl⟩⟩⟩ (hF.gz (by repeat (first | exact memH | apply memT))) hN rfl hd).mono ?_; rintro _ wq ⟨N1, rfl, hE, hG⟩; replace hF := hF.callZ hE (.inl hm) (nfC (nf_lm hzm) (nfC (nf_lm hdm) nfN)) hG; clear hE hG; refine Back.mk ?_) | (refine (longLM _ ⟨r, c, zA, r * c, zk, zl⟩ r c 2097152 (natF (chZ Z ⟨7, yi, yj, ⟨ys, ⟨yA, yn, yc, yl⟩⟩⟩)) (Fr.lm hF (x := ⟨r, c, zA, r * c, zk, zl⟩) (by repeat (first | exact memH | apply memT))) (by omega) false ⟨fun h => (by cases h), fun ⟨i, j, hi, hj, h⟩ => absurd h (hsm i j hi hj)⟩).mono ?_; rintro _ wq ⟨rfl, hE⟩; replace hF := hF.exts hE; clear hE; refine Back.mk ?_)) | (refine TL.isBin ?_; refine TL.cmpG rfl rfl rfl rfl (fun hc => ?_) (fun hc => ?_) <;> (try (first | (exfalso; omega) | exact absurd rfl hc))) | (apply TL.ev; (case hd => rfl); (case h => (first | exact ev_simple rfl | (apply Ev.isBin; first | exact ev_arN rfl rfl rfl (by omega) | exact ev_neqB (r := false) rfl rfl rfl) | (apply Ev.isLoad; first | exact ev_loadFr hF rfl (by refine ⟨?_, ?_⟩; (focus (repeat (first | exact InV.head | apply InV.tail))); rfl) | exact ev_loadAFr hF rfl (by refine ⟨?_, ?_⟩; (focus (repeat (first | exact InV.head | apply InV.tail))); rfl)) | exact ev_fieldAddr rfl))) | (refine TL.storeAFr hF rfl rfl rfl rfl (by refine ⟨?_, ?_⟩; (focus (repeat (first | apply SetV.head | apply SetV.tail))); rfl) rfl ?_; clear hF; intro ws hF)) | (refine T.is ?_; first | refine T.seq ?_ | refine T.region ?_ | refine T.block ?_ | refine T.cond_t rfl ?_ | refine T.cond_f rfl ?_ | refine T.skip ?_) | (refine G.is ?_; first | refine G.next ?_ | refine G.blockN ?_) | refine TL.nil ?_)
        all_goals exact G.again (i + 1, chZ Z ⟨7, yi, yj, ⟨ys, ⟨yA, yn, yc, yl⟩⟩⟩, N1, zA, zk, zl) (by repeat (first | exact Sub.nil _ | refine Sub.cons rfl ?_ | refine Sub.cons' rfl (int_congr (by omega)) ?_)) ⟨hlt, hci, fun k h => hb ⟨k, h⟩, hzm, (Fr.swapD (Fr.moreLM (Fr.swapD hF) (G := natF (chZ Z ⟨7, yi, yj, ⟨ys, ⟨yA, yn, yc, yl⟩⟩⟩)) (K' := 16384) fun H h => LM.smaller h hsm)).weak (List.Sublist.cons _ (List.Sublist.cons _ (List.Sublist.refl _))) (allH (by repeat (first | exact memH | apply memT)) (allH (by repeat (first | exact memH | apply memT)) allN))⟩ (by dsimp only; omega)
      by_cases h8 : yk = 8
      · subst h8
        have hb := big_clear (Z := Z) (a := ⟨8, yi, yj, ⟨ys, ⟨yA, yn, yc, yl⟩⟩⟩) rfl hZb
        have hsm : ∀ i j, i < r → j < c → ¬ bigZ (natF (chZ Z ⟨8, yi, yj, ⟨ys, ⟨yA, yn, yc, yl⟩⟩⟩) i j) := fun i j _ _ h => hb ⟨_, h⟩
        repeat' (first | (refine TL.isOp ?_; first | (refine TL.isG ?_; first | refine TL.grun rfl rfl rfl ?_ | refine TL.gskip rfl rfl rfl rfl ?_) | (refine TL.isCall ?_; refine TL.call rfl rfl ?_; first | (refine (chY_clear0 _ g m r c N Z ⟨8, yi, yj, ⟨ys, ⟨yA, yn, yc, yl⟩⟩⟩ (hF.gz (by repeat (first | exact memH | apply memT))) hN rfl hd).mono ?_; rintro _ wq ⟨N1, rfl, hE, hG⟩; replace hF := hF.callZ hE (.inl hm) (nfC (nf_lm hzm) (nfC (nf_lm hdm) nfN)) hG; clear hE hG; refine Back.mk ?_) | (refine (longLM _ ⟨r, c, zA, r * c, zk, zl⟩ r c 2097152 (natF (chZ Z ⟨8, yi, yj, ⟨ys, ⟨yA, yn, yc, yl⟩⟩⟩)) (Fr.lm hF (x := ⟨r, c, zA, r * c, zk, zl⟩) (by repeat (first | exact memH | apply memT))) (by omega) false ⟨fun h => (by cases h), fun ⟨i, j, hi, hj, h⟩ => absurd h (hsm i j hi hj)⟩).mono ?_; rintro _ wq ⟨rfl, hE⟩; replace hF := hF.exts hE; clear hE; refine Back.mk ?_)) | (refine TL.isBin ?_; refine TL.cmpG rfl rfl rfl rfl (fun hc => ?_) (fun hc => ?_) <;> (try (first | (exfalso; omega) | exact absurd rfl hc))) | (apply TL.ev; (case hd => rfl); (case h => (first | exact ev_simple rfl | (apply Ev.isBin; first | exact ev_arN rfl rfl rfl (by omega) | exact ev_neqB (r := false) rfl rfl rfl) | (apply Ev.isLoad; first | exact ev_loadFr hF rfl (by refine ⟨?_, ?_⟩; (focus (repeat (first | exact InV.head | apply InV.tail))); rfl) | exact ev_loadAFr hF rfl (by refine ⟨?_, ?_⟩; (focus (repeat (first | exact InV.head | apply InV.tail))); rfl)) | exact ev_fieldAddr rfl))) | (refine TL.storeAFr hF rfl rfl rfl rfl (by refine ⟨?_, ?_⟩; (focus (repeat (first | apply SetV.head | apply SetV.tail))); rfl) rfl ?_; clear hF; intro ws hF)) | (refine T.is ?_; first | refine T.seq ?_ | refine T.region ?_ | refine T.block ?_ | refine T.cond_t rfl ?_ | refine T.cond_f rfl ?_ | refine T.skip ?_) | (refine G.is ?_; first | refine G.next ?_ | refine G.blockN ?_) | refine TL.nil ?_)
        all_goals exact G.again (i + 1, chZ Z ⟨8, yi, yj, ⟨ys, ⟨yA, yn, yc, yl⟩⟩⟩, N1, zA, zk, zl) (by repeat (first | exact Sub.nil _ | refine Sub.cons rfl ?_ | refine Sub.cons' rfl (int_congr (by omega)) ?_)) ⟨hlt, hci, fun k h => hb ⟨k, h⟩, hzm, (Fr.swapD (Fr.moreLM (Fr.swapD hF) (G := natF (chZ Z ⟨8, yi, yj, ⟨ys, ⟨yA, yn, yc, yl⟩⟩⟩)) (K' := 16384) fun H h => LM.smaller h hsm)).weak (List.Sublist.cons _ (List.Sublist.cons _ (List.Sublist.refl _))) (allH (by repeat (first | exact memH | apply memT)) (allH (by repeat (first | exact memH | apply memT)) allN))⟩ (by dsimp only; omega)
      · repeat' (first | (refine TL.isOp ?_; first | (refine TL.isG ?_; first | refine TL.grun rfl rfl rfl ?_ | refine TL.gskip rfl rfl rfl rfl ?_) | (refine TL.isCall ?_; refine TL.call rfl rfl ?_; first | (refine (longLM _ ⟨r, c, dA, r * c, dk, dl⟩ r c 16384 (natF Z) (Fr.lm hF (x := ⟨r, c, dA, r * c, dk, dl⟩) (by repeat (first | exact memH | apply memT))) (by omega) false ⟨fun h => (by cases h), fun ⟨i, j, hi, hj, h⟩ => absurd h (hZb _)⟩).mono ?_; rintro _ wq ⟨rfl, hE⟩; replace hF := hF.exts hE; clear hE; refine Back.mk ?_)) | (refine TL.isBin ?_; refine TL.cmpG rfl rfl rfl rfl (fun hc => ?_) (fun hc => ?_) <;> (try (first | (exfalso; omega) | exact absurd rfl hc))) | (apply TL.ev; (case hd => rfl); (case h => (first | exact ev_simple rfl | (apply Ev.isBin; first | exact ev_arN rfl rfl rfl (by omega) | exact ev_neqB (r := false) rfl rfl rfl) | (apply Ev.isLoad; first | exact ev_loadFr hF rfl (by refine ⟨?_, ?_⟩; (focus (repeat (first | exact InV.head | apply InV.tail))); rfl) | exact ev_loadAFr hF rfl (by refine ⟨?_, ?_⟩; (focus (repeat (first | exact InV.head | apply InV.tail))); rfl)) | exact ev_fieldAddr rfl))) | (refine TL.storeAFr hF rfl rfl rfl rfl (by refine ⟨?_, ?_⟩; (focus (repeat (first | apply SetV.head | apply SetV.tail))); rfl) rfl ?_; clear hF; intro ws hF)) | (refine T.is ?_; first | refine T.seq ?_ | refine T.region ?_ | refine T.block ?_ | refine T.cond_f rfl ?_ | refine T.skip ?_) | (refine G.is ?_; first | refine G.next ?_ | refine G.blockN ?_) | refine TL.nil ?_)
        all_goals exact G.again (i + 1, Z, N, dA, dk, dl) (by repeat (first | exact Sub.nil _ | refine Sub.cons rfl ?_ | refine Sub.cons' rfl (int_congr (by omega)) ?_)) ⟨hlt, hZi, hZb, hdm, hF.weak (List.Sublist.cons _ (List.Sublist.cons _ (List.Sublist.refl _))) (allH (by repeat (first | exact memH | apply memT)) (allH (by repeat (first | exact memH | apply memT)) allN))⟩ (by dsimp only; omega)
    · clear hyes hch
      repeat' (first | (refine TL.isOp ?_; first | (refine TL.isCall ?_; refine TL.call rfl rfl ?_; first | (refine (hno _ hd).mono ?_; rintro _ wu ⟨rfl, hE⟩; replace hF := hF.exts hE; clear hE; refine Back.mk ?_)) | (refine TL.isBin ?_; refine TL.cmpG rfl rfl rfl rfl (fun hc => ?_) (fun hc => ?_) <;> (try (first | (exfalso; omega) | exact absurd rfl hc))) | (apply TL.ev; (case hd => rfl); (case h => (first | exact ev_simple rfl | (apply Ev.isLoad; first | exact ev_loadAFr hF rfl (by refine ⟨?_, ?_⟩; (focus (repeat (first | exact InV.head | apply InV.tail))); rfl) | exact ev_loadMc [.int .i64 yk, .int .i64 yi, .int .i64 yj, .bool ys, .slice yA yn yc] rfl (hs.ext hF.ext) hy rfl) | exact ev_len rfl | exact ev_indexM rfl rfl hlt (hs.ext hF.ext).some))) | (refine TL.storeAFr hF rfl rfl rfl rfl (by refine ⟨?_, ?_⟩; (focus (repeat (first | apply SetV.head | apply SetV.tail))); rfl) rfl ?_; clear hF; intro ws hF) | (refine TL.allocFr hF (d := 10) rfl rfl ?_; clear hF; intro w10 b10 hF) | (refine TL.allocFr hF (d := 11) rfl rfl ?_; clear hF; intro w11 b11 hF)) | (refine T.is ?_; first | refine T.seqM 17 rfl ?_ | refine T.region ?_ | refine T.block ?_ | refine T.cond_t rfl ?_ | refine T.skip ?_) | (refine G.is ?_; first | refine G.next ?_) | refine TL.nil ?_)
      unfold DOk at hd
      dsimp only at hd
      by_cases h5 : yk = 5
      · subst h5
        repeat' (first | (refine TL.isOp ?_; first | (refine TL.isG ?_; first | refine TL.grun rfl rfl rfl ?_ | refine TL.gskip rfl rfl rfl rfl ?_) | (refine TL.isCall ?_; refine TL.call rfl rfl ?_; first | (refine (chSet3 _ g m r c N Z yi yj ⟨ys, ⟨yA, yn, yc, yl⟩⟩ (hF.gz (by repeat (first | exact memH | apply memT))) (by omega)).mono ?_; rintro _ wq ⟨N1, rfl, hE, hG⟩; replace hF := hF.callZ hE (.inl hm) (nfC (nf_lm hdm) nfN) hG; clear hE hG; refine Back.mk ?_)) | (refine TL.isBin ?_; refine TL.cmpG rfl rfl rfl rfl (fun hc => ?_) (fun hc => ?_) <;> (try (first | (exfalso; omega) | exact absurd rfl hc))) | (apply TL.ev; (case hd => rfl); (case h => (first | exact ev_simple rfl | (apply Ev.isBin; first | exact ev_arN rfl rfl rfl (by omega) | exact ev_neqB (r := false) rfl rfl rfl) | (apply Ev.isLoad; first | exact ev_loadFr hF rfl (by refine ⟨?_, ?_⟩; (focus (repeat (first | exact InV.head | apply InV.tail))); rfl) | exact ev_loadAFr hF rfl (by refine ⟨?_, ?_⟩; (focus (repeat (first | exact InV.head | apply InV.tail))); rfl)) | exact ev_fieldAddr rfl))) | (refine TL.storeAFr hF rfl rfl rfl rfl (by refine ⟨?_, ?_⟩; (focus (repeat (first | apply SetV.head | apply SetV.tail))); rfl) rfl ?_; clear hF; intro ws hF)) | (refine T.is ?_; first | refine T.seq ?_ | refine T.region ?_ | refine T.block ?_ | refine T.cond_t rfl ?_ | refine T.cond_f rfl ?_ | refine T.skip ?_) | (refine G.is ?_; first | refine G.next ?_ | refine G.blockN ?_) | refine TL.nil ?_)
        all_goals exact G.again (i + 1, Z, N1, dA, dk, dl) (by repeat (first | exact Sub.nil _ | refine Sub.cons rfl ?_ | refine Sub.cons' rfl (int_congr (by omega)) ?_)) ⟨hlt, hZi, hZb, hdm, hF.weak (List.Sublist.cons _ (List.Sublist.cons _ (List.Sublist.refl _))) (allH (by repeat (first | exact memH | apply memT)) (allH (by repeat (first | exact memH | apply memT)) allN))⟩ (by dsimp only; omega)
      by_cases h6 : yk = 6
      · subst h6
        repeat' (first | (refine TL.isOp ?_; first | (refine TL.isG ?_; first | refine TL.grun rfl rfl rfl ?_ | refine TL.gskip rfl rfl rfl rfl ?_) | (refine TL.isCall ?_; refine TL.call rfl rfl ?_; first | (refine (chRow3 _ g m r c N Z yi yj ⟨ys, ⟨yA, yn, yc, yl⟩⟩ (hF.gz (by repeat (first | exact memH | apply memT))) (by omega)).mono ?_; rintro _ wq ⟨N1, rfl, hE, hG⟩; replace hF := hF.callZ hE (.inl hm) (nfC (nf_lm hdm) nfN) hG; clear hE hG; refine Back.mk ?_)) | (refine TL.isBin ?_; refine TL.cmpG rfl rfl rfl rfl (fun hc => ?_) (fun hc => ?_) <;> (try (first | (exfalso; omega) | exact absurd rfl hc))) | (apply TL.ev; (case hd => rfl); (case h => (first | exact ev_simple rfl | (apply Ev.isBin; first | exact ev_arN rfl rfl rfl (by omega) | exact ev_neqB (r := false) rfl rfl rfl) | (apply Ev.isLoad; first | exact ev_loadFr hF rfl (by refine ⟨?_, ?_⟩; (focus (repeat (first | exact InV.head | apply InV.tail))); rfl) | exact ev_loadAFr hF rfl (by refine ⟨?_, ?_⟩; (focus (repeat (first | exact InV.head | apply InV.tail))); rfl)) | exact ev_fieldAddr rfl))) | (refine TL.storeAFr hF rfl rfl rfl rfl (by refine ⟨?_, ?_⟩; (focus (repeat (first | apply SetV.head | apply SetV.tail))); rfl) rfl ?_; clear hF; intro ws hF)) | (refine T.is ?_; first | refine T.seq ?_ | refine T.region ?_ | refine T.block ?_ | refine T.cond_t rfl ?_ | refine T.cond_f rfl ?_ | refine T.skip ?_) | (refine G.is ?_; first | refine G.next ?_ | refine G.blockN ?_) | refine TL.nil ?_)
        all_goals exact G.again (i + 1, Z, N1, dA, dk, dl) (by repeat (first | exact Sub.nil _ | refine Sub.cons rfl ?_ | refine Sub.cons' rfl (int_congr (by omega)) ?_)) ⟨hlt, hZi, hZb, hdm, hF.weak (List.Sublist.cons _ (List.Sublist.cons _ (List.Sublist.refl _))) (allH (by repeat (first | exact memH | apply memT)) (allH (by repeat (first | exact memH | apply memT)) allN))⟩ (by dsimp only; omega)
      by_cases h7 : yk = 7
      · subst h7
        repeat' (first | (refine TL.isOp ?_; first | (refine TL.isG ?_; first | refine TL.grun rfl rfl rfl ?_ | refine TL.gskip rfl rfl rfl rfl ?_) | (refine TL.isCall ?_; refine TL.call rfl rfl ?_; first | (refine (chSwap3 _ g m r c N Z yi yj (hF.gz (by repeat (first | exact memH | apply memT))) (by omega)).mono ?_; rintro _ wq ⟨N1, rfl, hE, hG⟩; replace hF := hF.callZ hE (.inl hm) (nfC (nf_lm hdm) nfN) hG; clear hE hG; refine Back.mk ?_)) | (refine TL.isBin ?_; refine TL.cmpG rfl rfl rfl rfl (fun hc => ?_) (fun hc => ?_) <;> (try (first | (exfalso; omega) | exact absurd rfl hc))) | (apply TL.ev; (case hd => rfl); (case h => (first | exact ev_simple rfl | (apply Ev.isBin; first | exact ev_arN rfl rfl rfl (by omega) | exact ev_neqB (r := false) rfl rfl rfl) | (apply Ev.isLoad; first | exact ev_loadFr hF rfl (by refine ⟨?_, ?_⟩; (focus (repeat (first | exact InV.head | apply InV.tail))); rfl) | exact ev_loadAFr hF rfl (by refine ⟨?_, ?_⟩; (focus (repeat (first | exact InV.head | apply InV.tail))); rfl)) | exact ev_fieldAddr rfl))) | (refine TL.storeAFr hF rfl rfl rfl rfl (by refine ⟨?_, ?_⟩; (focus (repeat (first | apply SetV.head | apply SetV.tail))); rfl) rfl ?_; clear hF; intro ws hF)) | (refine T.is ?_; first | refine T.seq ?_ | refine T.region ?_ | refine T.block ?_ | refine T.cond_t rfl ?_ | refine T.cond_f rfl ?_ | refine T.skip ?_) | (refine G.is ?_; first | refine G.next ?_ | refine G.blockN ?_) | refine TL.nil ?_)
        all_goals exact G.again (i + 1, Z, N1, dA, dk, dl) (by repeat (first | exact Sub.nil _ | refine Sub.cons rfl ?_ | refine Sub.cons' rfl (int_congr (by omega)) ?_)) ⟨hlt, hZi, hZb, hdm, hF.weak (List.Sublist.cons _ (List.Sublist.cons _ (List.Sublist.refl _))) (allH (by repeat (first | exact memH | apply memT)) (allH (by repeat (first | exact memH | apply memT)) allN))⟩ (by dsimp only; omega)
      by_cases h8 : yk = 8
      · subst h8
        repeat' (first | (refine TL.isOp ?_; first | (refine TL.isG ?_; first | refine TL.grun rfl rfl rfl ?_ | refine TL.gskip rfl rfl rfl rfl ?_) | (refine TL.isCall ?_; refine TL.call rfl rfl ?_; first | (refine (chClear3 _ g m r c N Z yi (hF.gz (by repeat (first | exact memH | apply memT))) (by omega)).mono ?_; rintro _ wq ⟨N1, rfl, hE, hG⟩; replace hF := hF.callZ hE (.inl hm) (nfC (nf_lm hdm) nfN) hG; clear hE hG; refine Back.mk ?_)) | (refine TL.isBin ?_; refine TL.cmpG rfl rfl rfl rfl (fun hc => ?_) (fun hc => ?_) <;> (try (first | (exfalso; omega) | exact absurd rfl hc))) | (apply TL.ev; (case hd => rfl); (case h => (first | exact ev_simple rfl | (apply Ev.isBin; first | exact ev_arN rfl rfl rfl (by omega) | exact ev_neqB (r := false) rfl rfl rfl) | (apply Ev.isLoad; first | exact ev_loadFr hF rfl (by refine ⟨?_, ?_⟩; (focus (repeat (first | exact InV.head | apply InV.tail))); rfl) | exact ev_loadAFr hF rfl (by refine ⟨?_, ?_⟩; (focus (repeat (first | exact InV.head | apply InV.tail))); rfl)) | exact ev_fieldAddr rfl))) | (refine TL.storeAFr hF rfl rfl rfl rfl (by refine ⟨?_, ?_⟩; (focus (repeat (first | apply SetV.head | apply SetV.tail))); rfl) rfl ?_; clear hF; intro ws hF)) | (refine T.is ?_; first | refine T.seq ?_ | refine T.region ?_ | refine T.block ?_ | refine T.cond_t rfl ?_ | refine T.cond_f rfl ?_ | refine T.skip ?_) | (refine G.is ?_; first | refine G.next ?_ | refine G.blockN ?_) | refine TL.nil ?_)
        all_goals exact G.again (i + 1, Z, N1, dA, dk, dl) (by repeat (first | exact Sub.nil _ | refine Sub.cons rfl ?_ | refine Sub.cons' rfl (int_congr (by omega)) ?_)) ⟨hlt, hZi, hZb, hdm, hF.weak (List.Sublist.cons _ (List.Sublist.cons _ (List.Sublist.refl _))) (allH (by repeat (first | exact memH | apply memT)) (allH (by repeat (first | exact memH | apply memT)) allN))⟩ (by dsimp only; omega)
      · repeat' (first | (refine TL.isOp ?_; first | (refine TL.isG ?_; first | refine TL.grun rfl rfl rfl ?_ | refine TL.gskip rfl rfl rfl rfl ?_) | (refine TL.isCall ?_; refine TL.call rfl rfl ?_; first | (refine (longLM _ ⟨r, c, dA, r * c, dk, dl⟩ r c 16384 (natF Z) (Fr.lm hF (x := ⟨r, c, dA, r * c, dk, dl⟩) (by repeat (first | exact memH | apply memT))) (by omega) false ⟨fun h => (by cases h), fun ⟨i, j, hi, hj, h⟩ => absurd h (hZb _)⟩).mono ?_; rintro _ wq ⟨rfl, hE⟩; replace hF := hF.exts hE; clear hE; refine Back.mk ?_)) | (refine TL.isBin ?_; refine TL.cmpG rfl rfl rfl rfl (fun hc => ?_) (fun hc => ?_) <;> (try (first | (exfalso; omega) | exact absurd rfl hc))) | (apply TL.ev; (case hd => rfl); (case h => (first | exact ev_simple rfl | (apply Ev.isBin; first | exact ev_arN rfl rfl rfl (by omega) | exact ev_neqB (r := false) rfl rfl rfl) | (apply Ev.isLoad; first | exact ev_loadFr hF rfl (by refine ⟨?_, ?_⟩; (focus (repeat (first | exact InV.head | apply InV.tail))); rfl) | exact ev_loadAFr hF rfl (by refine ⟨?_, ?_⟩; (focus (repeat (first | exact InV.head | apply InV.tail))); rfl)) | exact ev_fieldAddr rfl))) | (refine TL.storeAFr hF rfl rfl rfl rfl (by refine ⟨?_, ?_⟩; (focus (repeat (first | apply SetV.head | apply SetV.tail))); rfl) rfl ?_; clear hF; intro ws hF)) | (refine T.is ?_; first | refine T.seq ?_ | refine T.region ?_ | refine T.block ?_ | refine T.cond_f rfl ?_ | refine T.skip ?_) | (refine G.is ?_; first | refine G.next ?_ | refine G.blockN ?_) | refine TL.nil ?_)
        all_goals exact G.again (i + 1, Z, N, dA, dk, dl) (by repeat (first | exact Sub.nil _ | refine Sub.cons rfl ?_ | refine Sub.cons' rfl (int_congr (by omega)) ?_)) ⟨hlt, hZi, hZb, hdm, hF.weak (List.Sublist.cons _ (List.Sublist.cons _ (List.Sublist.refl _))) (allH (by repeat (first | exact memH | apply memT)) (allH (by repeat (first | exact memH | apply memT)) allN))⟩ (by dsimp only; omega)
  · obtain rfl : i = n := by omega
    repeat' (first | (refine TL.isOp ?_; first | (refine TL.isG ?_; first | refine TL.grun rfl rfl rfl ?_) | (refine TL.isCall ?_; refine TL.call rfl rfl ?_; first | (refine (denseS _ g m r c N Z (hF.gz (by repeat (first | exact memH | apply memT))) hZi hr hcc hN).mono ?_; rintro _ wu ⟨zu, rfl, hLu, hE, hf⟩; obtain ⟨uA, uk, ul, rfl⟩ := lm_mk hLu; rw [mvc_mk _ _ uA]; replace hF := Fr.addLM hF hE hLu hf; clear hE hf hLu; refine Back.mk ?_) | (refine (matsT _ ⟨r, c, uA, r * c, uk, ul⟩ ⟨r, c, dA, r * c, dk, dl⟩ r c 16384 16384 _ _ (Fr.lm hF (x := ⟨r, c, uA, r * c, uk, ul⟩) (by repeat (first | exact memH | apply memT))) (Fr.lm hF (x := ⟨r, c, dA, r * c, dk, dl⟩) (by repeat (first | exact memH | apply memT))) (fun _ _ _ _ => rfl) (by omega) (by omega)).mono ?_; rintro _ wq ⟨rfl, hE⟩; replace hF := hF.exts hE; clear hE; refine Back.mk ?_)) | (refine TL.isBin ?_; refine TL.cmpG rfl rfl rfl rfl (fun hc => ?_) (fun hc => ?_) <;> (try (first | (exfalso; omega) | exact absurd rfl hc))) | (apply TL.ev; (case hd => rfl); (case h => (first | exact ev_simple rfl | (apply Ev.isLoad; first | exact ev_loadAFr hF rfl (by refine ⟨?_, ?_⟩; (focus (repeat (first | exact InV.head | apply InV.tail))); rfl)) | exact ev_len rfl))) | (refine TL.storeAFr hF rfl rfl rfl rfl (by refine ⟨?_, ?_⟩; (focus (repeat (first | apply SetV.head | apply SetV.tail))); rfl) rfl ?_; clear hF; intro ws hF) | (refine TL.allocFr hF (d := 13) rfl rfl ?_; clear hF; intro w13 b13 hF)) | (refine T.is ?_; first | refine T.seq ?_ | refine T.region ?_ | refine T.cond_f rfl ?_ | refine T.exit ?_ | refine T.ret ?_) | (refine G.is ?_; first | refine G.next ?_ | refine G.blockE ?_ | refine G.thenE ?_) | refine TL.nil ?_)
    all_goals exact G.ret1 rfl rfl ⟨rfl, hF.ext⟩
theorem dense_t (w : World) (x : MV) (hx : RM w.heap x 1048576 ∧ InR x) (A : Option Addr) (n k : Nat) (L : List CV) (hs : Sm 5 cvc w.heap w.heap.size A n k L) (hg : ∀ s ∈ L, CG w.heap s) (hb : wts cvw L ≤ 1048576 ∧ n ≤ 1048576) :
    Cl Try.prog 8 #[.agg (mvc x).toArray, .slice A n k] w (YesM w) := by
  by_cases h : ∃ r c, Sound x r c
  · obtain ⟨r, c, h⟩ := h
    have gx := hx.1.gm h
    by_cases h2 : ∃ y ∈ x.l, big y
    · exact dense_large w x r c gx h2 A n k
    · exact dense_on w x r c gx (fun y hy h => h2 ⟨y, hy, h⟩) A n k L hs hg (fun s hs => Nat.le_trans (wts_mem (wt := cvw) hs) hb.1) hb.2
  · exact dense_off w x hx h A n k

end Go.Proofs.Ytlpheckjogphmaa
