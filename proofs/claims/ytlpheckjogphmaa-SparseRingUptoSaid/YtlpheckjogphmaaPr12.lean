/- Layer 10: products, sums and transposes of functions with finitely many places; when they may be refused. Layer 10: product, sum, transpose and places of grids as functions. Layer 10: the law's helpers: alike, places, same, refusal, digits. Layer 10: the law SparseFull. Layer 10: the law's digits. Layer 10: the law's laid. Range over a function whose rounds write maps (EngR's rule, with what rounds keep told more narrowly). Layer 10: sparse.Of. Regions that draw their order, in a round's frame. Layer 10: the contract of sparse.Of. Matrices whose block is known whole: build (MatA's walk, told with its block), Diag of nothing, Zero. mat.Zero with its block known whole. -/
import Derived.Test.YtlpheckjogphmaaPr11
import Derived.Test.YtlpheckjogphmaaPr8
import Derived.Test.YtlpheckjogphmaaPr9
import Derived.Test.YtlpheckjogphmaaPr4
import Derived.Test.YtlpheckjogphmaaPr3
import Derived.OrdersIn
set_option linter.unusedVariables false
set_option linter.unusedSimpArgs false
set_option linter.unusedSectionVars false
namespace Go.Eng
open Go Go.Proofs Go.NatM Go.RowKit Go.Proofs.Ytlpheckjogphmaa
abbrev ZF := Int × Int → Int
/-- the product of two functions over n columns -/
def prodF (n : Nat) (A B : ZF) (k : Int × Int) : Int := psum (fun y => A (k.1, (y : Int)) * B ((y : Int), k.2)) n
/-- nothing stands outside n rows and columns -/
def InS (n : Nat) (Z : ZF) : Prop := ∀ k, Z k ≠ 0 → (0 ≤ k.1 ∧ k.1 < (n : Int)) ∧ (0 ≤ k.2 ∧ k.2 < (n : Int))
def addF (A B : ZF) (k : Int × Int) : Int := A k + B k
def flipF (A : ZF) (k : Int × Int) : Int := A (flp k)
theorem psum_ne {f : Nat → Int} {n : Nat} (h : psum f n ≠ 0) : ∃ y, y < n ∧ f y ≠ 0 := by
  apply Classical.byContradiction
  intro hn
  apply h
  rw [← psum_zero n]
  exact psum_congr fun q hq => Classical.byContradiction fun h' => hn ⟨q, hq, h'⟩
theorem mulZ_cons (p : (Int × Int) × IV) (l l2 : GL) (k : Int × Int) : mulZ (p :: l) l2 k = (if p.1.1 = k.1 then ival p.2 * zv l2 (p.1.2, k.2) else 0) + mulZ l l2 k := by simp [mulZ]
theorem zv_cons {p : (Int × Int) × IV} {l : GL} (h : p.1 ∉ l.map (·.1)) (k : Int × Int) : zv (p :: l) k = zv l k + (if p.1 = k then ival p.2 else 0) := by
  by_cases hk : p.1 = k
  · subst hk
    rw [if_pos rfl, zv_none (lkp_none.2 h), Int.zero_add]
    exact zv_some (by simp [lkp])
  · rw [if_neg hk, Int.add_zero]
    unfold zv at0
    have : lkp (p :: l) k = lkp l k := by simp [lkp, hk]
    rw [this]
theorem mul_prod {n : Nat} {l2 : GL} (k : Int × Int) : ∀ {l : GL}, (l.map (·.1)).Nodup → (∀ p ∈ l, 0 ≤ p.1.2 ∧ p.1.2 < (n : Int)) → mulZ l l2 k = prodF n (zv l) (zv l2) k
  | [], _, _ => by
    unfold prodF
    have : ∀ q : Nat, q < n → zv ([] : GL) (k.1, (q : Int)) * zv l2 ((q : Int), k.2) = 0 := fun q _ => by rw [show zv ([] : GL) (k.1, (q : Int)) = 0 from rfl, Int.zero_mul]
    rw [psum_congr this, psum_zero]; rfl
  | p :: l, hn, hr => by
    have hn' := (List.nodup_cons.1 hn)
    have ih := mul_prod (l2 := l2) k hn'.2 fun q hq => hr q (List.mem_cons_of_mem _ hq)
    rw [mulZ_cons, ih]
    unfold prodF
    have hp := hr p (List.mem_cons_self ..)
    obtain ⟨⟨a, b⟩, v⟩ := p
    dsimp only at hp hn' ⊢
    obtain ⟨b, rfl⟩ : ∃ q : Nat, b = (q : Int) := ⟨b.toNat, by omega⟩
    have e : ∀ q : Nat, q < n → zv (((a, (b : Int)), v) :: l) (k.1, (q : Int)) * zv l2 ((q : Int), k.2) = zv l (k.1, (q : Int)) * zv l2 ((q : Int), k.2) + (if b = q then 1 else 0) * (if a = k.1 then ival v * zv l2 ((q : Int), k.2) else 0) := fun q _ => by
      rw [zv_cons hn'.1, Int.add_mul]
      congr 1
      by_cases hb : b = q
      · subst hb
        by_cases ha : a = k.1
        · subst ha; simp
        · have : ¬ ((a, (b : Int)) = (k.1, (b : Int))) := fun e => ha (Prod.mk.inj e).1
          simp [ha]
      · have : ¬ ((a, (b : Int)) = (k.1, (q : Int))) := fun e => hb (by have := (Prod.mk.inj e).2; omega)
        rw [if_neg this, if_neg hb, Int.zero_mul, Int.zero_mul]
    rw [psum_congr e, psum_add, psum_unit (fun q => if a = k.1 then ival v * zv l2 ((q : Int), k.2) else 0), if_pos (show b < n by omega), Int.add_comm]
theorem prod_congr {n : Nat} {A A' B B' : ZF} (h : ∀ k, A k = A' k) (h' : ∀ k, B k = B' k) (k : Int × Int) : prodF n A B k = prodF n A' B' k := by
  rw [funext h, funext h']
theorem flp_flp (k : Int × Int) : flp (flp k) = k := rfl
theorem InS.prod {n : Nat} {A B : ZF} (hA : InS n A) (hB : InS n B) : InS n (prodF n A B) := fun k hk => by
  obtain ⟨y, _, h⟩ := psum_ne hk
  have h1 : A (k.1, (y : Int)) ≠ 0 := fun e => h (by rw [e, Int.zero_mul])
  have h2 : B ((y : Int), k.2) ≠ 0 := fun e => h (by rw [e, Int.mul_zero])
  exact ⟨(hA _ h1).1, (hB _ h2).2⟩
theorem InS.add {n : Nat} {A B : ZF} (hA : InS n A) (hB : InS n B) : InS n (addF A B) := fun k hk => by
  by_cases h : A k = 0
  · exact hB k fun e => hk (by unfold addF; rw [h, e]; rfl)
  · exact hA k h
theorem InS.flip {n : Nat} {A : ZF} (hA : InS n A) : InS n (flipF A) := fun k hk => ⟨(hA _ hk).2, (hA _ hk).1⟩
theorem zv_mem {p : (Int × Int) × IV} : ∀ {l : GL}, (l.map (·.1)).Nodup → p ∈ l → zv l p.1 = ival p.2
  | [], _, h => by cases h
  | q :: l, hn, h => by
    have hn' := List.nodup_cons.1 hn
    rw [zv_cons hn'.1]
    rcases List.mem_cons.1 h with rfl | h
    · rw [if_pos rfl, zv_none (lkp_none.2 hn'.1), Int.zero_add]
    · rw [zv_mem hn'.2 h, if_neg fun e => hn'.1 (show q.1 ∈ l.map (·.1) by rw [e]; exact List.mem_map_of_mem h), Int.add_zero]
theorem cross_len {α β γ : Type} (f : α → β → γ) (b : List β) : ∀ a : List α, ((a.map fun p => b.map fun q => f p q).flatten).length = a.length * b.length
  | [] => by simp
  | p :: a => by
    have ih := cross_len f b a
    simp only [List.map_cons, List.flatten_cons, List.length_append, List.length_map, List.length_cons, Nat.add_mul, Nat.one_mul]
    omega
/-- no number of a function has more than X binary digits -/
def BlZ (Z : ZF) (X : Nat) : Prop := ∀ k, bl (Z k).natAbs ≤ X
end Go.Eng

set_option linter.unusedSectionVars false
namespace Go.Eng
open Go Go.Proofs Go.NatM Go.RowKit Go.Proofs.Ytlpheckjogphmaa
/-- a function that a grid can hold -/
def FitZ (Z : ZF) : Prop := (∀ k, ¬ bigZ (Z k)) ∧ ∀ ks : List (Int × Int), ks.Nodup → (∀ k ∈ ks, Z k ≠ 0) → ks.length ≤ 4096
theorem FitZ.congr {Z Z' : ZF} (h : FitZ Z) (e : ∀ k, Z' k = Z k) : FitZ Z' := by rw [funext e]; exact h
theorem FitZ.flip {Z : ZF} (h : FitZ Z) : FitZ (flipF Z) := ⟨fun k => h.1 _, fun ks hn hk => by
  have := h.2 (ks.map flp) (List.pairwise_map.2 (hn.imp fun {a b} hne e => hne (flp_inj a b e))) fun k hm => by
    obtain ⟨q, hq, rfl⟩ := List.mem_map.1 hm
    exact hk q hq
  rwa [List.length_map] at this⟩
/-- two lists in order with the same places -/
theorem sorted_keys : ∀ {a b : List (Int × Int)}, a.Pairwise plt → b.Pairwise plt → (∀ k, k ∈ a ↔ k ∈ b) → a = b
  | [], [], _, _, _ => rfl
  | [], y :: b, _, _, h => absurd ((h y).2 (List.mem_cons_self ..)) (List.not_mem_nil)
  | x :: a, [], _, _, h => absurd ((h x).1 (List.mem_cons_self ..)) (List.not_mem_nil)
  | x :: a, y :: b, ha, hb, h => by
    have ha' := List.pairwise_cons.1 ha
    have hb' := List.pairwise_cons.1 hb
    have asy : ∀ u v : Int × Int, plt u v → plt v u → False := fun u v h1 h2 => by unfold plt at h1 h2; omega
    have irr : ∀ u : Int × Int, ¬ plt u u := fun u h => asy u u h h
    have hxy : x = y := by
      rcases List.mem_cons.1 ((h x).1 (List.mem_cons_self ..)) with e | hx
      · exact e
      · rcases List.mem_cons.1 ((h y).2 (List.mem_cons_self ..)) with e | hy
        · exact e.symm
        · exact (asy x y (ha'.1 y hy) (hb'.1 x hx)).elim
    subst hxy
    rw [sorted_keys ha'.2 hb'.2 fun k => ⟨fun hk => by
      rcases List.mem_cons.1 ((h k).1 (List.mem_cons_of_mem _ hk)) with e | hk'
      · subst e; exact (irr _ (ha'.1 _ hk)).elim
      · exact hk', fun hk => by
      rcases List.mem_cons.1 ((h k).2 (List.mem_cons_of_mem _ hk)) with e | hk'
      · subst e; exact (irr _ (hb'.1 _ hk)).elim
      · exact hk'⟩]
/-- a grid's places in order -/
structure PlF (ls : GL) (Z : ZF) (N : Nat) : Prop where
  so : SortedPl ls
  nd : (ls.map (·.1)).Nodup
  nz : NZ ls
  len : ls.length = N
  val : ∀ k, zv ls k = Z k
theorem PlF.same {a b : GL} {Z : ZF} {N M : Nat} (ha : PlF a Z N) (hb : PlF b Z M) : a.map (·.1) = b.map (·.1) := by
  refine sorted_keys (List.pairwise_map.2 ha.so) (List.pairwise_map.2 hb.so) fun k => ?_
  rw [ha.nz.keys, hb.nz.keys, ha.val, hb.val]
theorem PlF.at_ {a b : GL} {Z : ZF} {N M i : Nat} (ha : PlF a Z N) (hb : PlF b Z M) {p q : (Int × Int) × IV} (hp : a[i]? = some p) (hq : b[i]? = some q) : p.1 = q.1 ∧ ival p.2 = ival q.2 := by
  have e := ha.same hb
  have e1 : (a.map (·.1))[i]? = some p.1 := by rw [List.getElem?_map, hp]; rfl
  have e2 : (b.map (·.1))[i]? = some q.1 := by rw [List.getElem?_map, hq]; rfl
  rw [e, e2] at e1
  have e3 : q.1 = p.1 := Option.some.inj e1
  refine ⟨e3.symm, ?_⟩
  rw [← zv_mem ha.nd (List.mem_of_getElem? hp), ← zv_mem hb.nd (List.mem_of_getElem? hq), ha.val, hb.val, e3]
theorem Fr.addPl {S : Nat → Prop} {w0 w w' : World} {L : List VB} {D : List DP} {b N c : Nat} {ls : GL} (hF : Fr w0 w L D S) (hE : Ext w w') (hb : w.heap.size ≤ b) (hs : Sm 4 plc w'.heap w'.heap.size (some ⟨b, 0, none⟩) N c ls) (hv : ∀ p ∈ ls, LI w'.heap (ival p.2) p.2 ∧ p.2.m.n ≤ 16384) : Fr w0 w' L (dpGv ls :: dpSmG 4 plc (some ⟨b, 0, none⟩) N c ls :: D) S :=
  Fr.addGv (Fr.addSm' hF hE hs fun k hk => by
    obtain ⟨_, o, e⟩ := hk
    cases e
    exact hb) hv
end Go.Eng
namespace Go.Proofs.Ytlpheckjogphmaa
open Go Go.Eng Go.Proofs Go.NatM Go.RowKit
theorem GZ.inr {H : Array Obj} {g m r c N n : Nat} {Z : ZF} {l : GL} (hz : NZ l) (hv : ∀ k, zv l k = Z k) (hi : InS n Z) : ∀ p ∈ l, 0 ≤ p.1.2 ∧ p.1.2 < (n : Int) := fun p hp => (hi p.1 (by rw [← hv]; exact (hz.keys _).1 (List.mem_map_of_mem hp))).2
def RetPq (w : World) (Z : ZF) (N : Nat) (e : Ending) (w' : World) : Prop := ∃ (ls : GL) (b c : Nat), e = .returned (.slice (some ⟨b, 0, none⟩) N c) ∧ Ext w w' ∧ w.heap.size ≤ b ∧ Sm 4 plc w'.heap w'.heap.size (some ⟨b, 0, none⟩) N c ls ∧ (∀ p ∈ ls, LI w'.heap (ival p.2) p.2 ∧ p.2.m.n ≤ 16384) ∧ PlF ls Z N
theorem placesS (w : World) (g m r c N : Nat) (Z : ZF) (hG : GZ w.heap g m r c Z N) (hl : N ≤ 4096) : Cl Try.prog 13 #[.pointer (some ⟨g, 0, none⟩)] w (RetPq w Z N) := by
  obtain ⟨l, hG, hz, rfl, hv⟩ := hG
  refine (gplaces_ok sort_ok w g m r c l hG (by omega)).mono ?_
  rintro e w' ⟨ls, b, c', zs, rfl, ⟨hlc, _, _⟩, hF, hso, hnd, hlen, hk⟩
  have hb := (hF.vars _ (List.mem_cons_self ..)).1.resolve_right id
  have hzv : ∀ k, zv ls k = Z k := fun k => by rw [zv_zk, hk, ← zv_zk, hv]
  rw [hlen] at hlc ⊢
  refine ⟨ls, b, c', rfl, hF.ext, hb, pb_sm hF (by repeat (first | exact InV.head | apply InV.tail)) hlen hlc, Fr.gv (l := ls) hF (by repeat (first | exact memH | apply memT)), hso, hnd, fun p hp => ?_, hlen, hzv⟩
  have h1 := hk p.1
  have h2 : zk ls p.1 = some (ival p.2) := by unfold zk; rw [lkp_of_mem hnd (x := p.1) (v := p.2) hp]; rfl
  rw [h2] at h1
  unfold zk at h1
  cases hq : lkp l p.1 with
  | none => rw [hq] at h1; cases h1
  | some y =>
    rw [hq] at h1
    have e1 : ival p.2 = ival y := Option.some.inj h1
    rw [e1]
    exact hz _ (lkp_mem hq)
end Go.Proofs.Ytlpheckjogphmaa

set_option linter.unusedSectionVars false
namespace Go.Proofs.Ytlpheckjogphmaa
open Go Go.Eng Go.Proofs Go.NatM Go.RowKit
theorem alikeS (w : World) (x y : IV) (gx : GI w.heap x) (gy : GI w.heap y) (hl : x.m.l = y.m.l) (hn : x.neg = y.neg) (hx : x.m.n ≤ 1099511627776) (hy : y.m.n ≤ 1099511627776) : Cl Try.prog 17 #[ivA x, ivA y] w (YesM w) := by
  have hs := gx.s
  have hs' := gy.s
  obtain ⟨xn, ⟨xA, xk, xc, xl⟩⟩ := x
  obtain ⟨yn, ⟨yA, yk, yc, yl⟩⟩ := y
  dsimp only at hl hn hx hy hs hs'
  subst hn
  refine enter Try.func17 rfl rfl rfl ?_
  have hF := Fr.refl w
  repeat' (first | (refine TL.isOp ?_; first | (refine TL.isG ?_; first | refine TL.grun rfl rfl rfl ?_) | (refine TL.isCall ?_; refine TL.call rfl rfl ?_; first | (refine (same_t _ _ _ xA yA xk xc yk yc xl yl (hs.ext hF.ext) (hs'.ext hF.ext) (by omega) (by omega) hl).clX.mono ?_; rintro _ wc ⟨rfl, _, hE⟩; replace hF := hF.exts hE; clear hE; refine Back.mk ?_)) | (apply TL.ev; (case hd => rfl); (case h => (first | exact ev_simple rfl | (apply Ev.isBin; first | exact ev_eqlB (r := true) rfl rfl (beq_self_eq_true _)) | (apply Ev.isLoad; first | exact ev_loadFr hF rfl (by refine ⟨?_, ?_⟩; (focus (repeat (first | exact InV.head | apply InV.tail))); rfl)) | exact ev_fieldAddr rfl))) | (refine TL.boxAFr hF (d := 2) (cs := [.bool xn, .slice xA xk xc]) rfl rfl ?_; clear hF; intro w2 b2 hF) | (refine TL.boxAFr hF (d := 3) (cs := [.bool xn, .slice yA yk yc]) rfl rfl ?_; clear hF; intro w3 b3 hF)) | (refine T.is ?_; first | refine T.seq ?_ | refine T.region ?_ | refine T.ret ?_) | (refine G.is ?_; first | refine G.next ?_) | refine TL.nil ?_)
  all_goals exact G.ret1 rfl rfl ⟨rfl, hF.ext⟩
theorem alikeL (w : World) (x y : IV) {z : Int} (gx : LI w.heap z x) (gy : LI w.heap z y) (hx : x.m.n ≤ 1099511627776) (hy : y.m.n ≤ 1099511627776) : Cl Try.prog 17 #[ivA x, ivA y] w (YesM w) :=
  alikeS w x y gx.g gy.g (by rw [gx.d, gy.d]) (by rw [gx.e, gy.e]) hx hy
end Go.Proofs.Ytlpheckjogphmaa

set_option linter.unusedSectionVars false
namespace Go.Eng
open Go Go.Proofs Go.NatM Go.RowKit Go.Proofs.Ytlpheckjogphmaa
/-- code that does not begin with this region -/
def notHead (id : Nat) : Code → Bool
  | .region i _ _ => !(Nat.beq i id)
  | .seq a _ => notHead id a
  | _ => true
theorem T.seqM {P : Program} {N : Fm} {Q : Exit → Act → World → Prop} {σ : Go.Eng.Store} {w : World} {x y : Code} (id : Nat) (hn : notHead id x = true) (h : T P N x (Exit.then (y.wp P Q) Q) σ w) : T P N (x.seq y) Q σ w := T.seq h
/-- the functions that the law's grid goes through -/
structure FullF (a vv vy : Int) (Z0 Z2 Z3 : Int × Int → Int) : Prop where
  free : Z0 (1, (a + 4096) % 5000) = 0
  row : ∀ p : Int, Z0 (0, p) = 0
  at_ : Z0 (1, a) = vv
  two : ∀ k, updZ Z0 (1, a) vy k = Z2 k
  row2 : ∀ k, Z2 k ≠ 0 → k.1 = 1
  one2 : Z2 (1, (a + 1) % 5000) = vv
  zero2 : Z2 (0, (a + 1) % 5000) = 0
  sm2 : ∀ k, ¬ bigZ (Z2 k)
  three : ∀ k, rowF Z2 1 1 1 k = Z3 k
  sm3 : ∀ k, ¬ bigZ (Z3 k)
  iff3 : ∀ k, Z3 k ≠ 0 ↔ Z2 k ≠ 0
  one3 : Z3 (1, (a + 1) % 5000) = vv + vv
  row3 : ∀ k, Z3 k ≠ 0 → k.1 = 1
end Go.Eng
namespace Go.Proofs.Ytlpheckjogphmaa
open Go Go.Eng Go.Proofs Go.NatM Go.RowKit

end Go.Proofs.Ytlpheckjogphmaa

set_option linter.unusedSectionVars false
namespace Go.Eng
open Go Go.Proofs Go.NatM Go.RowKit Go.Proofs.Ytlpheckjogphmaa
theorem PlF.bl {ls : GL} {Z : ZF} {N X : Nat} (h : PlF ls Z N) (hb : ∀ j p, j < N → ls[j]? = some p → bl (ival p.2).natAbs ≤ X) : BlZ Z X := fun k => by
  by_cases h0 : Z k = 0
  · rw [h0]; exact Nat.zero_le _
  · rw [← h.val] at h0
    obtain ⟨p, hp, e⟩ := List.mem_map.1 ((h.nz.keys k).2 h0)
    obtain ⟨j, hj⟩ := List.mem_iff_getElem?.1 hp
    rw [← h.val, ← e, zv_mem h.nd hp]
    exact hb j p (by rw [← h.len]; exact (List.getElem?_eq_some_iff.1 hj).1) hj
end Go.Eng
namespace Go.Proofs.Ytlpheckjogphmaa
open Go Go.Eng Go.Proofs Go.NatM Go.RowKit
end Go.Proofs.Ytlpheckjogphmaa

set_option linter.unusedSectionVars false
namespace Go.Eng
open Go Go.Proofs Go.NatM Go.RowKit Go.Proofs.Ytlpheckjogphmaa
section
variable {P : Program} {N : Fm} {Q : Exit → Act → World → Prop} {σ : Go.Eng.Store} {S : Nat → Prop} {w0 w : World} {L : List VB} {D : List DP} {l : List Oper}
/-- a drawn region in which the newest fact may change -/
theorem T.regionFd {d : DP} (hF : Fr w0 w L (d :: D) S) (id : Nat) (f : Nat) (t : Rt) (hm : P.follows .mixedOrders = true) (hB : treeB l.toArray f t = true)
    (h : ∀ w1 : World, Fr w0 w1 L (d :: D) S → TF P N l Q (fun w' => Fr w0 w' L D S) f t σ w1) : T P N (.region id l.toArray true) Q σ w :=
  T.regionF _ f t hm hB ((hF.weak (List.Sublist.refl _) (allT allR)).exts (ext_drewN w 1)) (h _ (hF.exts (ext_drewN w 1)))
end
end Go.Eng
namespace Go.Proofs.Ytlpheckjogphmaa
open Go Go.Eng Go.Proofs Go.NatM Go.RowKit
end Go.Proofs.Ytlpheckjogphmaa

namespace Go.Eng
open Go Go.RowKit
/-- what rounds keep: what is neither cells nor a map -/
structure KeepO (W W' : World) : Prop where
  size : W.heap.size ≤ W'.heap.size
  same : ∀ (k : Nat) (o : Obj), W.heap[k]? = some o → keepsObj o = false → W'.heap[k]? = some o
section
variable {S : Nat → Prop} {w0 w w' W : World} {L : List VB} {D : List DP} {B : Nat}
structure OpnK (w0 W : World) (S : Nat → Prop) : Prop where
  ext : Ext w0 W
  lo : ∀ k, S k → w0.heap.size ≤ k
  cells : ∀ k, S k → ∃ o : Obj, W.heap[k]? = some o ∧ keepsObj o = true
/-- from W on: the blocks of L may be written, and one map -/
theorem Fr.openK (h : Fr w0 W L D) {m : Nat} {x : Obj} (hm : w0.heap.size ≤ m) (hx : W.heap[m]? = some x) (hk : keepsObj x = true) : ∃ S, OpnK w0 W S ∧ Fr W W L D S ∧ S m :=
  ⟨fun k => (∃ v ∈ L, v.b = k) ∨ k = m, ⟨h.ext, fun k hS => by
      rcases hS with ⟨v, hv, e⟩ | e
      · rcases (h.vars v hv).1 with h1 | h1
        · exact e ▸ h1
        · exact h1.elim
      · exact e ▸ hm, fun k hS => by
      rcases hS with ⟨v, hv, e⟩ | e
      · exact ⟨_, e ▸ (h.vars v hv).2, rfl⟩
      · exact ⟨x, e ▸ hx, hk⟩⟩,
    ⟨Exs.refl _ _, fun v hv => ⟨.inr (.inl ⟨v, hv, rfl⟩), (h.vars v hv).2⟩, h.dist, h.data, h.apart⟩, .inr rfl⟩
theorem Fr.outerK (hO : OpnK w0 W S) (h : Fr W w L D S) : Ext w0 w :=
  ⟨h.exs.os.trans hO.ext.os, h.exs.tape.trans hO.ext.tape, h.exs.output.trans hO.ext.output, Nat.le_trans hO.ext.size h.exs.size, fun k hk => (h.exs.block k (Nat.lt_of_lt_of_le hk hO.ext.size) (fun hs => by have := hO.lo k hs; omega)).trans (hO.ext.block k hk)⟩
theorem Fr.shutK (hO : OpnK w0 W S) (h : Fr W w L D S) : Fr w0 w L D :=
  ⟨.of (h.outerK hO), fun v hv => ⟨.inl (by rcases (h.vars v hv).1 with h1 | h1; exact Nat.le_trans hO.ext.size h1; exact hO.lo _ h1), (h.vars v hv).2⟩, h.dist, h.data, h.apart⟩
theorem Fr.othersK (hO : OpnK w0 W S) (h : Fr W w L D S) : KeepO W w :=
  ⟨h.exs.size, fun k o hk ho => (h.exs.block k (Array.getElem?_eq_some_iff.1 hk).1 (fun hs => by obtain ⟨o', h1, h2⟩ := hO.cells k hs; rw [hk] at h1; cases h1; rw [ho] at h2; cases h2)).trans hk⟩
end
theorem TI.mk {P : Program} {R : Option Nat} {N : Fm} {c : Code} {Q : Exit → Act → World → Prop} {σ : Store} {w : World} (h : NoOut Q → ∀ a, Rep N σ a → c.wpIn (wideR R) 0 P Q a w) : TI P R N c Q σ w := by unfold TI; exact h
theorem TI.run {P : Program} {R : Option Nat} {N : Fm} {c : Code} {Q : Exit → Act → World → Prop} {σ : Store} {w : World} (h : TI P R N c Q σ w) (hno : NoOut Q) {a : Act} (ha : Rep N σ a) : c.wpIn (wideR R) 0 P Q a w := by unfold TI at h; exact h hno a ha
/-- how the body of a round may be left -/
def RPostK (I : World → Prop) (Ix : Code → World → Prop) (W : World) : Exit → Act → World → Prop
  | .normal, _, w' => KeepO W w' ∧ I w'
  | .ret, _, w' => KeepO W w' ∧ Ix .ret w'
  | .exit id, _, w' => KeepO W w' ∧ Ix (.exit id) w'
  | _, _, _ => False
/-- behind the assignment to the loop's left sides -/
def BegunK (P : Program) (B l : Nat) (body : Code) (I : World → Prop) (Ix : Code → World → Prop) (W : World) (a₁ : Act) (w₁ : World) : Prop :=
  KeepO W w₁ ∧ ∀ w₂, Cx B w₁ w₂ → (∃ r, w₂.heap[l]? = some (.loop r)) → body.wpIn (wideR (some l)) 0 P (RPostK I Ix w₂) a₁ w₂
theorem G.begunK {P : Program} {N : Fm} {σ : Store} {B l : Nat} {body : Code} {I : World → Prop} {Ix : Code → World → Prop} {Q : Exit → Act → World → Prop} {W w : World} (hK : KeepO W w)
    (h : ∀ w₂, Cx B w w₂ → (∃ r, w₂.heap[l]? = some (.loop r)) → TI P (some l) N body (RPostK I Ix w₂) σ w₂) : G N .normal (Exit.then (BegunK P B l body I Ix W) Q) σ w := by
  unfold G; exact fun a ha => ⟨hK, fun w₂ hc hr => (h w₂ hc hr).run (fun _ _ h => h) ha⟩
theorem TI.rangeFuncK {P : Program} {n : Nat} {Q : Exit → Act → World → Prop} {σ : Store} {w : World} {g : Operand} {ps : List Nat} {assign body : Code} {gf : FuncId} {cap : List Value} {β : Type} {args : β → List Value} {m : Nat} {It : World → Prop} {Fx : Nat → β → World → World → Prop}
    (hIt : Iter P gf cap args m It Fx) (hg : look σ g = some (.func (.func gf) #[] cap.toArray)) (hfn : IsFn P gf) (hps : ∀ x, (args x).length = ps.length) (hpn : ps.all (fun p => Nat.blt p n) = true)
    (it0 : It w) (hItc : ∀ W W', It W → Cx w.heap.size W W' → It W')
    (I : Nat → World → Prop) (Ix : Code → World → Prop) (hI : ∀ i W W', I i W → Cx w.heap.size W W' → I i W') (hIx : ∀ c W W', Ix c W → Cx w.heap.size W W' → Ix c W') (h0 : I 0 w)
    (hround : ∀ l i x Wb W, i < m → w.heap.size + 1 ≤ l → (∃ r, W.heap[l]? = some (.loop r)) → I i Wb → It Wb → Ext Wb W → Fx i x Wb W → TI P (some l) ⟨n, []⟩ assign (Exit.then (BegunK P w.heap.size l body (fun w' => I (i + 1) w' ∧ It w') Ix W) (fun _ _ _ => False)) (putAll ps (args x) σ) W)
    (hdone : ∀ D w', w.heap.size ≤ D → w'.heap[D]? = some (.deferred (some [])) → I m w' → It w' → G ⟨n, [markOf D]⟩ .normal Q σ w')
    (hstop : ∀ D c w', w.heap.size ≤ D → w'.heap[D]? = some (.deferred (some [])) → Ix c w' → TI P none ⟨n, [markOf D]⟩ c Q σ w') :
    TI P none ⟨n, []⟩ (.rangeFunc g ps.toArray assign body) Q σ w := by
  refine TI.mk fun hno a ha => ?_
  refine wpIn_rangeFunc (F := wideR none) (n := 0) ?_
  intro fn _
  have hnd : a.defers = [] := ha.nodef
  obtain ⟨rec, hrec⟩ : ∃ rec : LoopState → Option Code → Loop, rec = fun st pe => { state := st, pending := pe, fn, tmps := a.tmps, params := ps.toArray, assign, body, defers := w.heap.size } := ⟨_, rfl⟩
  obtain ⟨W1, hW1⟩ : ∃ W1, (w.alloc (.deferred (some []))).alloc (.loop (rec .ready none)) = W1 := ⟨_, rfl⟩
  have hE1 : Ext w W1 := by rw [← hW1]; exact Ext.trans (ext_alloc _ _) (ext_alloc _ _)
  have hL1 : W1.heap[w.heap.size + 1]? = some (.loop (rec .ready none)) := by
    rw [← hW1]; have := World.alloc_heap_new (w.alloc (.deferred (some []))) (.loop (rec .ready none)); rwa [World.size_alloc] at this
  have hK1 : W1.heap[w.heap.size]? = some (.deferred (some [])) := by
    rw [← hW1]; exact (Below.heap_alloc _ _ _ (by simp)).trans (World.alloc_heap_new w _)
  have ef := ha.agree _ _ hg
  refine ⟨w.heap.size + 1, [markOf w.heap.size], W1, { target := .fn (.func gf) cap.toArray, args := #[.func (.yield (w.heap.size + 1)) #[] #[]] }, W1, gf,
    (Value.func (.yield (w.heap.size + 1)) #[] #[] :: cap).toArray, W1, ?_, ?_, fun _ _ => trivial, ?_, fun e => (by cases e), ?_⟩
  · rw [← hW1, hrec]; exact run_enterLoop_outer _ _ _ _ _
  · simp only [resolve, ef]
    simp [go_sem]
  · simp [invoke, run_callFunc_enter hfn]
  · have recE : ∀ {W W' : World} {o : Obj} {k : Nat}, W.heap[k]? = some o → Ext W W' → W'.heap[k]? = some o := fun h hE => (hE.block _ (Array.getElem?_eq_some_iff.1 h).1).trans h
    refine calls_in ((hIt (w.heap.size + 1) (fun i W => I i W ∧ W.heap[w.heap.size + 1]? = some (.loop (rec .ready none)) ∧ W.heap[w.heap.size]? = some (.deferred (some [])))
      (fun W => ∃ c, Ix c W ∧ W.heap[w.heap.size + 1]? = some (.loop (rec .done (some c))) ∧ W.heap[w.heap.size]? = some (.deferred (some []))) W1
      (fun i W W' h hE => ⟨hI i W W' h.1 (.of hE), recE h.2.1 hE, recE h.2.2 hE⟩) (fun W W' ⟨c, h⟩ hE => ⟨c, hIx c W W' h.1 (.of hE), recE h.2.1 hE, recE h.2.2 hE⟩)
      (hItc _ _ it0 (.of hE1)) ⟨hI _ _ _ h0 (.of hE1), hL1, hK1⟩ ?_).mono ?_)
    · rintro i x Wb W hi ⟨hi0, hl, hk⟩ hit hEb hfx
      replace hl := recE hl hEb
      replace hk := recE hk hEb
      have hlt : w.heap.size + 1 < W.heap.size := (Array.getElem?_eq_some_iff.1 hl).1
      have hy := run_yield (P := P) (args := (args x).toArray) hl (by rw [hrec]; simpa using hps x)
      rw [hrec] at hy
      refine ⟨fn, _, assign, body, hy, roundIn_of_wpIn (F := Fence.wide) (n := 0) trivial ?_⟩
      have hrep : Rep ⟨n, []⟩ (putAll ps (args x) σ) { tmps := (ps.toArray.zip (args x).toArray).foldl (fun t (x : Nat × Value) => t.setIfInBounds x.1 x.2) a.tmps, defers := [] } := by
        have := Rep.fold ps (args x) ha hpn
        rw [hnd] at this
        simpa [List.zip_toArray] using this
      refine wpIn_mono ((hround (w.heap.size + 1) i x Wb W hi (Nat.le_refl _) ⟨_, hl⟩ hi0 hit hEb hfx).run (fun _ _ h => h) hrep) ?_
      rintro e a₁ w₁ hq
      cases e with
      | normal =>
        obtain ⟨hk1, hbody⟩ := hq
        have hl1 := hk1.same _ _ hl rfl
        have hd1 := hk1.same _ _ hk rfl
        have hlt1 := (Array.getElem?_eq_some_iff.1 hl1).1
        refine ⟨_, run_beginRound hl1 (by rw [hrec]), ?_⟩
        have hc2 : Cx w.heap.size w₁ (w₁.putObj (w.heap.size + 1) (.loop { rec .ready none with state := .busy })) := .put _ (by omega) hl1 rfl
        have hl2 : (w₁.putObj (w.heap.size + 1) (.loop { rec .ready none with state := .busy })).heap[w.heap.size + 1]? = some (.loop { rec .ready none with state := .busy }) := World.putObj_heap_same hlt1
        have hk2 : (w₁.putObj (w.heap.size + 1) (.loop { rec .ready none with state := .busy })).heap[w.heap.size]? = some (.deferred (some [])) := (World.putObj_heap_other (by omega)).trans hd1
        refine wpIn_mono (hbody _ hc2 ⟨_, hl2⟩) ?_
        have fin : ∀ (jump : Option Code) (W3 : World), KeepO (w₁.putObj (w.heap.size + 1) (.loop { rec .ready none with state := .busy })) W3 →
            ∃ W4, (Instr.endRound (w.heap.size + 1) jump).run P W3 = .ok (.bool jump.isNone) W4 ∧ Cx w.heap.size W3 W4 ∧
            W4.heap[w.heap.size + 1]? = some (.loop (rec (if jump.isNone then .ready else .done) jump)) ∧ W4.heap[w.heap.size]? = some (.deferred (some [])) := fun jump W3 hk3 => by
          have hl3 := hk3.same _ _ hl2 rfl
          have := run_endRound (P := P) jump hl3
          refine ⟨_, this, .put _ (by omega) hl3 rfl, ?_, (World.putObj_heap_other (by omega)).trans (hk3.same _ _ hk2 rfl)⟩
          rw [World.putObj_heap_same (Array.getElem?_eq_some_iff.1 hl3).1, hrec]
        rintro e a3 W3 hp
        cases e with
        | normal =>
          obtain ⟨W4, hr, hc4, hl4, hk4⟩ := fin none W3 hp.1
          exact ⟨_, _, hr, .inl ⟨rfl, ⟨hI _ _ _ hp.2.1 hc4, hl4, hk4⟩, hItc _ _ hp.2.2 hc4⟩⟩
        | ret =>
          obtain ⟨W4, hr, hc4, hl4, hk4⟩ := fin (some .ret) W3 hp.1
          exact ⟨_, _, hr, .inr ⟨rfl, .ret, hIx _ _ _ hp.2 hc4, hl4, hk4⟩⟩
        | exit id =>
          obtain ⟨W4, hr, hc4, hl4, hk4⟩ := fin (some (.exit id)) W3 hp.1
          exact ⟨_, _, hr, .inr ⟨rfl, .exit id, hIx _ _ _ hp.2 hc4, hl4, hk4⟩⟩
        | goto t => exact hp.elim
        | panic ch => exact hp.elim
        | outgrown => exact hp.elim
      | _ => exact hq.elim
    · rintro e W2 ⟨⟨v, rfl⟩, (⟨⟨hi, hl, hk⟩, hit⟩ | ⟨c, hi, hl, hk⟩)⟩
      · have hc : Cx w.heap.size W2 (W2.putObj (w.heap.size + 1) (.loop { rec .ready none with state := .exhausted })) := .put _ (by omega) hl rfl
        have hq := hdone w.heap.size _ (Nat.le_refl _) ((World.putObj_heap_other (by omega)).trans hk) (hI _ _ _ hi hc) (hItc _ _ hit hc)
        unfold G at hq
        refine ⟨none, _, (run_endLoop (P := P) hl (by rw [hrec]; simp)).trans (congrArg (fun x => Result.ok x _) (show (rec .ready none).pending = none by rw [hrec])), ?_⟩
        exact hq _ ⟨ha.size, by simp [hnd], ha.get⟩
      · have hc : Cx w.heap.size W2 (W2.putObj (w.heap.size + 1) (.loop { rec .done (some c) with state := .exhausted })) := .put _ (by omega) hl rfl
        refine ⟨some c, _, (run_endLoop (P := P) hl (by rw [hrec]; simp)).trans (congrArg (fun x => Result.ok x _) (show (rec .done (some c)).pending = some c by rw [hrec])), ?_⟩
        exact (hstop w.heap.size c _ (Nat.le_refl _) ((World.putObj_heap_other (by omega)).trans hk) (hIx _ _ _ hi hc)).run hno ⟨ha.size, by simp [hnd], ha.get⟩

theorem G.roundK {N : Fm} {σ : Store} {I : World → Prop} {Ix : Code → World → Prop} {W w : World} (hK : KeepO W w) (h : I w) : G N .normal (RPostK I Ix W) σ w := by
  unfold G; exact fun a ha => ⟨hK, h⟩
end Go.Eng

set_option linter.unusedSectionVars false
namespace Go.Proofs.Ytlpheckjogphmaa
open Go Go.Eng Go.Proofs Go.NatM Go.RowKit
theorem indexLong (w : World) (n k : Nat) (A : Option Addr) (l : List IV) (hs : Sm 2 ivc w.heap w.heap.size A n k l) (hn : n ≤ 1048576) (hg : ∀ y ∈ l, GI w.heap y ∧ y.m.n ≤ 1099511627776) :
    Cl Try.prog 79 #[.slice A n k, .func (.func 46) #[] #[]] w (fun e w' => ∃ r : Int, e = .returned (.int .i64 r) ∧ Ext w w' ∧ (0 ≤ r ↔ ∃ y ∈ l, big y)) := by
  have hl := hs.len
  refine enter Try.func79 rfl rfl rfl ?_
  have hF := Fr.refl w
  repeat' (first | (refine TL.isOp ?_; first | (apply TL.ev; (case hd => rfl); (case h => (first | exact ev_simple rfl | exact ev_len rfl)))) | (refine T.is ?_; first | refine T.seq ?_ | refine T.region ?_ | refine T.block ?_) | (refine G.is ?_; first | refine G.next ?_) | refine TL.nil ?_)
  refine T.loop (α := Nat) (fun i => [(0, .slice A n k), (1, .func (.func 46) #[] #[]), (6, .slice A n k), (7, .int .i64 (n : Int)), (8, .int .i64 (i : Int))]) (fun i w' => i ≤ n ∧ (∀ j y, j < i → l[j]? = some y → ¬ big y) ∧ Fr w w' [] []) (fun i => n - i) 0 (by repeat (first | exact Sub.nil _ | refine Sub.cons rfl ?_ | refine Sub.cons' rfl (int_congr (by omega)) ?_)) ⟨Nat.zero_le _, fun j y h => absurd h (Nat.not_lt_zero _), hF⟩ ?_
  clear hF
  rintro i w1 ⟨hi, hb, hF⟩
  rcases Nat.lt_or_ge i n with hin | hin
  · obtain ⟨y, hy⟩ : ∃ y, l[i]? = some y := ⟨_, List.getElem?_eq_getElem (by omega)⟩
    have gy := hg y (List.mem_of_getElem? hy)
    have hym := List.mem_of_getElem? hy
    rcases hs.mem with h0 | ⟨bA, oA, rfl, _⟩
    · exact absurd h0 (by omega)
    obtain ⟨ys, ⟨yA, yn, yc, yl⟩⟩ := y
    by_cases hbig : big ⟨ys, ⟨yA, yn, yc, yl⟩⟩
    · have hlong := fun w1 (hE : Ext w w1) => long_ok w1 ⟨ys, ⟨yA, yn, yc, yl⟩⟩ (gy.1.ext hE) gy.2 true ⟨fun _ => hbig, fun _ => rfl⟩
      repeat' (first | (refine TL.isOp ?_; first | (refine TL.isBin ?_; refine TL.cmpG rfl rfl rfl rfl (fun hc => ?_) (fun hc => ?_) <;> (try (first | (exfalso; omega) | exact absurd rfl hc))) | (apply TL.ev; (case hd => rfl); (case h => (first | exact ev_simple rfl | (apply Ev.isLoad; first | exact ev_loadM rfl (hs.ext hF.ext) hy) | exact ev_indexM rfl rfl hin (hs.ext hF.ext).some))) | (refine TL.callV (vs := [.agg (ivc ⟨ys, ⟨yA, yn, yc, yl⟩⟩).toArray]) (cap := []) inferInstance rfl rfl rfl ?_; refine (hlong _ hF.ext).mono ?_; rintro _ wf ⟨rfl, hE⟩; replace hF := hF.exts hE; clear hE; refine Back.mk ?_)) | (refine T.is ?_; first | refine T.seq ?_ | refine T.region ?_ | refine T.block ?_ | refine T.cond_t rfl ?_ | refine T.ret ?_ | refine T.skip ?_) | (refine G.is ?_; first | refine G.next ?_ | refine G.blockR ?_ | refine G.thenR ?_) | refine TL.nil ?_)
      all_goals exact G.ret1 rfl rfl ⟨_, rfl, hF.ext, ⟨fun _ => ⟨_, hym, hbig⟩, fun _ => by omega⟩⟩
    · have hlong := fun w1 (hE : Ext w w1) => long_ok w1 ⟨ys, ⟨yA, yn, yc, yl⟩⟩ (gy.1.ext hE) gy.2 false ⟨fun h => (by cases h), fun h => absurd h hbig⟩
      repeat' (first | (refine TL.isOp ?_; first | (refine TL.isBin ?_; refine TL.cmpG rfl rfl rfl rfl (fun hc => ?_) (fun hc => ?_) <;> (try (first | (exfalso; omega) | exact absurd rfl hc))) | (apply TL.ev; (case hd => rfl); (case h => (first | exact ev_simple rfl | (apply Ev.isBin; first | exact ev_arN rfl rfl rfl (by omega)) | (apply Ev.isLoad; first | exact ev_loadM rfl (hs.ext hF.ext) hy) | exact ev_indexM rfl rfl hin (hs.ext hF.ext).some))) | (refine TL.callV (vs := [.agg (ivc ⟨ys, ⟨yA, yn, yc, yl⟩⟩).toArray]) (cap := []) inferInstance rfl rfl rfl ?_; refine (hlong _ hF.ext).mono ?_; rintro _ wf ⟨rfl, hE⟩; replace hF := hF.exts hE; clear hE; refine Back.mk ?_)) | (refine T.is ?_; first | refine T.seq ?_ | refine T.region ?_ | refine T.block ?_ | refine T.cond_t rfl ?_ | refine T.cond_f rfl ?_ | refine T.skip ?_) | (refine G.is ?_; first | refine G.next ?_ | refine G.blockN ?_) | refine TL.nil ?_)
      all_goals exact G.again (i + 1) (by repeat (first | exact Sub.nil _ | refine Sub.cons rfl ?_ | refine Sub.cons' rfl (int_congr (by omega)) ?_)) ⟨hin, fun j z hj hz => by
        rcases Nat.lt_or_ge j i with h | h
        · exact hb j z h hz
        · obtain rfl : j = i := by omega
          rw [hy] at hz
          obtain rfl := Option.some.inj hz
          exact hbig, hF⟩ (by omega)
  · obtain rfl : i = n := by omega
    repeat' (first | (refine TL.isOp ?_; first | (refine TL.isBin ?_; refine TL.cmpG rfl rfl rfl rfl (fun hc => ?_) (fun hc => ?_) <;> (try (first | (exfalso; omega) | exact absurd rfl hc))) | (apply TL.ev; (case hd => rfl); (case h => (first | exact ev_simple rfl)))) | (refine T.is ?_; first | refine T.seq ?_ | refine T.region ?_ | refine T.cond_f rfl ?_ | refine T.exit ?_ | refine T.ret ?_) | (refine G.is ?_; first | refine G.next ?_ | refine G.blockE ?_ | refine G.thenE ?_) | refine TL.nil ?_)
    all_goals exact G.ret1 rfl rfl ⟨_, rfl, hF.ext, ⟨fun h => absurd h (by decide), fun ⟨y, hy, h⟩ => by
      obtain ⟨j, hj⟩ := List.mem_iff_getElem?.1 hy
      exact absurd h (hb j y (by rw [← hl]; exact (List.getElem?_eq_some_iff.1 hj).1) hj)⟩⟩
theorem containsLong (w : World) (n k : Nat) (A : Option Addr) (l : List IV) (hs : Sm 2 ivc w.heap w.heap.size A n k l) (hn : n ≤ 1048576) (hg : ∀ y ∈ l, GI w.heap y ∧ y.m.n ≤ 1099511627776) (b : Bool) (hb : b = true ↔ ∃ y ∈ l, big y) :
    Cl Try.prog 45 #[.slice A n k, .func (.func 46) #[] #[]] w (fun e w' => e = .returned (.bool b) ∧ Ext w w') := by
  refine enter Try.func45 rfl rfl rfl ?_
  have hF := Fr.refl w
  repeat' (first | (refine TL.isOp ?_; first | (refine TL.isCall ?_; refine TL.call rfl rfl ?_; first | (refine (indexLong _ n k A l hs hn hg).mono ?_; rintro _ wf ⟨r, rfl, hE, hr⟩; replace hF := hF.exts hE; clear hE; refine Back.mk ?_)) | (refine TL.isBin ?_; refine TL.cmpG rfl rfl rfl rfl (fun hc => ?_) (fun hc => ?_) <;> (try (first | (exfalso; omega) | exact absurd rfl hc))) | (apply TL.ev; (case hd => rfl); (case h => (first | exact ev_simple rfl)))) | (refine T.is ?_; first | refine T.seq ?_ | refine T.region ?_ | refine T.ret ?_) | (refine G.is ?_; first | refine G.next ?_) | refine TL.nil ?_)
  all_goals first
    | (have e : b = true := hb.2 (hr.1 (by omega)); subst e; exact G.ret1 rfl rfl ⟨rfl, hF.ext⟩)
    | (have e : b = false := by cases b with | false => rfl | true => exact absurd (hr.2 (hb.1 rfl)) (by omega)
       subst e; exact G.ret1 rfl rfl ⟨rfl, hF.ext⟩)
end Go.Proofs.Ytlpheckjogphmaa

namespace Go.Eng
open Go Go.RowKit
theorem op_in {R : Option Nat} {n : Nat} {P : Program} {ops : Array Oper} {Q : Exit → Act → World → Prop} {i : Nat} {a : Act} {w : World} {K K' : Act → World → Prop} (hno : NoOut Q) (hd : ∀ (j : Nat) (o : Oper), ops[j]? = some o → noDefer o = true) (hk : ∀ a w, K a w → K' a w)
    (h : wpOp P ops Q i K a w) : wpOpIn (wideR R) n P ops Q i K' a w := by
  unfold wpOp at h
  unfold wpOpIn
  cases ho : ops[i]? with
  | none => rw [ho] at h; exact hk _ _ h
  | some o =>
    rw [ho] at h
    dsimp only at h ⊢
    by_cases hw : Region.wanted o (yielded ops a.tmps) = true
    · rw [if_pos hw] at h ⊢
      rcases h with h | h
      · exact wp_in (hd i o ho) hk (fun _ _ _ h => h) (fun _ _ h => h) h
      · exact absurd h.2 hno.lets
    · rw [if_neg hw] at h ⊢
      exact ⟨fun _ _ => trivial, hk _ _ h⟩
theorem any_in {R : Option Nat} {n : Nat} {P : Program} {md : Region.Mode} {ops : Array Oper} {Q : Exit → Act → World → Prop} (hno : NoOut Q) (hd : ∀ (j : Nat) (o : Oper), ops[j]? = some o → noDefer o = true) : ∀ (fuel : Nat) (listed : Array Bool) (a : Act) (w : World), wpAny P md ops Q fuel listed a w → wpAnyIn (wideR R) n P md ops Q fuel listed a w
  | 0, _, _, _, h => h
  | fuel + 1, _, _, _, h => ⟨h.1, fun i hi => op_in hno hd (fun a w => any_in hno hd fuel _ a w) (h.2 i hi)⟩
section
variable {P : Program} {R : Option Nat} {N : Fm} {Q : Exit → Act → World → Prop} {σ : Store} {l : List Oper} {w : World}
theorem wpIn_region_tree {S : World → Prop} {id : Nat} {a : Act} {w : World} {l : List Oper} (f : Nat) (t : Rt) (hm : P.follows .mixedOrders = true) (hB : treeB l.toArray f t = true) (hnd : l.all noDefer = true) (hS : S (w.drewN 1))
    (h : wpTree P l.toArray (Only Q) S f t a (w.drewN 1)) : (Code.region id l.toArray true).wpIn (wideR R) 0 P Q a w := by
  simp only [treeB, Bool.and_eq_true, Nat.ble_eq] at hB
  obtain ⟨⟨hsel, hd⟩, hC⟩ := hB
  refine wpIn_mono (Q := Only Q) (wpIn_region_any hm (any_in (fun _ _ h => h.elim) (fun j o ho => ?_) _ _ _ _ (wpAny_of_F (S := S) (f := f) _ _ _ _ ?_))) ?_
  · rw [List.getElem?_toArray] at ho
    exact List.all_eq_true.1 hnd o (List.mem_of_getElem? ho)
  · exact (wpTree_both (P := P) (Q := Only Q) (S := S) (f := f) hsel (fun _ _ _ h => h.elim) t).1 _ _ _ _ ⟨by simp, fun j oj _ hl => (by rw [getD_replicate_false] at hl; cases hl)⟩ hd hC (.inr hS) h
  · intro e a w he
    cases e <;> first | exact he | exact he.elim
theorem TI.regionFI (S : World → Prop) {id : Nat} (f : Nat) (t : Rt) (hm : P.follows .mixedOrders = true) (hB : treeB l.toArray f t = true) (hnd : l.all noDefer = true) (hS : S (w.drewN 1)) (h : TF P N l Q S f t σ (w.drewN 1)) : TI P R N (.region id l.toArray true) Q σ w :=
  by
  unfold TF at h
  exact TI.mk fun _ a ha => wpIn_region_tree (S := S) f t hm hB hnd hS (h a ha)
end
section
variable {P : Program} {R : Option Nat} {N : Fm} {Q : Exit → Act → World → Prop} {σ : Store} {S : Nat → Prop} {w0 w : World} {L : List VB} {D : List DP} {l : List Oper}
/-- a drawn region, in a round or not, in which the newest fact may change -/
theorem TI.regionFd {d : DP} (hF : Fr w0 w L (d :: D) S) (id : Nat) (f : Nat) (t : Rt) (hm : P.follows .mixedOrders = true) (hB : treeB l.toArray f t = true) (hnd : l.all noDefer = true)
    (h : ∀ w1 : World, Fr w0 w1 L (d :: D) S → TF P N l Q (fun w' => Fr w0 w' L D S) f t σ w1) : TI P R N (.region id l.toArray true) Q σ w :=
  TI.regionFI _ f t hm hB hnd ((hF.weak (List.Sublist.refl _) (allT allR)).exts (ext_drewN w 1)) (h _ (hF.exts (ext_drewN w 1)))
theorem TI.regionFr (hF : Fr w0 w L D S) (id : Nat) (f : Nat) (t : Rt) (hm : P.follows .mixedOrders = true) (hB : treeB l.toArray f t = true) (hnd : l.all noDefer = true)
    (h : ∀ w1 : World, Fr w0 w1 L D S → TF P N l Q (fun w' => Fr w0 w' L D S) f t σ w1) : TI P R N (.region id l.toArray true) Q σ w :=
  TI.regionFI _ f t hm hB hnd (hF.exts (ext_drewN w 1)) (h _ (hF.exts (ext_drewN w 1)))
end
end Go.Eng

set_option linter.unusedSectionVars false
namespace Go.Eng
open Go Go.Proofs Go.NatM Go.RowKit Go.Proofs.Ytlpheckjogphmaa
/-- the rows ahead of i, and j places of row i -/
def rowsF (F : Nat → Nat → Int) (c i j : Nat) (k : Int × Int) : Int := if (0 ≤ k.1 ∧ 0 ≤ k.2 ∧ k.2 < (c : Int)) ∧ (k.1 < (i : Int) ∨ (k.1 = (i : Int) ∧ k.2 < (j : Int))) then F k.1.toNat k.2.toNat else 0
theorem rows_zero (F : Nat → Nat → Int) (c : Nat) (k : Int × Int) : rowsF F c 0 0 k = 0 := by unfold rowsF; rw [if_neg (by omega)]
theorem rows_step (F : Nat → Nat → Int) {c i j : Nat} (hj : j < c) (k : Int × Int) : updZ (rowsF F c i j) ((i : Int), (j : Int)) (F i j) k = rowsF F c i (j + 1) k := by
  obtain ⟨k1, k2⟩ := k
  unfold updZ
  by_cases h : ((i : Int), (j : Int)) = (k1, k2)
  · obtain ⟨rfl, rfl⟩ := Prod.mk.inj h
    rw [if_pos rfl]
    unfold rowsF
    rw [if_pos (by dsimp only; omega)]
    rfl
  · rw [if_neg h]
    have h' : ¬ (k1 = (i : Int) ∧ k2 = (j : Int)) := fun e => h (by rw [e.1, e.2])
    unfold rowsF
    dsimp only
    by_cases hw : (0 ≤ k1 ∧ 0 ≤ k2 ∧ k2 < (c : Int)) ∧ (k1 < (i : Int) ∨ (k1 = (i : Int) ∧ k2 < (j : Int)))
    · rw [if_pos hw, if_pos (by omega)]
    · rw [if_neg hw, if_neg (by omega)]
theorem rows_next (F : Nat → Nat → Int) (c i : Nat) (k : Int × Int) : rowsF F c i c k = rowsF F c (i + 1) 0 k := by
  unfold rowsF
  by_cases hw : (0 ≤ k.1 ∧ 0 ≤ k.2 ∧ k.2 < (c : Int)) ∧ (k.1 < (i : Int) ∨ (k.1 = (i : Int) ∧ k.2 < (c : Int)))
  · rw [if_pos hw, if_pos (by omega)]
  · rw [if_neg hw, if_neg (by omega)]
section
variable {S : Nat → Prop} {w0 w w' : World} {L : List VB} {D : List DP}
theorem lf_fpK {A : Option Addr} {n : Nat} (h : LF w A n) (k : Nat) (hk : fpA A n k) : w.heap.size ≤ k := by
  obtain ⟨h0, o, e⟩ := hk
  rcases h with h | ⟨b, hb, hs⟩
  · omega
  · rw [hb] at e; cases e; exact hs
theorem It.cxK {W W' : World} {B b : Nat} {t : TypeId} {cs : List Value} {x : MV} {r c K : Nat} {F : Nat → Nat → Int} (h : Vr W.heap b t cs ∧ LM W.heap x r c F K) (hc : Cx B W W') : Vr W'.heap b t cs ∧ LM W'.heap x r c F K :=
  ⟨by have h1 := h.1; unfold Vr at h1 ⊢; exact (hc.cells _ _ h1 rfl).trans h1, h.2.de hc.de⟩
/-- a matrix whose box is known whole -/
theorem Fr.addBoxK (h : Fr w0 w L D S) (hE : Ext w w') {b : Nat} {t : TypeId} {cs : List Value} {x : MV} {r c K : Nat} {F : Nat → Nat → Int} (hb : w.heap.size ≤ b) (hV : Vr w'.heap b t cs) (hc : cs.all flagless = true) (g : LM w'.heap x r c F K) (hf : MF w x) : Fr w0 w' (⟨b, t, cs⟩ :: L) (dpLM x r c F K :: D) S := by
  refine (h.newGe hb hV hE).add _ (by unfold dpLM; exact g) fun v hv hk => ?_
  have hk' : fpA x.A x.n v.b := by unfold dpLM at hk; exact hk
  rcases List.mem_cons.1 hv with rfl | hv
  · exact g.s.fp_flag hk' hV hc
  · have h1 := (h.vars v hv).2.lt
    have h2 := mf_fp hf _ hk'
    omega
theorem sm_map {α : Type} {k : Nat} {f : α → List Value} {H : Array Obj} {B : Nat} {A : Option Addr} {n c m : Nat} {l : List α} {es : Array MapEntry} {kk : Nat} (hs : Sm k f H B A n c l) (hm : H[m]? = some (.map es kk)) : ¬ fpA A n m := fun ⟨h0, o, e⟩ => by
  have hl := hs.len
  have hp := hs.pos
  rcases hs.mem with h | ⟨b, o', e', _, hc⟩
  · omega
  · rw [e] at e'
    cases e'
    have hw := hs.wid l[0] (List.getElem_mem (by omega))
    have := hc 0 l[0] (List.getElem?_eq_getElem (by omega)) 0 (f l[0])[0] (List.getElem?_eq_getElem (by omega))
    unfold hcell at this
    rw [hm] at this
    cases this
theorem nf_lk {i : Nat} {l : List IV} {Z : Nat → Int} {K m : Nat} : ¬ (dpLK i l Z K).fp m := by unfold dpLK; exact fun h => h
theorem nf_lm {x : MV} {r c K m : Nat} {F : Nat → Nat → Int} (h : ¬ fpA x.A x.n m) : ¬ (dpLM x r c F K).fp m := by unfold dpLM; exact h
end
end Go.Eng
namespace Go.Proofs.Ytlpheckjogphmaa
open Go Go.Eng Go.Proofs Go.NatM Go.RowKit
instance : UFunc Try.prog 85 := ⟨⟨_, _, _, Try.underlying85⟩⟩
theorem putS (w : World) (g m r c N : Nat) (Z : ZF) (p : Int × Int) (x : IV) (z : Int) (hG : GZ w.heap g m r c Z N) (hx : LI w.heap z x) (hn : x.m.n ≤ 16384) :
    Cl Try.prog 49 #[.pointer (some ⟨g, 0, none⟩), spot p, ivA x] w (fun e w' => ∃ N', e = .returned (.tuple #[]) ∧ Exs (fun k => k = m) w w' ∧ GZ w'.heap g m r c (updZ Z p z) N') := by
  obtain ⟨l, hG, hz, rfl, hv⟩ := hG
  refine (gput_ok w g m r c l p x z hG hx hn).mono ?_
  rintro e w' ⟨rfl, hE, hG2⟩
  refine ⟨_, rfl, hE, _, hG2, hz.put _ _, rfl, fun k => ?_⟩
  rw [zv_putL (Gr.nodup hG), hx.val]
  unfold updZ
  rw [hv]
def RetOf (w : World) (r c : Nat) (Z : ZF) (e : Ending) (w' : World) : Prop := ∃ g m N, e = .returned (.tuple #[.pointer (some ⟨g, 0, none⟩), .int .i64 0]) ∧ Ext w w' ∧ w.heap.size ≤ g ∧ w.heap.size ≤ m ∧ GZ w'.heap g m r c Z N
set_option maxRecDepth 100000 in
set_option maxHeartbeats 8000000 in
theorem ofS (w : World) (x : MV) (r c : Nat) (gx : GM w.heap x r c 1048576) (hb : ∀ y ∈ x.l, ¬ big y) :
    Cl Try.prog 9 #[.agg (mvc x).toArray] w (RetOf w r c (rowsF (ent x c) c r 0)) := by
  have hck := fun w1 => chk_ok w1 x r c gx.sh
  have hcl := fun w1 (hE : Ext w w1) => containsLong w1 x.n x.k x.A x.l (gx.s.ext hE).size (by have := gx.sh.n; have h1 := Nat.mul_le_mul gx.sh.r64 gx.sh.c64; omega) (fun y hy => ⟨(gx.g y hy).1.ext hE, Nat.le_trans (gx.g y hy).2 (by omega)⟩) false ⟨fun h => (by cases h), fun ⟨y, hy, h⟩ => absurd h (hb y hy)⟩
  have hln := fun w1 (hE : Ext w w1) => lines_ok w1 x r c 1048576 (gx.ext hE) (by omega)
  have her := gx.sh.er
  have hec := gx.sh.ec
  have hsm : ∀ i j, i < r → j < c → ¬ bigZ (ent x c i j) := fun i j hi hj => by
    have hlt := place_lt hi hj
    have hlen := gx.s.len
    have hxn := gx.sh.n
    have h1 : x.l[i * c + j]? = some (x.l.getD (i * c + j) default) := by simp [List.getD, show i * c + j < x.l.length by omega]
    have h2 := hb _ (List.mem_of_getElem? h1)
    unfold ent
    rw [← big_iff]; exact h2
  obtain ⟨F, hF0⟩ : ∃ F, ent x c = F := ⟨_, rfl⟩
  rw [hF0] at hsm ⊢
  simp only [hF0] at hln
  clear hF0
  obtain ⟨xr, xc, A, n, k, l⟩ := x
  dsimp only at her hec hcl
  subst her hec
  refine enterM Try.func9 rfl rfl rfl (fun _ h => by obtain ⟨_, _, _, h, _⟩ := h; cases h) ?_
  have hF := Fr.refl w
  repeat' (first | (refine TL.isOp ?_; first | (refine TL.isCall ?_; refine TL.call rfl rfl ?_; first | (refine (hck _).mono ?_; rintro _ wy ⟨rfl, hE⟩; replace hF := hF.exts hE; clear hE; refine Back.mk ?_) | (refine (hcl _ hF.ext).mono ?_; rintro _ wy ⟨rfl, hE⟩; replace hF := hF.exts hE; clear hE; refine Back.mk ?_) | (refine (blank_ok _ r c).mono ?_; rintro _ wy ⟨g, m, rfl, hE, hg, hm', hG⟩; have hm := Nat.le_trans hF.exs.size hm'; have hgz := Nat.le_trans hF.exs.size hg; replace hF := Fr.addZ hF hE hg hm' (Z := fun _ => 0) (N := 0) ⟨[], hG, fun _ h => (by cases h), rfl, fun _ => rfl⟩; clear hE hG; refine Back.mk ?_) | (refine (hln _ hF.ext).mono ?_; rintro _ w1 ⟨bm, A1, k1, l1, rfl, hVm, hLm, hE, hbm, hMf⟩; replace hF := Fr.addBoxK hF hE hbm hVm rfl hLm hMf; clear hE hMf hVm; refine Back.mk ?_)) | (refine TL.isBin ?_; refine TL.cmpG rfl rfl rfl rfl (fun hc => ?_) (fun hc => ?_) <;> (try (first | (exfalso; omega) | exact absurd rfl hc))) | (apply TL.ev; (case hd => rfl); (case h => (first | exact ev_simple rfl | (apply Ev.isLoad; first | exact ev_loadFr hF rfl (by refine ⟨?_, ?_⟩; (focus (repeat (first | exact InV.head | apply InV.tail))); rfl) | exact ev_loadAFr hF rfl (by refine ⟨?_, ?_⟩; (focus (repeat (first | exact InV.head | apply InV.tail))); rfl)) | exact ev_fieldAddr rfl))) | (refine TL.storeFr hF rfl rfl rfl rfl (by refine ⟨?_, ?_⟩; (focus (repeat (first | apply SetV.head | apply SetV.tail))); rfl) rfl ?_; clear hF; intro ws hF) | (refine TL.boxAFr hF (d := 1) (cs := [.int .i64 (r : Int), .int .i64 (c : Int), .slice A n k]) rfl rfl ?_; clear hF; intro w1 b1 hF) | (refine TL.allocFr hF (d := 5) rfl rfl ?_; clear hF; intro w5 b5 hF)) | (refine G.is ?_; first | refine G.nextI ?_) | refine TL.nil ?_ | (refine TI.is ?_; first | refine TI.seq ?_ | refine TI.region rfl ?_ | refine TI.block ?_ | refine TI.cond_f rfl ?_ | refine TI.skip ?_))
  have hE1 := hF.ext
  have hr64 := hLm.sh.r64
  have hc64 := hLm.sh.c64
  have e0 : (fun _ : Int × Int => (0 : Int)) = rowsF F c 0 0 := funext fun k => (rows_zero F c k).symm
  rw [e0] at hF
  replace hF : Fr w w1 [⟨bm, 24, [.int .i64 (r : Int), .int .i64 (c : Int), .slice A1 (r * c) k1]⟩, ⟨b5, 26, [.pointer (some ⟨g, 0, none⟩)]⟩] [dpGZ g m r c (rowsF F c 0 0) 0, dpLM ⟨r, c, A1, r * c, k1, l1⟩ r c F 1048576] := hF.weak (by repeat (first | exact List.Sublist.refl _ | apply List.Sublist.cons_cons | apply List.Sublist.cons)) (allH (by repeat (first | exact memH | apply memT)) (allH (by repeat (first | exact memH | apply memT)) allN))
  clear e0
  refine TI.rangeFuncK (lines_iter bm r c 1048576 k1 A1 l1 F (by omega)) rfl inferInstance (fun _ => rfl) rfl ⟨hF.var (by repeat (first | exact InV.head | apply InV.tail)), hLm⟩ (fun W W' h hc => It.cxK h hc)
    (fun i W => ∃ N, Fr w W [⟨bm, 24, [.int .i64 (r : Int), .int .i64 (c : Int), .slice A1 (r * c) k1]⟩, ⟨b5, 26, [.pointer (some ⟨g, 0, none⟩)]⟩] [dpGZ g m r c (rowsF F c i 0) N, dpLM ⟨r, c, A1, r * c, k1, l1⟩ r c F 1048576]) (fun _ _ => False) (fun i W W' ⟨N, h⟩ hc => ⟨N, h.cx hc hE1.size⟩) (fun _ _ _ h _ => h) ⟨0, hF⟩ ?_ ?_ (fun _ _ _ _ _ h => h.elim)
  · clear hF
    rintro L j ⟨i, xA, xn, xk, xl⟩ Wb W hi hL hlp ⟨N, hF⟩ hIt hEb ⟨e1, e2, hLL, hLF⟩
    dsimp only at e1 e2 hLL hLF
    subst e1
    have e3 := e2.symm
    subst e3
    have hB := hE1.size
    repeat' (first | (refine TL.isOp ?_; first | (apply TL.ev; (case hd => rfl); (case h => (first | exact ev_simple rfl)))) | (refine G.is ?_; first | refine G.nextI ?_) | refine TL.nil ?_ | (refine TI.is ?_; first | refine TI.seq ?_ | refine TI.region rfl ?_))
    refine G.begunK ⟨Nat.le_refl _, fun _ _ h _ => h⟩ fun w2 hc2 hl2 => ?_
    have hF0 := (Fr.addLK (Fr.addSm' hF hEb hLL.s (lf_fpK hLF)) hLL.g).cx hc2 hB
    have hF1 : Fr w w2 [⟨bm, 24, [.int .i64 (r : Int), .int .i64 (c : Int), .slice A1 (r * c) k1]⟩, ⟨b5, 26, [.pointer (some ⟨g, 0, none⟩)]⟩] [dpGZ g m r c (rowsF F c i 0) N, dpLK c xl (F i) 1048576, dpSmG 2 ivc xA c xk xl, dpLM ⟨r, c, A1, r * c, k1, l1⟩ r c F 1048576] := hF0.weak (List.Sublist.refl _) (allH (by repeat (first | exact memH | apply memT)) (allH (by repeat (first | exact memH | apply memT)) (allH (by repeat (first | exact memH | apply memT)) (allH (by repeat (first | exact memH | apply memT)) allN))))
    obtain ⟨l', hG', _⟩ := hF1.gz (g := g) (m := m) (by repeat (first | exact memH | apply memT))
    obtain ⟨es, ks, hmp, _⟩ := hG'.mp
    have nx := sm_map (hF1.smG (l := xl) (by repeat (first | exact memH | apply memT))) hmp
    have nm := sm_map (Fr.lm hF1 (x := ⟨r, c, A1, r * c, k1, l1⟩) (r := r) (c := c) (F := F) (K := 1048576) (by repeat (first | exact memH | apply memT))).s hmp
    obtain ⟨S, hO, hF, hSm⟩ := Fr.openK hF1 hm hmp rfl
    clear hF0 hF1 hG' hmp
    repeat' (first | (refine TL.isOp ?_; first | (apply TL.ev; (case hd => rfl); (case h => (first | exact ev_simple rfl | exact ev_len rfl)))) | (refine G.is ?_; first | refine G.nextI ?_) | refine TL.nil ?_ | (refine TI.is ?_; first | refine TI.seq ?_ | refine TI.region rfl ?_ | refine TI.block ?_))
    refine TI.loop (α := Nat × Nat) (fun x => [(5, .pointer (some ⟨b5, 0, none⟩)), (6, .int .i64 (i : Int)), (27, .slice xA c xk), (28, .int .i64 (c : Int)), (29, .int .i64 (x.1 : Int))])
      (fun x W' => x.1 ≤ c ∧ Fr w2 W' [⟨bm, 24, [.int .i64 (r : Int), .int .i64 (c : Int), .slice A1 (r * c) k1]⟩, ⟨b5, 26, [.pointer (some ⟨g, 0, none⟩)]⟩] [dpGZ g m r c (rowsF F c i x.1) x.2, dpLK c xl (F i) 1048576, dpSmG 2 ivc xA c xk xl, dpLM ⟨r, c, A1, r * c, k1, l1⟩ r c F 1048576] S) (fun x => c - x.1) (0, N) (by repeat (first | exact Sub.nil _ | refine Sub.cons rfl ?_ | refine Sub.cons' rfl (int_congr (by omega)) ?_)) ⟨Nat.zero_le _, hF⟩ ?_
    clear hF
    rintro ⟨q, N1⟩ w3 ⟨hq, hF⟩
    dsimp only at hq hF ⊢
    rcases Nat.lt_or_ge q c with hqn | hqn
    · have hx := (Fr.lk hF (i := c) (l := xl) (by repeat (first | exact memH | apply memT))) q hqn
      have hxs := hF.smG (l := xl) (by repeat (first | exact memH | apply memT))
      have hy : xl[q]? = some (xl.getD q default) := by have := hxs.len; simp [List.getD, show q < xl.length by omega]
      obtain ⟨y, ey⟩ : ∃ y, xl.getD q default = y := ⟨_, rfl⟩
      rw [ey] at hx hy
      have hyv := hx.1.val
      have hyn := few_of hx.1 (hsm i q hi hqn)
      replace hF : Fr w2 w3 [⟨bm, 24, [.int .i64 (r : Int), .int .i64 (c : Int), .slice A1 (r * c) k1]⟩, ⟨b5, 26, [.pointer (some ⟨g, 0, none⟩)]⟩] [dpGZ g m r c (rowsF F c i q) N1, dpGI y, dpLK c xl (F i) 1048576, dpSmG 2 ivc xA c xk xl, dpLM ⟨r, c, A1, r * c, k1, l1⟩ r c F 1048576] S := (Fr.addGI hF hx.1.g).weak (List.Sublist.refl _) (allH (by repeat (first | exact memH | apply memT)) (allH (by repeat (first | exact memH | apply memT)) (allH (by repeat (first | exact memH | apply memT)) (allH (by repeat (first | exact memH | apply memT)) (allH (by repeat (first | exact memH | apply memT)) allN)))))
      have hnb := hsm i q hi hqn
      clear ey hx hxs
      obtain ⟨ys, ⟨yA, yn, yc, yl⟩⟩ := y
      dsimp only at hyn
      repeat' (first | (refine TL.isOp ?_; first | (refine TL.isCall ?_; refine TL.call rfl rfl ?_; first | (refine (zleast_ok _ ⟨ys, ⟨yA, yn, yc, yl⟩⟩ (Fr.gi hF (by repeat (first | exact memH | apply memT))) (by dsimp only; omega)).mono ?_; rintro _ wy ⟨z, rfl, hz, hE, hzn⟩; rw [hyv] at hz; replace hF := Fr.swapD (Fr.addLI (hF.exts hE) hz); clear hE hz; refine Back.mk ?_) | (refine (putS _ g m r c N1 (rowsF F c i q) ((i : Int), (q : Int)) z (F i q) (hF.gz (by repeat (first | exact memH | apply memT))) (Fr.li hF (by repeat (first | exact memH | apply memT))) (by dsimp only at hzn; omega)).mono ?_; rintro _ wy ⟨N2, rfl, hE, hG⟩; rw [show updZ (rowsF F c i q) ((i : Int), (q : Int)) (F i q) = rowsF F c i (q + 1) from funext fun k => rows_step F hqn k] at hG; replace hF := hF.callZ hE (.inr hSm) (by repeat (first | exact nfN | refine nfC nf_gi ?_ | refine nfC nf_li ?_ | refine nfC nf_lk ?_ | refine nfC (nf_smG nx) ?_ | refine nfC (nf_lm nm) ?_)) hG; clear hE hG; refine Back.mk ?_)) | (refine TL.isBin ?_; refine TL.cmpG rfl rfl rfl rfl (fun hc => ?_) (fun hc => ?_) <;> (try (first | (exfalso; omega) | exact absurd rfl hc))) | (apply TL.ev; (case hd => rfl); (case h => (first | exact ev_simple rfl | (apply Ev.isBin; first | exact ev_arN rfl rfl rfl (by omega)) | (apply Ev.isLoad; first | exact ev_loadMc [.bool ys, .slice yA yn yc] rfl (Fr.smG hF (l := xl) (by repeat (first | exact memH | apply memT))) hy rfl) | exact ev_indexM rfl rfl hqn (Fr.smG hF (l := xl) (by repeat (first | exact memH | apply memT))).some))) | (refine TL.storeAFr hF rfl rfl rfl rfl (by refine ⟨?_, ?_⟩; (focus (repeat (first | apply SetV.head | apply SetV.tail))); rfl) rfl ?_; clear hF; intro ws hF) | (refine TL.allocFr hF (d := 9) rfl rfl ?_; clear hF; intro w9 b9 hF)) | (refine TF.is ?_; first | refine TF.nil ?_ | refine TF.e rfl ?_ | (refine TF.pick rfl ?_; first | (apply TFo.ev; (case hd => rfl); (case h => (intro wh hF; first | exact ev_simple rfl | (apply Ev.isLoad; first | exact ev_loadFr hF rfl (by refine ⟨?_, ?_⟩; (focus (repeat (first | exact InV.head | apply InV.tail))); rfl) | exact ev_loadAFr hF rfl (by refine ⟨?_, ?_⟩; (focus (repeat (first | exact InV.head | apply InV.tail))); rfl)) | exact ev_buildX rfl rfl))))) | (refine G.is ?_; first | refine G.nextI ?_ | refine G.blockN ?_ | refine G.only ?_ | refine G.treeEnd rfl ?_ | refine G.tree rfl (by first | exact hF | exact hF.weak (List.sublist_append_right _ _) (by repeat (first | exact allR | apply allT)) | exact hF.weak (by repeat (first | exact List.Sublist.refl _ | apply List.Sublist.cons)) (by repeat (first | exact allR | apply allT)) | exact hF.weak (by repeat (first | exact List.Sublist.refl _ | apply List.Sublist.cons)) (by repeat (first | exact allN | refine allH (by repeat (first | exact memH | apply memT)) ?_))) ?_) | refine TL.nil ?_ | (refine TI.is ?_; first | refine TI.seq ?_ | refine TI.region rfl ?_ | refine TI.block ?_ | refine TI.cond_t rfl ?_ | refine TI.skip ?_ | (refine TI.regionFd hF 13 6 (.s 0 (.s 1 (.s 2 (.s 3 (.s 4 (.e 5 (.e 6 .nil))))))) mixed (by kernel_rfl) rfl ?_; clear hF; intro wr hF)))
      all_goals exact G.again (q + 1, N2) (by repeat (first | exact Sub.nil _ | refine Sub.cons rfl ?_ | refine Sub.cons' rfl (int_congr (by omega)) ?_)) ⟨hqn, hF.weak (List.Sublist.cons _ (List.Sublist.refl _)) (allH (by repeat (first | exact memH | apply memT)) (allH (by repeat (first | exact memH | apply memT)) (allH (by repeat (first | exact memH | apply memT)) (allH (by repeat (first | exact memH | apply memT)) allN))))⟩ (by dsimp only; omega)
    · obtain rfl : q = c := by omega
      repeat' (first | (refine TL.isOp ?_; first | (refine TL.isBin ?_; refine TL.cmpG rfl rfl rfl rfl (fun hc => ?_) (fun hc => ?_) <;> (try (first | (exfalso; omega) | exact absurd rfl hc)))) | (refine G.is ?_; first | refine G.nextI ?_ | refine G.blockN ?_ | refine G.blockE ?_ | refine G.thenE ?_) | refine TL.nil ?_ | (refine TI.is ?_; first | refine TI.seq ?_ | refine TI.region rfl ?_ | refine TI.cond_f rfl ?_ | refine TI.exit ?_))
      have hF0 := Fr.shutK hO hF
      rw [show rowsF F q i q = rowsF F q (i + 1) 0 from funext fun k => rows_next F q i k] at hF0
      exact G.roundK (Fr.othersK hO hF) ⟨⟨N1, hF0.weak (List.Sublist.refl _) (allH (by repeat (first | exact memH | apply memT)) (allH (by repeat (first | exact memH | apply memT)) allN))⟩, hF.var (by repeat (first | exact InV.head | apply InV.tail)), Fr.lm hF (by repeat (first | exact memH | apply memT))⟩
  · rintro D w2 hD hDw ⟨N, hF⟩ hIt
    obtain ⟨S, hO, hF⟩ := hF.open
    repeat' (first | (refine TL.isOp ?_; first | (apply TL.ev; (case hd => rfl); (case h => (first | exact ev_simple rfl | (apply Ev.isLoad; first | exact ev_loadFr hF rfl (by refine ⟨?_, ?_⟩; (focus (repeat (first | exact InV.head | apply InV.tail))); rfl)))))) | (refine G.is ?_; first | refine G.nextI ?_ | refine G.blockN ?_) | refine TL.nil ?_ | (refine TI.is ?_; first | refine TI.seq ?_ | refine TI.region rfl ?_ | refine TI.ret ?_))
    have hD2 := (Fr.others hO hF).same D _ hDw rfl
    have hF1 := (Fr.shut hO hF).cx (Cx.shut hD hD2) hE1.size
    exact G.retK2 rfl rfl rfl hD2 ⟨g, m, N, rfl, hF1.ext, hgz, hm, hF1.gz (by repeat (first | exact memH | apply memT))⟩
end Go.Proofs.Ytlpheckjogphmaa

namespace Go.Proofs.Ytlpheckjogphmaa
open Go Go.Eng Go.Proofs Go.NatM Go.RowKit
/-- a new matrix, its block known whole -/
def RetMV (w : World) (r c : Nat) (F : Nat → Nat → Int) (K : Nat) (e : Ending) (w' : World) : Prop := ∃ (b : Nat) (l : List IV), e = .returned (.agg (mvc ⟨(r : Int), (c : Int), some ⟨b, 0, none⟩, r * c, r * c, l⟩).toArray) ∧ Vr w'.heap b 42 (l.flatMap ivc) ∧ l.length = r * c ∧
  (∀ i j, i < r → j < c → LI w'.heap (F i j) (l.getD (i * c + j) default) ∧ (l.getD (i * c + j) default).m.n ≤ K) ∧ Ext w w' ∧ w.heap.size ≤ b
set_option maxRecDepth 100000 in
set_option maxHeartbeats 8000000 in
theorem build_okV (w : World) (r c : Nat) (hr : r ≤ 64) (hc : c ≤ 64) (g : FuncId) (cap : List Value) (hg : IsFn Try.prog g) (F : Nat → Nat → Int) (K : Nat)
    (hF : ∀ (i j : Nat) (w1 : World), i < r → j < c → Ext w w1 → Cl Try.prog g ([Value.int .i64 (i : Int), Value.int .i64 (j : Int)] ++ cap).toArray w1 (RetZ w1 (F i j) K)) :
    Cl Try.prog 74 #[.int .i64 (r : Int), .int .i64 (c : Int), .func (.func g) #[] cap.toArray] w (RetMV w r c F K) := by
  have hm := mul64 hr hc
  refine enter Try.func74 rfl rfl rfl ?_
  repeat' (first | refine TL.ev (ev_simple rfl) rfl ?_ | refine TL.ev (ev_arN rfl rfl rfl (by omega)) rfl ?_ | (refine TL.makeX (z := [.bool false, .slice none 0 0]) rfl rfl rfl (by omega) (by omega) rfl rfl rfl (fun w3 b3 zs eb3 hzl hzn hV3 hE3 hz3 => ?_)) | (refine TL.alloc rfl (fun wa ba eba hVa hEa hza => ?_); have hla := box_lo (w0 := w) (by repeat (first | exact Ext.refl _ | (refine Ext.trans ?_ (by assumption)) | (apply ext_upd; assumption; rotate_left; omega))) eba) | (refine TL.storeVX rfl rfl rfl rfl (by refine ⟨?_, ?_⟩; (focus (repeat (first | assumption | (apply Vr.ext; assumption) | (apply Vr.updX; assumption; rotate_left; omega)))); rfl) (fun ws hVs hUs hzs => ?_)) | (refine TL.ev (ev_buildX rfl rfl) rfl ?_) | refine T.seq ?_ | refine T.region ?_ | refine TL.nil ?_ | refine T.block ?_ | refine G.next ?_)
  rename_i w6 b6 eb6 hV6 hE6 hz6 hl6
  have hne : b3 ≠ ba := by omega
  have hl3 : w.heap.size ≤ b3 := by omega
  have hV3s : Vr ws.heap b3 42 zs := (by repeat (first | assumption | (apply Vr.ext; assumption) | (apply Vr.updX; assumption; rotate_left; omega)))
  have hV6s : Vr ws.heap b6 24 (Value.agg #[.int .i64 0, .int .i64 0, .slice none 0 0]).cells.toList := (by repeat (first | assumption | (apply Vr.ext; assumption) | (apply Vr.updX; assumption; rotate_left; omega)))
  have hEs : Ext w ws := (by repeat (first | exact Ext.refl _ | (refine Ext.trans ?_ (by assumption)) | (apply ext_upd; assumption; rotate_left; omega)))
  have hne6 : b6 ≠ ba := by omega
  have hne63 : b6 ≠ b3 := by omega
  clear hV3 hVa hzs hEa
  have hgone : True := trivial
  refine T.loop (α := Nat × List IV × List Value) (fun x => [(1, .int .i64 (c : Int)), (2, .func (.func g) #[] cap.toArray), (6, .pointer (some ⟨b6, 0, none⟩)), (7, .pointer (some ⟨ba, 0, none⟩)), (17, .int .i64 (r : Int)), (18, .int .i64 (x.1 : Int))])
    (fun x w' => x.1 ≤ r ∧ x.2.1.length = x.1 * c ∧ x.2.2.length = (r * c - x.1 * c) * 2 ∧ x.2.2.all noU64 = true ∧ Ext w w' ∧ Vr w'.heap b3 42 (x.2.1.flatMap ivc ++ x.2.2) ∧ Vr w'.heap ba 24 [.int .i64 (r : Int), .int .i64 (c : Int), .slice (some ⟨b3, 0, none⟩) (x.1 * c) (r * c)] ∧
      (∃ cs6, Vr w'.heap b6 24 cs6 ∧ cs6.length = 3 ∧ cs6.all noU64 = true) ∧ ∀ q, q < x.2.1.length → LI w'.heap (F (q / c) (q % c)) (x.2.1.getD q default) ∧ (x.2.1.getD q default).m.n ≤ K)
    (fun x => r - x.1) (0, [], zs) (by repeat (first | exact Sub.nil _ | refine Sub.cons rfl ?_ | refine Sub.cons' rfl (int_congr (by omega)) ?_)) ⟨Nat.zero_le _, by simp, by simp; omega, hzn, hEs, by simpa using hV3s, by simpa using hVs, ⟨_, hV6s, rfl, rfl⟩, fun q hq => by simp at hq⟩ ?_
  rintro ⟨i, l, zz⟩ w2 ⟨hi, hl, hzzl, hzz, hE2, hV32, hV72, ⟨cs6, hV62, hl6', hn6⟩, hg2⟩
  dsimp only at hi hl hzzl hzz hE2 hV32 hV72 hV62 hg2 ⊢
  rcases Nat.lt_or_ge i r with hin | hin
  · repeat' (first | refine TL.ev (ev_simple rfl) rfl ?_ | (refine TL.cmpG rfl rfl rfl rfl (fun hc => ?_) (fun hc => ?_) <;> try (exfalso; omega)) | refine T.seq ?_ | refine T.region ?_ | refine TL.nil ?_ | refine T.block ?_ | refine T.cond_t rfl ?_ | refine T.skip ?_ | refine G.next ?_)
    refine T.loop (α := Nat × List IV × List Value) (fun x => [(1, .int .i64 (c : Int)), (2, .func (.func g) #[] cap.toArray), (6, .pointer (some ⟨b6, 0, none⟩)), (7, .pointer (some ⟨ba, 0, none⟩)), (8, .int .i64 (i : Int)), (17, .int .i64 (r : Int)), (18, .int .i64 (i : Int)), (21, .int .i64 (c : Int)), (22, .int .i64 (x.1 : Int))])
      (fun x w' => x.1 ≤ c ∧ x.2.1.length = i * c + x.1 ∧ x.2.2.length = (r * c - (i * c + x.1)) * 2 ∧ x.2.2.all noU64 = true ∧ Ext w w' ∧ Vr w'.heap b3 42 (x.2.1.flatMap ivc ++ x.2.2) ∧ Vr w'.heap ba 24 [.int .i64 (r : Int), .int .i64 (c : Int), .slice (some ⟨b3, 0, none⟩) (i * c + x.1) (r * c)] ∧
        (∃ cs6, Vr w'.heap b6 24 cs6 ∧ cs6.length = 3 ∧ cs6.all noU64 = true) ∧ ∀ q, q < x.2.1.length → LI w'.heap (F (q / c) (q % c)) (x.2.1.getD q default) ∧ (x.2.1.getD q default).m.n ≤ K)
      (fun x => c - x.1) (0, l, zz) (by repeat (first | exact Sub.nil _ | refine Sub.cons rfl ?_ | refine Sub.cons' rfl (int_congr (by omega)) ?_)) ⟨Nat.zero_le _, hl, hzzl, hzz, hE2, hV32, hV72, ⟨cs6, hV62, hl6', hn6⟩, hg2⟩ ?_
    clear hV32 hV72 hV62 hg2 hE2 hl hzzl hzz
    rintro ⟨j, l, zz⟩ w2 ⟨hj, hl, hzzl, hzz, hE2, hV32, hV72, ⟨cs6, hV62, hl6', hn6⟩, hg2⟩
    dsimp only at hj hl hzzl hzz hE2 hV32 hV72 hV62 hg2 ⊢
    rcases Nat.lt_or_ge j c with hjn | hjn
    · have hpl := place_lt hin hjn
      have hc0 : 0 < c := by omega
      repeat' (first | refine TL.ev (ev_simple rfl) rfl ?_ | (refine TL.cmpG rfl rfl rfl rfl (fun hc => ?_) (fun hc => ?_) <;> try (exfalso; omega)) | refine TL.ev (ev_arN rfl rfl rfl (by omega)) rfl ?_ | refine TF.nil ?_ | refine TF.e rfl ?_ | refine G.treeEnd rfl ?_ | refine TF.s rfl (fun _ hh => ev_simple rfl) rfl ?_ | refine TF.s rfl (fun _ hh => ev_fieldAddr rfl) rfl ?_ | refine T.regionXb b3 8 9 (.s 0 (.s 1 (.s 2 (.s 3 (.s 4 (.e 5 (.e 6 (.e 7 (.s 8 (.e 9 .nil)))))))))) mixed (by kernel_rfl) (fun wr hzr hEr => ?_) | (refine G.tree rfl (by repeat (first | exact Exb.refl _ _ | (refine Exb.ext ?_ (by assumption)) | (refine Exb.upd ?_ (by assumption)))) ?_) | (refine TF.s rfl (fun _ hh => ev_loadVX rfl ⟨Vr.exb hh hV72 (Ne.symm hne), rfl⟩) rfl ?_) | (refine TL.callV (vs := [.int .i64 (i : Int), .int .i64 (j : Int)]) (cap := cap) hg rfl rfl rfl ?_; refine (hF i j _ hin hjn (by repeat (first | exact Ext.refl _ | (refine Ext.trans ?_ (by assumption)) | (apply ext_upd; assumption; rotate_left; omega)))).mono ?_; rintro _ wf ⟨x, rfl, hLx, hEf, hKx⟩; refine Back.mk ?_; have hzf := hEf.size) | (refine TL.buildX1 (f := ivc) (u := x) rfl rfl rfl rfl rfl rfl rfl (fun wn bn ebn hVn hSn hEn hzn' => ?_)) | (refine TL.appendX (f := ivc) (u := x) (l := l) (zs := zz) (fun _ => rfl) rfl rfl rfl hSn (by repeat (first | assumption | (apply Vr.ext; assumption) | (apply Vr.updX; assumption; rotate_left; omega))) (fun _ _ => rfl) hl (by omega) (by omega) (fun wp hVp hUp hzp => ?_)) | (refine TL.storeX rfl rfl rfl rfl (by refine ⟨?_, ?_⟩; (focus (repeat (first | assumption | (apply Vr.ext; assumption) | (apply Vr.updX; assumption; rotate_left; omega)))); rfl) (fun ws hVs hUs hzs => ?_)) | refine T.seq ?_ | refine T.region ?_ | refine TL.nil ?_ | refine T.block ?_ | refine T.cond_t rfl ?_ | refine T.skip ?_ | refine G.next ?_ | refine G.blockN ?_ | refine G.only ?_)
      have hEn' : ∀ z y, LI w2.heap z y → LI wn.heap z y := fun z y h => by repeat (first | assumption | (apply LI.ext; assumption))
      have hV3n : Vr wn.heap b3 42 (l.flatMap ivc ++ zz) := (by repeat (first | assumption | (apply Vr.ext; assumption) | (apply Vr.updX; assumption; rotate_left; omega)))
      have hV7p : Vr wp.heap ba 24 [.int .i64 (r : Int), .int .i64 (c : Int), .slice (some ⟨b3, 0, none⟩) (i * c + j) (r * c)] := (by repeat (first | assumption | (apply Vr.ext; assumption) | (apply Vr.updX; assumption; rotate_left; omega)))
      have keep : ∀ z y, LI wn.heap z y → LI ws.heap z y := fun z y h => LI.updV hUs hV7p rfl (LI.updV hUp hV3n (ivc_all _ _ hzz) h)
      have hV6e : Vr ws.heap b6 24 cs6 := (by repeat (first | assumption | (apply Vr.ext; assumption) | (apply Vr.updX; assumption; rotate_left; omega)))
      have hV3e := Vr.updX hUs hVp hne
      have hlq : (l ++ [x]).length = i * c + (j + 1) := by simp; omega
      have hqd : (i * c + j) / c = i := by rw [Nat.mul_comm, Nat.mul_add_div hc0, Nat.div_eq_of_lt hjn, Nat.add_zero]
      have hqm : (i * c + j) % c = j := by rw [Nat.mul_comm, Nat.mul_add_mod, Nat.mod_eq_of_lt hjn]
      refine G.again (j + 1, l ++ [x], zz.drop 2) (by repeat (first | exact Sub.nil _ | refine Sub.cons rfl ?_ | refine Sub.cons' rfl (int_congr (by omega)) ?_)) ⟨by dsimp only; omega, hlq, by simp; omega, ?_, (by repeat (first | exact Ext.refl _ | (refine Ext.trans ?_ (by assumption)) | (apply ext_upd; assumption; rotate_left; omega))), hV3e, hVs, ⟨cs6, hV6e, hl6', hn6⟩, fun q hq => ?_⟩ (by dsimp only; omega)
      · rw [List.all_eq_true] at hzz ⊢
        exact fun v hv => hzz v (List.mem_of_mem_drop hv)
      · dsimp only at hq ⊢
        rw [getD_snoc hq]
        split
        · rename_i h1
          exact ⟨keep _ _ (hEn' _ _ (hg2 q h1).1), (hg2 q h1).2⟩
        · rename_i h1
          obtain rfl : q = i * c + j := by rw [hlq] at hq; omega
          rw [hqd, hqm]
          exact ⟨keep _ _ (hLx.ext hEn), hKx⟩
    · obtain rfl : j = c := by omega
      repeat' (first | refine TL.ev (ev_simple rfl) rfl ?_ | (refine TL.cmpG rfl rfl rfl rfl (fun hc => ?_) (fun hc => ?_) <;> try (exfalso; omega)) | refine TL.ev (ev_arN rfl rfl rfl (by omega)) rfl ?_ | refine T.seq ?_ | refine T.region ?_ | refine TL.nil ?_ | refine T.cond_f rfl ?_ | refine T.exit ?_ | refine G.next ?_ | refine G.blockN ?_ | refine G.blockE ?_ | refine G.thenE ?_)
      refine G.again (i + 1, l, zz) (by repeat (first | exact Sub.nil _ | refine Sub.cons rfl ?_ | refine Sub.cons' rfl (int_congr (by omega)) ?_)) ⟨by dsimp only; omega, by dsimp only; rw [hl, Nat.add_mul, Nat.one_mul], by dsimp only; rw [hzzl, Nat.add_mul, Nat.one_mul], hzz, hE2, hV32, by dsimp only; rw [Nat.add_mul, Nat.one_mul]; exact hV72, ⟨cs6, hV62, hl6', hn6⟩, hg2⟩ (by dsimp only; omega)
  · obtain rfl : i = r := by omega
    have hzz0 : zz = [] := List.eq_nil_of_length_eq_zero (by rw [hzzl, Nat.sub_self, Nat.zero_mul])
    subst hzz0
    match cs6, hl6', hV62, hn6 with
    | [y0, y1, y2], _, hV62, hn6 =>
      repeat' (first | (refine TL.cmpG rfl rfl rfl rfl (fun hc => ?_) (fun hc => ?_) <;> try (exfalso; omega)) | (refine TL.ev (ev_loadVAX rfl (by refine ⟨?_, ?_⟩; (focus (repeat (first | assumption | (apply Vr.ext; assumption) | (apply Vr.updX; assumption; rotate_left; omega)))); rfl)) rfl ?_) | (refine TL.storeVX rfl rfl rfl rfl (by refine ⟨?_, ?_⟩; (focus (repeat (first | assumption | (apply Vr.ext; assumption) | (apply Vr.updX; assumption; rotate_left; omega)))); rfl) (fun ws hVs hUs hzs => ?_)) | refine T.seq ?_ | refine T.region ?_ | refine TL.nil ?_ | refine T.cond_f rfl ?_ | refine T.exit ?_ | refine T.ret ?_ | refine G.next ?_ | refine G.blockE ?_ | refine G.thenE ?_)
      have hV3e : Vr ws.heap b3 42 (l.flatMap ivc ++ []) := Vr.updX hUs hV32 (Ne.symm hne63)
      rw [List.append_nil] at hV3e
      refine G.retC1 rfl rfl (held_agg hVs rfl) ⟨b3, l, rfl, hV3e, hl, fun a b ha hb => ?_, (by repeat (first | exact Ext.refl _ | (refine Ext.trans ?_ (by assumption)) | (apply ext_upd; assumption; rotate_left; omega))), hl3⟩
      have hq := place_lt ha hb
      obtain ⟨g1, g2⟩ := hg2 (a * c + b) (by omega)
      rw [show (a * c + b) / c = a by rw [Nat.mul_comm, Nat.mul_add_div (by omega), Nat.div_eq_of_lt hb, Nat.add_zero], show (a * c + b) % c = b by rw [Nat.mul_comm, Nat.mul_add_mod, Nat.mod_eq_of_lt hb]] at g1
      exact ⟨LI.updV hUs hV62 hn6 g1, g2⟩
end Go.Proofs.Ytlpheckjogphmaa

namespace Go.Proofs.Ytlpheckjogphmaa
open Go Go.Eng Go.Proofs Go.NatM Go.RowKit
theorem diag0_ok (w : World) (p k : Nat) (A : Option Addr) (hp : Vr w.heap p 22 [.slice A 0 k]) (i j : Nat) (hi : i ≤ 64) (hj : j ≤ 64) :
    Cl Try.prog 103 ([Value.int .i64 (i : Int), Value.int .i64 (j : Int)] ++ [Value.pointer (some ⟨p, 0, none⟩)]).toArray w (RetZ w 0 0) := by
  refine enter Try.func103 rfl rfl rfl ?_
  have hF := Fr.refl w
  have hin : ¬ i < 0 := Nat.not_lt_zero _
  by_cases hij : i = j
  · repeat' (first | (refine TL.isOp ?_; first | (refine TL.isG ?_; first | refine TL.grun rfl rfl rfl ?_) | (refine TL.isBin ?_; refine TL.cmpG rfl rfl rfl rfl (fun hc => ?_) (fun hc => ?_) <;> (try (first | (exfalso; omega) | exact absurd rfl hc))) | (apply TL.ev; (case hd => rfl); (case h => (first | exact ev_simple rfl | (apply Ev.isLoad; first | exact ev_loadV rfl (hp.ext hF.ext) rfl) | exact ev_len rfl | exact ev_buildX rfl rfl))) | (refine TL.storeAFr hF rfl rfl rfl rfl (by refine ⟨?_, ?_⟩; (focus (repeat (first | apply SetV.head | apply SetV.tail))); rfl) rfl ?_; clear hF; intro ws hF) | (refine TL.allocFr hF (d := 5) rfl rfl ?_; clear hF; intro w5 b5 hF)) | (refine T.is ?_; first | refine T.seq ?_ | refine T.region ?_ | refine T.cond_f rfl ?_ | refine T.ret ?_ | refine T.skip ?_) | (refine G.is ?_; first | refine G.next ?_) | refine TL.nil ?_)
    all_goals exact G.retC1 rfl rfl (held_agg (hF.var (by repeat (first | exact InV.head | apply InV.tail))) rfl) ⟨⟨false, ⟨none, 0, 0, []⟩⟩, rfl, LI.zero _, hF.ext, Nat.zero_le _⟩
  · repeat' (first | (refine TL.isOp ?_; first | (refine TL.isG ?_; first | refine TL.gskip rfl rfl rfl rfl ?_) | (refine TL.isBin ?_; refine TL.cmpG rfl rfl rfl rfl (fun hc => ?_) (fun hc => ?_) <;> (try (first | (exfalso; omega) | exact absurd rfl hc))) | (apply TL.ev; (case hd => rfl); (case h => (first | exact ev_simple rfl | exact ev_buildX rfl rfl))) | (refine TL.storeAFr hF rfl rfl rfl rfl (by refine ⟨?_, ?_⟩; (focus (repeat (first | apply SetV.head | apply SetV.tail))); rfl) rfl ?_; clear hF; intro ws hF) | (refine TL.allocFr hF (d := 5) rfl rfl ?_; clear hF; intro w5 b5 hF)) | (refine T.is ?_; first | refine T.seq ?_ | refine T.region ?_ | refine T.cond_f rfl ?_ | refine T.ret ?_ | refine T.skip ?_) | (refine G.is ?_; first | refine G.next ?_) | refine TL.nil ?_)
    all_goals exact G.retC1 rfl rfl (held_agg (hF.var (by repeat (first | exact InV.head | apply InV.tail))) rfl) ⟨⟨false, ⟨none, 0, 0, []⟩⟩, rfl, LI.zero _, hF.ext, Nat.zero_le _⟩
/-- a new matrix of zeros and an error's number 0 -/
def RetZV (w : World) (r c : Nat) (e : Ending) (w' : World) : Prop := ∃ (b : Nat) (l : List IV), e = .returned (.tuple #[.agg #[.int .i64 (r : Int), .int .i64 (c : Int), .slice (some ⟨b, 0, none⟩) (r * c) (r * c)], .int .i64 0]) ∧ Vr w'.heap b 42 (l.flatMap ivc) ∧ l.length = r * c ∧ LsK (r * c) l (fun _ => 0) 0 w'.heap ∧ Ext w w' ∧ w.heap.size ≤ b
theorem lk_of {H : Array Obj} {r c : Nat} {l : List IV} (h : ∀ i j, i < r → j < c → LI H 0 (l.getD (i * c + j) default) ∧ (l.getD (i * c + j) default).m.n ≤ 0) : LsK (r * c) l (fun _ => 0) 0 H := fun q hq => by
  have hc : 0 < c := Nat.pos_of_ne_zero fun e => by rw [e, Nat.mul_zero] at hq; omega
  have h1 : q / c < r := (Nat.div_lt_iff_lt_mul hc).2 hq
  have := h (q / c) (q % c) h1 (Nat.mod_lt _ hc)
  rwa [Nat.mul_comm, Nat.div_add_mod] at this
set_option maxRecDepth 100000 in
set_option maxHeartbeats 2000000 in
theorem mdiag0V (w : World) (r c : Nat) (hr : r ≤ 64) (hcc : c ≤ 64) : Cl Try.prog 88 #[.int .i64 (r : Int), .int .i64 (c : Int), .slice none 0 0] w (RetZV w r c) := by
  have hs1 := fun (w : World) => (side_ok w.heap (r : Int) true (decide_eq_true (by omega))).cl
  have hs2 := fun (w : World) => (side_ok w.heap (c : Int) true (decide_eq_true (by omega))).cl
  refine enter Try.func88 rfl rfl rfl ?_
  have hF := Fr.refl w
  repeat' (first | (refine TL.isOp ?_; first | (refine TL.isG ?_; first | refine TL.grun rfl rfl rfl ?_) | (refine TL.isCall ?_; refine TL.call rfl rfl ?_; first | (refine (hs1 _).mono ?_; rintro _ wc ⟨rfl, hE⟩; replace hF := hF.exts hE.ext; clear hE; refine Back.mk ?_) | (refine (hs2 _).mono ?_; rintro _ wc ⟨rfl, hE⟩; replace hF := hF.exts hE.ext; clear hE; refine Back.mk ?_) | (refine (build_okV _ r c hr hcc 103 [.pointer (some ⟨b5, 0, none⟩)] inferInstance (fun _ _ => 0) 0 (fun i j w1 hi hj hE1 => diag0_ok w1 b5 0 none ((hF.var (by repeat (first | exact InV.head | apply InV.tail))).ext hE1) i j (by omega) (by omega))).mono ?_; rintro _ wz ⟨bz, lz, rfl, hVz, hlz, hgz, hE, hbz⟩; have hbz2 := Nat.le_trans hF.exs.size hbz; replace hF := Fr.addLK (hF.newGe hbz hVz hE) (lk_of hgz); clear hE hgz hVz; refine Back.mk ?_)) | (refine TL.isBin ?_; refine TL.cmpG rfl rfl rfl rfl (fun hc => ?_) (fun hc => ?_) <;> (try (first | (exfalso; omega) | exact absurd rfl hc))) | (apply TL.ev; (case hd => rfl); (case h => (first | exact ev_simple rfl | (apply Ev.isLoad; first | exact ev_loadFr hF rfl (by refine ⟨?_, ?_⟩; (focus (repeat (first | exact InV.head | apply InV.tail))); rfl)) | exact ev_len rfl | exact ev_makeFunc rfl | exact ev_min2 rfl rfl))) | (refine TL.storeAFr hF rfl rfl rfl rfl (by refine ⟨?_, ?_⟩; (focus (repeat (first | apply SetV.head | apply SetV.tail))); rfl) rfl ?_; clear hF; intro ws hF) | (refine TL.boxFr hF (d := 5) (v := .slice none 0 0) rfl rfl ?_; clear hF; intro w5 b5 hF) | (refine TL.allocFr hF (d := 6) rfl rfl ?_; clear hF; intro w6 b6 hF)) | (refine T.is ?_; first | refine T.seq ?_ | refine T.region ?_ | refine T.cond_f rfl ?_ | refine T.ret ?_ | refine T.skip ?_) | (refine G.is ?_; first | refine G.next ?_) | refine TL.nil ?_)
  exact G.retC2 rfl rfl rfl (held_agg (hF.var (b := b6) (by repeat (first | exact InV.head | apply InV.tail))) rfl) ⟨bz, lz, rfl, hF.var (b := bz) (by repeat (first | exact InV.head | apply InV.tail)), hlz, Fr.lk hF (i := r * c) (l := lz) (by repeat (first | exact memH | apply memT)), hF.ext, hbz2⟩
theorem mzeroV (w : World) (r c : Nat) (hr : r ≤ 64) (hcc : c ≤ 64) : Cl Try.prog 70 #[.int .i64 (r : Int), .int .i64 (c : Int)] w (RetZV w r c) := by
  have hd := fun w => mdiag0V w r c hr hcc
  refine enter Try.func70 rfl rfl rfl ?_
  have hF := Fr.refl w
  repeat' (first | (refine TL.isOp ?_; first | (refine TL.isCall ?_; refine TL.call rfl rfl ?_; first | (refine (hd _).mono ?_; rintro _ wz ⟨bz, lz, rfl, hVz, hlz, hgz, hE, hbz⟩; have hbz2 := Nat.le_trans hF.exs.size hbz; replace hF := Fr.addLK (hF.newGe hbz hVz hE) hgz; clear hE hgz hVz; refine Back.mk ?_)) | (apply TL.ev; (case hd => rfl); (case h => (first | exact ev_simple rfl))) | (refine TL.storeAFr hF rfl rfl rfl rfl (by refine ⟨?_, ?_⟩; (focus (repeat (first | apply SetV.head | apply SetV.tail))); rfl) rfl ?_; clear hF; intro ws hF) | (refine TL.allocFr hF (d := 4) rfl rfl ?_; clear hF; intro w4 b4 hF)) | (refine T.is ?_; first | refine T.seq ?_ | refine T.region ?_ | refine T.ret ?_) | (refine G.is ?_; first | refine G.next ?_) | refine TL.nil ?_)
  exact G.retC2 rfl rfl rfl (held_agg (hF.var (b := b4) (by repeat (first | exact InV.head | apply InV.tail))) rfl) ⟨bz, lz, rfl, hF.var (b := bz) (by repeat (first | exact InV.head | apply InV.tail)), hlz, Fr.lk hF (i := r * c) (l := lz) (by repeat (first | exact memH | apply memT)), hF.ext, hbz2⟩
end Go.Proofs.Ytlpheckjogphmaa
