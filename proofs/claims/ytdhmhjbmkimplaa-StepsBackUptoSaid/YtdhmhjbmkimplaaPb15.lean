/- Layer 11: the law StepsBack. -/
import Derived.Test.YtdhmhjbmkimplaaPb14
set_option linter.unusedVariables false
set_option linter.unusedSimpArgs false
namespace Go.Proofs.Ytdhmhjbmkimplaa
open Go Go.Eng Go.Proofs Go.NatM Go.RowKit

/-- the inverse of a list -/
def RetInv (w : World) (L : List SP) (m : Nat) (e : Ending) (w' : World) : Prop := ∃ A k T, e = .returned (.tuple #[.slice A m k, .int .i64 0]) ∧ SS w'.heap A m k T ∧ InvR L.reverse T ∧ wsum T ≤ wsum L ∧ Ext w w' ∧ LF w A m
theorem inv_ok (w : World) (n : Nat) (hn : n ≤ 64) (A : Option Addr) (m k : Nat) (L : List SP) (hs : SS w.heap A m k L) (hK : wsum L ≤ 1048576) (hm : m ≤ 1048576) (hfit : ∀ s ∈ L, fits n s) : Cl Try.prog 24 #[.int .i64 (n : Int), .slice A m k] w (RetInv w L m) := by
  have hfa : FitAll (n : Int) L := ⟨⟨by omega, by omega⟩, hfit⟩
  refine Cl.mono (sinverse_ok w (n : Int) A m k L hs (by omega) hm) ?_
  rintro e w' ⟨A1, m1, k1, T, rfl, hS, hT, hE, hf⟩
  have e1 : invO (n : Int) L = invL L := by unfold invO; rw [if_pos hfa]
  have e2 : invErr (n : Int) L = 0 := by unfold invErr; rw [if_pos hfa]
  rw [e1] at hT
  have hl := hT.len
  rw [invL_len, hS.len, hs.s.len] at hl
  subst hl
  obtain ⟨h1, h2⟩ := hT.inv (n := 0) fun s h => (hs.g s h).ext hE
  exact ⟨A1, k1, T, by rw [e2], ss_of hS hT, h1, h2, hE, hf⟩
theorem inv_no (w : World) (n : Nat) (A : Option Addr) (m k : Nat) (L : List SP) (hs : SS w.heap A m k L) (hK : wsum L ≤ 1048576) (hm : m ≤ 1048576) (hfit : ¬ ∀ s ∈ L, fits n s) : Cl Try.prog 24 #[.int .i64 (n : Int), .slice A m k] w (fun e w' => ∃ A k, e = .returned (.tuple #[.slice A 0 k, .int .i64 3]) ∧ Ext w w') := by
  have hfa : ¬ FitAll (n : Int) L := fun h => hfit h.2
  refine Cl.mono (sinverse_ok w (n : Int) A m k L hs (by omega) hm) ?_
  rintro e w' ⟨A1, m1, k1, T, rfl, hS, hT, hE, hf⟩
  have e1 : invO (n : Int) L = [] := by unfold invO; rw [if_neg hfa]
  have e2 : invErr (n : Int) L = 3 := by unfold invErr; rw [if_neg hfa]
  have hl := hT.len
  rw [e1, hS.len] at hl
  obtain rfl : m1 = 0 := hl
  exact ⟨A1, k1, by rw [e2], hE⟩
/-- steps and then their inverse, on a matrix -/
theorem rows_back (w : World) (b : MV) (r c K Kb m : Nat) (E : Nat → Nat → Int) (A : Option Addr) (k : Nat) (L T : List SP) (hb : LM w.heap b r c (stepsF L E) Kb) (hs : SS w.heap A m k T) (hi : InvR L.reverse T) (hf : ∀ s ∈ L, fits r s) (hm : m ≤ 1048576) (hK : Kb + wsum T ≤ K) (hK2 : K ≤ 1099511627776) :
    Cl Try.prog 9 #[.agg (mvc b).toArray, .slice A m k] w (RetME w r c E K) := by
  have hfT : ∀ s ∈ T, fits r s := hi.fits fun s h => hf s (List.mem_reverse.1 h)
  refine Cl.mono (srows_ok w b r c Kb hb.gm A m k T hs.s hs.g hm (by omega) hfT) ?_
  rintro e w' ⟨z, rfl, h1, h2, h3⟩
  refine ⟨z, rfl, (h1.congrF fun i j hi' hj' => ?_).monoK hK, h2, h3⟩
  rw [stepsF_congr (c := c) T hfT (fun i j a b => hb.ent a b) i j hi' hj', inv_left hi hf]
/-- steps times their inverse, either way round -/
theorem mul_unit (w : World) (u v : MV) (n Ku Kv K : Nat) (L T : List SP) (hu : LM w.heap u n n (stepsF L unitF) Ku) (hv : LM w.heap v n n (stepsF T unitF) Kv) (hi : InvR L.reverse T) (hf : ∀ s ∈ L, fits n s) (h1 : Ku ≤ 8796093022000) (h2 : Kv ≤ 8796093022000) (hK : Ku + Kv + n ≤ K) :
    Cl Try.prog 12 #[.agg (mvc u).toArray, .agg (mvc v).toArray] w (RetME w n n unitF K) := by
  refine Cl.mono (mul_left w u v n n Kv Ku L hf hu hv.gm h1 h2) ?_
  rintro e w' ⟨z, rfl, q1, q2, q3⟩
  refine ⟨z, rfl, (q1.congrF fun i j hi' hj' => ?_).monoK hK, q2, q3⟩
  rw [stepsF_congr (c := n) L hf (fun i j a b => hv.ent a b) i j hi' hj', inv_right hi hf]
theorem mul_unit' (w : World) (u v : MV) (n Ku Kv K : Nat) (L T : List SP) (hu : LM w.heap u n n (stepsF L unitF) Ku) (hv : LM w.heap v n n (stepsF T unitF) Kv) (hi : InvR L.reverse T) (hf : ∀ s ∈ L, fits n s) (h1 : Ku ≤ 8796093022000) (h2 : Kv ≤ 8796093022000) (hK : Kv + Ku + n ≤ K) :
    Cl Try.prog 12 #[.agg (mvc v).toArray, .agg (mvc u).toArray] w (RetME w n n unitF K) := by
  have hfT : ∀ s ∈ T, fits n s := hi.fits fun s h => hf s (List.mem_reverse.1 h)
  refine Cl.mono (mul_left w v u n n Ku Kv T hfT hv hu.gm h2 h1) ?_
  rintro e w' ⟨z, rfl, q1, q2, q3⟩
  refine ⟨z, rfl, (q1.congrF fun i j hi' hj' => ?_).monoK hK, q2, q3⟩
  rw [stepsF_congr (c := n) T hfT (fun i j a b => hu.ent a b) i j hi' hj', inv_left hi hf]
theorem unit_ok (w : World) (n : Nat) (hn : n ≤ 64) : Cl Try.prog 26 #[.int .i64 (n : Int)] w (RetME w n n unitF 1) := munit_ok w n hn
set_option maxRecDepth 100000 in
set_option maxHeartbeats 8000000 in
theorem sb_bad (w : World) (x : MV) (hx : InR x) (hn : ¬ ∃ r c, Sound x r c) (A : Option Addr) (m k : Nat) : Cl Try.prog 5 #[.agg (mvc x).toArray, .slice A m k] w (YesM w) := by
  have hck := fun w1 (hE : Ext w w1) => rchk_bad w1 x (fun r c h => hn ⟨r, c, h⟩)
  have hnw := fun w1 (hE : Ext w w1) => new_bad w1 x hx hn
  have haw := fun w1 (hE : Ext w w1) => awake_ok w1
  clear hn hx
  obtain ⟨xr, xc, A1, n1, k1, l1⟩ := x
  refine enter Try.func5 rfl rfl rfl ?_
  have hF := Fr.refl w
  repeat' (first | (refine TL.isOp ?_; first | (refine TL.isCall ?_; refine TL.call rfl rfl ?_; first | (refine (haw _ hF.ext).mono ?_; rintro _ wc ⟨rfl, hE⟩; replace hF := hF.exts hE; clear hE; refine Back.mk ?_) | (refine (hck _ hF.ext).mono ?_; rintro _ wc ⟨rfl, hE⟩; replace hF := hF.exts hE; clear hE; refine Back.mk ?_) | (refine (hnw _ hF.ext).mono ?_; rintro _ wc ⟨rfl, hE⟩; replace hF := hF.exts hE; clear hE; refine Back.mk ?_)) | (refine TL.isBin ?_; refine TL.cmpG rfl rfl rfl rfl (fun hc => ?_) (fun hc => ?_) <;> (try (first | (exfalso; omega) | exact absurd rfl hc))) | (apply TL.ev; (case hd => rfl); (case h => (first | exact ev_simple rfl | (apply Ev.isLoad; first | exact ev_loadAFr hF rfl (by refine ⟨?_, ?_⟩; (focus (repeat (first | exact InV.head | apply InV.tail))); rfl))))) | (refine TL.boxAFr hF (d := 2) (cs := [.int .i64 xr, .int .i64 xc, .slice A1 n1 k1]) rfl rfl ?_; clear hF; intro w2 b2 hF)) | (refine T.is ?_; first | refine T.seq ?_ | refine T.region ?_ | refine T.cond_t rfl ?_ | refine T.cond_f rfl ?_ | refine T.ret ?_ | refine T.skip ?_) | (refine G.is ?_; first | refine G.next ?_ | refine G.thenR ?_) | refine TL.nil ?_)
  all_goals exact G.ret1 rfl rfl ⟨rfl, hF.ext⟩
set_option maxRecDepth 100000 in
set_option maxHeartbeats 8000000 in
theorem sb_no (w : World) (x : MV) (r c : Nat) (gx : GM w.heap x r c 1048576) (A : Option Addr) (m k : Nat) (L : List SP) (hs : SS w.heap A m k L) (hm : m ≤ 1048576) (hK : wsum L ≤ 1048576) (hfit : ¬ ∀ s ∈ L, fits r s) :
    Cl Try.prog 5 #[.agg (mvc x).toArray, .slice A m k] w (YesM w) := by
  have r64 := gx.sh.r64
  have haw := fun w1 (hE : Ext w w1) => awake_ok w1
  have hck := fun w1 (hE : Ext w w1) => rchk_ok w1 x r c gx.sh
  have hin := fun w1 (hE : Ext w w1) => inv_no w1 r A m k L (hs.ext hE) hK hm hfit
  have hro := fun w1 (hE : Ext w w1) => srows_unfit w1 x r c gx.sh A m k 1099511627776 L (hs.ext hE).s (hs.ext hE).g (by omega) hm hfit
  have e1 := gx.sh.er
  have e2 := gx.sh.ec
  clear gx hs
  generalize ent x c = E at *
  obtain ⟨xr, xc, A1, n1, k1, l1⟩ := x
  dsimp only at e1 e2
  subst e1 e2
  refine enter Try.func5 rfl rfl rfl ?_
  have hF := Fr.refl w
  repeat' (first | (refine TL.isOp ?_; first | (refine TL.isG ?_; first | refine TL.grun rfl rfl rfl ?_) | (refine TL.isCall ?_; refine TL.call rfl rfl ?_; first | (refine (haw _ hF.ext).mono ?_; rintro _ wc ⟨rfl, hE⟩; replace hF := hF.exts hE; clear hE; refine Back.mk ?_) | (refine (hck _ hF.ext).mono ?_; rintro _ wc ⟨rfl, hE⟩; replace hF := hF.exts hE; clear hE; refine Back.mk ?_) | (refine (hin _ hF.ext).mono ?_; rintro _ wc ⟨iA, ik, rfl, hE⟩; replace hF := hF.exts hE; clear hE; refine Back.mk ?_) | (refine (hro _ hF.ext).mono ?_; rintro _ wc ⟨rfl, hE⟩; replace hF := hF.exts hE; clear hE; refine Back.mk ?_)) | (refine TL.isBin ?_; refine TL.cmpG rfl rfl rfl rfl (fun hc => ?_) (fun hc => ?_) <;> (try (first | (exfalso; omega) | exact absurd rfl hc))) | (apply TL.ev; (case hd => rfl); (case h => (first | exact ev_simple rfl | (apply Ev.isLoad; first | exact ev_loadFr hF rfl (by refine ⟨?_, ?_⟩; (focus (repeat (first | exact InV.head | apply InV.tail))); rfl) | exact ev_loadAFr hF rfl (by refine ⟨?_, ?_⟩; (focus (repeat (first | exact InV.head | apply InV.tail))); rfl)) | exact ev_len rfl | exact ev_fieldAddr rfl))) | (refine TL.storeAFr hF rfl rfl rfl rfl (by refine ⟨?_, ?_⟩; (focus (repeat (first | apply SetV.head | apply SetV.tail))); rfl) rfl ?_; clear hF; intro ws hF) | (refine TL.boxAFr hF (d := 2) (cs := [.int .i64 (r : Int), .int .i64 (c : Int), .slice A1 n1 k1]) rfl rfl ?_; clear hF; intro w2 b2 hF) | (refine TL.allocFr hF (d := 10) rfl rfl ?_; clear hF; intro w10 b10 hF)) | (refine T.is ?_; first | refine T.seq ?_ | refine T.region ?_ | refine T.cond_t rfl ?_ | refine T.cond_f rfl ?_ | refine T.ret ?_ | refine T.skip ?_) | (refine G.is ?_; first | refine G.next ?_ | refine G.thenR ?_) | refine TL.nil ?_)
  all_goals exact G.ret1 rfl rfl ⟨rfl, hF.ext⟩
set_option maxRecDepth 100000 in
set_option maxHeartbeats 8000000 in
theorem sb_yes (w : World) (x : MV) (r c : Nat) (gx : GM w.heap x r c 1048576) (A : Option Addr) (m k : Nat) (L : List SP) (hs : SS w.heap A m k L) (hm : m ≤ 1048576) (hK : wsum L ≤ 1048576) (hfit : ∀ s ∈ L, fits r s) :
    Cl Try.prog 5 #[.agg (mvc x).toArray, .slice A m k] w (YesM w) := by
  have r64 := gx.sh.r64
  have haw := fun w1 (hE : Ext w w1) => awake_ok w1
  have hck := fun w1 (hE : Ext w w1) => rchk_ok w1 x r c gx.sh
  have hin := fun w1 (hE : Ext w w1) => inv_ok w1 r r64 A m k L (hs.ext hE) hK hm hfit
  have hro := fun w1 (hE : Ext w w1) => srows_ok w1 x r c 1048576 (gx.ext hE) A m k L (hs.ext hE).s (hs.ext hE).g hm (by omega) hfit
  have hle := fun w1 (hE : Ext w w1) => mleast_ok w1 x r c 1048576 (gx.ext hE) (by omega)
  have hmx := fun w1 (hE : Ext w w1) => smatrix_ok w1 r r64 A m k L (hs.ext hE).s (hs.ext hE).g hm (by omega) hfit
  have hsg := fun w1 (hE : Ext w w1) => signs_t w1 r r64 A m k L (hs.ext hE) hm hK hfit
  have e1 := gx.sh.er
  have e2 := gx.sh.ec
  clear gx hs
  generalize ent x c = E at *
  obtain ⟨xr, xc, A1, n1, k1, l1⟩ := x
  dsimp only at e1 e2
  subst e1 e2
  refine enter Try.func5 rfl rfl rfl ?_
  have hF := Fr.refl w
  repeat' (first | (refine TL.isOp ?_; first | (refine TL.isG ?_; first | refine TL.grun rfl rfl rfl ?_) | (refine TL.isCall ?_; refine TL.call rfl rfl ?_; first | (refine (haw _ hF.ext).mono ?_; rintro _ wc ⟨rfl, hE⟩; replace hF := hF.exts hE; clear hE; refine Back.mk ?_) | (refine (hck _ hF.ext).mono ?_; rintro _ wc ⟨rfl, hE⟩; replace hF := hF.exts hE; clear hE; refine Back.mk ?_) | (refine (hin _ hF.ext).mono ?_; rintro _ wc ⟨iA, ik, tL, rfl, hST, hIT, hwT, hE, hf⟩; have hfT := hIT.fits fun s h => hfit s (List.mem_reverse.1 h); replace hF := Fr.addSS hF hE hST hf; clear hE hST hf; refine Back.mk ?_) | (refine (hro _ hF.ext).mono ?_; rintro _ wb ⟨⟨br, bc, bA, bn, bk, bl⟩, rfl, hLu, hE, hf⟩; rw [mvc_mk _ _ bA]; replace hF := Fr.addLM hF hE hLu hf; clear hE hf hLu; refine Back.mk ?_) | (refine (hle _ hF.ext).mono ?_; rintro _ wd ⟨⟨dr, dc, dA, dn, dk, dl⟩, rfl, hLu, hE, hf⟩; rw [mvc_mk _ _ dA]; replace hF := Fr.addLM hF hE hLu hf; clear hE hf hLu; refine Back.mk ?_) | (refine (rows_back _ ⟨br, bc, bA, bn, bk, bl⟩ r c 3145728 (1048576 + wsum L) m E iA ik L tL (Fr.lm hF (by repeat (first | exact memH | apply memT))) (Fr.ss hF (by repeat (first | exact memH | apply memT))) hIT hfit hm (by omega) (by omega)).mono ?_; rintro _ wg ⟨⟨gr, gc, gA, gn, gk, gl⟩, rfl, hLu, hE, hf⟩; rw [mvc_mk _ _ gA]; replace hF := Fr.addLM hF hE hLu hf; clear hE hf hLu; refine Back.mk ?_) | (refine (equal_t _ ⟨gr, gc, gA, gn, gk, gl⟩ ⟨dr, dc, dA, dn, dk, dl⟩ r c 3145728 1048576 E E (Fr.lm hF (by repeat (first | exact memH | apply memT))) (Fr.lm hF (by repeat (first | exact memH | apply memT))) (fun i j _ _ => rfl) (by omega) (by omega)).mono ?_; rintro _ wc ⟨rfl, hE⟩; replace hF := hF.exts hE; clear hE; refine Back.mk ?_) | (refine (hmx _ hF.ext).mono ?_; rintro _ wu ⟨⟨ur, uc, uA, un, uk, ul⟩, rfl, hLu, hE, hf⟩; rw [mvc_mk _ _ uA]; replace hF := Fr.addLM hF hE hLu hf; clear hE hf hLu; refine Back.mk ?_) | (refine (smatrix_ok _ r r64 iA m ik tL (Fr.ss hF (by repeat (first | exact memH | apply memT))).s (Fr.ss hF (by repeat (first | exact memH | apply memT))).g hm (by omega) hfT).mono ?_; rintro _ wv ⟨⟨vr, vc, vA, vn, vk, vl⟩, rfl, hLu, hE, hf⟩; rw [mvc_mk _ _ vA]; replace hF := Fr.addLM hF hE hLu hf; clear hE hf hLu; refine Back.mk ?_) | (refine (mul_unit _ ⟨ur, uc, uA, un, uk, ul⟩ ⟨vr, vc, vA, vn, vk, vl⟩ r (1 + wsum L) (1 + wsum tL) 2097282 L tL (Fr.lm hF (by repeat (first | exact memH | apply memT))) (Fr.lm hF (by repeat (first | exact memH | apply memT))) hIT hfit (by omega) (by omega) (by omega)).mono ?_; rintro _ wp ⟨⟨pr, pc, pA, pn, pk, pl⟩, rfl, hLu, hE, hf⟩; rw [mvc_mk _ _ pA]; replace hF := Fr.addLM hF hE hLu hf; clear hE hf hLu; refine Back.mk ?_) | (refine (mul_unit' _ ⟨ur, uc, uA, un, uk, ul⟩ ⟨vr, vc, vA, vn, vk, vl⟩ r (1 + wsum L) (1 + wsum tL) 2097282 L tL (Fr.lm hF (by repeat (first | exact memH | apply memT))) (Fr.lm hF (by repeat (first | exact memH | apply memT))) hIT hfit (by omega) (by omega) (by omega)).mono ?_; rintro _ wq ⟨⟨qr, qc, qA, qn, qk, ql⟩, rfl, hLu, hE, hf⟩; rw [mvc_mk _ _ qA]; replace hF := Fr.addLM hF hE hLu hf; clear hE hf hLu; refine Back.mk ?_) | (refine (unit_ok _ r r64).mono ?_; rintro _ wo ⟨⟨or, oc, oA, on, ok, ol⟩, rfl, hLu, hE, hf⟩; rw [mvc_mk _ _ oA]; replace hF := Fr.addLM hF hE hLu hf; clear hE hf hLu; refine Back.mk ?_) | (refine (equal_t _ ⟨pr, pc, pA, pn, pk, pl⟩ ⟨or, oc, oA, on, ok, ol⟩ r r 2097282 1 unitF unitF (Fr.lm hF (by repeat (first | exact memH | apply memT))) (Fr.lm hF (by repeat (first | exact memH | apply memT))) (fun i j _ _ => rfl) (by omega) (by omega)).mono ?_; rintro _ wc ⟨rfl, hE⟩; replace hF := hF.exts hE; clear hE; refine Back.mk ?_) | (refine (equal_t _ ⟨qr, qc, qA, qn, qk, ql⟩ ⟨or, oc, oA, on, ok, ol⟩ r r 2097282 1 unitF unitF (Fr.lm hF (by repeat (first | exact memH | apply memT))) (Fr.lm hF (by repeat (first | exact memH | apply memT))) (fun i j _ _ => rfl) (by omega) (by omega)).mono ?_; rintro _ wc ⟨rfl, hE⟩; replace hF := hF.exts hE; clear hE; refine Back.mk ?_) | (refine (inv_ok _ r r64 iA m ik tL (Fr.ss hF (by repeat (first | exact memH | apply memT))) (by omega) hm hfT).mono ?_; rintro _ wc ⟨jA, jk, uL, rfl, hSU, hIU, hwU, hE, hf⟩; have hfU := hIU.fits fun s h => hfT s (List.mem_reverse.1 h); replace hF := Fr.addSS hF hE hSU hf; clear hE hSU hf; refine Back.mk ?_) | (refine (smatrix_ok _ r r64 jA m jk uL (Fr.ss hF (by repeat (first | exact memH | apply memT))).s (Fr.ss hF (by repeat (first | exact memH | apply memT))).g hm (by omega) hfU).mono ?_; rintro _ wy ⟨⟨yr, yc, yA, yn, yk, yl⟩, rfl, hLu, hE, hf⟩; rw [mvc_mk _ _ yA]; replace hF := Fr.addLM hF hE hLu hf; clear hE hf hLu; refine Back.mk ?_) | (refine (equal_t _ ⟨yr, yc, yA, yn, yk, yl⟩ ⟨ur, uc, uA, un, uk, ul⟩ r r (1 + wsum uL) (1 + wsum L) (stepsF uL unitF) (stepsF L unitF) (Fr.lm hF (by repeat (first | exact memH | apply memT))) (Fr.lm hF (by repeat (first | exact memH | apply memT))) (fun i j _ _ => by rw [inv_inv hIT hIU hfit]) (by omega) (by omega)).mono ?_; rintro _ wc ⟨rfl, hE⟩; replace hF := hF.exts hE; clear hE; refine Back.mk ?_) | (refine (hsg _ hF.ext).mono ?_; rintro _ wc ⟨rfl, hE⟩; replace hF := hF.exts hE; clear hE; refine Back.mk ?_)) | (refine TL.isBin ?_; refine TL.cmpG rfl rfl rfl rfl (fun hc => ?_) (fun hc => ?_) <;> (try (first | (exfalso; omega) | exact absurd rfl hc))) | (apply TL.ev; (case hd => rfl); (case h => (first | exact ev_simple rfl | (apply Ev.isLoad; first | exact ev_loadFr hF rfl (by refine ⟨?_, ?_⟩; (focus (repeat (first | exact InV.head | apply InV.tail))); rfl) | exact ev_loadAFr hF rfl (by refine ⟨?_, ?_⟩; (focus (repeat (first | exact InV.head | apply InV.tail))); rfl)) | exact ev_len rfl | exact ev_fieldAddr rfl))) | (refine TL.storeAFr hF rfl rfl rfl rfl (by refine ⟨?_, ?_⟩; (focus (repeat (first | apply SetV.head | apply SetV.tail))); rfl) rfl ?_; clear hF; intro ws hF) | (refine TL.boxAFr hF (d := 2) (cs := [.int .i64 (r : Int), .int .i64 (c : Int), .slice A1 n1 k1]) rfl rfl ?_; clear hF; intro w2 b2 hF) | (refine TL.allocFr hF (d := 10) rfl rfl ?_; clear hF; intro w10 b10 hF) | (refine TL.allocFr hF (d := 12) rfl rfl ?_; clear hF; intro w12 b12 hF) | (refine TL.allocFr hF (d := 14) rfl rfl ?_; clear hF; intro w14 b14 hF) | (refine TL.allocFr hF (d := 16) rfl rfl ?_; clear hF; intro w16 b16 hF) | (refine TL.allocFr hF (d := 18) rfl rfl ?_; clear hF; intro w18 b18 hF) | (refine TL.allocFr hF (d := 20) rfl rfl ?_; clear hF; intro w20 b20 hF) | (refine TL.allocFr hF (d := 22) rfl rfl ?_; clear hF; intro w22 b22 hF) | (refine TL.allocFr hF (d := 24) rfl rfl ?_; clear hF; intro w24 b24 hF) | (refine TL.allocFr hF (d := 28) rfl rfl ?_; clear hF; intro w28 b28 hF)) | (refine T.is ?_; first | refine T.seq ?_ | refine T.region ?_ | refine T.cond_f rfl ?_ | refine T.ret ?_ | refine T.skip ?_) | (refine G.is ?_; first | refine G.next ?_) | refine TL.nil ?_)
  all_goals exact G.ret1 rfl rfl ⟨rfl, hF.ext⟩
theorem back_t (w : World) (x : MV) (hx : RM w.heap x 1048576 ∧ InR x) (A : Option Addr) (m k : Nat) (L : List SP) (hs : Sm 5 spc w.heap w.heap.size A m k L) (hg : ∀ s ∈ L, GI w.heap s.k) (hb : wsum L ≤ 1048576 ∧ m ≤ 1048576) :
    Cl Try.prog 5 #[.agg (mvc x).toArray, .slice A m k] w (YesM w) := by
  by_cases h : ∃ r c, Sound x r c
  · obtain ⟨r, c, h⟩ := h
    have gx := hx.1.gm h
    by_cases fr : ∀ s ∈ L, fits r s
    · exact sb_yes w x r c gx A m k L ⟨hs, hg⟩ hb.2 hb.1 fr
    · exact sb_no w x r c gx A m k L ⟨hs, hg⟩ hb.2 hb.1 fr
  · exact sb_bad w x hx.2 h A m k
end Go.Proofs.Ytdhmhjbmkimplaa
