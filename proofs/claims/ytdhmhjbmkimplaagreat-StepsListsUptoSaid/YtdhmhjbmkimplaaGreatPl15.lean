/- Layer 11: the law StepsLists. From a law's row to its walk: arguments as the engine has them. What the bound of an Upto statement gives. Arguments as the engine has them, more: slices of slices of words. Arguments as the engine has them, more: slices of structs, of whatever depth. Arguments as the engine has them: integers and matrices. Opening a slice of steps handed in. Opening matrices handed in, with the range of their numbers and the length of their lists. -/
import Derived.Test.YtdhmhjbmkimplaaGreatPl14
import Derived.Test.YtdhmhjbmkimplaaGreatPl4
import Derived.ProofKit
import Derived.OpenShut
import Derived.ChangeOld
import Derived.SizedLaws
import Derived.Test.YtdhmhjbmkimplaaGreatRows
import Derived.Test.YtdhmhjbmkimplaaGreatPl11
import Derived.Deep.Slices
import Derived.Test.YtdhmhjbmkimplaaGreatPl3
import Derived.Test.YtdhmhjbmkimplaaGreatPl6
import Derived.Test.YtdhmhjbmkimplaaGreatPl10
import Derived.Test.YtdhmhjbmkimplaaGreatPl8
set_option linter.unusedVariables false
set_option linter.unusedSimpArgs false
namespace Go.Proofs.YtdhmhjbmkimplaaGreat
open Go Go.Eng Go.Proofs Go.NatM Go.RowKit

theorem CpM.side {x y : MV} (h : CpM x y) : nrows y = nrows x ∧ ncols y = ncols x := by unfold nrows ncols; rw [h.r, h.c]; exact ⟨rfl, rfl⟩
theorem CpM.ent {x y : MV} (h : CpM x y) {r c : Nat} (hs : Sound x r c) {i j : Nat} (hi : i < r) (hj : j < c) : ent y c i j = ent x c i j := by
  unfold Go.Proofs.YtdhmhjbmkimplaaGreat.ent
  exact h.e _ (by rw [hs.n]; exact place_lt hi hj)
theorem rowsO_cp {x y : MV} {L M : List SP} (h : CpM x y) (hc : M.map cor = L.map cor) : MO.Eqv (rowsO y M) (rowsO x L) := by
  have h1 := h.side
  unfold rowsO
  rw [h1.1, h1.2]
  by_cases hs : Sound x (nrows x) (ncols x)
  · rw [if_pos ((h.sound _ _).2 hs), if_pos hs]
    by_cases hf : ∀ s ∈ L, fits (nrows x) s
    · rw [if_pos hf, if_pos (cor_all hc.symm _ hf)]
      refine ⟨rfl, rfl, rfl, fun i j hi hj => ?_⟩
      dsimp only at hi hj ⊢
      rw [cor_stepsF hc]
      exact stepsF_congr L hf (fun p q hp hq => h.ent hs hp hq) i j hi hj
    · rw [if_neg hf, if_neg (fun h' => hf (cor_all hc _ h'))]
      exact ⟨rfl, rfl, rfl, fun _ _ _ _ => rfl⟩
  · rw [if_neg (fun h' => hs ((h.sound _ _).1 h')), if_neg hs]
    exact ⟨rfl, rfl, rfl, fun _ _ _ _ => rfl⟩
theorem colsO_cp {x y : MV} {L M : List SP} (h : CpM x y) (hc : M.map cor = L.map cor) : MO.Eqv (colsO y M) (colsO x L) := by
  have h1 := h.side
  unfold colsO
  rw [h1.1, h1.2]
  by_cases hs : Sound x (nrows x) (ncols x)
  · rw [if_pos ((h.sound _ _).2 hs), if_pos hs]
    by_cases hf : ∀ s ∈ L, fits (ncols x) s
    · rw [if_pos hf, if_pos (cor_all hc.symm _ hf)]
      refine ⟨rfl, rfl, rfl, fun i j hi hj => ?_⟩
      dsimp only at hi hj ⊢
      rw [cor_stepsF hc]
      exact stepsF_congr L hf (fun p q hp hq => h.ent hs hq hp) j i hj hi
    · rw [if_neg hf, if_neg (fun h' => hf (cor_all hc _ h'))]
      exact ⟨rfl, rfl, rfl, fun _ _ _ _ => rfl⟩
  · rw [if_neg (fun h' => hs ((h.sound _ _).1 h')), if_neg hs]
    exact ⟨rfl, rfl, rfl, fun _ _ _ _ => rfl⟩
theorem matO_cp {n : Int} {L M : List SP} (hc : M.map cor = L.map cor) : MO.Eqv (matO n M) (matO n L) := by
  unfold matO
  by_cases hf : FitAll n L
  · rw [if_pos hf, if_pos ((fitAll_cor hc).2 hf), cor_stepsF hc]
    exact ⟨rfl, rfl, rfl, fun _ _ _ _ => rfl⟩
  · rw [if_neg hf, if_neg (fun h => hf ((fitAll_cor hc).1 h))]
    exact ⟨rfl, rfl, rfl, fun _ _ _ _ => rfl⟩
theorem invV_cor {s t : SP} (h : cor s = cor t) : invV s = invV t := by
  simp only [cor, Prod.mk.injEq] at h
  obtain ⟨h1, h2, h3, h4, h5⟩ := h
  unfold invV
  rw [h1, h2, h3, h4]
theorem invL_cor {L M : List SP} (hc : M.map cor = L.map cor) : invL M = invL L := by
  have key : ∀ (L M : List SP), M.map cor = L.map cor → M.map invV = L.map invV := by
    intro L
    induction L with
    | nil => intro M h; cases M with
      | nil => rfl
      | cons => simp at h
    | cons s L ih => intro M h; cases M with
      | nil => simp at h
      | cons t M =>
        simp only [List.map_cons, List.cons.injEq] at h ⊢
        exact ⟨invV_cor h.1, ih M h.2⟩
  unfold invL
  rw [List.map_reverse, List.map_reverse, key L M hc]
theorem invO_cp {n : Int} {L M : List SP} (hc : M.map cor = L.map cor) : invO n M = invO n L ∧ invErr n M = invErr n L := by
  unfold invO invErr
  by_cases hf : FitAll n L
  · rw [if_pos hf, if_pos ((fitAll_cor hc).2 hf), if_pos hf, if_pos ((fitAll_cor hc).2 hf), invL_cor hc]
    exact ⟨rfl, rfl⟩
  · have h' : ¬ FitAll n M := fun h => hf ((fitAll_cor hc).1 h)
    rw [if_neg hf, if_neg h', if_neg hf, if_neg h']
    exact ⟨rfl, rfl⟩
theorem invO_len (n : Int) (L : List SP) : (invO n L).length ≤ L.length := by
  unfold invO
  split
  · rw [invL_len]; exact Nat.le_refl _
  · exact Nat.zero_le _
theorem InR.cp {x y : MV} (h : InR x) (hc : CpM x y) : InR y := ⟨by rw [hc.r]; exact h.r, by rw [hc.c]; exact h.c⟩
theorem ss_of {H : Array Obj} {A : Option Addr} {m k K : Nat} {tl : List SP} {V : List SV} (hs : Sm 5 spc H H.size A m k tl) (h : StT H tl V K) : SS H A m k tl :=
  ⟨hs, fun s hm => by
    obtain ⟨q, hq⟩ := List.getElem?_of_mem hm
    have hlt := (List.getElem?_eq_some_iff.1 hq).1
    have hl := h.len
    exact (h.g q s _ hq (List.getElem?_eq_getElem (by omega))).k.g⟩
theorem RM.ext' {w w' : World} {x : MV} {K : Nat} (hE : Ext w w') (h : RM w.heap x K) : RM w'.heap x K := ⟨(h.s.ext hE).size, fun y hy => ⟨(h.g y hy).1.ext hE, (h.g y hy).2⟩⟩
set_option maxRecDepth 100000 in
set_option maxHeartbeats 4000000 in
theorem lists_ok (w : World) (a : MV) (ha : (RM w.heap a 1048576 ∧ InR a) ∧ a.n ≤ 1048576) (A : Option Addr) (n c : Nat) (L : List SP) (hs0 : Sm 5 spc w.heap w.heap.size A n c L) (hg0 : ∀ s ∈ L, GI w.heap s.k) (hb : wsum L ≤ 1048576 ∧ n ≤ 1048576) (x : Int) (hx1 : -9223372036854775808 ≤ x) (hx2 : x < 9223372036854775808) :
    Cl Tryz.prog 3 #[.agg (mvc a).toArray, .slice A n c, .int .i64 x] w (YesM w) := by
  obtain ⟨⟨hrm, hin⟩, hna⟩ := ha
  obtain ⟨hw, hn⟩ := hb
  have hS : SS w.heap A n c L := ⟨hs0, hg0⟩
  have hlen := hs0.len
  clear hs0 hg0
  have hR : ∀ w1 y Ay ky Ly, RM w1.heap y 1048576 → CpM a y → SS w1.heap Ay n ky Ly → Ly.map cor = L.map cor → Cl Tryz.prog 11 #[.agg (mvc y).toArray, .slice Ay n ky] w1 (RetO w1 (rowsO a L) 4194304) := fun w1 y Ay ky Ly h1 h2 h3 h4 =>
    (srows_o w1 y 1048576 (hin.cp h2) h1 Ay n ky Ly h3 hn (by rw [cor_wsum h4]; omega)).mono fun e w' h => (by
      obtain ⟨x, q1, q2, q3, q4⟩ := h.congr (rowsO_cp h2 h4)
      exact ⟨x, q1, q2.monoK (by rw [cor_wsum h4]; omega), q3, q4⟩)
  have hC : ∀ w1 y Ay ky Ly, RM w1.heap y 1048576 → CpM a y → SS w1.heap Ay n ky Ly → Ly.map cor = L.map cor → Cl Tryz.prog 14 #[.agg (mvc y).toArray, .slice Ay n ky] w1 (RetO w1 (colsO a L) 4194304) := fun w1 y Ay ky Ly h1 h2 h3 h4 =>
    (scols_o w1 y 1048576 (hin.cp h2) h1 Ay n ky Ly h3 hn (by rw [cor_wsum h4]; omega)).mono fun e w' h => (by
      obtain ⟨x, q1, q2, q3, q4⟩ := h.congr (colsO_cp h2 h4)
      exact ⟨x, q1, q2.monoK (by rw [cor_wsum h4]; omega), q3, q4⟩)
  have hM : ∀ w1 Ay ky Ly, SS w1.heap Ay n ky Ly → Ly.map cor = L.map cor → Cl Tryz.prog 16 #[.int .i64 x, .slice Ay n ky] w1 (RetO w1 (matO x L) 4194304) := fun w1 Ay ky Ly h3 h4 =>
    (smatrix_o w1 x Ay n ky Ly h3 hn (by rw [cor_wsum h4]; omega)).mono fun e w' h => (by
      obtain ⟨x, q1, q2, q3, q4⟩ := h.congr (matO_cp h4)
      exact ⟨x, q1, q2.monoK (by rw [cor_wsum h4]; omega), q3, q4⟩)
  have hI : ∀ w1 Ay ky Ly, SS w1.heap Ay n ky Ly → Ly.map cor = L.map cor → Cl Tryz.prog 19 #[.int .i64 x, .slice Ay n ky] w1 (RetIv w1 (invO x L) (invErr x L) (wsum L)) := fun w1 Ay ky Ly h3 h4 => by
    have := sinverse_ok w1 x Ay n ky Ly h3 (by rw [cor_wsum h4]; omega) hn
    rw [(invO_cp h4).1, (invO_cp h4).2, cor_wsum h4] at this
    exact this
  have hR' := fun w1 (hE : Ext w w1) => (rrows_o w1 a 1048576 (hrm.ext' hE) A n c L (hS.ext hE) hn (by omega))
  have hC' := fun w1 (hE : Ext w w1) => (rcols_o w1 a 1048576 (hrm.ext' hE) A n c L (hS.ext hE) hn (by omega))
  have hM' := fun w1 (hE : Ext w w1) => (rmatrix_o w1 x A n c L (hS.ext hE) hn (by omega))
  have hI' := fun w1 (hE : Ext w w1) => rinverse_ok w1 x A n c L (hS.ext hE) (by omega) hn
  have hK1 : 1048576 + wsum L + 1 ≤ 4194304 := by omega
  have hK2 : wsum L + 1 ≤ 4194304 := by omega
  have hVl := invO_len x L
  generalize rowsO a L = o1 at *
  generalize colsO a L = o2 at *
  generalize matO x L = o3 at *
  generalize invO x L = V at *
  generalize invErr x L = ve at *
  obtain ⟨e1, r1, c1, F1⟩ := o1
  obtain ⟨e2, r2, c2, F2⟩ := o2
  obtain ⟨e3, r3, c3, F3⟩ := o3
  have hcm := fun w1 (hE : Ext w w1) => copyMat_ok w1 a 1048576 (hrm.ext' hE) hna (by omega)
  clear hrm
  obtain ⟨ar, ac, aA, an, ak, al⟩ := a
  refine enter Tryz.func3 rfl rfl rfl ?_
  have hF := Fr.refl w
  repeat' (first | (refine TL.isOp ?_; first | (refine TL.isG ?_; first | refine TL.grun rfl rfl rfl ?_) | (refine TL.isCall ?_; refine TL.call rfl rfl ?_; first | (refine (awake_ok _).mono ?_; rintro _ wc ⟨rfl, hE⟩; replace hF := hF.exts hE; clear hE; refine Back.mk ?_) | (refine (copySteps_ok _ A n c L (hS.ext hF.ext) hn (by omega)).mono ?_; rintro _ wc ⟨Ac, kc, Lc, rfl, hSc, hcor, hE, hf⟩; replace hF := Fr.addSS hF hE hSc hf; clear hE hSc hf; refine Back.mk ?_) | (refine (hcm _ hF.ext).mono ?_; rintro _ wc ⟨⟨yr, yc, yA, yn, yk, yl⟩, rfl, hRy, hcp, hE, hf⟩; replace hF := Fr.addRM hF hE hRy hf; clear hE hRy hf; refine Back.mk ?_) | (refine (scheckS_ok _ x Ac n kc 0 Lc (Fr.ss hF (by repeat (first | exact memH | apply memT))) (by rw [cor_wsum hcor]; omega) hn).mono ?_; rintro _ wc ⟨z, err, rfl, hCk, hE⟩; replace hCk := hCk.cor hcor; replace hF := hF.exts hE; clear hE; refine Back.mk ?_) | (refine (rcheckS_ok _ x A n c L (hS.ext hF.ext) hn).mono ?_; rintro _ wc ⟨z', err', rfl, hCk', hE⟩; obtain ⟨rfl, rfl⟩ := CkS.uniq hCk hCk'; clear hCk hCk'; replace hF := hF.exts hE; clear hE; refine Back.mk ?_) | (refine (hR _ ⟨yr, yc, yA, yn, yk, yl⟩ Ac kc Lc (Fr.rm hF (by repeat (first | exact memH | apply memT))) hcp (Fr.ss hF (by repeat (first | exact memH | apply memT))) hcor).mono ?_; rintro _ wc ⟨⟨zr1, zc1, zA1, zn1, zk1, zl1⟩, rfl, hL, hE, hf⟩; replace hF := Fr.addLM hF hE hL hf; clear hE hL hf hcor hcp; refine Back.mk ?_) | (refine (hR' _ hF.ext).mono ?_; rintro _ wc ⟨⟨yr1, yc1, yA1, yn1, yk1, yl1⟩, rfl, hL, hE, hf⟩; replace hF := Fr.addLM hF hE (hL.monoK hK1) hf; clear hE hL hf; refine Back.mk ?_) | (refine (hC _ ⟨yr, yc, yA, yn, yk, yl⟩ Ac kc Lc (Fr.rm hF (by repeat (first | exact memH | apply memT))) hcp (Fr.ss hF (by repeat (first | exact memH | apply memT))) hcor).mono ?_; rintro _ wc ⟨⟨zr2, zc2, zA2, zn2, zk2, zl2⟩, rfl, hL, hE, hf⟩; replace hF := Fr.addLM hF hE hL hf; clear hE hL hf hcor hcp; refine Back.mk ?_) | (refine (hC' _ hF.ext).mono ?_; rintro _ wc ⟨⟨yr2, yc2, yA2, yn2, yk2, yl2⟩, rfl, hL, hE, hf⟩; replace hF := Fr.addLM hF hE (hL.monoK hK1) hf; clear hE hL hf; refine Back.mk ?_) | (refine (hM _ Ac kc Lc (Fr.ss hF (by repeat (first | exact memH | apply memT))) hcor).mono ?_; rintro _ wc ⟨⟨zr3, zc3, zA3, zn3, zk3, zl3⟩, rfl, hL, hE, hf⟩; replace hF := Fr.addLM hF hE hL hf; clear hE hL hf hcor; refine Back.mk ?_) | (refine (hM' _ hF.ext).mono ?_; rintro _ wc ⟨⟨yr3, yc3, yA3, yn3, yk3, yl3⟩, rfl, hL, hE, hf⟩; replace hF := Fr.addLM hF hE (hL.monoK hK2) hf; clear hE hL hf; refine Back.mk ?_) | (refine (likeMat_t _ ⟨zr1, zc1, zA1, zn1, zk1, zl1⟩ ⟨yr1, yc1, yA1, yn1, yk1, yl1⟩ r1 c1 4194304 4194304 F1 F1 (Fr.lm hF (by repeat (first | exact memH | apply memT))) (Fr.lm hF (by repeat (first | exact memH | apply memT))) (fun _ _ _ _ => rfl) (by omega) (by omega)).mono ?_; rintro _ wc ⟨rfl, hE⟩; replace hF := hF.exts hE; clear hE; refine Back.mk ?_) | (refine (likeMat_t _ ⟨zr2, zc2, zA2, zn2, zk2, zl2⟩ ⟨yr2, yc2, yA2, yn2, yk2, yl2⟩ r2 c2 4194304 4194304 F2 F2 (Fr.lm hF (by repeat (first | exact memH | apply memT))) (Fr.lm hF (by repeat (first | exact memH | apply memT))) (fun _ _ _ _ => rfl) (by omega) (by omega)).mono ?_; rintro _ wc ⟨rfl, hE⟩; replace hF := hF.exts hE; clear hE; refine Back.mk ?_) | (refine (likeMat_t _ ⟨zr3, zc3, zA3, zn3, zk3, zl3⟩ ⟨yr3, yc3, yA3, yn3, yk3, yl3⟩ r3 c3 4194304 4194304 F3 F3 (Fr.lm hF (by repeat (first | exact memH | apply memT))) (Fr.lm hF (by repeat (first | exact memH | apply memT))) (fun _ _ _ _ => rfl) (by omega) (by omega)).mono ?_; rintro _ wc ⟨rfl, hE⟩; replace hF := hF.exts hE; clear hE; refine Back.mk ?_) | (refine (hI _ Ac kc Lc (Fr.ss hF (by repeat (first | exact memH | apply memT))) hcor).mono ?_; rintro _ wc ⟨iA, im, ik, tl, rfl, hSm, hT, hE, hf⟩; obtain rfl := hSm.len.symm.trans hT.len; replace hF := Fr.addST (Fr.addSS hF hE (ss_of hSm hT) hf) hT; clear hE hSm hT hf hcor; refine Back.mk ?_) | (refine (hI' _ hF.ext).mono ?_; rintro _ wc ⟨jA, jm, jk, tl', rfl, hSm, hT, hE, hf⟩; obtain rfl := hSm.len.symm.trans hT.len; replace hF := Fr.addST (Fr.addSS hF hE (ss_of hSm hT) hf) hT; clear hE hSm hT hf; refine Back.mk ?_) | (refine (ssign_ok _ x Ac n kc Lc (Fr.ss hF (by repeat (first | exact memH | apply memT))) (by rw [cor_wsum hcor]; omega) hn).mono ?_; rintro _ wc ⟨z, err, rfl, hSg, hE⟩; replace hSg := hSg.cor hcor; replace hF := hF.exts hE; clear hE; refine Back.mk ?_) | (refine (rsign_ok _ x A n c L (hS.ext hF.ext) hn).mono ?_; rintro _ wc ⟨z', err', rfl, hSg', hE⟩; obtain ⟨rfl, rfl⟩ := SgS.uniq hSg hSg'; clear hSg hSg'; replace hF := hF.exts hE; clear hE; refine Back.mk ?_) | (refine (likeSteps_t _ iA jA V.length ik jk (wsum L) (wsum L) tl tl' V (Fr.ss hF (by repeat (first | exact memH | apply memT))).s (Fr.ss hF (by repeat (first | exact memH | apply memT))).s (Fr.st hF (by repeat (first | exact memH | apply memT))) (Fr.st hF (by repeat (first | exact memH | apply memT))) (by omega) (by omega) (by omega)).mono ?_; rintro _ wc ⟨rfl, hE⟩; replace hF := hF.exts hE; clear hE; refine Back.mk ?_)) | (refine TL.isBin ?_; refine TL.cmpG rfl rfl rfl rfl (fun hc => ?_) (fun hc => ?_) <;> (try (first | (exfalso; omega) | exact absurd rfl hc))) | (apply TL.ev; (case hd => rfl); (case h => (first | exact ev_simple rfl | (apply Ev.isLoad; first | exact ev_loadAFr hF rfl (by refine ⟨?_, ?_⟩; (focus (repeat (first | exact InV.head | apply InV.tail))); rfl))))) | (refine TL.storeAFr hF rfl rfl rfl rfl (by refine ⟨?_, ?_⟩; (focus (repeat (first | apply SetV.head | apply SetV.tail))); rfl) rfl ?_; clear hF; intro ws hF) | (refine TL.boxAFr hF (d := 3) (cs := [.int .i64 ar, .int .i64 ac, .slice aA an ak]) rfl rfl ?_; clear hF; intro w3 b3 hF) | (refine TL.allocFr hF (d := 11) rfl rfl ?_; clear hF; intro w11 b11 hF) | (refine TL.allocFr hF (d := 13) rfl rfl ?_; clear hF; intro w13 b13 hF) | (refine TL.allocFr hF (d := 15) rfl rfl ?_; clear hF; intro w15 b15 hF) | (refine TL.allocFr hF (d := 17) rfl rfl ?_; clear hF; intro w17 b17 hF) | (refine TL.allocFr hF (d := 19) rfl rfl ?_; clear hF; intro w19 b19 hF) | (refine TL.allocFr hF (d := 21) rfl rfl ?_; clear hF; intro w21 b21 hF)) | (refine T.is ?_; first | refine T.seq ?_ | refine T.region ?_ | refine T.cond_f rfl ?_ | refine T.ret ?_ | refine T.skip ?_) | (refine G.is ?_; first | refine G.next ?_) | refine TL.nil ?_)
  exact G.ret1 rfl rfl ⟨rfl, hF.ext⟩
end Go.Proofs.YtdhmhjbmkimplaaGreat

namespace Go.Proofs.YtdhmhjbmkimplaaGreat
open Go Go.Eng Go.Proofs Go.NatM Go.ChangeShapes Go.WideShapes Go.ChangeAt Go.RowKit

theorem spot_none {w : World} {a : Addr} {v : Value} (h : w.cell? a = some v) : a = ⟨a.block, a.off, none⟩ := by
  cases a with
  | mk b o s =>
    cases s with
    | none => rfl
    | some s => unfold World.cell? at h; split at h <;> simp at h
theorem getD_map_toNat (zs : List Int) (hz : ∀ z ∈ zs, 0 ≤ z) (j : Nat) (hj : j < zs.length) : ((zs.map Int.toNat)[j]?).map (fun x : Nat => (x : Int)) = some (zs.getD j 0) := by
  simp [List.getD, hj, Int.toNat_of_nonneg (hz _ (List.getElem_mem hj))]
/-- an int that came in -/
theorem open_i64 {H : Type} {enc : TypeId × Value → H} {P : Program} {t : TypeId} {W : World} {base base' : Nat} {spare : Nat → Bool} {held : Bool} {v : Value} {d : DataW H} {ps : List MemPlace}
    (ht : P.underlying t = some (.int .i64)) (hv : Value.okWide P W .any base' t v) (h : DataW.Trod enc P W base spare held t v d ps) :
    ∃ x : Int, v = .int .i64 x ∧ -9223372036854775808 ≤ x ∧ x < 9223372036854775808 := by
  obtain ⟨x, e1, _, _, wx⟩ := open_int ht hv h
  refine ⟨x, e1, ?_⟩
  simp [Lit.wf, IntKind.min, IntKind.max, IntKind.signed, IntKind.bits] at wx
  omega
end Go.Proofs.YtdhmhjbmkimplaaGreat

namespace Go.Proofs.YtdhmhjbmkimplaaGreat
open Go Go.Eng Go.Proofs Go.NatM

theorem bulk_one {H : Type} (d : DataW H) : 1 ≤ Rows.uptoBulk d := by
  cases d with
  | lit l => cases l <;> simp [Rows.uptoBulk]
  | nil => simp [Rows.uptoBulk]
  | ptr d => simp [Rows.uptoBulk]
  | slice elems spare => simp [Rows.uptoBulk]
  | agg parts => simp [Rows.uptoBulk]
  | iface t d => simp [Rows.uptoBulk]
  | map entries => simp [Rows.uptoBulk]
  | held h => simp [Rows.uptoBulk]
theorem bulk_part {H : Type} {d : DataW H} {l : List (DataW H)} (h : d ∈ l) : Rows.uptoBulk d ≤ Rows.uptoBulkAll l := by
  induction l with
  | nil => cases h
  | cons x r ih =>
    simp only [Rows.uptoBulkAll]
    cases List.mem_cons.1 h with
    | inl e => subst e; omega
    | inr e => have := ih e; omega
theorem bulk_length {H : Type} (l : List (DataW H)) : l.length ≤ Rows.uptoBulkAll l := by
  induction l with
  | nil => simp [Rows.uptoBulkAll]
  | cons x r ih => have := bulk_one x; simp only [Rows.uptoBulkAll, List.length_cons]; omega
theorem small_all {H : Type} {ds gs : List (DataW H)} (h : Rows.uptoSmall H (ds ++ gs) = true) : Rows.uptoBulkAll (ds ++ gs) ≤ 1048576 := of_decide_eq_true h
theorem small_part {H : Type} {ds gs : List (DataW H)} (h : Rows.uptoSmall H (ds ++ gs) = true) {j : Nat} {d : DataW H} (hd : (ds ++ gs)[j]? = some d) : Rows.uptoBulk d ≤ 1048576 := by
  have h1 := small_all h
  have h2 := bulk_part (List.mem_of_getElem? hd)
  omega
end Go.Proofs.YtdhmhjbmkimplaaGreat

namespace Go.Proofs.YtdhmhjbmkimplaaGreat
open Go Go.Eng Go.Proofs Go.NatM Go.ChangeShapes Go.WideShapes Go.ChangeAt Go.RowKit Go.Deep

/-- a slice of words, by its cells -/
theorem open_u64c {H : Type} {enc : TypeId × Value → H} {P : Program} {t e : TypeId} {W : World} {base : Nat} {spare : Nat → Bool} {held : Bool} {v : Value} {d : DataW H} {ps : List MemPlace} {fuel : Nat}
    (ht : P.underlying t = some (.slice e)) (he : P.underlying e = some (.int .u64)) (hc : P.cellsOf e = 1) (hf : DataW.trod enc P W base spare held fuel t [v] = some (d, ps)) :
    ∃ x : SA Nat, v = sav x ∧ Sl u64v W.heap W.heap.size x.A x.n x.c x.l ∧ U64 x.l ∧ x.n + 1 ≤ Rows.uptoBulk d := by
  rcases open_ints ht he hc hf with ⟨hcs, hx⟩ | ⟨a, len, cap, zs, hcs, hb, hl, hm, hz, hx, hcell, hwz⟩
  · cases hcs
    cases hx
    exact ⟨⟨none, 0, 0, []⟩, rfl, Sl.nil _ _ _ _ _, U64.nil, bulk_one _⟩
  · cases hcs
    cases hx
    have hlen : len ≤ zs.length := by split at hz <;> omega
    have hr : ∀ z ∈ zs, 0 ≤ z ∧ z < 18446744073709551616 := fun z hz' => by
      have := hwz z hz'
      simp [Lit.wf, IntKind.min, IntKind.max, IntKind.signed, IntKind.bits] at this
      omega
    refine ⟨⟨some a, len, cap, (zs.take len).map Int.toNat⟩, rfl, ⟨by simp; omega, hl, ?_⟩, ?_, ?_⟩
    · rcases Nat.eq_zero_or_pos len with h0 | h0
      · exact .inl h0
      · have hc0 := hcell 0 (by omega)
        have ha0 : a.add 0 = a := by simp [Addr.add]
        rw [ha0] at hc0
        have hs := spot_none hc0
        refine .inr ⟨a.block, a.off, by rw [← hs], World.block_lt_of_cell? W a hc0, fun j x hx' => ?_⟩
        have hj : j < len := by
          have := (List.getElem?_eq_some_iff.1 hx').1
          simp at this; omega
        have hcj := hcell j (by omega)
        rw [hs, add_mk, cell_of_hcell] at hcj
        rw [hcj]
        have e1 : (zs.take len).getD j 0 = zs.getD j 0 := by simp [List.getD, List.getElem?_take, hj]
        have e2 := getD_map_toNat (zs.take len) (fun z hz' => (hr z (List.mem_of_mem_take hz')).1) j (by simp; omega)
        rw [hx', e1] at e2
        simp at e2
        show some (Value.int .u64 _) = some (Value.int .u64 _)
        simp only [List.getD] at e2 ⊢
        rw [← e2]
    · intro x hx'
      obtain ⟨z, hz', rfl⟩ := List.mem_map.1 hx'
      have := hr z (List.mem_of_mem_take hz')
      omega
    · have h1 := bulk_length (lits (H := H) .u64 (zs.take len))
      have h2 : (lits (H := H) .u64 (zs.take len)).length = len := by simp [lits]; omega
      simp only [Rows.uptoBulk]
      show len + 1 ≤ _
      omega
end Go.Proofs.YtdhmhjbmkimplaaGreat

namespace Go.Proofs.YtdhmhjbmkimplaaGreat
open Go Go.Eng Go.Proofs Go.NatM Go.ChangeShapes Go.WideShapes Go.ChangeAt Go.RowKit Go.Deep

def wts {α : Type} (wt : α → Nat) : List α → Nat
  | [] => 0
  | x :: l => wt x + wts wt l
theorem wts_mem {α : Type} {wt : α → Nat} {x : α} {l : List α} (h : x ∈ l) : wt x ≤ wts wt l := by
  induction l with
  | nil => cases h
  | cons y l ih =>
    simp only [wts]
    rcases List.mem_cons.1 h with rfl | h'
    · omega
    · have := ih h'; omega
theorem wts_bulk {H α : Type} {wt : α → Nat} (X : Nat → α) (D : Nat → DataW H) : ∀ is : List Nat, (∀ i ∈ is, wt (X i) ≤ Rows.uptoBulk (D i)) → wts wt (is.map X) ≤ Rows.uptoBulkAll (is.map D)
  | [], _ => by simp [wts]
  | i :: is, h => by
    have h1 := h i (by simp)
    have h2 := wts_bulk X D is (fun j hj => h j (by simp [hj]))
    simp only [List.map_cons, wts, Rows.uptoBulkAll]
    omega
/-- an int, by its cell -/
theorem open_i64c {H : Type} {enc : TypeId × Value → H} {P : Program} {t : TypeId} {W : World} {base : Nat} {spare : Nat → Bool} {held : Bool} {cs : List Value} {x : DataW H × List MemPlace} {fuel : Nat}
    (ht : P.underlying t = some (.int .i64)) (hf : DataW.trod enc P W base spare held fuel t cs = some x) : ∃ z : Int, cs = [.int .i64 z] ∧ -9223372036854775808 ≤ z ∧ z < 9223372036854775808 := by
  obtain ⟨m, rfl, _, hw⟩ := DataW.trod_int ht hf
  refine ⟨m, rfl, ?_⟩
  simp [Lit.wf, IntKind.min, IntKind.max, IntKind.signed, IntKind.bits] at hw
  omega
/-- a slice of words, by its cells -/
theorem open_u64d {H : Type} {enc : TypeId × Value → H} {P : Program} {t e : TypeId} {W : World} {base : Nat} {spare : Nat → Bool} {held : Bool} {cs : List Value} {x : DataW H × List MemPlace} {fuel : Nat}
    (ht : P.underlying t = some (.slice e)) (he : P.underlying e = some (.int .u64)) (hc : P.cellsOf e = 1) (hf : DataW.trod enc P W base spare held fuel t cs = some x) :
    ∃ y : SA Nat, cs = [sav y] ∧ Sl u64v W.heap W.heap.size y.A y.n y.c y.l ∧ U64 y.l ∧ y.n + 1 ≤ Rows.uptoBulk x.1 := by
  rcases DataW.trod_slice ht hf with ⟨rfl, _⟩ | ⟨a, len, cap, _, _, _, _, rfl, _⟩
  · obtain ⟨y, e1, r⟩ := open_u64c (d := x.1) (ps := x.2) ht he hc hf <;> exact ⟨y, by rw [e1], r⟩
  · obtain ⟨y, e1, r⟩ := open_u64c (d := x.1) (ps := x.2) ht he hc hf <;> exact ⟨y, by rw [e1], r⟩
/-- a slice of values of k cells -/
theorem open_elems {H α : Type} [Inhabited α] {enc : TypeId × Value → H} {P : Program} {t e : TypeId} {W : World} {base : Nat} {spare : Nat → Bool} {held : Bool} {cs : List Value} {x : DataW H × List MemPlace} {fuel k : Nat}
    (f : α → List Value) (G : α → Prop) (wt : α → Nat) (hk : 0 < k) (hf : ∀ y, (f y).length = k) (ht : P.underlying t = some (.slice e)) (hc : P.cellsOf e = k)
    (elem : ∀ n cs' x, DataW.trod enc P W base spare held n e cs' = some x → ∃ y, cs' = f y ∧ G y ∧ wt y ≤ Rows.uptoBulk x.1)
    (h : DataW.trod enc P W base spare held fuel t cs = some x) :
    ∃ A n c L, cs = [.slice A n c] ∧ Sm k f W.heap W.heap.size A n c L ∧ (∀ y ∈ L, G y) ∧ wts wt L + 1 ≤ Rows.uptoBulk x.1 ∧ n + 1 ≤ Rows.uptoBulk x.1 := by
  rcases open_slice ht h with ⟨rfl, rfl⟩ | ⟨a, len, cap, m, n, D, Pl, rfl, hb, hl, hm, hmm, rfl, hx⟩
  · exact ⟨none, 0, 0, [], rfl, Sm.nil hk _ _ _ _ _, fun y hy => (by cases hy), by simp [wts, Rows.uptoBulk], by simp [Rows.uptoBulk]⟩
  · have hlm : len ≤ m := by split at hmm <;> omega
    rw [hc] at hx
    obtain ⟨X, hX⟩ := choose_lt (n := len) (p := fun i (y : α) => W.cells? base (a.add (i * k)) k = some (f y) ∧ G y ∧ wt y ≤ Rows.uptoBulk (D i)) (fun i hi => by
      obtain ⟨cs', h1, h2⟩ := hx i (by omega)
      obtain ⟨y, rfl, g1, g2⟩ := elem n cs' _ h2
      exact ⟨y, h1, g1, g2⟩)
    refine ⟨some a, len, cap, (List.range len).map X, rfl, ⟨by simp, hl, hk, fun y hy => hf y, ?_⟩, ?_, ?_, ?_⟩
    · rcases Nat.eq_zero_or_pos len with h0 | h0
      · exact .inl h0
      · have hc0 := (hX 0 (by omega)).1
        obtain ⟨_, hl0, hc0⟩ := World.cells?_some hc0
        have hc1 := hc0 0 hk
        obtain ⟨v0, hv0⟩ : ∃ v0, (f (X 0))[0]? = some v0 := ⟨_, List.getElem?_eq_getElem (by rw [hf]; exact hk)⟩
        rw [hv0] at hc1
        have e0 : (a.add (0 * k)).add 0 = a := by simp [Addr.add]
        rw [e0] at hc1
        have hs := spot_none hc1
        refine .inr ⟨a.block, a.off, by rw [← hs], World.block_lt_of_cell? W a hc1, fun j y hy q v hv => ?_⟩
        have hj : j < len := by
          have := (List.getElem?_eq_some_iff.1 hy).1
          simpa using this
        rw [List.getElem?_map, List.getElem?_range hj] at hy
        simp at hy
        subst hy
        obtain ⟨_, hlj, hcj⟩ := World.cells?_some (hX j hj).1
        have hq : q < k := by have := (List.getElem?_eq_some_iff.1 hv).1; rwa [hf] at this
        have := hcj q hq
        rw [hv, hs, add_mk, add_mk, cell_of_hcell, Nat.add_assoc] at this
        exact this
    · intro y hy
      obtain ⟨i, hi, rfl⟩ := List.mem_map.1 hy
      exact (hX i (List.mem_range.1 hi)).2.1
    · have := wts_bulk X D (List.range len) (fun i hi => (hX i (List.mem_range.1 hi)).2.2)
      simp only [Rows.uptoBulk]
      omega
    · have h1 := bulk_length ((List.range len).map D)
      simp only [List.length_map, List.length_range] at h1
      simp only [Rows.uptoBulk]
      omega
end Go.Proofs.YtdhmhjbmkimplaaGreat

namespace Go.Proofs.YtdhmhjbmkimplaaGreat
open Go Go.Eng Go.Proofs Go.NatM Go.ChangeShapes Go.WideShapes Go.ChangeAt Go.RowKit Go.Deep

theorem len2 {α : Type} {l : List α} (h : l.length = 2) : ∃ a b, l = [a, b] := by
  match l, h with
  | [a, b], _ => exact ⟨a, b, rfl⟩
theorem len3 {α : Type} {l : List α} (h : l.length = 3) : ∃ a b c, l = [a, b, c] := by
  match l, h with
  | [a, b, c], _ => exact ⟨a, b, c, rfl⟩
theorem len4 {α : Type} {l : List α} (h : l.length = 4) : ∃ a b c d, l = [a, b, c, d] := by
  match l, h with
  | [a, b, c, d], _ => exact ⟨a, b, c, d, rfl⟩
def ivw (x : IV) : Nat := x.m.n
theorem open_int {H : Type} {enc : TypeId × Value → H} {W : World} {base : Nat} {spare : Nat → Bool} {held : Bool} (m : Nat) (cs : List Value) (x : DataW H × List MemPlace)
    (h : DataW.trod enc Tryz.prog W base spare held m 51 cs = some x) : ∃ y : IV, cs = ivc y ∧ GI W.heap y ∧ ivw y ≤ Rows.uptoBulk x.1 := by
  obtain ⟨xs, q, _, rfl, hl, hxl, hall⟩ := DataW.trod_struct Tryz.underlying51 h
  have hl' : cs.length = 2 := hl.trans (by kernel_rfl)
  have hxl' : xs.length = 2 := hxl.trans rfl
  obtain ⟨v0, v1, rfl⟩ := len2 hl'
  obtain ⟨x0, x1, rfl⟩ := len2 hxl'
  have cb : Tryz.prog.cellsOf 4 = 1 := by kernel_rfl
  have cu : Tryz.prog.cellsOf 49 = 1 := by kernel_rfl
  have h0 : DataW.trod enc Tryz.prog W base spare held q 4 (([v0, v1].drop 0).take (Tryz.prog.cellsOf 4)) = some x0 := hall 0 _ rfl
  rw [cb] at h0
  have h1 : DataW.trod enc Tryz.prog W base spare held q 49 (([v0, v1].drop 1).take (Tryz.prog.cellsOf 49)) = some x1 := hall 1 _ rfl
  rw [cu] at h1
  obtain ⟨b, e0, _⟩ := DataW.trod_bool Tryz.underlying4 h0
  obtain rfl : v0 = .bool b := by simpa using e0
  obtain ⟨y1, e1, s1, u1, m1⟩ := open_u64d Tryz.underlying49 Tryz.underlying101 (by kernel_rfl) h1
  obtain rfl : v1 = sav y1 := by simpa using e1
  refine ⟨⟨b, y1⟩, rfl, ⟨s1, u1⟩, ?_⟩
  simp only [ivw, List.map_cons, List.map_nil, Rows.uptoBulk, Rows.uptoBulkAll]
  omega
/-- what is read of a matrix -/
structure RM0 (H : Array Obj) (x : MV) : Prop where
  s : Sm 2 ivc H H.size x.A x.n x.k x.l
  g : ∀ y ∈ x.l, GI H y
theorem small_mat {H : Array Obj} {y : MV} {b : Nat} (h : b ≤ 1048576) (r : RM0 H y) (hn : wts ivw y.l ≤ b) : RM H y 1048576 := ⟨r.s, fun x hx => ⟨r.g x hx, Nat.le_trans (wts_mem (wt := ivw) hx) (Nat.le_trans hn h)⟩⟩
end Go.Proofs.YtdhmhjbmkimplaaGreat

namespace Go.Proofs.YtdhmhjbmkimplaaGreat
open Go Go.Eng Go.Proofs Go.NatM Go.ChangeShapes Go.WideShapes Go.ChangeAt Go.RowKit Go.Deep

def stw (s : SP) : Nat := s.k.m.n + 1
theorem wts_stw (L : List SP) : wts stw L = wsum L := by
  induction L with
  | nil => rfl
  | cons x L ih => simp only [wts, wsum, List.map_cons, List.sum_cons] at ih ⊢; rw [ih]; rfl
theorem len4v {l : List Value} (h : l.length = 5) : ∃ a b c d e, l = [a, b, c, d, e] := by
  match l, h with
  | [a, b, c, d, e], _ => exact ⟨a, b, c, d, e, rfl⟩
set_option maxRecDepth 10000 in
theorem open_intw {H : Type} {enc : TypeId × Value → H} {W : World} {base : Nat} {spare : Nat → Bool} {held : Bool} (m : Nat) (cs : List Value) (x : DataW H × List MemPlace)
    (h : DataW.trod enc Tryz.prog W base spare held m 51 cs = some x) : ∃ y : IV, cs = ivc y ∧ GI W.heap y ∧ ivw y + 1 ≤ Rows.uptoBulk x.1 := by
  obtain ⟨xs, q, _, rfl, hl, hxl, hall⟩ := DataW.trod_struct Tryz.underlying51 h
  have hl' : cs.length = 2 := hl.trans (by kernel_rfl)
  have hxl' : xs.length = 2 := hxl.trans rfl
  obtain ⟨v0, v1, rfl⟩ := len2 hl'
  obtain ⟨x0, x1, rfl⟩ := len2 hxl'
  have cb : Tryz.prog.cellsOf 4 = 1 := by kernel_rfl
  have cu : Tryz.prog.cellsOf 49 = 1 := by kernel_rfl
  have h0 : DataW.trod enc Tryz.prog W base spare held q 4 (([v0, v1].drop 0).take (Tryz.prog.cellsOf 4)) = some x0 := hall 0 _ rfl
  rw [cb] at h0
  have h1 : DataW.trod enc Tryz.prog W base spare held q 49 (([v0, v1].drop 1).take (Tryz.prog.cellsOf 49)) = some x1 := hall 1 _ rfl
  rw [cu] at h1
  obtain ⟨b, e0, _⟩ := DataW.trod_bool Tryz.underlying4 h0
  obtain rfl : v0 = .bool b := by simpa using e0
  obtain ⟨y1, e1, s1, u1, m1⟩ := open_u64d Tryz.underlying49 Tryz.underlying101 (by kernel_rfl) h1
  obtain rfl : v1 = sav y1 := by simpa using e1
  refine ⟨⟨b, y1⟩, rfl, ⟨s1, u1⟩, ?_⟩
  simp only [ivw, List.map_cons, List.map_nil, Rows.uptoBulk, Rows.uptoBulkAll]
  omega
set_option maxRecDepth 10000 in
theorem open_step {H : Type} {enc : TypeId × Value → H} {W : World} {base : Nat} {spare : Nat → Bool} {held : Bool} (m : Nat) (cs : List Value) (x : DataW H × List MemPlace)
    (h : DataW.trod enc Tryz.prog W base spare held m 53 cs = some x) : ∃ y : SP, cs = spc y ∧ GI W.heap y.k ∧ stw y ≤ Rows.uptoBulk x.1 := by
  obtain ⟨xs, q, _, rfl, hl, hxl, hall⟩ := DataW.trod_struct Tryz.underlying53 h
  have hl' : cs.length = 5 := hl.trans (by kernel_rfl)
  have hxl' : xs.length = 4 := hxl.trans rfl
  obtain ⟨v0, v1, v2, v3, v4, rfl⟩ := len4v hl'
  obtain ⟨x0, x1, x2, x3, rfl⟩ := len4 hxl'
  have ci : Tryz.prog.cellsOf 3 = 1 := by kernel_rfl
  have cl : Tryz.prog.cellsOf 51 = 2 := by kernel_rfl
  have h0 : DataW.trod enc Tryz.prog W base spare held q 3 (([v0, v1, v2, v3, v4].drop 0).take (Tryz.prog.cellsOf 3)) = some x0 := hall 0 _ rfl
  rw [ci] at h0
  have h1 : DataW.trod enc Tryz.prog W base spare held q 3 (([v0, v1, v2, v3, v4].drop 1).take (Tryz.prog.cellsOf 3)) = some x1 := hall 1 _ rfl
  rw [ci] at h1
  have h2 : DataW.trod enc Tryz.prog W base spare held q 3 (([v0, v1, v2, v3, v4].drop 2).take (Tryz.prog.cellsOf 3)) = some x2 := hall 2 _ rfl
  rw [ci] at h2
  have h3 : DataW.trod enc Tryz.prog W base spare held q 51 (([v0, v1, v2, v3, v4].drop 3).take (Tryz.prog.cellsOf 51)) = some x3 := hall 3 _ rfl
  rw [cl] at h3
  obtain ⟨z0, e0, b0⟩ := open_i64c Tryz.underlying3 h0
  obtain rfl : v0 = .int .i64 z0 := by simpa using e0
  obtain ⟨z1, e1, b1⟩ := open_i64c Tryz.underlying3 h1
  obtain rfl : v1 = .int .i64 z1 := by simpa using e1
  obtain ⟨z2, e2, b2⟩ := open_i64c Tryz.underlying3 h2
  obtain rfl : v2 = .int .i64 z2 := by simpa using e2
  obtain ⟨y, e3, g3, m3⟩ := open_intw _ _ _ h3
  have e4 : [v3, v4] = ivc y := e3
  obtain ⟨yn, yA, ym, yc, yl⟩ := y
  simp only [ivc, sav, List.cons.injEq, and_true] at e4
  obtain ⟨rfl, rfl⟩ := e4
  refine ⟨⟨z0, z1, z2, ⟨yn, ⟨yA, ym, yc, yl⟩⟩⟩, rfl, g3, ?_⟩
  simp only [stw, ivw, List.map_cons, List.map_nil, Rows.uptoBulk, Rows.uptoBulkAll] at m3 ⊢
  omega
set_option maxRecDepth 100000 in
/-- steps handed in -/
theorem open_steps {H : Type} {enc : TypeId × Value → H} {W : World} {base base' : Nat} {spare : Nat → Bool} {held : Bool} {v : Value} {d : DataW H} {ps : List MemPlace}
    (hv : Value.okWide Tryz.prog W .any base' 25 v) (h : DataW.Trod enc Tryz.prog W base spare held 25 v d ps) :
    ∃ A n c L, v = .slice A n c ∧ Sm 5 spc W.heap W.heap.size A n c L ∧ (∀ s ∈ L, GI W.heap s.k) ∧ (wts stw L + 1 ≤ Rows.uptoBulk d ∧ n + 1 ≤ Rows.uptoBulk d) := by
  obtain ⟨A, n, c, rfl⟩ := okWide_slice Tryz.underlying25 hv
  obtain ⟨fuel, hf⟩ := h
  obtain ⟨A', n', c', L, e, r⟩ := open_elems (x := (d, ps)) spc (fun s => GI W.heap s.k) stw (show 0 < 5 by omega) (fun _ => rfl) Tryz.underlying25 (by kernel_rfl) (fun m cs x h => open_step m cs x h) hf
  have e' : [Value.slice A n c] = [.slice A' n' c'] := e
  simp at e'
  obtain ⟨rfl, rfl, rfl⟩ := e'
  exact ⟨A, n, c, L, rfl, r⟩
theorem small_steps {n : Nat} {L : List SP} {b : Nat} (h : b ≤ 1048576) (hn : wts stw L + 1 ≤ b ∧ n + 1 ≤ b) : wsum L ≤ 1048576 ∧ n ≤ 1048576 := by rw [← wts_stw]; omega
end Go.Proofs.YtdhmhjbmkimplaaGreat

namespace Go.Proofs.YtdhmhjbmkimplaaGreat
open Go Go.Eng Go.Proofs Go.NatM Go.ChangeShapes Go.WideShapes Go.ChangeAt Go.RowKit Go.Deep

set_option maxRecDepth 10000 in
theorem open_matcT {H : Type} {enc : TypeId × Value → H} {W : World} {base : Nat} {spare : Nat → Bool} {held : Bool} (m : Nat) (cs : List Value) (x : DataW H × List MemPlace)
    (h : DataW.trod enc Tryz.prog W base spare held m 24 cs = some x) : ∃ y : MV, cs = mvc y ∧ (RM0 W.heap y ∧ InR y) ∧ wts ivw y.l + y.n ≤ 2 * Rows.uptoBulk x.1 ∧ wts ivw y.l ≤ Rows.uptoBulk x.1 ∧ y.n ≤ Rows.uptoBulk x.1 := by
  obtain ⟨xs, q, _, rfl, hl, hxl, hall⟩ := DataW.trod_struct Tryz.underlying24 h
  have hl' : cs.length = 3 := hl.trans (by kernel_rfl)
  have hxl' : xs.length = 3 := hxl.trans rfl
  obtain ⟨v0, v1, v2, rfl⟩ := len3 hl'
  obtain ⟨x0, x1, x2, rfl⟩ := len3 hxl'
  have ci : Tryz.prog.cellsOf 3 = 1 := by kernel_rfl
  have cl : Tryz.prog.cellsOf 22 = 1 := by kernel_rfl
  have h0 : DataW.trod enc Tryz.prog W base spare held q 3 (([v0, v1, v2].drop 0).take (Tryz.prog.cellsOf 3)) = some x0 := hall 0 _ rfl
  rw [ci] at h0
  have h1 : DataW.trod enc Tryz.prog W base spare held q 3 (([v0, v1, v2].drop 1).take (Tryz.prog.cellsOf 3)) = some x1 := hall 1 _ rfl
  rw [ci] at h1
  have h2 : DataW.trod enc Tryz.prog W base spare held q 22 (([v0, v1, v2].drop 2).take (Tryz.prog.cellsOf 22)) = some x2 := hall 2 _ rfl
  rw [cl] at h2
  obtain ⟨z0, e0, b0⟩ := open_i64c Tryz.underlying3 h0
  obtain rfl : v0 = .int .i64 z0 := by simpa using e0
  obtain ⟨z1, e1, b1⟩ := open_i64c Tryz.underlying3 h1
  obtain rfl : v1 = .int .i64 z1 := by simpa using e1
  obtain ⟨A, n, c, L, e2, s2, g2, m2, m3⟩ := open_elems ivc (GI W.heap) ivw (show 0 < 2 by omega) (fun _ => rfl) Tryz.underlying22 (by kernel_rfl) (fun m cs x h => open_int m cs x h) h2
  obtain rfl : v2 = .slice A n c := by simpa using e2
  refine ⟨⟨z0, z1, A, n, c, L⟩, rfl, ⟨⟨s2, g2⟩, b0, b1⟩, ?_⟩
  simp only [List.map_cons, List.map_nil, Rows.uptoBulk, Rows.uptoBulkAll]
  omega
set_option maxRecDepth 10000 in
theorem open_matT {H : Type} {enc : TypeId × Value → H} {W : World} {base base' : Nat} {spare : Nat → Bool} {held : Bool} {v : Value} {d : DataW H} {ps : List MemPlace}
    (hv : Value.okWide Tryz.prog W .any base' 24 v) (h : DataW.Trod enc Tryz.prog W base spare held 24 v d ps) :
    ∃ y : MV, v = .agg (mvc y).toArray ∧ (RM0 W.heap y ∧ InR y) ∧ (wts ivw y.l ≤ Rows.uptoBulk d ∧ y.n ≤ Rows.uptoBulk d) := by
  obtain ⟨cs, rfl, _⟩ := okWide_struct Tryz.underlying24 hv
  obtain ⟨fuel, hf⟩ := h
  obtain ⟨y, e, r, _, m⟩ := open_matcT fuel _ (d, ps) hf
  have e' : cs.toList = mvc y := e
  refine ⟨y, ?_, r, m⟩
  rw [← e']
theorem small_matT {H : Array Obj} {y : MV} {b : Nat} (h : b ≤ 1048576) (r : RM0 H y ∧ InR y) (hn : wts ivw y.l ≤ b ∧ y.n ≤ b) : (RM H y 1048576 ∧ InR y) ∧ y.n ≤ 1048576 := ⟨⟨small_mat h r.1 hn.1, r.2⟩, by omega⟩
end Go.Proofs.YtdhmhjbmkimplaaGreat
