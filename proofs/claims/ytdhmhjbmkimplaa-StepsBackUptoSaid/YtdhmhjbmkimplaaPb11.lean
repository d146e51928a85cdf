/- Digits to the base 65536, more. The document's answers for layer 2: digits, words. The document's answers for layer 1: Add, Sub. The document's answers for layer 1: Sub, power. The document's answers for layer 1: power, Low. The laws of layer 1 that hold the program's calls against one another: the walks. The walk of NatOrder. The laws of layer 2 that hold the program's calls against one another: helpers. The walks of MulnatPowers, MulnatShifts, MulnatLong. The walk of MulnatLists. The document's answers for layer 2: Mul, Word, MulAdd, MulLow, Square, Pow, Product. The document's answers for layer 5: Neg, Add, Sub, Mul, MulAdd; sizes told by the numbers. The document's answers for layer 9: outside, blank, Make, Least, Zero, Unit, Turn. The engine: a list appended to a new, empty one; a part, of many cells, of an element. Layer 11: copies of integers, rows, matrices and steps. Layer 11: Check and Sign, told exactly, of the program and of the document. Layer 11: the document's step on a matrix (printed by gendone.py). The document's answers for layer 9: Turn; unsound matrices. Layer 11: Rows, Cols, Matrix: one outcome, of the program and of the document. Layer 11: Inverse, of the program and of the document; LikeSteps. Layer 11: the document's clean and Inverse; LikeSteps. Layer 11: the law StepsLists. Determinants of matrices of integers, by expansion along the last column; plain Lean. Elimination without fractions: each entry is a minor. Layer 11: the determinant of what steps make of the unit matrix. -/
import Derived.Test.YtdhmhjbmkimplaaPb8
import Derived.Test.YtdhmhjbmkimplaaPb3
import Derived.Test.YtdhmhjbmkimplaaPb4
import Derived.Test.YtdhmhjbmkimplaaPb5
import Derived.Test.YtdhmhjbmkimplaaPb7
import Derived.Test.YtdhmhjbmkimplaaPb10
set_option linter.unusedVariables false
set_option linter.unusedSimpArgs false
namespace Go.N16
open Go
theorem W_pow (k : Nat) : 65536 ^ k = 2 ^ (16 * k) := by rw [show (65536 : Nat) = 2 ^ 16 by rfl, ← Nat.pow_mul]
theorem bl_val {l : List Nat} (h : U64 l) (hs : sz l ≠ 0) : NatM.bl (val l) = 16 * (sz l - 1) + NatM.bl (l.getD (sz l - 1) 0) := by
  obtain ⟨k, hk⟩ : ∃ k, sz l = k + 1 := ⟨sz l - 1, by omega⟩
  have ht := (sz_top l).resolve_left hs
  rw [← val_sz l, hk, val_take_succ, W_pow]
  rw [hk] at ht
  simp only [Nat.add_sub_cancel] at ht ⊢
  exact NatM.bl_append _ (by rw [← W_pow]; exact h.take_lt k) ht
theorem val_eq_zero {l : List Nat} (h : sz l = 0) : val l = 0 := by rw [← val_sz l, h]; rfl
theorem W_split (n : Nat) : 2 ^ n = 65536 ^ (n / 16) * 2 ^ (n % 16) := by
  rw [W_pow, ← Nat.pow_add]; congr 1; omega
theorem W_low {n : Nat} (h : n ≤ 16) : 65536 = 2 ^ n * 2 ^ (16 - n) := by
  rw [← Nat.pow_add, show n + (16 - n) = 16 by omega]
theorem val_set : ∀ (l : List Nat) (k s : Nat), k < l.length → val (l.set k s) + 65536 ^ k * l.getD k 0 = val l + 65536 ^ k * s
  | [], k, s, h => by simp at h
  | x :: l, 0, s, h => by simp [val, List.getD]; omega
  | x :: l, k + 1, s, h => by
    have ih := val_set l k s (by simpa using h)
    have e : (x :: l).getD (k + 1) 0 = l.getD k 0 := by simp [List.getD]
    rw [List.set_cons_succ, e, val, val, Nat.pow_succ, Nat.mul_comm (65536 ^ k), Nat.mul_assoc, Nat.mul_assoc]
    omega
theorem rows_step {vY vZ vS Wi Wj x y t cy cy' s z : Nat} (hset : vS + (Wi * Wj) * z = vY + (Wi * Wj) * s) (hv : vY + (Wi * Wj) * cy = vZ + Wi * (x * t)) (e : s + 65536 * cy' = x * y + cy + z) :
    vS + (Wi * (Wj * 65536)) * cy' = vZ + Wi * (x * (t + Wj * y)) := by
  have e1 : (Wi * (Wj * 65536)) * cy' = (Wi * Wj) * (65536 * cy') := by rw [← Nat.mul_assoc Wi, Nat.mul_assoc (Wi * Wj)]
  have e2 : Wi * (x * (t + Wj * y)) = Wi * (x * t) + (Wi * Wj) * (x * y) := by
    rw [Nat.mul_add x, Nat.mul_add Wi, Nat.mul_left_comm x Wj y, Nat.mul_assoc Wi Wj]
  have e3 : (Wi * Wj) * s + (Wi * Wj) * (65536 * cy') = (Wi * Wj) * (x * y) + (Wi * Wj) * cy + (Wi * Wj) * z := by rw [← Nat.mul_add, e, Nat.mul_add, Nat.mul_add]
  rw [e1, e2]
  generalize (Wi * Wj) * (65536 * cy') = q1 at *
  generalize (Wi * Wj) * s = q2 at *
  generalize (Wi * Wj) * (x * y) = q3 at *
  generalize (Wi * Wj) * cy = q4 at *
  generalize (Wi * Wj) * z = q5 at *
  omega
theorem shr_step {vD p r x vt s : Nat} (hv : p * vD + r = vt) (hs : s = r * 65536 + x) : p * (s / p + 65536 * vD) + s % p = x + 65536 * vt := by
  have h1 := Nat.mod_add_div s p
  have h2 : p * (s / p + 65536 * vD) = p * (s / p) + 65536 * (p * vD) := by rw [Nat.mul_add]; grind
  rw [h2]
  omega
/-- the word number q of the digits, of those from j on -/
def wq (X : List Nat) (j q : Nat) : Nat := val ((X.drop (max j (4 * q))).take (4 * q + 4 - max j (4 * q)))
end Go.N16

namespace Go.Proofs.Ytdhmhjbmkimplaa
open Go Go.Eng Go.Proofs Go.NatM Go.RowKit

end Go.Proofs.Ytdhmhjbmkimplaa

namespace Go.Proofs.Ytdhmhjbmkimplaa
open Go Go.Eng Go.Proofs Go.NatM Go.RowKit

end Go.Proofs.Ytdhmhjbmkimplaa

namespace Go.Proofs.Ytdhmhjbmkimplaa
open Go Go.Eng Go.Proofs Go.NatM Go.RowKit

end Go.Proofs.Ytdhmhjbmkimplaa

namespace Go.Proofs.Ytdhmhjbmkimplaa
open Go Go.Eng Go.Proofs Go.NatM Go.RowKit

end Go.Proofs.Ytdhmhjbmkimplaa

namespace Go.Proofs.Ytdhmhjbmkimplaa
open Go Go.Eng Go.Proofs Go.NatM

/-- the answer of a law -/
def Yes (w : World) (e : Ending) (w' : World) : Prop := e = .returned (.bool true) ∧ Ext w w'
theorem Yes.mk {w w' : World} (h : Ext w w') : Yes w (.returned (.bool true)) w' := ⟨rfl, h⟩

end Go.Proofs.Ytdhmhjbmkimplaa

namespace Go.Proofs.Ytdhmhjbmkimplaa
open Go Go.Eng Go.Proofs Go.NatM

end Go.Proofs.Ytdhmhjbmkimplaa

namespace Go.Proofs.Ytdhmhjbmkimplaa
open Go Go.Eng Go.Proofs Go.NatM

end Go.Proofs.Ytdhmhjbmkimplaa

namespace Go.Proofs.Ytdhmhjbmkimplaa
open Go Go.Eng Go.Proofs Go.NatM

end Go.Proofs.Ytdhmhjbmkimplaa

namespace Go.Proofs.Ytdhmhjbmkimplaa
open Go Go.Eng Go.Proofs Go.NatM Go.RowKit

/-- slices of their own, of two types, lie in two blocks -/
theorem ow_grown {α β : Type} {f : α → Value} {g : β → Value} {w w' : World} {lo lo' n c n' c' : Nat} {t t' : TypeId} {A A' : Option Addr} {l : List α} {l' : List β}
    (h : Ow f w.heap lo t A n c l) (h' : Ow g w.heap lo' t' A' n' c' l') (hne : t ≠ t') (hg : w.grownBy w' (Value.slice A' n' c').ownBlock) : Ow f w'.heap lo t A n c l := by
  unfold Ow at h h' ⊢
  refine ⟨h.1, ?_⟩
  rcases h.2 with ⟨e, r⟩ | ⟨b, cur, e, hlo, hb, r⟩
  · exact .inl ⟨e, r⟩
  · refine .inr ⟨b, cur, e, hlo, ?_, r⟩
    have hlt := (Array.getElem?_eq_some_iff.1 hb).1
    rw [hg.block b hlt ?_, hb]
    rcases h'.2 with ⟨e', _⟩ | ⟨b', cur', e', _, hb', _⟩
    · subst e'; simp [Value.ownBlock]
    · subst e'
      intro e2
      simp [Value.ownBlock] at e2
      subst e2
      rw [hb] at hb'
      injection hb' with hb'
      injection hb' with _ ht
      exact hne ht
/-- lists of their own -/
def LO (H : Array Obj) (lo : Nat) (L : List (SA Nat)) : Prop := ∀ x ∈ L, Ow u64v H lo 85 x.A x.n x.c x.l ∧ U64 x.l
theorem LO.ext {w w' : World} {lo : Nat} {L : List (SA Nat)} (hb : Ext w w') (h : LO w.heap lo L) : LO w'.heap lo L := fun x hx => ⟨(h x hx).1.ext hb, (h x hx).2⟩
theorem LO.grown {β : Type} {g : β → Value} {w w' : World} {lo lo' n' c' : Nat} {t' : TypeId} {A' : Option Addr} {l' : List β} {L : List (SA Nat)} (h : LO w.heap lo L) (h' : Ow g w.heap lo' t' A' n' c' l') (hne : 85 ≠ t') (hg : w.grownBy w' (Value.slice A' n' c').ownBlock) : LO w'.heap lo L :=
  fun x hx => ⟨ow_grown (h x hx).1 h' hne hg, (h x hx).2⟩
end Go.Proofs.Ytdhmhjbmkimplaa

namespace Go.Proofs.Ytdhmhjbmkimplaa
open Go Go.Eng Go.Proofs Go.NatM Go.RowKit

end Go.Proofs.Ytdhmhjbmkimplaa

namespace Go.Proofs.Ytdhmhjbmkimplaa
open Go Go.Eng Go.Proofs Go.NatM Go.RowKit

end Go.Proofs.Ytdhmhjbmkimplaa

namespace Go.Proofs.Ytdhmhjbmkimplaa
open Go Go.Eng Go.Proofs Go.NatM Go.RowKit

def nought : IV := ⟨false, ⟨none, 0, 0, []⟩⟩
theorem li_n0 (H : Array Obj) : LI H 0 nought := ⟨⟨⟨rfl, Nat.le_refl _, .inl rfl⟩, fun x hx => (by cases hx)⟩, by simp [dig, nought], by decide⟩
end Go.Proofs.Ytdhmhjbmkimplaa

namespace Go.Eng
open Go Go.RowKit

section
variable {P : Program} {N : Fm} {Q : Exit → Act → World → Prop} {σ : Store} {w : World} {ops : Array Oper} {d : Nat} {t : TypeId} {pos : String} {af : Array Edge} {rest : List Oper}
theorem TL.appendCp {α : Type} {f : α → Value} (h1 : ∀ u, (f u).cells = #[f u]) {x y : Operand} {ty e : TypeId} [hT : USlice P ty e] {z : Value} {b1 : Nat} [hS : USize P e z 1 b1] {b m c' B : Nat} {A' : Option Addr} {l' : List α}
    (hx : look σ x = some (.slice (some ⟨b, 0, none⟩) 0 0)) (hy : look σ y = some (.slice A' m c')) (hd : Nat.blt d N.n = true) (hs : Sl f w.heap B A' m c' l') (hroom : m * b1 ≤ 140737488355328 ∧ m ≤ 4611686018427387904)
    (K : ∀ w' A2 c2, Ext w w' → Sl f w'.heap w'.heap.size A2 m c2 l' → (m = 0 ∨ ∃ g, A2 = some ⟨g, 0, none⟩ ∧ w.heap.size ≤ g) → TL P N .seq ops Q rest ((d, .slice A2 m c2) :: σ) w') :
    TL P N .seq ops Q (⟨some d, .call { callee := .builtin .append, args := #[x, y], argTypes := #[ty, ty] }, t, pos, af, none⟩ :: rest) σ w := by
  obtain ⟨i, hi, hz0, hsz, hby⟩ := hS.info
  have hl' := hs.len
  rcases Nat.eq_zero_or_pos m with h0 | h0
  · subst h0
    exact TL.appendZero hx hy hd (Nat.le_refl _) (K w _ 0 (Ext.refl _) ⟨hl', Nat.le_refl _, .inl rfl⟩ (.inl rfl))
  · rcases hs.mem with h | ⟨g, o, rfl, _, hm⟩
    · omega
    have hr := run_append_grow (P := P) (w := w) ty t e i z hT.out hi hz0 ⟨b, 0, none⟩ 0 0 [] (by simp) (fun j v hj => by simp at hj) ⟨g, o, none⟩ m c' (l'.map f) (by rw [List.length_map, hl', hsz, Nat.mul_one])
      (fun j v hj => by
        rw [List.getElem?_map] at hj
        cases hq : l'[j]? with
        | none => rw [hq] at hj; cases hj
        | some u =>
          rw [hq] at hj
          cases hj
          rw [add_mk, cell_of_hcell]
          exact hm j u hq) (by omega) (by omega) (by rw [Nat.zero_add, nextslicecap_zero h0, hby]; omega)
    simp only [Nat.zero_add] at hr
    have hE : Ext w (w.drew.alloc (.cells (#[] ++ (l'.map f).toArray ++ Builtin.zeroCells z.cells (grownCap w m 0 e - m)) e)) := Ext.trans (ext_drewN w 1) (ext_alloc _ _)
    refine TL.op (fun ρ hρ => ?_) hd (K _ (some ⟨w.heap.size, 0, none⟩) (grownCap w m 0 e) hE ⟨hl', grownCap_ge w m 0 e, .inr ⟨w.heap.size, 0, rfl, ?_, fun j u hu => ?_⟩⟩ (.inr ⟨_, rfl, Nat.le_refl _⟩))
    · simp [execOp, resolve, invoke, builtin, hρ x _ hx, hρ y _ hy, hr]
    · rw [size_alloc]; exact Nat.lt_succ_self _
    · unfold hcell
      have := heap_alloc w.drew (.cells (#[] ++ (l'.map f).toArray ++ Builtin.zeroCells z.cells (grownCap w m 0 e - m)) e)
      rw [show w.drew.heap.size = w.heap.size from rfl] at this
      rw [this]
      simp only [Array.empty_append, Nat.zero_add]
      have hj := (List.getElem?_eq_some_iff.1 hu).1
      rw [Array.getElem?_append_left (by simpa using hj)]
      simp [hu]
end
section
variable {P : Program} {σ : Store} {H : Array Obj} {d : Option Tmp} {t : TypeId} {pos : String} {af : Array Edge} {gd : Option (Nat × Bool)}
end
end Go.Eng

namespace Go.Proofs.Ytdhmhjbmkimplaa
open Go Go.Eng Go.Proofs Go.NatM Go.RowKit

/-- the same integer in the same form -/
def SameI (x y : IV) : Prop := y.neg = x.neg ∧ y.m.l = x.m.l ∧ y.m.n = x.m.n
def RetCp (w : World) (x : IV) (e : Ending) (w' : World) : Prop := ∃ y : IV, e = .returned (.agg (ivc y).toArray) ∧ SameI x y ∧ GI w'.heap y ∧ Ext w w'
theorem copy_ok (w : World) (x : IV) (g : GI w.heap x) (hn : x.m.n ≤ 1099511627776) : Cl Try.prog 85 #[.agg (ivc x).toArray] w (RetCp w x) := by
  have hs := g.s
  have hu := g.u
  obtain ⟨neg, ⟨A, n, c, l⟩⟩ := x
  dsimp only at hs hu hn
  refine enter Try.func85 rfl rfl rfl ?_
  have hF := Fr.refl w
  repeat' (first | (refine TL.isOp ?_; first | (refine TL.storeAFr hF rfl rfl rfl rfl (by refine ⟨?_, ?_⟩; (focus (repeat (first | apply SetV.head | apply SetV.tail))); rfl) rfl ?_; clear hF; intro ws hF) | (refine TL.boxAFr hF (d := 1) (cs := [.bool neg, .slice A n c]) rfl rfl ?_; clear hF; intro w1 b1 hF) | (refine TL.allocFr hF (d := 2) rfl rfl ?_; clear hF; intro w2 b2 hF) | (refine TL.build0 u64v rfl rfl (fun wn bn ebn hBn hEn hzn => ?_); replace hF := hF.exts hEn; clear ebn hBn hEn hzn) | (refine TL.appendCp (f := u64v) (fun _ => rfl) rfl rfl rfl (hs.ext hF.ext) (by omega) (fun wp A2 c2 hE hS2 _ => ?_); replace hF := Fr.addSl (hF.exts hE) hS2; clear hE hS2)) | (refine TF.is ?_; first | refine TF.nil ?_ | refine TF.e rfl ?_ | (refine TF.pick rfl ?_; first | (apply TFo.ev; (case hd => rfl); (case h => (intro wh hF; first | (apply Ev.isLoad; first | exact ev_loadFr hF rfl (by refine ⟨?_, ?_⟩; (focus (repeat (first | exact InV.head | apply InV.tail))); rfl)) | exact ev_fieldAddr rfl | exact ev_buildX rfl rfl))))) | (refine T.is ?_; first | refine T.seq ?_ | refine T.region ?_ | refine T.ret ?_ | (refine T.regionFr hF 1 7 (.s 0 (.s 1 (.s 3 (.s 4 (.e 2 (.e 5 (.s 6 (.e 7 .nil)))))))) mixed (by kernel_rfl) ?_; clear hF; intro wr hF)) | (refine G.is ?_; first | refine G.next ?_ | refine G.only ?_ | refine G.treeEnd rfl ?_ | refine G.tree rfl (by first | exact hF | exact hF.weak (List.sublist_append_right _ _) (by repeat (first | exact allR | apply allT)) | exact hF.weak (by repeat (first | exact List.Sublist.refl _ | apply List.Sublist.cons)) (by repeat (first | exact allR | apply allT)) | exact hF.weak (by repeat (first | exact List.Sublist.refl _ | apply List.Sublist.cons)) (by repeat (first | exact allN | refine allH (by repeat (first | exact memH | apply memT)) ?_))) ?_) | refine TL.nil ?_)
  exact G.retC1 rfl rfl (held_agg (hF.var (by repeat (first | exact InV.head | apply InV.tail))) rfl) ⟨⟨neg, ⟨A2, n, c2, l⟩⟩, rfl, ⟨rfl, rfl, rfl⟩, ⟨Fr.sl hF (by repeat (first | exact memH | apply memT)), hu⟩, hF.ext⟩
/-- the first i of a list are copies of l -/
def LsG (i : Nat) (l' : List IV) (K : Nat) (H : Array Obj) : Prop := ∀ q, q < i → GI H (l'.getD q default) ∧ (l'.getD q default).m.n ≤ K
def dpLG (i : Nat) (l' : List IV) (K : Nat) : DP := ⟨LsG i l' K, fun _ => False, fun _ _ _ h => h.elim, fun _ _ hd h q hq => ⟨(h q hq).1.de hd, (h q hq).2⟩⟩
section
variable {S : Nat → Prop} {w0 w w' : World} {L : List VB} {D : List DP}
theorem Fr.addLG (h : Fr w0 w L D S) {i : Nat} {l : List IV} {K : Nat} (k : LsG i l K w.heap) : Fr w0 w L (dpLG i l K :: D) S := h.add _ k fun _ _ h => h
theorem Fr.lg (h : Fr w0 w L D S) {i : Nat} {l : List IV} {K : Nat} (hm : dpLG i l K ∈ D) : LsG i l K w.heap := h.data _ hm
end
attribute [irreducible] dpLG

theorem LsG.set {H : Array Obj} {l : List IV} {i K : Nat} {u : IV} (h : LsG i l K H) (hi : i < l.length) (hu : GI H u) (hn : u.m.n ≤ K) : LsG (i + 1) (l.set i u) K H := by
  intro q hq
  by_cases e : q = i
  · subst e
    have e1 : (l.set q u).getD q default = u := by simp [List.getD, hi]
    rw [e1]; exact ⟨hu, hn⟩
  · have e1 : (l.set i u).getD q default = l.getD q default := by simp [List.getD, List.getElem?_set_ne (fun h => e h.symm)]
    rw [e1]; exact h q (by omega)
/-- a copy of a matrix -/
structure CpM (x y : MV) : Prop where
  r : y.r = x.r
  c : y.c = x.c
  n : y.n = x.n
  e : ∀ q, q < x.n → ival (y.l.getD q default) = ival (x.l.getD q default)
section
variable {S : Nat → Prop} {w0 w w' : World} {L : List VB} {D : List DP}
end

theorem lfp {w : World} {A : Option Addr} {n : Nat} (h : LF w A n) (k : Nat) (hk : fpA A n k) : w.heap.size ≤ k := by
  obtain ⟨h0, o, e⟩ := hk
  rcases h with h | ⟨b, e', hb⟩
  · omega
  · rw [e] at e'; cases e'; exact hb
/-- a list of steps in memory -/
structure SS (H : Array Obj) (A : Option Addr) (n k : Nat) (L : List SP) : Prop where
  s : Sm 5 spc H H.size A n k L
  g : ∀ s ∈ L, GI H s.k
theorem SS.ext {w w' : World} {A : Option Addr} {n k : Nat} {L : List SP} (hE : Ext w w') (h : SS w.heap A n k L) : SS w'.heap A n k L := ⟨(h.s.ext hE).size, fun s hs => (h.g s hs).ext hE⟩
theorem SS.de {H H' : Array Obj} {A : Option Addr} {n k : Nat} {L : List SP} (hd : DE (fpA A n) H H') (h : SS H A n k L) : SS H' A n k L := ⟨(Sm.de (fun _ h => h) hd h.s).size, fun s hs => (h.g s hs).de hd⟩
def dpSS (A : Option Addr) (n k : Nat) (L : List SP) : DP := ⟨fun H => SS H A n k L, fpA A n, fun _ _ h hk => h.s.fp_lt hk, fun _ _ hd h => h.de hd⟩
section
variable {S : Nat → Prop} {w0 w w' : World} {L : List VB} {D : List DP}
theorem Fr.addSS (h : Fr w0 w L D S) (hE : Ext w w') {A : Option Addr} {n k : Nat} {l : List SP} (g : SS w'.heap A n k l) (hf : LF w A n) : Fr w0 w' L (dpSS A n k l :: D) S := h.addNew hE _ g (lfp hf)
theorem Fr.ss (h : Fr w0 w L D S) {A : Option Addr} {n k : Nat} {l : List SP} (hm : dpSS A n k l ∈ D) : SS w.heap A n k l := h.data _ hm
end
attribute [irreducible] dpSS

section
variable {S : Nat → Prop} {w0 w w' : World} {L : List VB} {D : List DP}
end

theorem spc_noV (l : List SP) : (l.flatMap spc).all noU64 = true := by
  rw [List.all_eq_true]
  intro v hv
  obtain ⟨x, _, hx⟩ := List.mem_flatMap.1 hv
  simp only [spc, List.mem_cons, List.not_mem_nil, or_false] at hx
  rcases hx with rfl | rfl | rfl | rfl | rfl <;> rfl
def zeroSP : SP := ⟨0, 0, 0, nought⟩
end Go.Proofs.Ytdhmhjbmkimplaa

namespace Go.Proofs.Ytdhmhjbmkimplaa
open Go Go.Eng Go.Proofs Go.NatM Go.RowKit

/-- Check's answer, told exactly -/
def CkS (n : Int) (L : List SP) (z err : Int) : Prop :=
  (¬ isSideI n ∧ z = -1 ∧ err = 3) ∨ (FitAll n L ∧ z = -1 ∧ err = 0) ∨ (isSideI n ∧ ∃ (i : Nat) (s : SP), L[i]? = some s ∧ ¬ fits n.toNat s ∧ (∀ j t, j < i → L[j]? = some t → fits n.toNat t) ∧ z = i ∧ err = 3)
theorem CkS.err {n : Int} {L : List SP} {z err : Int} (h : CkS n L z err) : (err = 0 ∧ FitAll n L) ∨ (err = 3 ∧ ¬ FitAll n L) := by
  rcases h with ⟨a, _, rfl⟩ | ⟨a, _, rfl⟩ | ⟨a, i, s, hs, hn, _, _, rfl⟩
  · exact .inr ⟨rfl, fun h => a h.1⟩
  · exact .inl ⟨rfl, a⟩
  · exact .inr ⟨rfl, fun h => hn (h.2 s (List.mem_of_getElem? hs))⟩
theorem CkS.err0 {n : Int} {L : List SP} {z err : Int} (h : CkS n L z err) (hf : FitAll n L) : err = 0 := h.err.elim (fun h => h.1) fun h => absurd hf h.2
theorem CkS.err3 {n : Int} {L : List SP} {z err : Int} (h : CkS n L z err) (hf : ¬ FitAll n L) : err = 3 := h.err.elim (fun h => absurd h.2 hf) fun h => h.1
def RetCkS (w : World) (n : Int) (L : List SP) (e : Ending) (w' : World) : Prop := ∃ z err : Int, e = .returned (.tuple #[.int .i64 z, .int .i64 err]) ∧ CkS n L z err ∧ Ext w w'
set_option maxRecDepth 100000 in
set_option maxHeartbeats 1000000 in
theorem scheckS_ok (w : World) (n : Int) (A : Option Addr) (m k K : Nat) (L : List SP) (hs : SS w.heap A m k L) (hK : wsum L ≤ 4398046511104) (hm : m ≤ 1048576) : Cl Try.prog 35 #[.int .i64 n, .slice A m k] w (RetCkS w n L) := by
  have hlen := hs.s.len
  by_cases hsd : isSideI n
  · obtain ⟨q, rfl⟩ := Int.eq_ofNat_of_zero_le hsd.1
    have hq64 : q ≤ 64 := by have := hsd.2; omega
    refine enter Try.func35 rfl rfl rfl ?_
    have hF := Fr.refl w
    repeat' (first | (refine TL.isOp ?_; first | (refine TL.isG ?_; first | refine TL.grun rfl rfl rfl ?_) | (refine TL.isBin ?_; refine TL.cmpG rfl rfl rfl rfl (fun hc => ?_) (fun hc => ?_) <;> (try (first | (exfalso; omega) | exact absurd rfl hc))) | (apply TL.ev; (case hd => rfl); (case h => (first | exact ev_simple rfl | exact ev_len rfl)))) | (refine T.is ?_; first | refine T.seq ?_ | refine T.region ?_ | refine T.block ?_ | refine T.cond_f rfl ?_ | refine T.skip ?_) | (refine G.is ?_; first | refine G.next ?_) | refine TL.nil ?_)
    refine T.loop (α := Nat) (fun i => [(0, .int .i64 (q : Int)), (14, .slice A m k), (15, .int .i64 (m : Int)), (16, .int .i64 (i : Int))]) (fun i w' => i ≤ m ∧ (∀ j s, j < i → L[j]? = some s → fits q s) ∧ Fr w w' [] []) (fun i => m - i) 0 (by repeat (first | exact Sub.nil _ | refine Sub.cons rfl ?_ | refine Sub.cons' rfl (int_congr (by omega)) ?_)) ⟨Nat.zero_le _, fun j s hj => absurd hj (Nat.not_lt_zero _), hF⟩ ?_
    clear hF
    rintro i w2 ⟨hi, hq, hF⟩
    rcases Nat.lt_or_ge i m with hin | hin
    · have hy : L[i]? = some (L.getD i default) := by simp [List.getD, show i < L.length by omega]
      have hmem := List.mem_of_getElem? hy
      generalize L.getD i default = y at *
      have hwy := wsum_mem hmem
      repeat' (first | (refine TL.isOp ?_; first | (refine TL.isCall ?_; refine TL.call rfl rfl ?_; first | (refine (read_ok _ y y.k.m.n (fun h => ⟨(hs.g y hmem).ext hF.ext, Nat.le_refl _⟩) (by omega)).mono ?_; rintro _ w1 ⟨xv, rfl, hLx, hE⟩; replace hF := hF.exts hE; clear hE; refine Back.mk ?_)) | (refine TL.isBin ?_; refine TL.cmpG rfl rfl rfl rfl (fun hc => ?_) (fun hc => ?_) <;> (try (first | (exfalso; omega) | exact absurd rfl hc))) | (apply TL.ev; (case hd => rfl); (case h => (first | exact ev_simple rfl | (apply Ev.isBin; first | exact ev_arN rfl rfl rfl (by omega)) | (apply Ev.isLoad; first | exact ev_loadAFr hF rfl (by refine ⟨?_, ?_⟩; (focus (repeat (first | exact InV.head | apply InV.tail))); rfl) | exact ev_loadM rfl (hs.s.ext hF.ext) hy) | exact ev_indexM rfl rfl hin (hs.s.ext hF.ext).some))) | (refine TL.storeAFr hF rfl rfl rfl rfl (by refine ⟨?_, ?_⟩; (focus (repeat (first | apply SetV.head | apply SetV.tail))); rfl) rfl ?_; clear hF; intro ws hF) | (refine TL.allocFr hF (d := 7) rfl rfl ?_; clear hF; intro w7 b7 hF) | (refine TL.fitsMv (s := y) (n := q) rfl rfl rfl (fun b wf hb hE => ?_); replace hF := hF.exts hE; clear hE; cases b)) | (refine T.is ?_; first | refine T.seq ?_ | refine T.region ?_ | refine T.block ?_ | refine T.cond_t rfl ?_ | refine T.cond_f rfl ?_ | refine T.ret ?_ | refine T.skip ?_) | (refine G.is ?_; first | refine G.next ?_ | refine G.blockN ?_ | refine G.blockR ?_ | refine G.thenR ?_) | refine TL.nil ?_)
      · exact G.ret2 rfl rfl rfl ⟨i, 3, rfl, .inr (.inr ⟨hsd, i, y, hy, fun h => (by have := hb.2 h; cases this), hq, rfl, rfl⟩), hF.ext⟩
      · refine G.again (i + 1) (by repeat (first | exact Sub.nil _ | refine Sub.cons rfl ?_ | refine Sub.cons' rfl (int_congr (by omega)) ?_)) ⟨by omega, fun j s hj hs' => ?_, hF.weak (List.nil_sublist _) allN⟩ (by omega)
        rcases Nat.lt_or_ge j i with h1 | h1
        · exact hq j s h1 hs'
        · obtain rfl : j = i := by omega
          rw [hy] at hs'; cases hs'
          exact hb.1 rfl
    · obtain rfl : i = m := by omega
      repeat' (first | (refine TL.isOp ?_; first | (refine TL.isBin ?_; refine TL.cmpG rfl rfl rfl rfl (fun hc => ?_) (fun hc => ?_) <;> (try (first | (exfalso; omega) | exact absurd rfl hc))) | (apply TL.ev; (case hd => rfl); (case h => (first | exact ev_simple rfl)))) | (refine T.is ?_; first | refine T.seq ?_ | refine T.region ?_ | refine T.cond_f rfl ?_ | refine T.exit ?_ | refine T.ret ?_) | (refine G.is ?_; first | refine G.next ?_ | refine G.blockE ?_ | refine G.thenE ?_) | refine TL.nil ?_)
      refine G.ret2 rfl rfl rfl ⟨-1, 0, rfl, .inr (.inl ⟨⟨hsd, fun s hs' => ?_⟩, rfl, rfl⟩), hF.ext⟩
      obtain ⟨j, hj⟩ := List.getElem?_of_mem hs'
      exact hq j s (by have := (List.getElem?_eq_some_iff.1 hj).1; omega) hj
  · have hsd' := hsd
    unfold isSideI at hsd'
    refine enter Try.func35 rfl rfl rfl ?_
    have hF := Fr.refl w
    repeat' (first | (refine TL.isOp ?_; first | (refine TL.isG ?_; first | refine TL.grun rfl rfl rfl ?_ | refine TL.gskip rfl rfl rfl rfl ?_) | (refine TL.isBin ?_; refine TL.cmpG rfl rfl rfl rfl (fun hc => ?_) (fun hc => ?_) <;> (try (first | (exfalso; omega) | exact absurd rfl hc))) | (apply TL.ev; (case hd => rfl); (case h => (first | exact ev_simple rfl)))) | (refine T.is ?_; first | refine T.seq ?_ | refine T.region ?_ | refine T.cond_t rfl ?_ | refine T.ret ?_) | (refine G.is ?_; first | refine G.next ?_ | refine G.thenR ?_) | refine TL.nil ?_)
    all_goals first | (exfalso; omega) | exact G.ret2 rfl rfl rfl ⟨-1, 3, rfl, .inl ⟨hsd, rfl, rfl⟩, hF.ext⟩
/-- does a step turn the sign? -/
def turnsS (s : SP) : Prop := s.kind = 2 ∨ (s.kind = 1 ∧ s.i ≠ s.j)
instance (s : SP) : Decidable (turnsS s) := by unfold turnsS; infer_instance
def sgnL (L : List SP) : Int := L.foldl (fun d s => if turnsS s then -d else d) 1
theorem sgnL_succ {L : List SP} {i : Nat} {y : SP} (h : L[i]? = some y) : sgnL (L.take (i + 1)) = if turnsS y then - sgnL (L.take i) else sgnL (L.take i) := by
  rw [List.take_add_one, h]; simp [sgnL]
theorem sgnL_one : ∀ (L : List SP), sgnL L = 1 ∨ sgnL L = -1 := by
  intro L
  have key : ∀ (L : List SP) (d : Int), d = 1 ∨ d = -1 → (L.foldl (fun d s => if turnsS s then -d else d) d = 1 ∨ L.foldl (fun d s => if turnsS s then -d else d) d = -1) := by
    intro L
    induction L with
    | nil => exact fun d h => h
    | cons s L ih =>
      intro d h
      simp only [List.foldl_cons]
      refine ih _ ?_
      split <;> omega
  exact key L 1 (.inl rfl)
/-- Sign's answer -/
def SgS (n : Int) (L : List SP) (v err : Int) : Prop := (FitAll n L ∧ v = sgnL L ∧ err = 0) ∨ (¬ FitAll n L ∧ v = 0 ∧ err = 3)
def RetSg (w : World) (n : Int) (L : List SP) (e : Ending) (w' : World) : Prop := ∃ z err : Int, e = .returned (.tuple #[.int .i64 z, .int .i64 err]) ∧ SgS n L z err ∧ Ext w w'
set_option maxRecDepth 100000 in
set_option maxHeartbeats 1000000 in
theorem ssign_ok (w : World) (n : Int) (A : Option Addr) (m k : Nat) (L : List SP) (hs : SS w.heap A m k L) (hK : wsum L ≤ 4398046511104) (hm : m ≤ 1048576) : Cl Try.prog 52 #[.int .i64 n, .slice A m k] w (RetSg w n L) := by
  have hlen := hs.s.len
  have hck := fun w1 (hE : Ext w w1) => scheckS_ok w1 n A m k 0 L (hs.ext hE) hK hm
  by_cases hfit : FitAll n L
  · refine enter Try.func52 rfl rfl rfl ?_
    have hF := Fr.refl w
    repeat' (first | (refine TL.isOp ?_; first | (refine TL.isCall ?_; refine TL.call rfl rfl ?_; first | (refine (hck _ hF.ext).mono ?_; rintro _ wy ⟨z, err, rfl, hCk, hE⟩; obtain rfl := hCk.err0 hfit; replace hF := hF.exts hE; clear hE; refine Back.mk ?_)) | (refine TL.isBin ?_; refine TL.cmpG rfl rfl rfl rfl (fun hc => ?_) (fun hc => ?_) <;> (try (first | (exfalso; omega) | exact absurd rfl hc))) | (apply TL.ev; (case hd => rfl); (case h => (first | exact ev_simple rfl | exact ev_len rfl)))) | (refine T.is ?_; first | refine T.seq ?_ | refine T.region ?_ | refine T.block ?_ | refine T.cond_f rfl ?_ | refine T.skip ?_) | (refine G.is ?_; first | refine G.next ?_) | refine TL.nil ?_)
    refine T.loop (α := Nat) (fun i => [(8, .int .i64 (sgnL (L.take i))), (20, .slice A m k), (21, .int .i64 (m : Int)), (22, .int .i64 (i : Int))]) (fun i w' => i ≤ m ∧ Fr w w' [] []) (fun i => m - i) 0 (by repeat (first | exact Sub.nil _ | refine Sub.cons rfl ?_ | refine Sub.cons' rfl (int_congr (by omega)) ?_)) ⟨Nat.zero_le _, hF⟩ ?_
    clear hF
    rintro i w2 ⟨hi, hF⟩
    rcases Nat.lt_or_ge i m with hin | hin
    · have hy : L[i]? = some (L.getD i default) := by simp [List.getD, show i < L.length by omega]
      have hsg := sgnL_succ hy
      have h1 := sgnL_one (L.take i)
      generalize L.getD i default = y at *
      obtain ⟨v, hv⟩ : ∃ v, sgnL (L.take i) = v := ⟨_, rfl⟩
      rw [hv] at h1 hsg ⊢
      obtain ⟨kd, yi, yj, ⟨yn, ⟨yA, ym, yc, yl⟩⟩⟩ := y
      repeat' (first | (refine TL.isOp ?_; first | (refine TL.isG ?_; first | refine TL.grun rfl rfl rfl ?_ | refine TL.gskip rfl rfl rfl rfl ?_ | refine TL.gskipU rfl rfl rfl ?_) | (refine TL.isBin ?_; refine TL.cmpG rfl rfl rfl rfl (fun hc => ?_) (fun hc => ?_) <;> (try (first | (exfalso; omega) | exact absurd rfl hc))) | (apply TL.ev; (case hd => rfl); (case h => (first | exact ev_simple rfl | (apply Ev.isBin; first | exact ev_arN rfl rfl rfl (by omega)) | (apply Ev.isLoad; first | exact ev_loadFr hF rfl (by refine ⟨?_, ?_⟩; (focus (repeat (first | exact InV.head | apply InV.tail))); rfl) | exact ev_loadMc [.int .i64 kd, .int .i64 yi, .int .i64 yj, .bool yn, .slice yA ym yc] rfl (hs.s.ext hF.ext) hy rfl) | exact ev_fieldAddr rfl | exact ev_neg rfl (by omega) | exact ev_indexM rfl rfl hin (hs.s.ext hF.ext).some))) | (refine TL.storeAFr hF rfl rfl rfl rfl (by refine ⟨?_, ?_⟩; (focus (repeat (first | apply SetV.head | apply SetV.tail))); rfl) rfl ?_; clear hF; intro ws hF) | (refine TL.allocFr hF (d := 10) rfl rfl ?_; clear hF; intro w10 b10 hF)) | (refine T.is ?_; first | refine T.seq ?_ | refine T.region ?_ | refine T.block ?_ | refine T.cond_t rfl ?_ | refine T.cond_f rfl ?_ | refine T.skip ?_) | (refine G.is ?_; first | refine G.next ?_ | refine G.blockN ?_) | refine TL.nil ?_)
      all_goals first
        | exact G.again (i + 1) (by rw [hsg, if_pos (by unfold turnsS; dsimp only; omega)]; exact (by repeat (first | exact Sub.nil _ | refine Sub.cons rfl ?_ | refine Sub.cons' rfl (int_congr (by omega)) ?_))) ⟨by omega, hF.weak (List.nil_sublist _) allN⟩ (by omega)
        | exact G.again (i + 1) (by rw [hsg, if_neg (by unfold turnsS; dsimp only; omega)]; exact (by repeat (first | exact Sub.nil _ | refine Sub.cons rfl ?_ | refine Sub.cons' rfl (int_congr (by omega)) ?_))) ⟨by omega, hF.weak (List.nil_sublist _) allN⟩ (by omega)
    · obtain rfl : i = m := by omega
      have e1 : L.take i = L := List.take_of_length_le (by omega)
      rw [e1]
      repeat' (first | (refine TL.isOp ?_; first | (refine TL.isBin ?_; refine TL.cmpG rfl rfl rfl rfl (fun hc => ?_) (fun hc => ?_) <;> (try (first | (exfalso; omega) | exact absurd rfl hc))) | (apply TL.ev; (case hd => rfl); (case h => (first | exact ev_simple rfl)))) | (refine T.is ?_; first | refine T.seq ?_ | refine T.region ?_ | refine T.cond_f rfl ?_ | refine T.exit ?_ | refine T.ret ?_) | (refine G.is ?_; first | refine G.next ?_ | refine G.blockE ?_ | refine G.thenE ?_) | refine TL.nil ?_)
      exact G.ret2 rfl rfl rfl ⟨_, 0, rfl, .inl ⟨hfit, rfl, rfl⟩, hF.ext⟩
  · refine enter Try.func52 rfl rfl rfl ?_
    have hF := Fr.refl w
    repeat' (first | (refine TL.isOp ?_; first | (refine TL.isCall ?_; refine TL.call rfl rfl ?_; first | (refine (hck _ hF.ext).mono ?_; rintro _ wy ⟨z, err, rfl, hCk, hE⟩; obtain rfl := hCk.err3 hfit; replace hF := hF.exts hE; clear hE; refine Back.mk ?_)) | (refine TL.isBin ?_; refine TL.cmpG rfl rfl rfl rfl (fun hc => ?_) (fun hc => ?_) <;> (try (first | (exfalso; omega) | exact absurd rfl hc))) | (apply TL.ev; (case hd => rfl); (case h => (first | exact ev_simple rfl)))) | (refine T.is ?_; first | refine T.seq ?_ | refine T.region ?_ | refine T.cond_t rfl ?_ | refine T.ret ?_) | (refine G.is ?_; first | refine G.next ?_ | refine G.thenR ?_) | refine TL.nil ?_)
    exact G.ret2 rfl rfl rfl ⟨0, 3, rfl, .inr ⟨hfit, rfl, rfl⟩, hF.ext⟩
end Go.Proofs.Ytdhmhjbmkimplaa

namespace Go.Proofs.Ytdhmhjbmkimplaa
open Go Go.Eng Go.Proofs Go.NatM Go.RowKit

theorem LM.load {H : Array Obj} {x : MV} {r c : Nat} {F : Nat → Nat → Int} {K : Nat} (h : LM H x r c F K) {i j : Nat} (hi : i < r) (hj : j < c) : ∃ y : IV, x.l[i * c + j]? = some y ∧ GI H y ∧ y.m.n ≤ K ∧ ival y = F i j := by
  obtain ⟨h1, h2⟩ := h.g i j hi hj
  have hlen := h.s.len
  rw [h.sh.n] at hlen
  have hp := place_lt hi hj
  exact ⟨_, by simp [List.getD, show i * c + j < x.l.length by omega], h1.g, h2, h1.val⟩
end Go.Proofs.Ytdhmhjbmkimplaa

namespace Go.Proofs.Ytdhmhjbmkimplaa
open Go Go.Eng Go.Proofs Go.NatM Go.RowKit

theorem GM.load {H : Array Obj} {x : MV} {r c K : Nat} (h : GM H x r c K) {i j : Nat} (hi : i < r) (hj : j < c) : ∃ y : IV, x.l[i * c + j]? = some y ∧ GI H y ∧ y.m.n ≤ K ∧ ival y = ent x c i j := by
  have hlen := h.s.len
  rw [h.sh.n] at hlen
  have hp := place_lt hi hj
  have e : x.l[i * c + j]? = some (x.l.getD (i * c + j) default) := by simp [List.getD, show i * c + j < x.l.length by omega]
  have hg := h.g _ (List.mem_of_getElem? e)
  exact ⟨_, e, hg.1, hg.2, rfl⟩
end Go.Proofs.Ytdhmhjbmkimplaa

namespace Go.Proofs.Ytdhmhjbmkimplaa
open Go Go.Eng Go.Proofs Go.NatM Go.RowKit

/-- what a call that answers a matrix and an error says -/
structure MO where
  err : Int
  r : Nat
  c : Nat
  F : Nat → Nat → Int
def RetO (w : World) (o : MO) (K : Nat) (e : Ending) (w' : World) : Prop := ∃ x : MV, e = .returned (.tuple #[.agg (mvc x).toArray, .int .i64 o.err]) ∧ LM w'.heap x o.r o.c o.F K ∧ Ext w w' ∧ MF w x
theorem LM.monoK {H : Array Obj} {x : MV} {r c : Nat} {F : Nat → Nat → Int} {K K' : Nat} (h : LM H x r c F K) (hK : K ≤ K') : LM H x r c F K' := ⟨h.sh, h.s, fun i j hi hj => ⟨(h.g i j hi hj).1, Nat.le_trans (h.g i j hi hj).2 hK⟩⟩
theorem RetME.o {w w' : World} {r c K K' : Nat} {F : Nat → Nat → Int} {e : Ending} (h : RetME w r c F K e w') (hK : K ≤ K') : RetO w ⟨0, r, c, F⟩ K' e w' := by
  obtain ⟨x, h1, h2, h3, h4⟩ := h
  exact ⟨x, h1, h2.monoK hK, h3, h4⟩
theorem RetMF.o {w w' : World} {err : Int} {e : Ending} (F : Nat → Nat → Int) (K : Nat) (h : RetMF w err e w') : RetO w ⟨err, 0, 0, F⟩ K e w' := ⟨⟨0, 0, none, 0, 0, []⟩, h.1, lm_zero _ _ _, h.2, .inl rfl⟩
structure MO.Eqv (s t : MO) : Prop where
  err : s.err = t.err
  r : s.r = t.r
  c : s.c = t.c
  F : ∀ i j, i < s.r → j < s.c → s.F i j = t.F i j
theorem RetO.congr {w w' : World} {s t : MO} {K : Nat} {e : Ending} (h : RetO w s K e w') (he : MO.Eqv s t) : RetO w t K e w' := by
  obtain ⟨x, h1, h2, h3, h4⟩ := h
  obtain ⟨serr, sr, sc, sF⟩ := s
  obtain ⟨terr, tr, tc, tF⟩ := t
  obtain ⟨e1, e2, e3, e4⟩ := he
  dsimp only at e1 e2 e3 e4
  subst e1 e2 e3
  exact ⟨x, h1, h2.congrF e4, h3, h4⟩
end Go.Proofs.Ytdhmhjbmkimplaa

namespace Go.Proofs.Ytdhmhjbmkimplaa
open Go Go.Eng Go.Proofs Go.NatM Go.RowKit

/-- what a step tells: its kind, lines and number -/
structure SV where
  kind : Int
  i : Int
  j : Int
  k : Int
structure StV (H : Array Obj) (t : SP) (v : SV) (K : Nat) : Prop where
  kind : t.kind = v.kind
  i : t.i = v.i
  j : t.j = v.j
  k : LI H v.k t.k
  n : t.k.m.n ≤ K
theorem StV.ext {w w' : World} {t : SP} {v : SV} {K : Nat} (hE : Ext w w') (h : StV w.heap t v K) : StV w'.heap t v K := ⟨h.kind, h.i, h.j, h.k.ext hE, h.n⟩
theorem StV.de {F : Nat → Prop} {H H' : Array Obj} {t : SP} {v : SV} {K : Nat} (hd : DE F H H') (h : StV H t v K) : StV H' t v K := ⟨h.kind, h.i, h.j, h.k.de hd, h.n⟩
theorem StV.mono {H : Array Obj} {t : SP} {v : SV} {K K' : Nat} (h : StV H t v K) (hK : K ≤ K') : StV H t v K' := ⟨h.kind, h.i, h.j, h.k, Nat.le_trans h.n hK⟩
structure StT (H : Array Obj) (T : List SP) (V : List SV) (K : Nat) : Prop where
  len : T.length = V.length
  g : ∀ (q : Nat) t v, T[q]? = some t → V[q]? = some v → StV H t v K
theorem StT.ext {w w' : World} {T : List SP} {V : List SV} {K : Nat} (hE : Ext w w') (h : StT w.heap T V K) : StT w'.heap T V K := ⟨h.len, fun q t v a b => (h.g q t v a b).ext hE⟩
theorem StT.nil (H : Array Obj) (K : Nat) : StT H [] [] K := ⟨rfl, fun q t v a => by simp at a⟩
theorem StT.snoc {H : Array Obj} {T : List SP} {V : List SV} {K q : Nat} {t : SP} {v : SV} (h : StT H T (V.take q) K) (hq : V[q]? = some v) (ht : StV H t v K) : StT H (T ++ [t]) (V.take (q + 1)) K := by
  have hlt := (List.getElem?_eq_some_iff.1 hq).1
  have hl := h.len
  rw [List.length_take] at hl
  refine ⟨by rw [List.length_append, List.length_take, List.length_singleton]; omega, fun p t' v' a b => ?_⟩
  rcases Nat.lt_or_ge p q with h1 | h1
  · rw [List.getElem?_append_left (by omega)] at a
    rw [List.getElem?_take, if_pos (by omega)] at b
    exact h.g p t' v' a (by rw [List.getElem?_take, if_pos h1]; exact b)
  · have hp : p = q := by
      have := (List.getElem?_eq_some_iff.1 b).1
      rw [List.length_take] at this
      omega
    subst hp
    rw [List.getElem?_append_right (by omega), show p - T.length = 0 by omega] at a
    rw [List.getElem?_take, if_pos (by omega), hq] at b
    cases b
    simp at a
    subst a
    exact ht
def dpST (T : List SP) (V : List SV) (K : Nat) : DP := ⟨fun H => StT H T V K, fun _ => False, fun _ _ _ h => h.elim, fun _ _ hd h => ⟨h.len, fun q t v a b => (h.g q t v a b).de hd⟩⟩
def dpSV (t : SP) (v : SV) (K : Nat) : DP := ⟨fun H => StV H t v K, fun _ => False, fun _ _ _ h => h.elim, fun _ _ hd h => h.de hd⟩
section
variable {S : Nat → Prop} {w0 w w' : World} {L : List VB} {D : List DP}
theorem Fr.addST (h : Fr w0 w L D S) {T : List SP} {V : List SV} {K : Nat} (k : StT w.heap T V K) : Fr w0 w L (dpST T V K :: D) S := h.add _ k fun _ _ h => h
theorem Fr.st (h : Fr w0 w L D S) {T : List SP} {V : List SV} {K : Nat} (hm : dpST T V K ∈ D) : StT w.heap T V K := h.data _ hm
theorem Fr.addSV (h : Fr w0 w L D S) {t : SP} {v : SV} {K : Nat} (k : StV w.heap t v K) : Fr w0 w L (dpSV t v K :: D) S := h.add _ k fun _ _ h => h
theorem Fr.sv (h : Fr w0 w L D S) {t : SP} {v : SV} {K : Nat} (hm : dpSV t v K ∈ D) : StV w.heap t v K := h.data _ hm
end
attribute [irreducible] dpST dpSV

/-- what the inverse of a step tells, and what a step itself tells in its clean form -/
def invV (s : SP) : SV := ⟨s.kind, s.i, if s.kind = 2 then 0 else s.j, if s.kind = 3 then - ival s.k else 0⟩
def RetBack (w : World) (s : SP) (z : Int) (K : Nat) (e : Ending) (w' : World) : Prop := ∃ x : IV, e = .returned (mvv s x) ∧ (s.kind = 3 → LI w'.heap (- z) x ∧ x.m.n ≤ K) ∧ Ext w w'
set_option maxHeartbeats 1000000 in
theorem back_ok (w : World) (s : SP) (xv : IV) (n K : Nat) (z : Int) (hf : fits n s) (hv : s.kind = 3 → LI w.heap z xv ∧ xv.m.n ≤ K) (hK : K ≤ 8796093022000) : Cl Try.prog 47 #[mvv s xv] w (RetBack w s z K) := by
  obtain ⟨kd, i, j, kk⟩ := s
  obtain ⟨xn, ⟨xA, xm, xc, xl⟩⟩ := xv
  dsimp only at hv
  rcases hf with ⟨h, _⟩ | ⟨h, _⟩ | ⟨h, _⟩
  · dsimp only at h
    subst h
    rw [show mvv ⟨1, i, j, kk⟩ ⟨xn, ⟨xA, xm, xc, xl⟩⟩ = .iface 108 (.agg #[.int .i64 i, .int .i64 j]) from rfl]
    refine enter Try.func47 rfl rfl rfl ?_
    have hF := Fr.refl w
    repeat' (first | (refine TL.isOp ?_; first | (apply TL.ev; (case hd => rfl); (case h => (first | exact ev_simple rfl | exact ev_assert_f rfl rfl)))) | (refine T.is ?_; first | refine T.seq ?_ | refine T.region ?_ | refine T.block ?_ | refine T.cond_f rfl ?_ | refine T.ret ?_) | (refine G.is ?_; first | refine G.next ?_ | refine G.blockR ?_) | refine TL.nil ?_)
    exact G.ret1 rfl rfl ⟨default, rfl, fun h => absurd h (by simp), hF.ext⟩
  · dsimp only at h
    subst h
    rw [show mvv ⟨2, i, j, kk⟩ ⟨xn, ⟨xA, xm, xc, xl⟩⟩ = .iface 110 (.agg #[.int .i64 i]) from rfl]
    refine enter Try.func47 rfl rfl rfl ?_
    have hF := Fr.refl w
    repeat' (first | (refine TL.isOp ?_; first | (apply TL.ev; (case hd => rfl); (case h => (first | exact ev_simple rfl | exact ev_assert_f rfl rfl)))) | (refine T.is ?_; first | refine T.seq ?_ | refine T.region ?_ | refine T.block ?_ | refine T.cond_f rfl ?_ | refine T.ret ?_) | (refine G.is ?_; first | refine G.next ?_ | refine G.blockR ?_) | refine TL.nil ?_)
    exact G.ret1 rfl rfl ⟨default, rfl, fun h => absurd h (by simp), hF.ext⟩
  · dsimp only at h
    subst h
    obtain ⟨hL, hn⟩ := hv rfl
    have hng := fun w1 (hE : Ext w w1) => zneg_ok w1 ⟨xn, ⟨xA, xm, xc, xl⟩⟩ (hL.ext hE).g (by dsimp only; omega)
    rw [hL.val] at hng
    rw [show mvv ⟨3, i, j, kk⟩ ⟨xn, ⟨xA, xm, xc, xl⟩⟩ = .iface 97 (.agg #[.int .i64 i, .int .i64 j, .bool xn, .slice xA xm xc]) from rfl]
    refine enter Try.func47 rfl rfl rfl ?_
    have hF := Fr.refl w
    repeat' (first | (refine TL.isOp ?_; first | (refine TL.isCall ?_; refine TL.call rfl rfl ?_; first | (refine (hng _ hF.ext).mono ?_; rintro _ w1 ⟨⟨un, ⟨uA, um, uc, ul⟩⟩, rfl, hLu, hE, hKu⟩; replace hF := Fr.addLI (hF.exts hE) hLu; clear hE hLu; refine Back.mk ?_)) | (apply TL.ev; (case hd => rfl); (case h => (first | exact ev_simple rfl | exact ev_assert_t rfl))) | (refine TL.storeAFr hF rfl rfl rfl rfl (by refine ⟨?_, ?_⟩; (focus (repeat (first | apply SetV.head | apply SetV.tail))); rfl) rfl ?_; clear hF; intro ws hF) | (refine TL.allocFr hF (d := 3) rfl rfl ?_; clear hF; intro w3 b3 hF)) | (refine TF.is ?_; first | refine TF.nil ?_ | refine TF.e rfl ?_ | (refine TF.pick rfl ?_; first | (apply TFo.ev; (case hd => rfl); (case h => (intro wh hF; first | exact ev_simple rfl | (apply Ev.isLoad; first | exact ev_loadFr hF rfl (by refine ⟨?_, ?_⟩; (focus (repeat (first | exact InV.head | apply InV.tail))); rfl) | exact ev_loadAFr hF rfl (by refine ⟨?_, ?_⟩; (focus (repeat (first | exact InV.head | apply InV.tail))); rfl)) | exact ev_fieldAddr rfl | exact ev_buildX rfl rfl | exact ev_iface rfl))))) | (refine T.is ?_; first | refine T.seq ?_ | refine T.region ?_ | refine T.block ?_ | refine T.cond_t rfl ?_ | refine T.ret ?_ | (refine T.regionFr hF 6 10 (.s 0 (.s 1 (.s 2 (.s 3 (.s 4 (.s 5 (.e 6 (.s 7 (.s 8 (.s 9 .nil)))))))))) mixed (by kernel_rfl) ?_; clear hF; intro wr hF)) | (refine G.is ?_; first | refine G.next ?_ | refine G.blockR ?_ | refine G.only ?_ | refine G.tree rfl (by first | exact hF | exact hF.weak (List.sublist_append_right _ _) (by repeat (first | exact allR | apply allT)) | exact hF.weak (by repeat (first | exact List.Sublist.refl _ | apply List.Sublist.cons)) (by repeat (first | exact allR | apply allT)) | exact hF.weak (by repeat (first | exact List.Sublist.refl _ | apply List.Sublist.cons)) (by repeat (first | exact allN | refine allH (by repeat (first | exact memH | apply memT)) ?_))) ?_) | refine TL.nil ?_)
    exact G.ret1 rfl rfl ⟨⟨un, ⟨uA, um, uc, ul⟩⟩, rfl, fun _ => ⟨Fr.li hF (by repeat (first | exact memH | apply memT)), by dsimp only at hKu ⊢; omega⟩, hF.ext⟩
def RetTl (w : World) (v : SV) (K : Nat) (e : Ending) (w' : World) : Prop := ∃ t : SP, e = .returned (.agg (spc t).toArray) ∧ StV w'.heap t v K ∧ Ext w w'
theorem swap_step (w : World) (i j : Int) (K : Nat) : Cl Try.prog 133 #[.agg #[.int .i64 i, .int .i64 j]] w (RetTl w ⟨1, i, j, 0⟩ K) := by
  refine enter Try.func133 rfl rfl rfl ?_
  have hF := Fr.refl w
  repeat' (first | (refine TL.isOp ?_; first | (apply TL.ev; (case hd => rfl); (case h => (first | (apply Ev.isLoad; first | exact ev_loadFr hF rfl (by refine ⟨?_, ?_⟩; (focus (repeat (first | exact InV.head | apply InV.tail))); rfl)) | exact ev_fieldAddr rfl | exact ev_buildX rfl rfl))) | (refine TL.storeAFr hF rfl rfl rfl rfl (by refine ⟨?_, ?_⟩; (focus (repeat (first | apply SetV.head | apply SetV.tail))); rfl) rfl ?_; clear hF; intro ws hF) | (refine TL.boxAFr hF (d := 1) (cs := [.int .i64 i, .int .i64 j]) rfl rfl ?_; clear hF; intro w1 b1 hF) | (refine TL.allocFr hF (d := 2) rfl rfl ?_; clear hF; intro w2 b2 hF)) | (refine T.is ?_; first | refine T.seq ?_ | refine T.region ?_ | refine T.ret ?_) | (refine G.is ?_; first | refine G.next ?_) | refine TL.nil ?_)
  exact G.retC1 rfl rfl (held_agg (hF.var (by repeat (first | exact InV.head | apply InV.tail))) rfl) ⟨⟨1, i, j, nought⟩, rfl, ⟨rfl, rfl, rfl, li_n0 _, Nat.zero_le _⟩, hF.ext⟩
theorem neg_step (w : World) (i : Int) (K : Nat) : Cl Try.prog 136 #[.agg #[.int .i64 i]] w (RetTl w ⟨2, i, 0, 0⟩ K) := by
  refine enter Try.func136 rfl rfl rfl ?_
  have hF := Fr.refl w
  repeat' (first | (refine TL.isOp ?_; first | (apply TL.ev; (case hd => rfl); (case h => (first | (apply Ev.isLoad; first | exact ev_loadFr hF rfl (by refine ⟨?_, ?_⟩; (focus (repeat (first | exact InV.head | apply InV.tail))); rfl)) | exact ev_fieldAddr rfl | exact ev_buildX rfl rfl))) | (refine TL.storeAFr hF rfl rfl rfl rfl (by refine ⟨?_, ?_⟩; (focus (repeat (first | apply SetV.head | apply SetV.tail))); rfl) rfl ?_; clear hF; intro ws hF) | (refine TL.boxAFr hF (d := 1) (cs := [.int .i64 i]) rfl rfl ?_; clear hF; intro w1 b1 hF) | (refine TL.allocFr hF (d := 2) rfl rfl ?_; clear hF; intro w2 b2 hF)) | (refine T.is ?_; first | refine T.seq ?_ | refine T.region ?_ | refine T.ret ?_) | (refine G.is ?_; first | refine G.next ?_) | refine TL.nil ?_)
  exact G.retC1 rfl rfl (held_agg (hF.var (by repeat (first | exact InV.head | apply InV.tail))) rfl) ⟨⟨2, i, 0, nought⟩, rfl, ⟨rfl, rfl, rfl, li_n0 _, Nat.zero_le _⟩, hF.ext⟩
theorem addstep_ok (w : World) (i j z : Int) (x : IV) (K : Nat) (hL : LI w.heap z x) (hn : x.m.n ≤ K) (hK : K ≤ 8796093022000) : Cl Try.prog 129 #[.agg (.int .i64 i :: .int .i64 j :: ivc x).toArray] w (RetTl w ⟨3, i, j, z⟩ K) := by
  have hng := fun w1 (hE : Ext w w1) => zleast_ok w1 x (hL.ext hE).g (by omega)
  rw [hL.val] at hng
  clear hL
  obtain ⟨xn, ⟨xA, xm, xc, xl⟩⟩ := x
  dsimp only at hn
  refine enter Try.func129 rfl rfl rfl ?_
  have hF := Fr.refl w
  repeat' (first | (refine TL.isOp ?_; first | (refine TL.isCall ?_; refine TL.call rfl rfl ?_; first | (refine (hng _ hF.ext).mono ?_; rintro _ w1 ⟨⟨un, ⟨uA, um, uc, ul⟩⟩, rfl, hLu, hE, hKu⟩; replace hF := Fr.addLI (hF.exts hE) hLu; clear hE hLu; refine Back.mk ?_)) | (refine TL.storeAFr hF rfl rfl rfl rfl (by refine ⟨?_, ?_⟩; (focus (repeat (first | apply SetV.head | apply SetV.tail))); rfl) rfl ?_; clear hF; intro ws hF) | (refine TL.boxAFr hF (d := 1) (cs := [.int .i64 i, .int .i64 j, .bool xn, .slice xA xm xc]) rfl rfl ?_; clear hF; intro w1 b1 hF) | (refine TL.allocFr hF (d := 2) rfl rfl ?_; clear hF; intro w2 b2 hF)) | (refine TF.is ?_; first | refine TF.nil ?_ | refine TF.e rfl ?_ | (refine TF.pick rfl ?_; first | (apply TFo.ev; (case hd => rfl); (case h => (intro wh hF; first | (apply Ev.isLoad; first | exact ev_loadFr hF rfl (by refine ⟨?_, ?_⟩; (focus (repeat (first | exact InV.head | apply InV.tail))); rfl) | exact ev_loadAFr hF rfl (by refine ⟨?_, ?_⟩; (focus (repeat (first | exact InV.head | apply InV.tail))); rfl)) | exact ev_fieldAddr rfl | exact ev_buildX rfl rfl))))) | (refine T.is ?_; first | refine T.seq ?_ | refine T.region ?_ | refine T.ret ?_ | (refine T.regionFr hF 1 8 (.s 0 (.s 1 (.s 2 (.s 3 (.s 4 (.s 5 (.e 6 (.s 7 (.e 8 .nil))))))))) mixed (by kernel_rfl) ?_; clear hF; intro wr hF)) | (refine G.is ?_; first | refine G.next ?_ | refine G.only ?_ | refine G.treeEnd rfl ?_ | refine G.tree rfl (by first | exact hF | exact hF.weak (List.sublist_append_right _ _) (by repeat (first | exact allR | apply allT)) | exact hF.weak (by repeat (first | exact List.Sublist.refl _ | apply List.Sublist.cons)) (by repeat (first | exact allR | apply allT)) | exact hF.weak (by repeat (first | exact List.Sublist.refl _ | apply List.Sublist.cons)) (by repeat (first | exact allN | refine allH (by repeat (first | exact memH | apply memT)) ?_))) ?_) | refine TL.nil ?_)
  exact G.retC1 rfl rfl (held_agg (hF.var (by repeat (first | exact InV.head | apply InV.tail))) rfl) ⟨⟨3, i, j, ⟨un, ⟨uA, um, uc, ul⟩⟩⟩, rfl, ⟨rfl, rfl, rfl, Fr.li hF (by repeat (first | exact memH | apply memT)), by dsimp only at hKu ⊢; omega⟩, hF.ext⟩
/-- what a move tells -/
def mvV (s : SP) (z : Int) : SV := ⟨s.kind, s.i, if s.kind = 2 then 0 else s.j, if s.kind = 3 then z else 0⟩
section
variable {N : Fm} {Q : Exit → Act → World → Prop} {σ : Store} {w : World} {ops : Array Oper} {d : Nat} {t : TypeId} {pos : String} {af : Array Edge} {rest : List Oper}
/-- a move tells itself -/
theorem TL.stepMv {x : Operand} {xs : List Operand} {tys : Array TypeId} {s : SP} {xv : IV} {n K : Nat} {z : Int} (hr : Eng.look σ x = some (mvv s xv)) (hx : looks σ xs = some []) (hd : Nat.blt d N.n = true) (hf : fits n s) (hv : s.kind = 3 → LI w.heap z xv ∧ xv.m.n ≤ K) (hK : K ≤ 8796093022000)
    (Kt : ∀ (u : SP) (w' : World), StV w'.heap u (mvV s z) K → Ext w w' → TL Try.prog N .seq ops Q rest ((d, .agg (spc u).toArray) :: σ) w') :
    TL Try.prog N .seq ops Q (⟨some d, .call { callee := .invoke x "trellis/steps.step", args := xs.toArray, argTypes := tys }, t, pos, af, none⟩ :: rest) σ w := by
  unfold mvv at hr
  rcases hf with ⟨h, _⟩ | ⟨h, _⟩ | ⟨h, _⟩
  · rw [if_pos h] at hr
    refine TL.callI hr hx hd ((swap_step w s.i s.j K).mono ?_)
    rintro _ w' ⟨u, rfl, hu, hE⟩
    exact Back.mk (Kt u w' (by unfold mvV; rw [h, if_neg (by decide), if_neg (by decide)]; exact hu) hE)
  · rw [if_neg (by omega), if_pos h] at hr
    refine TL.callI hr hx hd ((neg_step w s.i K).mono ?_)
    rintro _ w' ⟨u, rfl, hu, hE⟩
    exact Back.mk (Kt u w' (by unfold mvV; rw [h, if_pos rfl, if_neg (by decide)]; exact hu) hE)
  · rw [if_neg (by omega), if_neg (by omega), if_pos h] at hr
    obtain ⟨hL, hn⟩ := hv h
    refine TL.callI hr hx hd ((addstep_ok w s.i s.j z xv K hL hn hK).mono ?_)
    rintro _ w' ⟨u, rfl, hu, hE⟩
    exact Back.mk (Kt u w' (by unfold mvV; rw [h, if_neg (by decide), if_pos rfl]; exact hu) hE)
end
/-- a list of steps and an error -/
def RetIv (w : World) (V : List SV) (err : Int) (K : Nat) (e : Ending) (w' : World) : Prop := ∃ A m k T, e = .returned (.tuple #[.slice A m k, .int .i64 err]) ∧ Sm 5 spc w'.heap w'.heap.size A m k T ∧ StT w'.heap T V K ∧ Ext w w' ∧ LF w A m
theorem RetIv.empty {w w' : World} {err : Int} (K : Nat) (hE : Ext w w') : RetIv w [] err K (.returned (.tuple #[.slice none 0 0, .int .i64 err])) w' :=
  ⟨none, 0, 0, [], rfl, ⟨rfl, Nat.le_refl _, by omega, fun x hx => (by cases hx), .inl rfl⟩, StT.nil _ _, hE, .inl rfl⟩
/-- the inverse's list -/
def invL (L : List SP) : List SV := L.reverse.map invV
theorem invL_at {L : List SP} {p : Nat} {s : SP} (h : L[p]? = some s) : (invL L)[L.length - (p + 1)]? = some (invV s) := by
  have hlt := (List.getElem?_eq_some_iff.1 h).1
  unfold invL
  rw [List.getElem?_map, List.getElem?_reverse (by omega), show L.length - 1 - (L.length - (p + 1)) = p by omega, h]; rfl
theorem invL_len (L : List SP) : (invL L).length = L.length := by unfold invL; rw [List.length_map, List.length_reverse]
open Classical in
noncomputable def invErr (n : Int) (L : List SP) : Int := if FitAll n L then 0 else 3
open Classical in
noncomputable def invO (n : Int) (L : List SP) : List SV := if FitAll n L then invL L else []
theorem mvV_inv (s : SP) (z : Int) (hz : s.kind = 3 → z = - ival s.k) : mvV s z = invV s := by
  unfold mvV invV
  by_cases h : s.kind = 3
  · rw [if_pos h, if_pos h, hz h]
  · rw [if_neg h, if_neg h]
/-- a list under way -/
def IvS (w w' : World) (b m : Nat) (V : List SV) (K q : Nat) : Prop := ∃ (T : List SP) (zs : List Value), T.length = q ∧ q ≤ m ∧ zs.length = (m - q) * 5 ∧ zs.all noU64 = true ∧ Fr w w' [⟨b, 42, T.flatMap spc ++ zs⟩] [dpST T (V.take q) K]
theorem spc_all (l : List SP) (zs : List Value) (hz : zs.all noU64 = true) : (l.flatMap spc ++ zs).all noU64 = true := by rw [List.all_append, spc_noV l, hz]; rfl
set_option maxRecDepth 100000 in
set_option maxHeartbeats 2000000 in
theorem sinverse_ok (w : World) (n : Int) (A : Option Addr) (m k : Nat) (L : List SP) (hs : SS w.heap A m k L) (hK : wsum L ≤ 4398046511104) (hm : m ≤ 1048576) : Cl Try.prog 24 #[.int .i64 n, .slice A m k] w (RetIv w (invO n L) (invErr n L) (wsum L)) := by
  have hlen := hs.s.len
  have hck := fun w1 (hE : Ext w w1) => scheckS_ok w1 n A m k 0 L (hs.ext hE) hK hm
  by_cases hfit : FitAll n L
  · unfold invO invErr
    rw [if_pos hfit, if_pos hfit]
    refine enter Try.func24 rfl rfl rfl ?_
    have hF := Fr.refl w
    repeat' (first | (refine TL.isOp ?_; first | (refine TL.isCall ?_; refine TL.call rfl rfl ?_; first | (refine (hck _ hF.ext).mono ?_; rintro _ wy ⟨z, err, rfl, hCk, hE⟩; obtain rfl := hCk.err0 hfit; replace hF := hF.exts hE; clear hE hCk; refine Back.mk ?_)) | (refine TL.isBin ?_; refine TL.cmpG rfl rfl rfl rfl (fun hc => ?_) (fun hc => ?_) <;> (try (first | (exfalso; omega) | exact absurd rfl hc))) | (apply TL.ev; (case hd => rfl); (case h => (first | exact ev_simple rfl | (apply Ev.isBin; first | exact ev_arI rfl rfl rfl (by omega)) | exact ev_len rfl))) | (refine TL.makeFr hF spc zeroSP (d := 21) rfl rfl rfl (Nat.zero_le _) (by omega) rfl rfl rfl ?_; clear hF; intro w21 b21 hF)) | (refine T.is ?_; first | refine T.seq ?_ | refine T.region ?_ | refine T.block ?_ | refine T.cond_f rfl ?_ | refine T.skip ?_) | (refine G.is ?_; first | refine G.next ?_) | refine TL.nil ?_)
    have hI0 : IvS w w21 b21 m (invL L) (wsum L) (m - m) := ⟨[], (List.replicate m zeroSP).flatMap spc, by simp, by omega, by rw [flatMap_len (k := 5) (fun x _ => rfl)]; simp, spc_noV _, by
      rw [Nat.sub_self, List.take_zero]
      simpa using Fr.addST hF (StT.nil _ (wsum L))⟩
    clear hF
    refine T.loop (α := Nat) (fun p => [(1, .slice A m k), (8, .slice (some ⟨b21, 0, none⟩) (m - p) m), (9, .int .i64 ((p : Int) - 1))]) (fun p w' => p ≤ m ∧ IvS w w' b21 m (invL L) (wsum L) (m - p)) (fun p => p) m (by rw [Nat.sub_self]; exact (by repeat (first | exact Sub.nil _ | refine Sub.cons rfl ?_ | refine Sub.cons' rfl (int_congr (by omega)) ?_))) ⟨Nat.le_refl _, hI0⟩ ?_
    clear hI0
    rintro p w2 ⟨hp, tl, zs, hT, hq, hzs, hzn, hF⟩
    rcases Nat.eq_zero_or_pos p with h0 | h0
    · subst h0
      obtain rfl : zs = [] := List.eq_nil_of_length_eq_zero (by rw [hzs]; omega)
      repeat' (first | (refine TL.isOp ?_; first | (refine TL.isBin ?_; refine TL.cmpG rfl rfl rfl rfl (fun hc => ?_) (fun hc => ?_) <;> (try (first | (exfalso; omega) | exact absurd rfl hc))) | (apply TL.ev; (case hd => rfl); (case h => (first | exact ev_simple rfl)))) | (refine T.is ?_; first | refine T.seq ?_ | refine T.region ?_ | refine T.cond_f rfl ?_ | refine T.exit ?_ | refine T.ret ?_) | (refine G.is ?_; first | refine G.next ?_ | refine G.blockE ?_ | refine G.thenE ?_) | refine TL.nil ?_)
      have hb := (hF.lo (b := b21) (by repeat (first | exact InV.head | apply InV.tail))).resolve_right id
      have hst := Fr.st hF (T := tl) (V := (invL L).take (m - 0)) (K := wsum L) (by repeat (first | exact memH | apply memT))
      rw [Nat.sub_zero, List.take_of_length_le (by rw [invL_len]; omega)] at hst
      exact G.ret2 rfl rfl rfl ⟨_, _, _, tl, rfl, vr_sm (by omega) (fun _ _ => rfl) (hF.var .head) hT (by omega) (hF.var .head).lt, hst, hF.ext, .inr ⟨b21, rfl, hb⟩⟩
    · obtain ⟨p, rfl⟩ : ∃ p', p = p' + 1 := ⟨p - 1, by omega⟩
      have hpn : p < m := by omega
      have hy : L[p]? = some (L.getD p default) := by simp [List.getD, show p < L.length by omega]
      have hmem := List.mem_of_getElem? hy
      generalize L.getD p default = y at *
      have hwy := wsum_mem hmem
      have hfy := hfit.2 y hmem
      have hVy := invL_at hy
      rw [hlen] at hVy
      have hsm : m - (p + 1) + 1 = m - p := by omega
      refine T.sub (σ' := [(1, .slice A m k), (8, .slice (some ⟨b21, 0, none⟩) (m - (p + 1)) m), (9, .int .i64 (p : Int))]) (by repeat (first | exact Sub.nil _ | refine Sub.cons rfl ?_ | refine Sub.cons' rfl (int_congr (by omega)) ?_)) ?_
      repeat' (first | (refine TL.isOp ?_; first | (refine TL.isCall ?_; refine TL.call rfl rfl ?_; first | (refine (read_ok _ y (wsum L) (fun h => ⟨(hs.g y hmem).ext hF.ext, by omega⟩) (by omega)).mono ?_; rintro _ w1 ⟨xv, rfl, hLx, hE⟩; replace hF := hF.exts hE; clear hE; refine Back.mk ?_) | (refine (back_ok _ y xv n.toNat (wsum L) (ival y.k) hfy hLx (by omega)).mono ?_; rintro _ w1 ⟨xb, rfl, hxb, hE⟩; replace hF := hF.exts hE; clear hE hLx; refine Back.mk ?_)) | (refine TL.isBin ?_; refine TL.cmpG rfl rfl rfl rfl (fun hc => ?_) (fun hc => ?_) <;> (try (first | (exfalso; omega) | exact absurd rfl hc))) | (apply TL.ev; (case hd => rfl); (case h => (first | exact ev_simple rfl | (apply Ev.isBin; first | exact ev_arI rfl rfl rfl (by omega)) | (apply Ev.isLoad; first | exact ev_loadM rfl (hs.s.ext hF.ext) hy) | exact ev_indexM rfl rfl hpn (hs.s.ext hF.ext).some))) | (refine TL.stepMv (s := y) (z := - ival y.k) (K := wsum L) rfl rfl rfl hfy hxb (by omega) (fun u wu hu hE => ?_); replace hF := Fr.addSV (hF.exts hE) hu; clear hE hu hxb) | (refine TL.buildXs hF (f := spc) (d := 37) [u] [.tmp 36] rfl rfl rfl rfl (by intro v hv; rw [List.mem_singleton] at hv; subst hv; rfl) rfl rfl (by omega) (by omega) ?_; clear hF; intro w37 b37 hF hEn hbn hSn) | (refine TL.appendAtFr (f := spc) (l := tl) (zs := zs) hF rfl rfl rfl rfl hSn (fun _ => rfl) (fun _ => rfl) rfl rfl hT hzs hq (spc_all tl zs hzn) (by omega) (by repeat (first | apply SetV.head | apply SetV.tail)) (fun hle wn hFn => ?_) (fun hgr => absurd hgr (by omega)); clear hF hSn hEn hbn; have hF := hFn; clear hFn)) | (refine T.is ?_; first | refine T.seq ?_ | refine T.region ?_ | refine T.block ?_ | refine T.cond_t rfl ?_ | refine T.skip ?_) | (refine G.is ?_; first | refine G.next ?_ | refine G.blockN ?_) | refine TL.nil ?_)
      have hst := (Fr.st hF (T := tl) (V := (invL L).take (m - (p + 1))) (K := wsum L) (by repeat (first | exact memH | apply memT))).snoc hVy (t := u) (by rw [← mvV_inv y (- ival y.k) (fun _ => rfl)]; exact Fr.sv hF (by repeat (first | exact memH | apply memT)))
      rw [hsm] at hst
      refine G.again p (by rw [← hsm]; exact (by repeat (first | exact Sub.nil _ | refine Sub.cons rfl ?_ | refine Sub.cons' rfl (int_congr (by omega)) ?_))) ⟨by omega, tl ++ [u], zs.drop (1 * 5), by simp [hT]; omega, by omega, by rw [List.length_drop]; omega, drop_noV hzn _, ?_⟩ (by omega)
      exact (Fr.addST hF hst).weak (.refl _) (allH (by repeat (first | exact memH | apply memT)) allN)
  · unfold invO invErr
    rw [if_neg hfit, if_neg hfit]
    refine enter Try.func24 rfl rfl rfl ?_
    have hF := Fr.refl w
    repeat' (first | (refine TL.isOp ?_; first | (refine TL.isCall ?_; refine TL.call rfl rfl ?_; first | (refine (hck _ hF.ext).mono ?_; rintro _ wy ⟨z, err, rfl, hCk, hE⟩; obtain rfl := hCk.err3 hfit; replace hF := hF.exts hE; clear hE; refine Back.mk ?_)) | (refine TL.isBin ?_; refine TL.cmpG rfl rfl rfl rfl (fun hc => ?_) (fun hc => ?_) <;> (try (first | (exfalso; omega) | exact absurd rfl hc))) | (apply TL.ev; (case hd => rfl); (case h => (first | exact ev_simple rfl)))) | (refine T.is ?_; first | refine T.seq ?_ | refine T.region ?_ | refine T.cond_t rfl ?_ | refine T.ret ?_) | (refine G.is ?_; first | refine G.next ?_ | refine G.thenR ?_) | refine TL.nil ?_)
    exact G.ret2 rfl rfl rfl (RetIv.empty _ hF.ext)
end Go.Proofs.Ytdhmhjbmkimplaa

namespace Go.Proofs.Ytdhmhjbmkimplaa
open Go Go.Eng Go.Proofs Go.NatM Go.RowKit

end Go.Proofs.Ytdhmhjbmkimplaa

namespace Go.Proofs.Ytdhmhjbmkimplaa
open Go Go.Eng Go.Proofs Go.NatM Go.RowKit

theorem CpM.ent {x y : MV} (h : CpM x y) {r c : Nat} (hs : Sound x r c) {i j : Nat} (hi : i < r) (hj : j < c) : ent y c i j = ent x c i j := by
  unfold Go.Proofs.Ytdhmhjbmkimplaa.ent
  exact h.e _ (by rw [hs.n]; exact place_lt hi hj)
theorem ss_of {H : Array Obj} {A : Option Addr} {m k K : Nat} {tl : List SP} {V : List SV} (hs : Sm 5 spc H H.size A m k tl) (h : StT H tl V K) : SS H A m k tl :=
  ⟨hs, fun s hm => by
    obtain ⟨q, hq⟩ := List.getElem?_of_mem hm
    have hlt := (List.getElem?_eq_some_iff.1 hq).1
    have hl := h.len
    exact (h.g q s _ hq (List.getElem?_eq_getElem (by omega))).k.g⟩
theorem RM.ext' {w w' : World} {x : MV} {K : Nat} (hE : Ext w w') (h : RM w.heap x K) : RM w'.heap x K := ⟨(h.s.ext hE).size, fun y hy => ⟨(h.g y hy).1.ext hE, (h.g y hy).2⟩⟩
end Go.Proofs.Ytdhmhjbmkimplaa

namespace Go.Det

def sg (n : Nat) : Int := if n % 2 = 0 then 1 else -1
theorem sg_succ (n : Nat) : sg (n + 1) = - sg n := by unfold sg; rcases Nat.mod_two_eq_zero_or_one n with h | h <;> simp [h, Nat.add_mod]
theorem sg_two (n : Nat) : sg (n + n) = 1 := by unfold sg; rw [if_pos (by omega)]
/-- the sum of f 0 .. f (n - 1) -/
def sm (f : Nat → Int) : Nat → Int
  | 0 => 0
  | n + 1 => sm f n + f n
theorem sm_congr {f g : Nat → Int} {n : Nat} (h : ∀ k, k < n → f k = g k) : sm f n = sm g n := by
  induction n with
  | zero => rfl
  | succ n ih => simp only [sm]; rw [ih fun k hk => h k (by omega), h n (by omega)]
theorem sm_add (f g : Nat → Int) (n : Nat) : sm (fun k => f k + g k) n = sm f n + sm g n := by
  induction n with
  | zero => rfl
  | succ n ih => simp only [sm]; rw [ih]; omega
theorem sm_mul (a : Int) (f : Nat → Int) (n : Nat) : sm (fun k => a * f k) n = a * sm f n := by
  induction n with
  | zero => simp [sm]
  | succ n ih => simp only [sm]; rw [ih, Int.mul_add]
theorem sm_lin (a b : Int) (f g : Nat → Int) (n : Nat) : sm (fun k => a * f k + b * g k) n = a * sm f n + b * sm g n := by rw [sm_add, sm_mul, sm_mul]
theorem sm_zero (n : Nat) : sm (fun _ => 0) n = 0 := by
  induction n with
  | zero => rfl
  | succ n ih => simp only [sm]; rw [ih]; rfl
theorem sm_zero' {f : Nat → Int} {n : Nat} (h : ∀ k, k < n → f k = 0) : sm f n = 0 := by rw [sm_congr h, sm_zero]
theorem sm_pair {f : Nat → Int} {n r : Nat} (h : ∀ k, k < n → k ≠ r → k ≠ r + 1 → f k = 0) : sm f n = (if r < n then f r else 0) + (if r + 1 < n then f (r + 1) else 0) := by
  induction n with
  | zero => simp [sm]
  | succ n ih =>
    simp only [sm]
    rw [ih fun k hk => h k (by omega)]
    by_cases h1 : n = r
    · subst h1
      simp
      rw [if_neg (by omega)]
      omega
    · by_cases h2 : n = r + 1
      · subst h2
        rw [if_pos (by omega), if_neg (by omega), if_pos (by omega), if_pos (by omega)]
        omega
      · rw [h n (by omega) h1 h2]
        have e1 : (r < n + 1) = (r < n) := propext ⟨fun _ => by omega, fun _ => by omega⟩
        have e2 : (r + 1 < n + 1) = (r + 1 < n) := propext ⟨fun _ => by omega, fun _ => by omega⟩
        simp only [e1, e2, Int.add_zero]
abbrev Mx := Nat → Nat → Int
/-- all rows but k -/
def sk (k i : Nat) : Nat := if i < k then i else i + 1
theorem sk_ne (k i : Nat) : sk k i ≠ k := by unfold sk; split <;> omega
theorem sk_lt {k i n : Nat} (h : i < n) : sk k i < n + 1 := by unfold sk; split <;> omega
theorem sk_low {k i : Nat} (h : i < k) : sk k i = i := if_pos h
theorem sk_high {k i : Nat} (h : k ≤ i) : sk k i = i + 1 := if_neg (by omega)
def det : Nat → Mx → Int
  | 0, _ => 1
  | n + 1, M => sm (fun k => sg (n + k) * (M k n * det n (fun i j => M (sk k i) j))) (n + 1)
theorem det_congr : ∀ {n : Nat} {M N : Mx}, (∀ i j, i < n → j < n → M i j = N i j) → det n M = det n N
  | 0, _, _, _ => rfl
  | n + 1, M, N, h => sm_congr fun k hk => by
    rw [h k n hk (by omega), det_congr (n := n) (M := fun i j => M (sk k i) j) (N := fun i j => N (sk k i) j) fun i j hi hj => h _ j (sk_lt hi) (by omega)]
/-- a determinant is linear in each row -/
theorem det_row : ∀ {n : Nat} {M A B : Mx} {r : Nat} {a b : Int}, r < n → (∀ i j, i < n → j < n → i ≠ r → M i j = A i j) → (∀ i j, i < n → j < n → i ≠ r → M i j = B i j) → (∀ j, j < n → M r j = a * A r j + b * B r j) → det n M = a * det n A + b * det n B
  | 0, _, _, _, _, _, _, hr, _, _, _ => by omega
  | n + 1, M, A, B, r, a, b, hr, hA, hB, hl => by
    simp only [det]
    rw [← sm_lin]
    refine sm_congr fun k hk => ?_
    by_cases e : k = r
    · subst e
      have e1 := det_congr (n := n) (M := fun i j => M (sk k i) j) (N := fun i j => A (sk k i) j) fun i j hi hj => hA _ j (sk_lt hi) (by omega) (sk_ne k i)
      have e2 := det_congr (n := n) (M := fun i j => M (sk k i) j) (N := fun i j => B (sk k i) j) fun i j hi hj => hB _ j (sk_lt hi) (by omega) (sk_ne k i)
      rw [hl n (by omega), ← e1, ← e2]
      generalize det n _ = d
      rw [Int.add_mul, Int.mul_add]
      congr 1
      · rw [Int.mul_assoc, Int.mul_left_comm]
      · rw [Int.mul_assoc, Int.mul_left_comm]
    · have h1 : ∃ r', r' < n ∧ sk k r' = r := by
        rcases Nat.lt_or_ge r k with h | h
        · exact ⟨r, by omega, sk_low h⟩
        · exact ⟨r - 1, by omega, by rw [sk_high (by omega)]; omega⟩
      obtain ⟨r', hr', es⟩ := h1
      have inj : ∀ i, i ≠ r' → sk k i ≠ r := fun i hi h => hi (by
        rw [← es] at h
        unfold sk at h
        split at h <;> split at h <;> omega)
      have e3 := det_row (n := n) (M := fun i j => M (sk k i) j) (A := fun i j => A (sk k i) j) (B := fun i j => B (sk k i) j) (r := r') (a := a) (b := b) hr' (fun i j hi hj hne => hA _ j (sk_lt hi) (by omega) (inj i hne)) (fun i j hi hj hne => hB _ j (sk_lt hi) (by omega) (inj i hne)) (fun j hj => by simp only [es]; exact hl j (by omega))
      rw [e3, hA k n hk (by omega) e]
      have e4 : B k n = A k n := by rw [← hB k n hk (by omega) e, hA k n hk (by omega) e]
      rw [e4]
      generalize det n _ = d1
      generalize det n _ = d2
      rw [Int.mul_add, Int.mul_add, Int.mul_left_comm (A k n) a d1, Int.mul_left_comm (A k n) b d2, Int.mul_left_comm (sg _) a, Int.mul_left_comm (sg _) b]
/-- two rows, one behind the other, alike -/
theorem det_adj : ∀ {n : Nat} {M : Mx} {r : Nat}, r + 1 < n → (∀ j, j < n → M r j = M (r + 1) j) → det n M = 0
  | 0, _, _, hr, _ => by omega
  | n + 1, M, r, hr, h => by
    simp only [det]
    rw [sm_pair (r := r) fun k hk h1 h2 => ?_]
    · rw [if_pos (by omega), if_pos hr, h n (by omega)]
      have e := det_congr (n := n) (M := fun i j => M (sk r i) j) (N := fun i j => M (sk (r + 1) i) j) fun i j hi hj => by
        rcases Nat.lt_trichotomy i r with h1 | h1 | h1
        · rw [sk_low h1, sk_low (by omega)]
        · subst h1; rw [sk_high (Nat.le_refl _), sk_low (by omega)]; exact (h j (by omega)).symm
        · rw [sk_high (by omega), sk_high (by omega)]
      rw [e, show n + (r + 1) = n + r + 1 by omega, sg_succ, Int.neg_mul]
      omega
    · have e : det n (fun i j => M (sk k i) j) = 0 := by
        rcases Nat.lt_or_ge k r with h3 | h3
        · refine det_adj (r := r - 1) (by omega) fun j hj => ?_
          rw [sk_high (by omega), sk_high (by omega), show r - 1 + 1 = r by omega]
          exact h j (by omega)
        · refine det_adj (r := r) (by omega) fun j hj => ?_
          rw [sk_low (by omega), sk_low (by omega)]
          exact h j (by omega)
      rw [e, Int.mul_zero, Int.mul_zero]
/-- row r put in place -/
def up (M : Mx) (r : Nat) (v : Nat → Int) : Mx := fun i j => if i = r then v j else M i j
theorem up_eq (M : Mx) (r : Nat) (v : Nat → Int) (j : Nat) : up M r v r j = v j := if_pos rfl
theorem up_ne {M : Mx} {r i : Nat} {v : Nat → Int} (h : i ≠ r) (j : Nat) : up M r v i j = M i j := if_neg h
theorem up_self (M : Mx) (r : Nat) : up M r (M r) = M := by funext i j; unfold up; split <;> simp_all
theorem up_comm {M : Mx} {r s : Nat} {u v : Nat → Int} (h : r ≠ s) : up (up M r u) s v = up (up M s v) r u := by
  funext i j
  unfold up
  by_cases h1 : i = r
  · subst h1; rw [if_neg h, if_pos rfl, if_pos rfl]
  · rw [if_neg h1, if_neg h1]
theorem det_up {n : Nat} {M : Mx} {r : Nat} (hr : r < n) (a b : Int) (u v : Nat → Int) : det n (up M r (fun j => a * u j + b * v j)) = a * det n (up M r u) + b * det n (up M r v) :=
  det_row hr (fun i j _ _ h => by rw [up_ne h, up_ne h]) (fun i j _ _ h => by rw [up_ne h, up_ne h]) fun j _ => by rw [up_eq, up_eq, up_eq]
/-- two rows change places: if alike rows there make 0 -/
theorem swap_of {n : Nat} {M : Mx} {r s : Nat} (hr : r < n) (hs : s < n) (hne : r ≠ s) (h : ∀ z, det n (up (up M r z) s z) = 0) (x y : Nat → Int) : det n (up (up M r y) s x) = - det n (up (up M r x) s y) := by
  have h1 := h (fun j => 1 * x j + 1 * y j)
  rw [det_up hs, up_comm hne, up_comm hne, det_up hr, det_up hr, up_comm hne.symm, up_comm hne.symm, up_comm hne.symm, up_comm hne.symm, h x, h y] at h1
  omega
theorem det_alt {n : Nat} {M : Mx} : ∀ {d r : Nat}, r + d + 1 < n → (∀ j, j < n → M r j = M (r + d + 1) j) → det n M = 0 := by
  intro d
  induction d generalizing M with
  | zero => exact fun hr h => det_adj hr h
  | succ d ih =>
    intro r hr h
    have hadj : ∀ z, det n (up (up M (r + d + 1) z) (r + d + 2) z) = 0 := fun z => det_adj (r := r + d + 1) (by omega) fun j hj => by rw [up_ne (by omega), up_eq, show r + d + 1 + 1 = r + d + 2 by omega, up_eq]
    have h1 := swap_of (M := M) (r := r + d + 1) (s := r + d + 2) (by omega) (by omega) (by omega) hadj (M (r + d + 2)) (M (r + d + 1))
    rw [up_self] at h1
    rw [show up M (r + d + 2) (M (r + d + 2)) = M from up_self _ _] at h1
    have h2 : det n (up (up M (r + d + 1) (M (r + d + 2))) (r + d + 2) (M (r + d + 1))) = 0 := ih (r := r) (by omega) fun j hj => by
      rw [up_ne (by omega), up_ne (by omega), up_ne (by omega), up_eq]
      exact h j hj
    omega
/-- two rows alike -/
theorem det_eq {n : Nat} {M : Mx} {r s : Nat} (hr : r < n) (hs : s < n) (hne : r ≠ s) (h : ∀ j, j < n → M r j = M s j) : det n M = 0 := by
  rcases Nat.lt_or_gt_of_ne hne with h1 | h1
  · obtain ⟨d, rfl⟩ : ∃ d, s = r + d + 1 := ⟨s - r - 1, by omega⟩
    exact det_alt hs h
  · obtain ⟨d, rfl⟩ : ∃ d, r = s + d + 1 := ⟨r - s - 1, by omega⟩
    exact det_alt hr fun j hj => (h j hj).symm
/-- two rows change places -/
def swp (M : Mx) (r s : Nat) : Mx := fun i j => if i = r then M s j else if i = s then M r j else M i j
theorem det_swap {n : Nat} {M : Mx} {r s : Nat} (hr : r < n) (hs : s < n) (hne : r ≠ s) : det n (swp M r s) = - det n M := by
  have h := swap_of (M := M) hr hs hne (fun z => det_eq hr hs hne fun j _ => by rw [up_ne hne, up_eq, up_eq]) (M r) (M s)
  rw [up_self, up_self] at h
  rw [← h]
  refine det_congr fun i j _ _ => ?_
  unfold swp up
  by_cases h1 : i = r
  · subst h1; rw [if_pos rfl, if_neg hne, if_pos rfl]
  · rw [if_neg h1, if_neg h1]
/-- a row times a number -/
theorem det_scale {n : Nat} {M : Mx} {r : Nat} (hr : r < n) (a : Int) : det n (up M r (fun j => a * M r j)) = a * det n M := by
  have h := det_up (M := M) hr a 0 (M r) (M r)
  rw [up_self] at h
  rw [show det n M = a * 0 + det n M by omega, show a * 0 + det n M = det n M by omega]
  have e : (fun j => a * M r j + 0 * M r j) = fun j => a * M r j := by funext j; omega
  rw [e] at h
  omega
/-- a multiple of another row added -/
theorem det_add {n : Nat} {M : Mx} {r q : Nat} (hr : r < n) (hq : q < n) (hne : q ≠ r) (a : Int) : det n (up M r (fun j => M r j + a * M q j)) = det n M := by
  have h := det_up (M := M) hr 1 a (M r) (M q)
  rw [up_self, det_eq (M := up M r (M q)) (r := r) (s := q) hr hq (fun e => hne e.symm) fun j _ => by rw [up_eq, up_ne hne]] at h
  have e : (fun j => 1 * M r j + a * M q j) = fun j => M r j + a * M q j := by funext j; omega
  rw [e] at h
  omega
theorem det_zero {n : Nat} {M : Mx} {r : Nat} (hr : r < n) (h : ∀ j, j < n → M r j = 0) : det n M = 0 := by
  have e := det_row (M := M) (A := M) (B := M) (a := 0) (b := 0) hr (fun _ _ _ _ _ => rfl) (fun _ _ _ _ _ => rfl) fun j hj => by rw [h j hj]; rfl
  omega
/-- a last row that is 0 but for its end -/
theorem det_last {n : Nat} {M : Mx} (h : ∀ j, j < n → M n j = 0) : det (n + 1) M = M n n * det n M := by
  simp only [det, sm]
  rw [sm_zero' fun k hk => ?_, sg_two, Int.zero_add, Int.one_mul]
  · rw [det_congr (n := n) (M := fun i j => M (sk n i) j) (N := M) fun i j hi hj => by rw [sk_low hi]]
  · rw [det_zero (M := fun i j => M (sk k i) j) (r := n - 1) (by omega) fun j hj => by
      rw [sk_high (by omega), show n - 1 + 1 = n by omega]
      exact h j hj]
    simp
theorem det_unit (n : Nat) : det n (fun i j => if i = j then 1 else 0) = 1 := by
  induction n with
  | zero => rfl
  | succ n ih => rw [det_last fun j hj => if_neg (by omega), ih, if_pos rfl]; rfl
/-- a multiple of a row, and a combination of the first c rows -/
theorem det_comb {n : Nat} {M : Mx} {r : Nat} (hr : r < n) (a : Int) (l : Nat → Int) : ∀ c, c ≤ r → det n (up M r (fun j => a * M r j + sm (fun k => l k * M k j) c)) = a * det n M
  | 0, _ => by
    have e : (fun j => a * M r j + sm (fun k => l k * M k j) 0) = fun j => a * M r j := by funext j; simp [sm]
    rw [e, det_scale hr]
  | c + 1, hc => by
    have ih := det_comb hr a l c (by omega) (M := M)
    rw [← ih, ← det_add (M := up M r (fun j => a * M r j + sm (fun k => l k * M k j) c)) (r := r) (q := c) hr (by omega) (by omega) (l c)]
    refine det_congr fun i j hi hj => ?_
    by_cases e : i = r
    · subst e
      rw [up_eq, up_eq, up_eq, up_ne (by omega)]
      simp only [sm]
      omega
    · rw [up_ne e, up_ne e, up_ne e]
/-- the rows from c on are 0 in the columns up to c -/
theorem det_wide : ∀ {n : Nat} {M : Mx} {c : Nat}, c < n → (∀ i j, c ≤ i → i < n → j ≤ c → M i j = 0) → det n M = 0
  | 0, _, _, hc, _ => by omega
  | n + 1, M, c, hc, h => by
    by_cases e : c = n
    · subst e
      exact det_zero (r := c) (by omega) fun j hj => h c j (Nat.le_refl _) (by omega) (by omega)
    · simp only [det]
      refine sm_zero' fun k hk => ?_
      have e : det n (fun i j => M (sk k i) j) = 0 := by
        rcases Nat.lt_or_ge k c with h1 | h1
        · refine det_wide (c := c - 1) (by omega) fun i j hi hin hj => ?_
          rw [sk_high (by omega)]
          exact h _ j (by omega) (by omega) (by omega)
        · refine det_wide (c := c) (by omega) fun i j hi hin hj => ?_
          exact h _ j (by unfold sk; split <;> omega) (sk_lt hin) hj
      rw [e, Int.mul_zero, Int.mul_zero]
end Go.Det

namespace Go.Det

/-- the first c rows and row i, the first c columns and column j -/
def brd (c : Nat) (M : Mx) (i j : Nat) : Mx := fun a b => M (if a < c then a else i) (if b < c then b else j)
/-- M: the rows as they lie, the first c of them taken; B: what the elimination has made of the others -/
structure Elim (n m c : Nat) (M B : Mx) (d : Int) : Prop where
  at_ : ∀ i j, c ≤ i → i < n → c ≤ j → j < m → B i j = det (c + 1) (brd c M i j)
  lead : d = det c M
  ne : d ≠ 0
  co : ∀ i, c ≤ i → i < n → ∃ (u : Int) (l : Nat → Int), u ≠ 0 ∧ ∀ j, j < c → u * M i j + sm (fun k => l k * M k j) c = 0
theorem inv_zero (n m : Nat) (M : Mx) : Elim n m 0 M M 1 := by
  refine ⟨fun i j _ _ _ _ => ?_, rfl, by decide, fun i _ _ => ⟨1, fun _ => 0, by decide, fun j hj => absurd hj (Nat.not_lt_zero _)⟩⟩
  rw [det_last fun q hq => absurd hq (Nat.not_lt_zero _)]
  simp [det, brd]
/-- a row whose combination with the first c is 0 in the first c columns -/
theorem brd_comb {c i j : Nat} {M : Mx} {u : Int} {l : Nat → Int} (hi : c ≤ i) (hj : c ≤ j) (h : ∀ j, j < c → u * M i j + sm (fun k => l k * M k j) c = 0) :
    u * det (c + 1) (brd c M i j) = det c M * (u * M i j + sm (fun k => l k * M k j) c) := by
  rw [← det_comb (M := brd c M i j) (r := c) (by omega) u l c (Nat.le_refl _)]
  have hlow : ∀ q, sm (fun k => l k * brd c M i j k q) c = sm (fun k => l k * M k (if q < c then q else j)) c := fun q => sm_congr fun k hk => by simp only [brd, if_pos hk]
  have hc : ∀ q, brd c M i j c q = M i (if q < c then q else j) := fun q => by simp [brd]
  rw [det_last fun q hq => by
    rw [up_eq, hlow, hc]
    simp only [if_pos hq]
    exact h q hq]
  rw [up_eq, hlow, hc]
  simp only [if_neg (Nat.lt_irrefl c)]
  rw [det_congr (n := c) (N := M) fun a b ha hb => by rw [up_ne (by omega)]; simp [brd, ha, hb]]
  exact Int.mul_comm _ _
theorem det_lead {c : Nat} {M : Mx} : det (c + 1) (brd c M c c) = det (c + 1) M := det_congr fun a b ha hb => by
  unfold brd
  have h1 : (if a < c then a else c) = a := by split <;> omega
  have h2 : (if b < c then b else c) = b := by split <;> omega
  rw [h1, h2]
theorem cancel {a x y : Int} (ha : a ≠ 0) (h : a * x = a * y) : x = y := Int.eq_of_mul_eq_mul_left ha h
theorem elim_alg {mi mc p r q s d e f vij vcj D : Int} (h1 : mi * r = d * vij) (h2 : mi * q = d * e) (h3 : mc * s = d * vcj) (h4 : mc * p = d * f) (h5 : f * mi * D = p * (f * vij - e * vcj)) :
    p * mi * mc * (p * r - q * s) = p * mi * mc * (d * D) := by grind
section
variable {n m c : Nat} {M B : Mx} {d : Int}
/-- the combination that also clears column c -/
theorem Elim.next (h : Elim n m c M B d) (hc : c < n) (hm : c < m) (hp : B c c ≠ 0) {i : Nat} (hi : c < i) (hin : i < n) :
    ∃ (u : Int) (l : Nat → Int), u ≠ 0 ∧ (∀ j, j < c + 1 → u * M i j + sm (fun k => l k * M k j) (c + 1) = 0) ∧
      ∀ j, c < j → j < m → B c c * B i j - B i c * B c j = d * det (c + 2) (brd (c + 1) M i j) := by
  obtain ⟨ui, li, hui, hvi⟩ := h.co i (by omega) hin
  obtain ⟨uc, lc, huc, hvc⟩ := h.co c (Nat.le_refl _) hc
  have hb := fun a b ha han hb hbm => h.at_ a b ha han hb hbm
  have e1 := fun j (hj : c ≤ j) => brd_comb (j := j) (show c ≤ i by omega) hj hvi
  have e2 := fun j (hj : c ≤ j) => brd_comb (j := j) (Nat.le_refl c) hj hvc
  rw [← h.lead] at e1 e2
  have hL : det (c + 1) M = B c c := by rw [hb c c (Nat.le_refl _) hc (Nat.le_refl _) hm, det_lead]
  have hsum : ∀ (f e : Int) (j : Nat), (f * ui) * M i j + sm (fun k => (if k = c then -(e * uc) else f * li k - e * lc k) * M k j) (c + 1) = f * (ui * M i j + sm (fun k => li k * M k j) c) - e * (uc * M c j + sm (fun k => lc k * M k j) c) := fun f e j => by
    have e3 : sm (fun k => (if k = c then -(e * uc) else f * li k - e * lc k) * M k j) c = f * sm (fun k => li k * M k j) c + (-e) * sm (fun k => lc k * M k j) c := by
      rw [← sm_lin]
      refine sm_congr fun k hk => ?_
      rw [if_neg (by omega)]
      grind
    simp only [sm, if_pos]
    rw [e3]
    grind
  obtain ⟨f, ef⟩ : ∃ f, uc * M c c + sm (fun k => lc k * M k c) c = f := ⟨_, rfl⟩
  obtain ⟨e, ee⟩ : ∃ e, ui * M i c + sm (fun k => li k * M k c) c = e := ⟨_, rfl⟩
  have h1 := e1 c (Nat.le_refl _)
  have h2 := e2 c (Nat.le_refl _)
  rw [← hb i c (by omega) hin (Nat.le_refl _) hm, ee] at h1
  rw [← hb c c (Nat.le_refl _) hc (Nat.le_refl _) hm, ef] at h2
  have hf : f ≠ 0 := by
    rintro rfl
    rw [Int.mul_zero] at h2
    rcases Int.mul_eq_zero.1 h2 with h3 | h3
    · exact huc h3
    · exact hp h3
  have hz : ∀ j, j < c + 1 → (f * ui) * M i j + sm (fun k => (if k = c then -(e * uc) else f * li k - e * lc k) * M k j) (c + 1) = 0 := fun j hj => by
    rw [hsum]
    by_cases ej : j = c
    · subst ej; rw [ef, ee]; grind
    · rw [hvi j (by omega), hvc j (by omega)]; simp
  refine ⟨f * ui, _, Int.mul_ne_zero hf hui, hz, fun j hj hjm => ?_⟩
  have h3 := brd_comb (j := j) (show c + 1 ≤ i by omega) (show c + 1 ≤ j by omega) hz
  rw [hsum, hL] at h3
  have h4 := e1 j (by omega)
  have h5 := e2 j (by omega)
  rw [← hb i j (by omega) hin (by omega) hjm] at h4
  rw [← hb c j (Nat.le_refl _) hc (by omega) hjm] at h5
  generalize ui * M i j + sm (fun k => li k * M k j) c = vij at *
  generalize uc * M c j + sm (fun k => lc k * M k j) c = vcj at *
  generalize det (c + 1 + 1) (brd (c + 1) M i j) = D at *
  exact cancel (a := B c c * ui * uc) (Int.mul_ne_zero (Int.mul_ne_zero hp hui) huc) (elim_alg h4 h1 h5 h2 h3)
/-- one column further -/
theorem Elim.step (h : Elim n m c M B d) (hc : c < n) (hm : c < m) (hp : B c c ≠ 0) {B' : Mx} (hB : ∀ i j, c < i → i < n → c < j → j < m → B c c * B i j - B i c * B c j = d * B' i j) : Elim n m (c + 1) M B' (B c c) := by
  refine ⟨fun i j hi hin hj hjm => ?_, ?_, hp, fun i hi hin => ?_⟩
  · obtain ⟨_, _, _, _, h1⟩ := h.next hc hm hp hi hin
    exact cancel h.ne ((hB i j hi hin hj hjm).symm.trans (h1 j hj hjm))
  · rw [h.at_ c c (Nat.le_refl _) hc (Nat.le_refl _) hm, det_lead]
  · obtain ⟨u, l, h1, h2, _⟩ := h.next hc hm hp hi hin
    exact ⟨u, l, h1, h2⟩
/-- the division leaves no rest -/
theorem Elim.exact (h : Elim n m c M B d) (hc : c < n) (hm : c < m) (hp : B c c ≠ 0) {i j : Nat} (hi : c < i) (hin : i < n) (hj : c < j) (hjm : j < m) : B c c * B i j - B i c * B c j = d * det (c + 2) (brd (c + 1) M i j) := by
  obtain ⟨_, _, _, _, h1⟩ := h.next hc hm hp hi hin
  exact h1 j hj hjm
/-- rows that are not taken yet change places -/
theorem Elim.swap (h : Elim n m c M B d) {p q : Nat} (hp : c ≤ p) (hpn : p < n) (hq : c ≤ q) (hqn : q < n) : Elim n m c (swp M p q) (swp B p q) d := by
  have hlow : ∀ a b, a < c → swp M p q a b = M a b := fun a b ha => by unfold swp; rw [if_neg (by omega), if_neg (by omega)]
  have hsm : ∀ (l : Nat → Int) j, sm (fun k => l k * swp M p q k j) c = sm (fun k => l k * M k j) c := fun l j => sm_congr fun k hk => by rw [hlow k j hk]
  have hrow : ∀ i, c ≤ i → i < n → ∃ i', c ≤ i' ∧ i' < n ∧ (∀ j, swp M p q i j = M i' j) ∧ ∀ j, swp B p q i j = B i' j := fun i hi hin => by
    unfold swp
    by_cases e1 : i = p
    · exact ⟨q, hq, hqn, fun j => by rw [if_pos e1], fun j => by rw [if_pos e1]⟩
    · by_cases e2 : i = q
      · exact ⟨p, hp, hpn, fun j => by rw [if_neg e1, if_pos e2], fun j => by rw [if_neg e1, if_pos e2]⟩
      · exact ⟨i, hi, hin, fun j => by rw [if_neg e1, if_neg e2], fun j => by rw [if_neg e1, if_neg e2]⟩
  refine ⟨fun i j hi hin hj hjm => ?_, ?_, h.ne, fun i hi hin => ?_⟩
  · obtain ⟨i', h1, h2, h3, h4⟩ := hrow i hi hin
    rw [h4, h.at_ i' j h1 h2 hj hjm]
    refine det_congr fun a b ha hb => ?_
    unfold brd
    by_cases e : a < c
    · simp only [if_pos e]; rw [hlow _ _ e]
    · simp only [if_neg e]; rw [h3]
  · rw [h.lead]; exact det_congr fun a b ha hb => (hlow a b ha).symm
  · obtain ⟨i', h1, h2, h3, _⟩ := hrow i hi hin
    obtain ⟨u, l, hu, hv⟩ := h.co i' h1 h2
    exact ⟨u, l, hu, fun j hj => by rw [h3, hsm]; exact hv j hj⟩
/-- no pivot: the determinant is 0 -/
theorem det_none (h : Elim n n c M B d) (hc : c < n) (hp : ∀ i, c ≤ i → i < n → B i c = 0) : det n M = 0 := by
  have key : ∀ (t : Nat) (M' : Mx), t ≤ n - c → (∀ i j, i < c → M' i j = M i j) → (∀ i j, c ≤ i → i < n - t → j ≤ c → M' i j = 0) → (∀ i j, n - t ≤ i → M' i j = M i j) → det n M' = 0 := by
    intro t
    induction t with
    | zero => exact fun M' _ _ h2 _ => det_wide hc fun i j hi hin hj => h2 i j hi (by omega) hj
    | succ t ih =>
      intro M' ht h1 h2 h3
      obtain ⟨r, er⟩ : ∃ r, r = n - (t + 1) := ⟨_, rfl⟩
      obtain ⟨u, l, hu, hv⟩ := h.co r (by omega) (by omega)
      have hb := brd_comb (j := c) (show c ≤ r by omega) (Nat.le_refl c) hv
      rw [← h.at_ r c (by omega) (by omega) (Nat.le_refl _) hc, hp r (by omega) (by omega), ← h.lead, Int.mul_zero] at hb
      have hvc : u * M r c + sm (fun k => l k * M k c) c = 0 := (Int.mul_eq_zero.1 hb.symm).resolve_left h.ne
      have h4 := det_comb (n := n) (M := M') (r := r) (by omega) u l c (by omega)
      have h5 : ∀ j, u * M' r j + sm (fun k => l k * M' k j) c = u * M r j + sm (fun k => l k * M k j) c := fun j => by
        rw [h3 r j (by omega), sm_congr (g := fun k => l k * M k j) fun k hk => by rw [h1 k j hk]]
      rw [ih _ (by omega) (fun i j hi => by rw [up_ne (by omega)]; exact h1 i j hi) (fun i j hi hin hj => by
        by_cases e : i = r
        · subst e
          rw [up_eq, h5]
          rcases Nat.lt_or_ge j c with hjc | hjc
          · exact hv j hjc
          · obtain rfl : j = c := by omega
            exact hvc
        · rw [up_ne e]; exact h2 i j hi (by omega) hj) (fun i j hi => by rw [up_ne (by omega)]; exact h3 i j (by omega))] at h4
      exact (Int.mul_eq_zero.1 h4.symm).resolve_left hu
  exact key (n - c) M (Nat.le_refl _) (fun _ _ _ => rfl) (fun i j h1 h2 => by omega) fun _ _ _ => rfl
end
/-- how great a determinant may be -/
theorem sm_le {f : Nat → Int} {b : Int} : ∀ {n : Nat}, (∀ k, k < n → (f k).natAbs ≤ b) → ((sm f n).natAbs : Int) ≤ n * b
  | 0, _ => by simp [sm]
  | n + 1, h => by
    have ih := sm_le (n := n) fun k hk => h k (by omega)
    have h1 := h n (by omega)
    simp only [sm]
    have h2 : ((n + 1 : Nat) : Int) * b = n * b + b := by rw [Int.natCast_succ, Int.add_mul, Int.one_mul]
    rw [h2]
    omega
theorem det_le : ∀ {n : Nat} {M : Mx} {K : Nat}, n ≤ 64 → (∀ i j, i < n → j < n → (M i j).natAbs ≤ K) → (det n M).natAbs ≤ (64 * K) ^ n
  | 0, _, _, _, _ => by simp [det]
  | n + 1, M, K, hn, h => by
    have h1 := sm_le (f := fun k => sg (n + k) * (M k n * det n (fun i j => M (sk k i) j))) (b := ((K * (64 * K) ^ n : Nat) : Int)) (n := n + 1) fun k hk => by
      have ih := det_le (n := n) (M := fun i j => M (sk k i) j) (K := K) (by omega) fun i j hi hj => h _ j (sk_lt hi) (by omega)
      have hs : (sg (n + k)).natAbs = 1 := by unfold sg; split <;> rfl
      have e : (sg (n + k) * (M k n * det n (fun i j => M (sk k i) j))).natAbs = (M k n).natAbs * (det n (fun i j => M (sk k i) j)).natAbs := by rw [Int.natAbs_mul, Int.natAbs_mul, hs, Nat.one_mul]
      have := Nat.mul_le_mul (h k n hk (by omega)) ih
      rw [e]
      exact_mod_cast this
    have e2 : (det (n + 1) M).natAbs ≤ (n + 1) * (K * (64 * K) ^ n) := by
      have : ((det (n + 1) M).natAbs : Int) ≤ ((n + 1) * (K * (64 * K) ^ n) : Nat) := by rw [Int.natCast_mul]; exact h1
      exact_mod_cast this
    refine Nat.le_trans e2 ?_
    rw [Nat.pow_succ, Nat.mul_comm ((64 * K) ^ n), Nat.mul_assoc 64]
    exact Nat.mul_le_mul hn (Nat.le_refl _)
end Go.Det

namespace Go.Proofs.Ytdhmhjbmkimplaa
open Go Go.Eng Go.Proofs Go.NatM Go.RowKit Go.Det

theorem det_stepF {s : SP} {n : Nat} {F : Nat → Nat → Int} (hf : fits n s) : det n (stepF s F) = if turnsS s then - det n F else det n F := by
  rcases hf with ⟨hk, hi, hj⟩ | ⟨hk, hi⟩ | ⟨hk, hi, hj, hne⟩
  · rw [stepF_1 hk]
    by_cases e : s.i = s.j
    · rw [if_neg (by unfold turnsS; omega)]
      refine det_congr fun p q _ _ => ?_
      rw [e]
      split
      · subst_vars; rfl
      · rfl
    · rw [if_pos (by unfold turnsS; omega), ← det_swap (M := F) (r := s.i.toNat) (s := s.j.toNat) (by omega) (by omega) (by omega)]
      refine det_congr fun p q _ _ => ?_
      unfold swp
      by_cases h1 : p = s.j.toNat
      · rw [if_pos h1, if_neg (by omega), if_pos h1]
      · rw [if_neg h1]
        by_cases h2 : p = s.i.toNat
        · rw [if_pos h2, if_pos h2]
        · rw [if_neg h2, if_neg h2, if_neg h1]
  · rw [stepF_2 hk, if_pos (.inl hk)]
    have h := det_scale (n := n) (M := F) (r := s.i.toNat) (by omega) (-1)
    rw [show - det n F = -1 * det n F by omega, ← h]
    refine det_congr fun p q _ _ => ?_
    unfold up
    split <;> (try dsimp only) <;> omega
  · rw [stepF_3 hk, if_neg (by unfold turnsS; omega)]
    rw [← det_add (n := n) (M := F) (r := s.i.toNat) (q := s.j.toNat) (by omega) (by omega) (by omega) (ival s.k)]
    refine det_congr fun p q _ _ => ?_
    unfold up
    split <;> (try dsimp only) <;> omega
theorem det_steps {n : Nat} : ∀ (L : List SP), (∀ s ∈ L, fits n s) → ∀ i, i ≤ L.length → det n (stepsF (L.take i) unitF) = sgnL (L.take i)
  | L, hf, 0, _ => by
    show det n unitF = 1
    exact det_unit n
  | L, hf, i + 1, hi => by
    have hy : L[i]? = some (L.getD i default) := by simp [List.getD, show i < L.length by omega]
    have hm := List.mem_of_getElem? hy
    rw [stepsF_succ hy, sgnL_succ hy, det_stepF (hf _ hm), det_steps L hf i (by omega)]
theorem det_all {n : Nat} {L : List SP} (hf : ∀ s ∈ L, fits n s) : det n (stepsF L unitF) = sgnL L := by
  have h := det_steps L hf L.length (Nat.le_refl _)
  rwa [List.take_length] at h
end Go.Proofs.Ytdhmhjbmkimplaa
