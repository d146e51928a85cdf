/- The ladder: rows of integers, each in a block of its own with room to spare; lists of such; what a call that works on some blocks leaves of a frame. Determinants of matrices of integers, by expansion along the last column; plain Lean. Determinants: expansion along the last row, change of rank one, Cauchy-Binet; plain Lean. Rows in Hermite form: their numbers are bounded by the minors; plain Lean. Row operations keep the minors' bounds; plain Lean. Row operations on a matrix with the unit matrix beside it, and on the columns of the inverse: what they keep; plain Lean. The ladder's operations as row operations of LadA; the inverse's numbers are bounded by the transform's; plain Lean. The engine, more operations: a table that is a package-level variable; -x of uint64. The array types of this translation. The engine: arrays of structs: built, read whole, places in them. From a law's row to its walk: arguments as the engine has them. What the bound of an Upto statement gives. Layers 1 and 2: contracts of nat.Shl, mulnat.MulLow. Layer 2: contracts of math/bits.Len, mulnat.Pow. Layer 2: contract of mulnat.Product. Arguments as the engine has them, more: slices of slices of words. Arguments as the engine has them, more: slices of structs, of whatever depth. Arguments as the engine has them: integers and matrices. Layer 9: MatTurns (printed by genturns.py). Layer 9: calls at unsound matrices (printed by genmati.py). Layer 9: zint's Sign, Cmp, Sub. -/
import Derived.Test.YthlbihbchobllaaGreatPh5
import Derived.Test.YthlbihbchobllaaGreatPh2
import Derived.Test.YthlbihbchobllaaGreatPh1
import Derived.Test.YthlbihbchobllaaGreatPh4
import Derived.Test.YthlbihbchobllaaGreatPh3
import Derived.ProofKit
import Derived.OpenShut
import Derived.ChangeOld
import Derived.SizedLaws
import Derived.Test.YthlbihbchobllaaGreatRows
import Derived.Deep.Slices
set_option linter.unusedVariables false
set_option linter.unusedSimpArgs false
namespace Go.Eng
open Go Go.RowKit Go.Proofs
section
variable {S S1 : Nat → Prop} {w0 w w' : World} {Pre L L1 L1' Post : List VB} {D D1 : List DP}
theorem Fr.sub (h : Fr w0 w (Pre ++ (L1 ++ Post)) D S) (hD : ∀ d ∈ D1, d ∈ D) : Fr w w L1 D1 (fun k => ∃ v ∈ L1, v.b = k) :=
  ⟨Exs.refl _ _, fun v hv => ⟨.inr ⟨v, hv, rfl⟩, (h.vars v (List.mem_append_right _ (List.mem_append_left _ hv))).2⟩,
    h.dist.sublist ((List.sublist_append_left _ _).trans (List.sublist_append_right _ _)), fun d hd => h.data d (hD d hd),
    fun v hv d hd => h.apart v (List.mem_append_right _ (List.mem_append_left _ hv)) d (hD d hd)⟩
theorem pw_nodup (L : List VB) : L.Pairwise (fun x y => x.b ≠ y.b) ↔ (L.map (·.b)).Nodup := by
  unfold List.Nodup
  rw [List.pairwise_map]
/-- a call that works on the blocks L1 alone -/
theorem Fr.call (h : Fr w0 w (Pre ++ (L1 ++ Post)) D S) (hc : Fr w w' L1' D1 S1) (hS : ∀ k, S1 k → ∃ v ∈ L1, v.b = k) (hp : (L1'.map (·.b)).Perm (L1.map (·.b))) (hno : ∀ v ∈ L1, v.cs.all noU64 = true) (hfp : ∀ d ∈ D1, ∀ k, ¬ d.fp k) :
    Fr w0 w' (Pre ++ (L1' ++ Post)) (D1 ++ D) S := by
  have hmem : ∀ v ∈ L1, v ∈ Pre ++ (L1 ++ Post) := fun v hv => List.mem_append_right _ (List.mem_append_left _ hv)
  have hb : ∀ v ∈ L1', ∃ u ∈ L1, u.b = v.b := fun v hv => by
    have := hp.mem_iff.1 (List.mem_map_of_mem (f := (·.b)) hv)
    obtain ⟨u, hu, e⟩ := List.mem_map.1 this
    exact ⟨u, hu, e⟩
  have hd := h.dist
  rw [List.pairwise_append, List.pairwise_append] at hd
  have hne : ∀ v, v ∈ Pre ∨ v ∈ Post → ∀ u ∈ L1, u.b ≠ v.b := fun v hv u hu => by
    rcases hv with hv | hv
    · exact fun e => hd.2.2 v hv u (List.mem_append_left _ hu) e.symm
    · exact hd.2.1.2.2 u hu v hv
  refine ⟨h.exs.then hc.exs fun i hi hs => ?_, fun v hv => ?_, ?_, fun d hdm => ?_, fun v hv d hdm => ?_⟩
  · obtain ⟨v, hv, e⟩ := hS i hs
    rcases (h.vars v (hmem v hv)).1 with h1 | h1
    · omega
    · rw [← e]; exact h1
  · have key : ∀ v, v ∈ Pre ∨ v ∈ Post → (w0.heap.size ≤ v.b ∨ S v.b) ∧ Vr w'.heap v.b v.t v.cs := fun v hv => by
      have hm : v ∈ Pre ++ (L1 ++ Post) := by
        rcases hv with hv | hv
        · exact List.mem_append_left _ hv
        · exact List.mem_append_right _ (List.mem_append_right _ hv)
      refine ⟨(h.vars v hm).1, ?_⟩
      have hV := (h.vars v hm).2
      exact (hc.exs.block v.b hV.lt fun hs => by
        obtain ⟨u, hu, e⟩ := hS _ hs
        exact hne v hv u hu e).trans hV
    rcases List.mem_append.1 hv with hv | hv
    · exact key v (.inl hv)
    · rcases List.mem_append.1 hv with hv | hv
      · obtain ⟨u, hu, e⟩ := hb v hv
        refine ⟨?_, (hc.vars v hv).2⟩
        rw [← e]; exact (h.vars u (hmem u hu)).1
      · exact key v (.inr hv)
  · rw [pw_nodup]
    have h1 := (pw_nodup _).1 h.dist
    rw [List.map_append, List.map_append] at h1 ⊢
    exact (List.Perm.nodup_iff ((List.Perm.refl _).append (hp.append (List.Perm.refl _)))).2 h1
  · rcases List.mem_append.1 hdm with hdm | hdm
    · exact hc.data d hdm
    · refine d.st _ _ ⟨hc.exs.size, fun k cs t x hk hq => hc.exs.block k (Array.getElem?_eq_some_iff.1 hk).1 fun hs => ?_, fun k o hk _ hf => hc.exs.block k (Array.getElem?_eq_some_iff.1 hk).1 fun hs => ?_⟩ (h.data d hdm)
      · obtain ⟨u, hu, rfl⟩ := hS _ hs
        rcases hq with hq | hq
        · exact h.apart u (hmem u hu) d hdm hq
        · have hV := (h.vars u (hmem u hu)).2
          unfold Vr at hV
          rw [hV] at hk
          cases hk
          have := hno u hu
          rw [List.toList_toArray] at hq
          rw [hq] at this; cases this
      · obtain ⟨u, hu, rfl⟩ := hS _ hs
        exact h.apart u (hmem u hu) d hdm hf
  · rcases List.mem_append.1 hdm with hdm | hdm
    · exact hfp d hdm _
    · rcases List.mem_append.1 hv with hv | hv
      · exact h.apart v (List.mem_append_left _ hv) d hdm
      · rcases List.mem_append.1 hv with hv | hv
        · obtain ⟨u, hu, e⟩ := hb v hv
          rw [← e]; exact h.apart u (hmem u hu) d hdm
        · exact h.apart v (List.mem_append_right _ (List.mem_append_right _ hv)) d hdm
end
/-- a block that is not written any more, as a fact -/
def dpVr (b : Nat) (t : TypeId) (cs : List Value) : DP where
  p H := Vr H b t cs
  fp k := k = b
  lt H k h hk := by rw [hk]; exact h.lt
  st H H' hd h := (hd.block b _ _ _ h (.inl rfl)).trans h
section
variable {S : Nat → Prop} {w0 w w' : World} {L : List VB} {D : List DP} {b : Nat} {t : TypeId} {cs : List Value}
theorem Fr.keep (h : Fr w0 w (⟨b, t, cs⟩ :: L) D S) : Fr w0 w L (dpVr b t cs :: D) S :=
  ⟨h.exs, fun v hv => h.vars v (List.mem_cons_of_mem _ hv), (List.pairwise_cons.1 h.dist).2, fun d hd => by
    rcases List.mem_cons.1 hd with rfl | hd
    · exact (h.vars _ (List.mem_cons_self ..)).2
    · exact h.data d hd, fun v hv d hd => by
    rcases List.mem_cons.1 hd with rfl | hd
    · exact fun e => (List.pairwise_cons.1 h.dist).1 v hv e.symm
    · exact h.apart v (List.mem_cons_of_mem _ hv) d hd⟩
theorem Fr.kept (h : Fr w0 w L D S) (hm : dpVr b t cs ∈ D) : Vr w.heap b t cs := h.data _ hm
theorem Fr.pm {L' : List VB} (h : Fr w0 w L D S) (hp : L'.Perm L) : Fr w0 w L' D S :=
  ⟨h.exs, fun v hv => h.vars v (hp.mem_iff.1 hv), (hp.pairwise_iff (fun h => Ne.symm h)).2 h.dist, h.data, fun v hv => h.apart v (hp.mem_iff.1 hv)⟩
end
attribute [irreducible] dpVr

end Go.Eng
namespace Go.Proofs.YthlbihbchobllaaGreat
open Go Go.Eng Go.Proofs Go.NatM Go.RowKit
abbrev WB : Nat := 18446744073709551616
/-- a row in a block of its own -/
structure RQ where
  b : Nat
  l : List IV
instance : Inhabited RQ := ⟨⟨0, []⟩⟩
def rowq (c : Nat) (x : RQ) : Value := .slice (some ⟨x.b, 0, none⟩) c x.l.length
def rqVB (x : RQ) : VB := ⟨x.b, 43, x.l.flatMap ivc⟩
/-- a side: its rows, and whether the columns of an inverse are meant -/
structure Sd where
  v : Nat
  v2 : Nat
  g : Nat
  c : Nat
  back : Bool
  R : List RQ
  F : Nat → Nat → Int
instance : Inhabited Sd := ⟨⟨0, 0, 0, 0, false, [], fun _ _ => 0⟩⟩
def Sd.up (s : Sd) (R : List RQ) (F : Nat → Nat → Int) : Sd := ⟨s.v, s.v2, s.g, s.c, s.back, R, F⟩
def sdL (s : Sd) : List VB := ⟨s.g, 22, s.R.map (rowq s.c)⟩ :: s.R.map rqVB
structure Shp (n : Nat) (s : Sd) : Prop where
  n : s.R.length = n
  c : ∀ x ∈ s.R, s.c ≤ x.l.length
  c2 : s.c ≤ 128
theorem Shp.at {n i : Nat} {s : Sd} (h : Shp n s) (hi : i < n) : ∃ x, s.R[i]? = some x ∧ s.c ≤ x.l.length ∧ s.R.getD i default = x := by
  have hl : i < s.R.length := by rw [h.n]; exact hi
  exact ⟨s.R[i], List.getElem?_eq_getElem hl, h.c _ (List.getElem_mem hl), by simp [List.getD, hl]⟩
/-- the numbers of a side -/
def SdK (n K : Nat) (s : Sd) (H : Array Obj) : Prop := ∀ i, i < n → LsK s.c (s.R.getD i default).l (s.F i) K H
def dpSd (n K : Nat) (s : Sd) : DP := ⟨SdK n K s, fun _ => False, fun _ _ _ h => h.elim, fun _ _ hd h i hi q hq => ⟨(h i hi q hq).1.de hd, (h i hi q hq).2⟩⟩
section
variable {S : Nat → Prop} {w0 w w' : World} {L : List VB} {D : List DP}
theorem Fr.addSd (h : Fr w0 w L D S) {n K : Nat} {s : Sd} (k : SdK n K s w.heap) : Fr w0 w L (dpSd n K s :: D) S := h.add _ k fun _ _ h => h
theorem Fr.sd (h : Fr w0 w L D S) {n K : Nat} {s : Sd} (hm : dpSd n K s ∈ D) : SdK n K s w.heap := h.data _ hm
end
theorem dpSd_fp {n K k : Nat} {s : Sd} : ¬ (dpSd n K s).fp k := id
attribute [irreducible] dpSd

/-- all numbers have at most K words -/
def BdW (n K : Nat) (F : Nat → Nat → Int) : Prop := ∀ i c, i < n → (F i c).natAbs < WB ^ K
theorem GI.abs_lt' {H : Array Obj} {x : IV} (g : GI H x) : (ival x).natAbs < WB ^ x.m.n := by
  rw [ival_abs]
  have := val_lt g.u
  rwa [g.s.len] at this
theorem LI.nle' {H : Array Obj} {z : Int} {x : IV} {k : Nat} (h : LI H z x) (hz : z.natAbs < WB ^ k) : x.m.n ≤ k := by
  rw [← h.g.s.len, h.d]; exact dig_length_le hz
theorem LsK.setAt' {H : Array Obj} {c : Nat} {l : List IV} {Z Z' : Nat → Int} {q K : Nat} {u : IV} (h : LsK c l Z K H) (hq : q < l.length) (hu : LI H (Z' q) u) (hn : u.m.n ≤ K) (e : ∀ p, p ≠ q → Z' p = Z p) : LsK c (l.set q u) Z' K H := by
  intro p hp
  by_cases hpq : p = q
  · subst hpq
    have e1 : (l.set p u).getD p default = u := by simp [List.getD, hq]
    rw [e1]; exact ⟨hu, hn⟩
  · have e1 : (l.set q u).getD p default = l.getD p default := by simp [List.getD, List.getElem?_set_ne (fun h => hpq h.symm)]
    rw [e1, e p hpq]; exact h p hp
theorem LsK.mono' {H : Array Obj} {c K K' : Nat} {l : List IV} {Z : Nat → Int} (h : LsK c l Z K H) (hK : K ≤ K') : LsK c l Z K' H := fun q hq => ⟨(h q hq).1, Nat.le_trans (h q hq).2 hK⟩
theorem LsK.congr' {H : Array Obj} {c K : Nat} {l : List IV} {Z Z' : Nat → Int} (h : LsK c l Z K H) (e : ∀ q, q < c → Z' q = Z q) : LsK c l Z' K H := fun q hq => by rw [e q hq]; exact h q hq
theorem getD_set_ne' {α : Type} [Inhabited α] {l : List α} {i q : Nat} {x : α} (h : q ≠ i) : (l.set i x).getD q default = l.getD q default := by simp [List.getD, List.getElem?_set_ne (Ne.symm h)]
theorem getD_set_eq' {α : Type} [Inhabited α] {l : List α} {i : Nat} {x : α} (h : i < l.length) : (l.set i x).getD i default = x := by simp [List.getD, h]
theorem SdK.set {H : Array Obj} {n K i : Nat} {s : Sd} {F' : Nat → Nat → Int} {x : RQ} (h : SdK n K s H) (hi : i < s.R.length) (hx : LsK s.c x.l (F' i) K H) (e : ∀ p, p ≠ i → F' p = s.F p) : SdK n K (s.up (s.R.set i x) F') H := by
  intro p hp
  show LsK s.c ((s.R.set i x).getD p default).l (F' p) K H
  by_cases hpi : p = i
  · subst hpi
    rw [getD_set_eq' hi]; exact hx
  · rw [getD_set_ne' hpi, e p hpi]; exact h p hp
section
variable {P : Program} {σ : Store} {d : Option Tmp} {t : TypeId} {pos : String} {af : Array Edge} {gd : Option (Nat × Bool)} {S : Nat → Prop} {w0 w : World} {L : List VB} {D : List DP}
theorem ev_rowq (hF : Fr w0 w L D S) {x : Operand} {ty e : TypeId} [hO : UOne P ty] {g c i : Nat} {R : List RQ} {r : RQ} (hx : Eng.look σ x = some (.pointer (elemA (some ⟨g, 0, none⟩) i))) (hR : R[i]? = some r) (hV : InV L g e (R.map (rowq c))) : Ev P σ w.heap ⟨d, .load ty x, t, pos, af, gd⟩ (.slice (some ⟨r.b, 0, none⟩) c r.l.length) := by
  refine ev_loadV (b := g) (o := i) (by rw [hx]; simp [elemA, add_mk]) (hF.var hV) ?_
  rw [nthV_eq, List.getElem?_map, hR]; rfl
theorem rowq_sm (hF : Fr w0 w L D S) {r : RQ} (hV : InV L r.b 43 (r.l.flatMap ivc)) : Sm 2 ivc w.heap w.heap.size (some ⟨r.b, 0, none⟩) r.l.length r.l.length r.l :=
  vr_sm (zs := []) (by omega) (fun _ _ => rfl) (by rw [List.append_nil]; exact hF.var hV) rfl (Nat.le_refl _) (hF.var hV).lt
end
theorem InV.mapq {α : Type} {f : α → VB} {l : List α} {i : Nat} {x : α} {b : Nat} {t : TypeId} {cs : List Value} (hi : l[i]? = some x) (e : f x = ⟨b, t, cs⟩) {post : List VB} : InV (l.map f ++ post) b t cs := by
  induction l generalizing i with
  | nil => simp at hi
  | cons y l ih =>
    cases i with
    | zero => simp at hi; subst hi; rw [List.map_cons, e]; exact .head
    | succ i => exact .tail (ih (by simpa using hi))
theorem SetV.mapq {α : Type} {f : α → VB} {l : List α} {i : Nat} {x y : α} {b : Nat} {t : TypeId} {cs r : List Value} (hi : l[i]? = some x) (e : f x = ⟨b, t, cs⟩) (e' : f y = ⟨b, t, r⟩) {post : List VB} : SetV (l.map f ++ post) b t cs r ((l.set i y).map f ++ post) := by
  induction l generalizing i with
  | nil => simp at hi
  | cons z l ih =>
    cases i with
    | zero => simp at hi; subst hi; rw [List.set_cons_zero, List.map_cons, List.map_cons, e, e']; exact .head
    | succ i => exact .tail (ih (by simpa using hi))
theorem InV.pre {Pre L : List VB} {b : Nat} {t : TypeId} {cs : List Value} (h : InV L b t cs) : InV (Pre ++ L) b t cs := by
  induction Pre with
  | nil => exact h
  | cons x Pre ih => exact .tail ih
theorem InV.post {L Post : List VB} {b : Nat} {t : TypeId} {cs : List Value} (h : InV L b t cs) : InV (L ++ Post) b t cs := by
  induction h with
  | head => exact .head
  | tail _ ih => exact .tail ih
theorem InV.sdg {s : Sd} : InV (sdL s) s.g 22 (s.R.map (rowq s.c)) := .head
theorem InV.sdr {s : Sd} {i : Nat} {x : RQ} (hi : s.R[i]? = some x) : InV (sdL s) x.b 43 (x.l.flatMap ivc) := .tail (by have := InV.mapq (f := rqVB) (post := []) hi rfl; rwa [List.append_nil] at this)
theorem map_rowq {i c : Nat} {R : List RQ} {x : RQ} {l : List IV} (hi : R[i]? = some x) (hl : l.length = x.l.length) : (R.set i ⟨x.b, l⟩).map (rowq c) = R.map (rowq c) := by
  rw [List.map_set]
  apply List.ext_getElem?
  intro p
  rw [List.getElem?_set]
  split
  · rename_i hp
    subst hp
    split
    · rw [List.getElem?_map, hi]; simp [rowq, hl]
    · rename_i h
      rw [List.getElem?_eq_none (by simpa using h)]
  · rfl
/-- a number of a row is written -/
theorem SetV.sdr {s : Sd} {i q : Nat} {x : RQ} {u : IV} {F : Nat → Nat → Int} (hi : s.R[i]? = some x) : SetV (sdL s) x.b 43 (x.l.flatMap ivc) ((x.l.set q u).flatMap ivc) (sdL (s.up (s.R.set i ⟨x.b, x.l.set q u⟩) F)) := by
  have h1 := map_rowq (c := s.c) (l := x.l.set q u) hi (by rw [List.length_set])
  have h2 := SetV.mapq (f := rqVB) (post := []) (y := (⟨x.b, x.l.set q u⟩ : RQ)) hi (r := (x.l.set q u).flatMap ivc) rfl rfl
  rw [List.append_nil, List.append_nil] at h2
  show SetV (⟨s.g, _, s.R.map (rowq s.c)⟩ :: s.R.map rqVB) _ _ _ _ (⟨s.g, _, (s.R.set i ⟨x.b, x.l.set q u⟩).map (rowq s.c)⟩ :: (s.R.set i ⟨x.b, x.l.set q u⟩).map rqVB)
  rw [h1]
  exact .tail h2
theorem sdL_no (s : Sd) : ∀ v ∈ sdL s, v.cs.all noU64 = true := by
  intro v hv
  rcases List.mem_cons.1 hv with rfl | hv
  · rw [List.all_eq_true]
    intro u hu
    obtain ⟨x, _, rfl⟩ := List.mem_map.1 hu
    rfl
  · obtain ⟨x, _, rfl⟩ := List.mem_map.1 hv
    exact ivc_noV _
theorem sdL_b (s : Sd) : (sdL s).map (·.b) = s.g :: s.R.map (·.b) := by
  unfold sdL
  rw [List.map_cons, List.map_map]; rfl
theorem rq_put {n i : Nat} {s : Sd} {x : RQ} {l : List IV} {F : Nat → Nat → Int} (h : Shp n s) (hi : s.R[i]? = some x) (hl : l.length = x.l.length) : Shp n (s.up (s.R.set i ⟨x.b, l⟩) F) ∧ (s.R.set i ⟨x.b, l⟩)[i]? = some ⟨x.b, l⟩ ∧ ((s.R.set i ⟨x.b, l⟩).map (·.b)) = s.R.map (·.b) := by
  have hlt := (List.getElem?_eq_some_iff.1 hi).1
  refine ⟨⟨by show (s.R.set i _).length = n; rw [List.length_set]; exact h.n, fun y hy => ?_, h.c2⟩, by rw [List.getElem?_set, if_pos rfl, if_pos hlt], ?_⟩
  · rcases List.mem_or_eq_of_mem_set hy with h1 | h1
    · exact h.c y h1
    · rw [h1]; show s.c ≤ l.length; rw [hl]; exact h.c x (List.mem_of_getElem? hi)
  · rw [List.map_set]
    apply List.ext_getElem?
    intro p
    rw [List.getElem?_set]
    split
    · rename_i hp
      subst hp
      rw [if_pos (by simpa using hlt), List.getElem?_map, hi]; rfl
    · rfl
theorem rq_same {i : Nat} {R : List RQ} {x : RQ} (hi : R[i]? = some x) : R.set i ⟨x.b, x.l⟩ = R := by
  apply List.ext_getElem?
  intro p
  rw [List.getElem?_set]
  split
  · rename_i hp
    subst hp
    rw [hi, if_pos (List.getElem?_eq_some_iff.1 hi).1]
  · rfl
/-- what an operation on a side leaves -/
def RetSd (w : World) (n K : Nat) (s : Sd) (F' : Nat → Nat → Int) (S : Nat → Prop) (e : Ending) (w' : World) : Prop :=
  e = .returned (.tuple #[]) ∧ ∃ R', Shp n (s.up R' F') ∧ (R'.map (·.b)).Perm (s.R.map (·.b)) ∧ Fr w w' (sdL (s.up R' F')) [dpSd n K (s.up R' F')] S
end Go.Proofs.YthlbihbchobllaaGreat

namespace Go.Det

def sg (n : Nat) : Int := if n % 2 = 0 then 1 else -1
theorem sg_succ (n : Nat) : sg (n + 1) = - sg n := by unfold sg; rcases Nat.mod_two_eq_zero_or_one n with h | h <;> simp [h, Nat.add_mod]
theorem sg_two (n : Nat) : sg (n + n) = 1 := by unfold sg; rw [if_pos (by omega)]
/-- the sum of f 0 .. f (n - 1) -/
def sm (f : Nat → Int) : Nat → Int
  | 0 => 0
  | n + 1 => sm f n + f n
theorem sm_congr {f g : Nat → Int} {n : Nat} (h : ∀ k, k < n → f k = g k) : sm f n = sm g n := by
  induction n with
  | zero => rfl
  | succ n ih => simp only [sm]; rw [ih fun k hk => h k (by omega), h n (by omega)]
theorem sm_add (f g : Nat → Int) (n : Nat) : sm (fun k => f k + g k) n = sm f n + sm g n := by
  induction n with
  | zero => rfl
  | succ n ih => simp only [sm]; rw [ih]; omega
theorem sm_mul (a : Int) (f : Nat → Int) (n : Nat) : sm (fun k => a * f k) n = a * sm f n := by
  induction n with
  | zero => simp [sm]
  | succ n ih => simp only [sm]; rw [ih, Int.mul_add]
theorem sm_lin (a b : Int) (f g : Nat → Int) (n : Nat) : sm (fun k => a * f k + b * g k) n = a * sm f n + b * sm g n := by rw [sm_add, sm_mul, sm_mul]
theorem sm_zero (n : Nat) : sm (fun _ => 0) n = 0 := by
  induction n with
  | zero => rfl
  | succ n ih => simp only [sm]; rw [ih]; rfl
theorem sm_zero' {f : Nat → Int} {n : Nat} (h : ∀ k, k < n → f k = 0) : sm f n = 0 := by rw [sm_congr h, sm_zero]
theorem sm_pair {f : Nat → Int} {n r : Nat} (h : ∀ k, k < n → k ≠ r → k ≠ r + 1 → f k = 0) : sm f n = (if r < n then f r else 0) + (if r + 1 < n then f (r + 1) else 0) := by
  induction n with
  | zero => simp [sm]
  | succ n ih =>
    simp only [sm]
    rw [ih fun k hk => h k (by omega)]
    by_cases h1 : n = r
    · subst h1
      simp
      rw [if_neg (by omega)]
      omega
    · by_cases h2 : n = r + 1
      · subst h2
        rw [if_pos (by omega), if_neg (by omega), if_pos (by omega), if_pos (by omega)]
        omega
      · rw [h n (by omega) h1 h2]
        have e1 : (r < n + 1) = (r < n) := propext ⟨fun _ => by omega, fun _ => by omega⟩
        have e2 : (r + 1 < n + 1) = (r + 1 < n) := propext ⟨fun _ => by omega, fun _ => by omega⟩
        simp only [e1, e2, Int.add_zero]
theorem sm_one {f : Nat → Int} {n r : Nat} (hr : r < n) (h : ∀ k, k < n → k ≠ r → f k = 0) : sm f n = f r := by
  induction n with
  | zero => omega
  | succ n ih =>
    simp only [sm]
    by_cases h1 : n = r
    · subst h1
      rw [sm_zero' fun k hk => h k (by omega) (by omega)]
      omega
    · rw [ih (by omega) fun k hk => h k (by omega), h n (by omega) h1]
      omega

abbrev Mx := Nat → Nat → Int
/-- all rows but k -/
def sk (k i : Nat) : Nat := if i < k then i else i + 1
theorem sk_ne (k i : Nat) : sk k i ≠ k := by unfold sk; split <;> omega
theorem sk_lt {k i n : Nat} (h : i < n) : sk k i < n + 1 := by unfold sk; split <;> omega
theorem sk_low {k i : Nat} (h : i < k) : sk k i = i := if_pos h
theorem sk_high {k i : Nat} (h : k ≤ i) : sk k i = i + 1 := if_neg (by omega)
def det : Nat → Mx → Int
  | 0, _ => 1
  | n + 1, M => sm (fun k => sg (n + k) * (M k n * det n (fun i j => M (sk k i) j))) (n + 1)
theorem det_congr : ∀ {n : Nat} {M N : Mx}, (∀ i j, i < n → j < n → M i j = N i j) → det n M = det n N
  | 0, _, _, _ => rfl
  | n + 1, M, N, h => sm_congr fun k hk => by
    rw [h k n hk (by omega), det_congr (n := n) (M := fun i j => M (sk k i) j) (N := fun i j => N (sk k i) j) fun i j hi hj => h _ j (sk_lt hi) (by omega)]
/-- a determinant is linear in each row -/
theorem det_row : ∀ {n : Nat} {M A B : Mx} {r : Nat} {a b : Int}, r < n → (∀ i j, i < n → j < n → i ≠ r → M i j = A i j) → (∀ i j, i < n → j < n → i ≠ r → M i j = B i j) → (∀ j, j < n → M r j = a * A r j + b * B r j) → det n M = a * det n A + b * det n B
  | 0, _, _, _, _, _, _, hr, _, _, _ => by omega
  | n + 1, M, A, B, r, a, b, hr, hA, hB, hl => by
    simp only [det]
    rw [← sm_lin]
    refine sm_congr fun k hk => ?_
    by_cases e : k = r
    · subst e
      have e1 := det_congr (n := n) (M := fun i j => M (sk k i) j) (N := fun i j => A (sk k i) j) fun i j hi hj => hA _ j (sk_lt hi) (by omega) (sk_ne k i)
      have e2 := det_congr (n := n) (M := fun i j => M (sk k i) j) (N := fun i j => B (sk k i) j) fun i j hi hj => hB _ j (sk_lt hi) (by omega) (sk_ne k i)
      rw [hl n (by omega), ← e1, ← e2]
      generalize det n _ = d
      rw [Int.add_mul, Int.mul_add]
      congr 1
      · rw [Int.mul_assoc, Int.mul_left_comm]
      · rw [Int.mul_assoc, Int.mul_left_comm]
    · have h1 : ∃ r', r' < n ∧ sk k r' = r := by
        rcases Nat.lt_or_ge r k with h | h
        · exact ⟨r, by omega, sk_low h⟩
        · exact ⟨r - 1, by omega, by rw [sk_high (by omega)]; omega⟩
      obtain ⟨r', hr', es⟩ := h1
      have inj : ∀ i, i ≠ r' → sk k i ≠ r := fun i hi h => hi (by
        rw [← es] at h
        unfold sk at h
        split at h <;> split at h <;> omega)
      have e3 := det_row (n := n) (M := fun i j => M (sk k i) j) (A := fun i j => A (sk k i) j) (B := fun i j => B (sk k i) j) (r := r') (a := a) (b := b) hr' (fun i j hi hj hne => hA _ j (sk_lt hi) (by omega) (inj i hne)) (fun i j hi hj hne => hB _ j (sk_lt hi) (by omega) (inj i hne)) (fun j hj => by simp only [es]; exact hl j (by omega))
      rw [e3, hA k n hk (by omega) e]
      have e4 : B k n = A k n := by rw [← hB k n hk (by omega) e, hA k n hk (by omega) e]
      rw [e4]
      generalize det n _ = d1
      generalize det n _ = d2
      rw [Int.mul_add, Int.mul_add, Int.mul_left_comm (A k n) a d1, Int.mul_left_comm (A k n) b d2, Int.mul_left_comm (sg _) a, Int.mul_left_comm (sg _) b]
/-- two rows, one behind the other, alike -/
theorem det_adj : ∀ {n : Nat} {M : Mx} {r : Nat}, r + 1 < n → (∀ j, j < n → M r j = M (r + 1) j) → det n M = 0
  | 0, _, _, hr, _ => by omega
  | n + 1, M, r, hr, h => by
    simp only [det]
    rw [sm_pair (r := r) fun k hk h1 h2 => ?_]
    · rw [if_pos (by omega), if_pos hr, h n (by omega)]
      have e := det_congr (n := n) (M := fun i j => M (sk r i) j) (N := fun i j => M (sk (r + 1) i) j) fun i j hi hj => by
        rcases Nat.lt_trichotomy i r with h1 | h1 | h1
        · rw [sk_low h1, sk_low (by omega)]
        · subst h1; rw [sk_high (Nat.le_refl _), sk_low (by omega)]; exact (h j (by omega)).symm
        · rw [sk_high (by omega), sk_high (by omega)]
      rw [e, show n + (r + 1) = n + r + 1 by omega, sg_succ, Int.neg_mul]
      omega
    · have e : det n (fun i j => M (sk k i) j) = 0 := by
        rcases Nat.lt_or_ge k r with h3 | h3
        · refine det_adj (r := r - 1) (by omega) fun j hj => ?_
          rw [sk_high (by omega), sk_high (by omega), show r - 1 + 1 = r by omega]
          exact h j (by omega)
        · refine det_adj (r := r) (by omega) fun j hj => ?_
          rw [sk_low (by omega), sk_low (by omega)]
          exact h j (by omega)
      rw [e, Int.mul_zero, Int.mul_zero]
/-- row r put in place -/
def up (M : Mx) (r : Nat) (v : Nat → Int) : Mx := fun i j => if i = r then v j else M i j
theorem up_eq (M : Mx) (r : Nat) (v : Nat → Int) (j : Nat) : up M r v r j = v j := if_pos rfl
theorem up_ne {M : Mx} {r i : Nat} {v : Nat → Int} (h : i ≠ r) (j : Nat) : up M r v i j = M i j := if_neg h
theorem up_self (M : Mx) (r : Nat) : up M r (M r) = M := by funext i j; unfold up; split <;> simp_all
theorem up_comm {M : Mx} {r s : Nat} {u v : Nat → Int} (h : r ≠ s) : up (up M r u) s v = up (up M s v) r u := by
  funext i j
  unfold up
  by_cases h1 : i = r
  · subst h1; rw [if_neg h, if_pos rfl, if_pos rfl]
  · rw [if_neg h1, if_neg h1]
theorem det_up {n : Nat} {M : Mx} {r : Nat} (hr : r < n) (a b : Int) (u v : Nat → Int) : det n (up M r (fun j => a * u j + b * v j)) = a * det n (up M r u) + b * det n (up M r v) :=
  det_row hr (fun i j _ _ h => by rw [up_ne h, up_ne h]) (fun i j _ _ h => by rw [up_ne h, up_ne h]) fun j _ => by rw [up_eq, up_eq, up_eq]
/-- two rows change places: if alike rows there make 0 -/
theorem swap_of {n : Nat} {M : Mx} {r s : Nat} (hr : r < n) (hs : s < n) (hne : r ≠ s) (h : ∀ z, det n (up (up M r z) s z) = 0) (x y : Nat → Int) : det n (up (up M r y) s x) = - det n (up (up M r x) s y) := by
  have h1 := h (fun j => 1 * x j + 1 * y j)
  rw [det_up hs, up_comm hne, up_comm hne, det_up hr, det_up hr, up_comm hne.symm, up_comm hne.symm, up_comm hne.symm, up_comm hne.symm, h x, h y] at h1
  omega
theorem det_alt {n : Nat} {M : Mx} : ∀ {d r : Nat}, r + d + 1 < n → (∀ j, j < n → M r j = M (r + d + 1) j) → det n M = 0 := by
  intro d
  induction d generalizing M with
  | zero => exact fun hr h => det_adj hr h
  | succ d ih =>
    intro r hr h
    have hadj : ∀ z, det n (up (up M (r + d + 1) z) (r + d + 2) z) = 0 := fun z => det_adj (r := r + d + 1) (by omega) fun j hj => by rw [up_ne (by omega), up_eq, show r + d + 1 + 1 = r + d + 2 by omega, up_eq]
    have h1 := swap_of (M := M) (r := r + d + 1) (s := r + d + 2) (by omega) (by omega) (by omega) hadj (M (r + d + 2)) (M (r + d + 1))
    rw [up_self] at h1
    rw [show up M (r + d + 2) (M (r + d + 2)) = M from up_self _ _] at h1
    have h2 : det n (up (up M (r + d + 1) (M (r + d + 2))) (r + d + 2) (M (r + d + 1))) = 0 := ih (r := r) (by omega) fun j hj => by
      rw [up_ne (by omega), up_ne (by omega), up_ne (by omega), up_eq]
      exact h j hj
    omega
/-- two rows alike -/
theorem det_eq {n : Nat} {M : Mx} {r s : Nat} (hr : r < n) (hs : s < n) (hne : r ≠ s) (h : ∀ j, j < n → M r j = M s j) : det n M = 0 := by
  rcases Nat.lt_or_gt_of_ne hne with h1 | h1
  · obtain ⟨d, rfl⟩ : ∃ d, s = r + d + 1 := ⟨s - r - 1, by omega⟩
    exact det_alt hs h
  · obtain ⟨d, rfl⟩ : ∃ d, r = s + d + 1 := ⟨r - s - 1, by omega⟩
    exact det_alt hr fun j hj => (h j hj).symm
/-- two rows change places -/
def swp (M : Mx) (r s : Nat) : Mx := fun i j => if i = r then M s j else if i = s then M r j else M i j
theorem det_swap {n : Nat} {M : Mx} {r s : Nat} (hr : r < n) (hs : s < n) (hne : r ≠ s) : det n (swp M r s) = - det n M := by
  have h := swap_of (M := M) hr hs hne (fun z => det_eq hr hs hne fun j _ => by rw [up_ne hne, up_eq, up_eq]) (M r) (M s)
  rw [up_self, up_self] at h
  rw [← h]
  refine det_congr fun i j _ _ => ?_
  unfold swp up
  by_cases h1 : i = r
  · subst h1; rw [if_pos rfl, if_neg hne, if_pos rfl]
  · rw [if_neg h1, if_neg h1]
/-- a row times a number -/
theorem det_scale {n : Nat} {M : Mx} {r : Nat} (hr : r < n) (a : Int) : det n (up M r (fun j => a * M r j)) = a * det n M := by
  have h := det_up (M := M) hr a 0 (M r) (M r)
  rw [up_self] at h
  rw [show det n M = a * 0 + det n M by omega, show a * 0 + det n M = det n M by omega]
  have e : (fun j => a * M r j + 0 * M r j) = fun j => a * M r j := by funext j; omega
  rw [e] at h
  omega
/-- a multiple of another row added -/
theorem det_add {n : Nat} {M : Mx} {r q : Nat} (hr : r < n) (hq : q < n) (hne : q ≠ r) (a : Int) : det n (up M r (fun j => M r j + a * M q j)) = det n M := by
  have h := det_up (M := M) hr 1 a (M r) (M q)
  rw [up_self, det_eq (M := up M r (M q)) (r := r) (s := q) hr hq (fun e => hne e.symm) fun j _ => by rw [up_eq, up_ne hne]] at h
  have e : (fun j => 1 * M r j + a * M q j) = fun j => M r j + a * M q j := by funext j; omega
  rw [e] at h
  omega
theorem det_zero {n : Nat} {M : Mx} {r : Nat} (hr : r < n) (h : ∀ j, j < n → M r j = 0) : det n M = 0 := by
  have e := det_row (M := M) (A := M) (B := M) (a := 0) (b := 0) hr (fun _ _ _ _ _ => rfl) (fun _ _ _ _ _ => rfl) fun j hj => by rw [h j hj]; rfl
  omega
/-- a last row that is 0 but for its end -/
theorem det_last {n : Nat} {M : Mx} (h : ∀ j, j < n → M n j = 0) : det (n + 1) M = M n n * det n M := by
  simp only [det, sm]
  rw [sm_zero' fun k hk => ?_, sg_two, Int.zero_add, Int.one_mul]
  · rw [det_congr (n := n) (M := fun i j => M (sk n i) j) (N := M) fun i j hi hj => by rw [sk_low hi]]
  · rw [det_zero (M := fun i j => M (sk k i) j) (r := n - 1) (by omega) fun j hj => by
      rw [sk_high (by omega), show n - 1 + 1 = n by omega]
      exact h j hj]
    simp
theorem det_unit (n : Nat) : det n (fun i j => if i = j then 1 else 0) = 1 := by
  induction n with
  | zero => rfl
  | succ n ih => rw [det_last fun j hj => if_neg (by omega), ih, if_pos rfl]; rfl
end Go.Det

namespace Go.Det

theorem sg_add (a b : Nat) : sg (a + b) = sg a * sg b := by
  unfold sg
  rcases Nat.mod_two_eq_zero_or_one a with h | h <;> rcases Nat.mod_two_eq_zero_or_one b with h' | h' <;> simp [h, h', Nat.add_mod]
theorem sg_sq (a : Nat) : sg a * sg a = 1 := by rw [← sg_add, sg_two]
theorem sm_swap (f : Nat → Nat → Int) (m n : Nat) : sm (fun i => sm (fun j => f i j) n) m = sm (fun j => sm (fun i => f i j) m) n := by
  induction m with
  | zero => simp only [sm]; rw [sm_zero' fun _ _ => rfl]
  | succ m ih => simp only [sm]; rw [ih, ← sm_add]
/-- without row p and column q -/
def rem (M : Mx) (p q : Nat) : Mx := fun i j => M (sk p i) (sk q j)
/-- expansion along the last row -/
theorem detR : ∀ {n : Nat} {M : Mx}, det (n + 1) M = sm (fun j => sg (n + j) * (M n j * det n (fun i l => M i (sk j l)))) (n + 1)
  | 0, M => rfl
  | n + 1, M => by
    have hl : ∀ k, k < n + 1 → sg (n + 1 + k) * (M k (n + 1) * det (n + 1) (fun i j => M (sk k i) j)) = sm (fun j => sg (n + 1 + k) * sg (n + j) * M k (n + 1) * M (n + 1) j * det n (fun i l => M (sk k i) (sk j l))) (n + 1) := fun k hk => by
      rw [detR (n := n) (M := fun i j => M (sk k i) j), ← sm_mul, ← sm_mul]
      refine sm_congr fun j hj => ?_
      rw [sk_high (k := k) (i := n) (by omega)]
      grind
    have hr : ∀ j, j < n + 1 → sg (n + 1 + j) * (M (n + 1) j * det (n + 1) (fun i l => M i (sk j l))) = sm (fun k => sg (n + 1 + k) * sg (n + j) * M k (n + 1) * M (n + 1) j * det n (fun i l => M (sk k i) (sk j l))) (n + 1) := fun j hj => by
      rw [show det (n + 1) (fun i l => M i (sk j l)) = sm (fun k => sg (n + k) * (M k (sk j n) * det n (fun i l => M (sk k i) (sk j l)))) (n + 1) from rfl, ← sm_mul, ← sm_mul]
      refine sm_congr fun k hk => ?_
      rw [sk_high (k := j) (i := n) (by omega), show n + 1 + j = n + j + 1 by omega, show n + 1 + k = n + k + 1 by omega, sg_succ, sg_succ]
      grind
    show sm (fun k => sg (n + 1 + k) * (M k (n + 1) * det (n + 1) (fun i j => M (sk k i) j))) (n + 1) + sg (n + 1 + (n + 1)) * (M (n + 1) (n + 1) * det (n + 1) (fun i j => M (sk (n + 1) i) j)) = sm (fun j => sg (n + 1 + j) * (M (n + 1) j * det (n + 1) (fun i l => M i (sk j l)))) (n + 1) + sg (n + 1 + (n + 1)) * (M (n + 1) (n + 1) * det (n + 1) (fun i l => M i (sk (n + 1) l)))
    rw [sm_congr hl, sm_congr hr, sm_swap]
    rw [det_congr (n := n + 1) (M := fun i j => M (sk (n + 1) i) j) (N := M) fun i j hi hj => by rw [sk_low hi],
      det_congr (n := n + 1) (M := fun i l => M i (sk (n + 1) l)) (N := M) fun i j hi hj => by rw [sk_low hj]]
/-- the last row taken off from the first c rows -/
theorem det_sub {n : Nat} {M : Mx} (u : Nat → Int) : ∀ c, c ≤ n → det (n + 1) (fun i j => if i < c then M i j + u i * M n j else M i j) = det (n + 1) M
  | 0, _ => det_congr fun i j _ _ => if_neg (by omega)
  | c + 1, h => by
    rw [← det_sub (M := M) u c (by omega)]
    rw [← det_add (n := n + 1) (M := fun i j => if i < c then M i j + u i * M n j else M i j) (r := c) (q := n) (by omega) (by omega) (by omega) (u c)]
    refine det_congr fun i j hi hj => ?_
    unfold up
    dsimp only
    by_cases e : i = c
    · subst e; simp [show ¬ n < i by omega]
    · rw [if_neg e]
      by_cases e2 : i < c
      · rw [if_pos e2, if_pos (by omega)]
      · rw [if_neg e2, if_neg (by omega)]
/-- .. changed by a matrix of rank one -/
theorem det_rank1 {n : Nat} {M : Mx} (u v : Nat → Int) : det (n + 1) (fun i j => M i j + u i * v j) = det (n + 1) M + sm (fun p => sm (fun q => sg (p + q) * (u p * (v q * det n (rem M p q)))) (n + 1)) (n + 1) := by
  let N : Mx := fun i j => if i < n + 1 then (if j < n + 1 then M i j else u i) else (if j < n + 1 then - v j else 1)
  have h1 : det (n + 2) N = det (n + 1) M + sm (fun p => sm (fun q => sg (p + q) * (u p * (v q * det n (rem M p q)))) (n + 1)) (n + 1) := by
    show sm (fun k => sg (n + 1 + k) * (N k (n + 1) * det (n + 1) (fun i j => N (sk k i) j))) (n + 1) + sg (n + 1 + (n + 1)) * (N (n + 1) (n + 1) * det (n + 1) (fun i j => N (sk (n + 1) i) j)) = _
    rw [sg_two, show N (n + 1) (n + 1) = 1 by simp [N], Int.one_mul, Int.one_mul, det_congr (n := n + 1) (M := fun i j => N (sk (n + 1) i) j) (N := M) fun i j hi hj => by rw [sk_low hi]; simp only [N]; rw [if_pos hi, if_pos hj], Int.add_comm]
    congr 1
    refine sm_congr fun p hp => ?_
    rw [detR, ← sm_mul, ← sm_mul]
    refine sm_congr fun q hq => ?_
    rw [sk_high (k := p) (i := n) (by omega)]
    rw [show N p (n + 1) = u p by simp only [N]; rw [if_pos hp, if_neg (by omega)], show N (n + 1) q = - v q by simp only [N]; rw [if_neg (by omega), if_pos hq]]
    rw [det_congr (n := n) (M := fun i l => N (sk p i) (sk q l)) (N := rem M p q) fun i j hi hj => by
      simp only [N, rem]; rw [if_pos (sk_lt hi), if_pos (sk_lt hj)]]
    have e : sg (n + 1 + p) * sg (n + q) = - sg (p + q) := by
      rw [sg_add, sg_add, sg_add n q, sg_add p q]
      have := sg_sq n
      have h1 : sg 1 = -1 := rfl
      rw [h1]
      grind
    grind
  have h2 : det (n + 2) N = det (n + 1) (fun i j => M i j + u i * v j) := by
    rw [← det_sub (n := n + 1) (M := N) (fun i => - u i) (n + 1) (Nat.le_refl _)]
    show sm (fun k => sg (n + 1 + k) * _) (n + 1) + sg (n + 1 + (n + 1)) * _ = _
    rw [sm_zero' (n := n + 1) fun k hk => by
      dsimp only
      rw [if_pos hk, show N k (n + 1) = u k by simp only [N]; rw [if_pos hk, if_neg (by omega)], show N (n + 1) (n + 1) = 1 by simp [N]]
      grind]
    rw [sg_two]
    dsimp only
    rw [if_neg (by omega), show N (n + 1) (n + 1) = 1 by simp [N], Int.zero_add, Int.one_mul, Int.one_mul]
    refine det_congr fun i j hi hj => ?_
    rw [sk_low hi, if_pos hi]
    simp only [N]
    rw [if_pos hi, if_pos hj, if_neg (by omega), if_pos hj]
    grind
  rw [← h2, h1]
/-- the sum over a list -/
def ls {α : Type} (g : α → Int) : List α → Int
  | [] => 0
  | x :: l => g x + ls g l
theorem ls_append {α : Type} (g : α → Int) (l m : List α) : ls g (l ++ m) = ls g l + ls g m := by
  induction l with
  | nil => simp [ls]
  | cons x l ih => simp only [List.cons_append, ls, ih]; omega
theorem ls_map {α β : Type} (g : β → Int) (h : α → β) (l : List α) : ls g (l.map h) = ls (fun x => g (h x)) l := by
  induction l with
  | nil => rfl
  | cons x l ih => simp only [List.map_cons, ls, ih]
theorem ls_congr {α : Type} {g h : α → Int} {l : List α} (e : ∀ x, x ∈ l → g x = h x) : ls g l = ls h l := by
  induction l with
  | nil => rfl
  | cons x l ih => simp only [ls]; rw [e x (List.mem_cons_self ..), ih fun y hy => e y (List.mem_cons_of_mem _ hy)]
theorem ls_sm {α : Type} (f : Nat → α → Int) (l : List α) (n : Nat) : sm (fun p => ls (f p) l) n = ls (fun x => sm (fun p => f p x) n) l := by
  induction l with
  | nil => exact sm_zero' fun _ _ => rfl
  | cons x l ih => simp only [ls]; rw [sm_add, ih]
theorem ls_mul {α : Type} (a : Int) (g : α → Int) (l : List α) : ls (fun x => a * g x) l = a * ls g l := by
  induction l with
  | nil => simp [ls]
  | cons x l ih => simp only [ls]; rw [ih, Int.mul_add]
/-- the rising lists of k numbers below n, those with the last number behind those without -/
def subs : Nat → Nat → List (List Nat)
  | _, 0 => [[]]
  | 0, _ + 1 => []
  | n + 1, k + 1 => subs n (k + 1) ++ (subs n k).map (· ++ [n])
theorem subs_len : ∀ {n k : Nat} {K : List Nat}, K ∈ subs n k → K.length = k
  | n, 0, K, h => by
    have : K = [] := by cases n <;> simpa [subs] using h
    rw [this]; rfl
  | 0, k + 1, K, h => by simp [subs] at h
  | n + 1, k + 1, K, h => by
    rcases List.mem_append.1 (show K ∈ subs n (k + 1) ++ (subs n k).map (· ++ [n]) from h) with h | h
    · exact subs_len h
    · obtain ⟨K', h1, rfl⟩ := List.mem_map.1 h
      rw [List.length_append, subs_len h1]; rfl
/-- the minor of a's columns K -/
def cols (a : Mx) (K : List Nat) : Mx := fun i t => a i (K.getD t 0)
/-- the minor of b's rows K -/
def rows (b : Mx) (K : List Nat) : Mx := fun t j => b (K.getD t 0) j
theorem getD_snoc_lt {K : List Nat} {x t : Nat} (h : t < K.length) : (K ++ [x]).getD t 0 = K.getD t 0 := by simp [List.getD, List.getElem?_append_left h]
theorem getD_snoc_eq {K : List Nat} {x t : Nat} (h : K.length = t) : (K ++ [x]).getD t 0 = x := by subst h; simp [List.getD]
/-- Cauchy-Binet -/
theorem det_mul : ∀ {n k : Nat} {a b : Mx}, det k (fun i j => sm (fun x => a i x * b x j) n) = ls (fun K => det k (cols a K) * det k (rows b K)) (subs n k)
  | n, 0, a, b => by cases n <;> simp [subs, ls, det]
  | 0, k + 1, a, b => by
    show det (k + 1) (fun i j => 0) = 0
    exact det_zero (r := 0) (by omega) fun _ _ => rfl
  | n + 1, k + 1, a, b => by
    show det (k + 1) (fun i j => sm (fun x => a i x * b x j) n + a i n * b n j) = ls _ (subs n (k + 1) ++ (subs n k).map (· ++ [n]))
    rw [det_rank1 (fun i => a i n) (fun j => b n j), det_mul (n := n) (k := k + 1), ls_append, ls_map]
    congr 1
    have h1 : ∀ p, p < k + 1 → sm (fun q => sg (p + q) * (a p n * (b n q * det k (rem (fun i j => sm (fun x => a i x * b x j) n) p q)))) (k + 1) = ls (fun K => (sg (k + p) * (a p n * det k (cols (fun i => a (sk p i)) K))) * det (k + 1) (rows b (K ++ [n]))) (subs n k) := fun p hp => by
      have h2 : ∀ q, q < k + 1 → sg (p + q) * (a p n * (b n q * det k (rem (fun i j => sm (fun x => a i x * b x j) n) p q))) = ls (fun K => (sg (k + p) * (a p n * det k (cols (fun i => a (sk p i)) K))) * (sg (k + q) * (b n q * det k (rows (fun x j => b x (sk q j)) K)))) (subs n k) := fun q hq => by
        rw [show det k (rem (fun i j => sm (fun x => a i x * b x j) n) p q) = det k (fun i j => sm (fun x => (fun i => a (sk p i)) i x * (fun x j => b x (sk q j)) x j) n) from rfl, det_mul (n := n) (k := k), ← ls_mul, ← ls_mul, ← ls_mul]
        refine ls_congr fun K _ => ?_
        rw [sg_add, sg_add, sg_add]
        have := sg_sq k
        grind
      rw [sm_congr h2, ls_sm]
      refine ls_congr fun K hK => ?_
      rw [sm_mul]
      congr 1
      rw [detR]
      refine sm_congr fun q hq => ?_
      have hl := subs_len hK
      rw [show rows b (K ++ [n]) k q = b n q by unfold rows; rw [getD_snoc_eq hl], det_congr (n := k) (M := fun i l => rows b (K ++ [n]) i (sk q l)) (N := rows (fun x j => b x (sk q j)) K) fun i j hi _ => by unfold rows; dsimp only; rw [getD_snoc_lt (by omega)]]
    rw [sm_congr h1, ls_sm]
    refine ls_congr fun K hK => ?_
    have hl := subs_len hK
    have e : (fun p => (sg (k + p) * (a p n * det k (cols (fun i => a (sk p i)) K))) * det (k + 1) (rows b (K ++ [n]))) = fun p => det (k + 1) (rows b (K ++ [n])) * (sg (k + p) * (a p n * det k (cols (fun i => a (sk p i)) K))) := by funext p; exact Int.mul_comm _ _
    rw [e, sm_mul, Int.mul_comm]
    congr 1
    show _ = sm (fun p => sg (k + p) * (cols a (K ++ [n]) p k * det k (fun i j => cols a (K ++ [n]) (sk p i) j))) (k + 1)
    refine sm_congr fun p hp => ?_
    rw [show cols a (K ++ [n]) p k = a p n by unfold cols; rw [getD_snoc_eq hl], det_congr (n := k) (M := fun i j => cols a (K ++ [n]) (sk p i) j) (N := cols (fun i => a (sk p i)) K) fun i j _ hj => by unfold cols; dsimp only; rw [getD_snoc_lt (by omega)]]
/-- the determinant of a product -/
theorem subs_gt : ∀ {n k : Nat}, n < k → subs n k = []
  | 0, k + 1, _ => rfl
  | n + 1, k + 1, h => by
    show subs n (k + 1) ++ (subs n k).map (· ++ [n]) = []
    rw [subs_gt (by omega), subs_gt (by omega)]; rfl
theorem subs_self : ∀ n, subs n n = [List.range n]
  | 0 => rfl
  | n + 1 => by
    show subs n (n + 1) ++ (subs n n).map (· ++ [n]) = _
    rw [subs_gt (by omega), subs_self n, List.range_succ]; rfl
theorem det_prod (n : Nat) (a b : Mx) : det n (fun i j => sm (fun x => a i x * b x j) n) = det n a * det n b := by
  rw [det_mul, subs_self]
  show det n _ * det n _ + 0 = _
  rw [Int.add_zero, det_congr (M := cols a (List.range n)) (N := a) fun i j _ hj => by simp [cols, List.getD, hj], det_congr (M := rows b (List.range n)) (N := b) fun i j hi _ => by simp [rows, List.getD, hi]]
/-- the transpose -/
theorem det_tr : ∀ {n : Nat} {M : Mx}, det n (fun i j => M j i) = det n M
  | 0, _ => rfl
  | n + 1, M => by
    rw [detR]
    show _ = sm (fun k => sg (n + k) * (M k n * det n (fun i j => M (sk k i) j))) (n + 1)
    refine sm_congr fun j hj => ?_
    rw [show det n (fun i l => M (sk j l) i) = det n (fun i l => (fun i l => M (sk j i) l) l i) from rfl, det_tr]
theorem det_coleq {n : Nat} {M : Mx} {r s : Nat} (hr : r < n) (hs : s < n) (hne : r ≠ s) (h : ∀ i, i < n → M i r = M i s) : det n M = 0 := by
  rw [← det_tr]; exact det_eq hr hs hne h
/-- row r at place k + d, the rows behind k one place ahead -/
theorem det_move {n : Nat} {P : Mx} {r : Nat → Int} {k : Nat} : ∀ d, k + d < n → det n (fun i j => if i < k then P i j else if i < k + d then P (i + 1) j else if i = k + d then r j else P i j) = sg d * det n (up P k r)
  | 0, h => by
    rw [show sg 0 = 1 from rfl, Int.one_mul]
    refine det_congr fun i j _ _ => ?_
    unfold up
    by_cases e : i = k
    · subst e; simp
    · rw [if_neg e]
      by_cases e2 : i < k
      · rw [if_pos e2]
      · rw [if_neg e2, if_neg (by omega), if_neg (by omega)]
  | d + 1, h => by
    rw [sg_succ, Int.neg_mul, ← det_move (P := P) (r := r) d (by omega), ← det_swap (n := n) (r := k + d) (s := k + d + 1) (by omega) (by omega) (by omega)]
    refine det_congr fun i j _ _ => ?_
    unfold swp
    by_cases e1 : i < k
    · simp [e1, show i ≠ k + d by omega, show i ≠ k + d + 1 by omega]
    · by_cases e2 : i < k + d
      · simp [e1, e2, show i < k + (d + 1) by omega, show i ≠ k + d by omega, show i ≠ k + d + 1 by omega]
      · by_cases e3 : i = k + d
        · subst e3; simp [e1, show k + d < k + (d + 1) by omega]; intros; omega
        · by_cases e4 : i = k + d + 1
          · subst e4; simp [show ¬ (k + d + 1 < k) by omega, show ¬ (k + d < k) by omega, show k + d + 1 ≠ k + d by omega, show ¬ (k + d + 1 < k + (d + 1)) by omega, show k + d + 1 = k + (d + 1) by omega]; intros; omega
          · simp [e1, e2, e3, e4, show ¬ (i < k + (d + 1)) by omega, show i ≠ k + (d + 1) by omega]
/-- Cramer's rule without fractions: a row by the rows of P -/
theorem cramer {n : Nat} {P : Mx} {r : Nat → Int} {j : Nat} (hj : j < n) : det n P * r j = sm (fun k => P k j * det n (up P k r)) n := by
  let N : Mx := fun i l => if i < n then (if l < n then P i l else P i j) else (if l < n then r l else r j)
  have h0 : det (n + 1) N = 0 := det_coleq (r := j) (s := n) (by omega) (by omega) (by omega) fun i _ => by
    simp only [N]; simp [hj]
  have h1 : det (n + 1) N = sm (fun k => - (P k j * det n (up P k r))) n + r j * det n P := by
    show sm (fun k => sg (n + k) * (N k n * det n (fun i l => N (sk k i) l))) n + sg (n + n) * (N n n * det n (fun i l => N (sk n i) l)) = _
    rw [sg_two, show N n n = r j by simp [N], Int.one_mul, det_congr (M := fun i l => N (sk n i) l) (N := P) fun i l hi hl => by rw [sk_low hi]; simp [N, hi, hl]]
    congr 1
    refine sm_congr fun k hk => ?_
    rw [show N k n = P k j by simp [N, hk], det_congr (M := fun i l => N (sk k i) l) (N := fun i l => if i < k then P i l else if i < k + (n - 1 - k) then P (i + 1) l else if i = k + (n - 1 - k) then r l else P i l) fun i l hi hl => by
      simp only [N]
      by_cases e : i < k
      · rw [sk_low e]; simp [e, hl, show i < n by omega]
      · rw [sk_high (by omega)]
        by_cases e2 : i < k + (n - 1 - k)
        · simp [e, e2, hl, show i + 1 < n by omega]
        · rw [if_neg e, if_neg e2, if_pos (show i = k + (n - 1 - k) by omega), if_neg (show ¬ (i + 1 < n) by omega), if_pos hl], det_move (n - 1 - k) (by omega)]
    have e : sg (n + k) * sg (n - 1 - k) = -1 := by
      rw [← sg_add, show n + k + (n - 1 - k) = (n - 1) + (n - 1) + 1 by omega, sg_succ, sg_two]
    grind
  have h2 : sm (fun k => - (P k j * det n (up P k r))) n = - sm (fun k => P k j * det n (up P k r)) n := by
    rw [show (fun k => - (P k j * det n (up P k r))) = fun k => (-1) * (P k j * det n (up P k r)) by funext k; omega, sm_mul]; omega
  rw [h2] at h1
  rw [Int.mul_comm]
  omega
end Go.Det

namespace Go.Det

/-- the product of the diagonal -/
def dg (P : Mx) : Nat → Int
  | 0 => 1
  | n + 1 => dg P n * P n n
theorem det_tri : ∀ {n : Nat} {P : Mx}, (∀ i t, i < n → t < i → P i t = 0) → det n P = dg P n
  | 0, _, _ => rfl
  | n + 1, P, h => by
    rw [det_last fun j hj => h n j (by omega) hj, det_tri fun i t hi ht => h i t (by omega) ht]
    exact Int.mul_comm _ _
theorem dg_pos {P : Mx} : ∀ {n : Nat}, (∀ i, i < n → 1 ≤ P i i) → 1 ≤ dg P n
  | 0, _ => Int.le_refl 1
  | n + 1, h => by
    have h1 := dg_pos (n := n) fun i hi => h i (by omega)
    have h2 := h n (by omega)
    show 1 ≤ dg P n * P n n
    have := Int.mul_le_mul h1 h2 (by omega) (by omega)
    omega
theorem dg_ge {P : Mx} : ∀ {n : Nat}, (∀ i, i < n → 1 ≤ P i i) → ∀ i, i < n → P i i ≤ dg P n
  | 0, _, i, hi => absurd hi (Nat.not_lt_zero _)
  | n + 1, h, i, hi => by
    have h1 := dg_pos (n := n) fun i hi => h i (by omega)
    have h2 := h n (by omega)
    show P i i ≤ dg P n * P n n
    rcases Nat.lt_or_ge i n with hin | hin
    · have h3 := dg_ge (n := n) (fun i hi => h i (by omega)) i hin
      have := Int.mul_le_mul h3 h2 (by omega) (by omega)
      omega
    · obtain rfl : i = n := by omega
      have := Int.mul_le_mul h1 (Int.le_refl (P i i)) (by omega) (by omega)
      omega
theorem sm_le {f : Nat → Int} {B : Int} : ∀ {n : Nat}, (∀ k, k < n → f k ≤ B) → sm f n ≤ n * B
  | 0, _ => by simp [sm]
  | n + 1, h => by
    have h1 := sm_le (n := n) fun k hk => h k (by omega)
    have h2 := h n (by omega)
    show sm f n + f n ≤ ((n + 1 : Nat) : Int) * B
    rw [Int.natCast_add, Int.add_mul]
    simp only [Int.natCast_one, Int.one_mul]
    omega
/-- a bound on both sides -/
def Bd (B x : Int) : Prop := -B ≤ x ∧ x ≤ B
theorem Bd.mul {A B x y : Int} (hx : Bd A x) (hy : Bd B y) (hA : 0 ≤ A) (hB : 0 ≤ B) : Bd (A * B) (x * y) := by
  have e1 : x.natAbs ≤ A.natAbs := by obtain ⟨h1, h2⟩ := hx; omega
  have e2 : y.natAbs ≤ B.natAbs := by obtain ⟨h1, h2⟩ := hy; omega
  have e3 := Nat.mul_le_mul e1 e2
  rw [← Int.natAbs_mul, ← Int.natAbs_mul] at e3
  have : 0 ≤ A * B := Int.mul_nonneg hA hB
  exact ⟨by omega, by omega⟩
theorem Bd.sm {f : Nat → Int} {B : Int} {n : Nat} (h : ∀ k, k < n → Bd B (f k)) : Bd (n * B) (sm f n) := by
  refine ⟨?_, sm_le fun k hk => (h k hk).2⟩
  have h1 := sm_le (f := fun k => (-1) * f k) (B := B) (n := n) fun k hk => by have := (h k hk).1; omega
  rw [sm_mul] at h1
  omega
theorem Bd.neg {B x : Int} (h : Bd B x) : Bd B (-x) := ⟨by have := h.2; omega, by have := h.1; omega⟩
theorem Bd.mono {A B x : Int} (h : Bd A x) (hAB : A ≤ B) : Bd B x := ⟨by have := h.1; omega, by have := h.2; omega⟩
/-- n rows with pivots in the columns J: triangular there -/
structure Piv (n : Nat) (R : Mx) (J : Nat → Nat) : Prop where
  low : ∀ i t, i < n → t < i → R i (J t) = 0
  pos : ∀ i, i < n → 1 ≤ R i (J i)
/-- row i is reduced by the rows below -/
def Red (n : Nat) (R : Mx) (J : Nat → Nat) (i : Nat) : Prop := ∀ t, t < n → i < t → 0 ≤ R i (J t) ∧ R i (J t) < R t (J t)
/-- the minors of all columns are bounded -/
def Mn (n : Nat) (R : Mx) (B : Int) : Prop := ∀ C : Nat → Nat, Bd B (det n (fun i t => R i (C t)))
theorem Piv.pivot {n : Nat} {R : Mx} {J : Nat → Nat} {B : Int} (h : Piv n R J) (hm : Mn n R B) {i : Nat} (hi : i < n) : R i (J i) ≤ B := by
  have h1 := dg_ge (P := fun i t => R i (J t)) (n := n) h.pos i hi
  rw [← det_tri h.low] at h1
  exact Int.le_trans h1 (hm J).2
theorem Piv.ent {n : Nat} {R : Mx} {J : Nat → Nat} {B : Int} (h : Piv n R J) (hm : Mn n R B) {i t : Nat} (hi : i < n) (hr : Red n R J i) (ht : t < n) : Bd B (R i (J t)) := by
  rcases Nat.lt_trichotomy i t with hit | rfl | hit
  · have h1 := hr t ht hit
    have h2 := h.pivot hm ht
    exact ⟨by omega, by omega⟩
  · have h1 := h.pos i hi
    have h2 := h.pivot hm hi
    exact ⟨by omega, by omega⟩
  · rw [h.low i t hi hit]
    have h2 := h.pivot hm hi
    have h1 := h.pos i hi
    exact ⟨by omega, by omega⟩
/-- every number of rows in Hermite form is bounded by the minors -/
theorem Piv.bound {n : Nat} {R : Mx} {J : Nat → Nat} {B : Int} (h : Piv n R J) (hm : Mn n R B) {i c : Nat} (hi : i < n) (hr : Red n R J i) : Bd (n * (B * B)) (R i c) := by
  have hB : 0 ≤ B := by have h1 := h.pos i hi; have h2 := h.pivot hm hi; omega
  have hd : 1 ≤ det n (fun i t => R i (J t)) := by rw [det_tri h.low]; exact dg_pos h.pos
  have hc := cramer (P := fun t i => R i (J t)) (r := fun i => R i c) hi
  rw [show (fun t i => R i (J t)) = (fun i j => (fun i t => R i (J t)) j i) from rfl, det_tr] at hc
  have hb : Bd (n * (B * B)) (sm (fun k => R i (J k) * det n (up (fun t i => R i (J t)) k (fun i => R i c))) n) := Bd.sm fun k hk => by
    refine (h.ent hm hi hr hk).mul ?_ hB hB
    rw [← det_tr, show (fun i j => up (fun t i => R i (J t)) k (fun i => R i c) j i) = fun i t => R i (if t = k then c else J t) by funext i t; unfold up; split <;> rfl]
    exact hm _
  rw [← hc] at hb
  generalize det n (fun i t => R i (J t)) = d at hd hb
  generalize R i c = x at hb ⊢
  generalize (n : Int) * (B * B) = K at hb ⊢
  obtain ⟨h1, h2⟩ := hb
  rcases Int.le_total 0 x with hx | hx
  · have := Int.mul_le_mul_of_nonneg_right hd hx
    exact ⟨by omega, by omega⟩
  · have := Int.mul_le_mul_of_nonpos_right hd hx
    exact ⟨by omega, by omega⟩
end Go.Det

namespace Go.Det

/-- rows r and q by a matrix of determinant d -/
def mixR (M : Mx) (r q : Nat) (a b c d : Int) : Mx := fun i j => if i = r then a * M r j + b * M q j else if i = q then c * M r j + d * M q j else M i j
theorem mixR_up {M : Mx} {r q : Nat} {a b c d : Int} (h : r ≠ q) : mixR M r q a b c d = up (up M q (fun j => c * M r j + d * M q j)) r (fun j => a * M r j + b * M q j) := by
  funext i j
  unfold mixR up
  by_cases e : i = r
  · rw [if_pos e]

  · rw [if_neg e]

theorem det_mix {n : Nat} {M : Mx} {r q : Nat} (hr : r < n) (hq : q < n) (hne : r ≠ q) (a b c d : Int) : det n (mixR M r q a b c d) = (a * d - b * c) * det n M := by
  rw [mixR_up hne, det_up hr]
  have e1 : det n (up (up M q (fun j => c * M r j + d * M q j)) r (fun j => M r j)) = d * det n M := by
    rw [up_comm (Ne.symm hne), det_up hq, det_eq (r := q) (s := r) hq hr (Ne.symm hne) (fun j _ => by rw [up_eq, up_ne hne, up_eq])]
    have e2 : up (up M r (fun j => M r j)) q (fun j => M q j) = M := by
      rw [show (fun j => M r j) = M r from rfl, up_self, show (fun j => M q j) = M q from rfl, up_self]
    rw [e2]; omega
  have e3 : det n (up (up M q (fun j => c * M r j + d * M q j)) r (fun j => M q j)) = - (c * det n M) := by
    rw [up_comm (Ne.symm hne), det_up hq]
    rw [det_eq (n := n) (M := up (up M r (fun j => M q j)) q (fun j => M q j)) (r := q) (s := r) hq hr (Ne.symm hne) (fun j _ => by rw [up_eq, up_ne hne, up_eq])]
    have e4 : up (up M r (fun j => M q j)) q (fun j => M r j) = swp M r q := by
      funext i j
      unfold up swp
      by_cases e : i = q
      · subst e; rw [if_pos rfl, if_neg (Ne.symm hne), if_pos rfl]
      · rw [if_neg e]
        by_cases e' : i = r
        · rw [if_pos e', if_pos e']
        · rw [if_neg e', if_neg e', if_neg e]
    rw [e4, det_swap hr hq hne]
    grind
  rw [e1, e3]
  grind
section
variable {n : Nat} {R : Mx} {B : Int} {r s : Nat}
theorem Mn.congr {R' : Mx} (h : Mn n R B) (e : ∀ i j, i < n → R' i j = R i j) : Mn n R' B := fun C => by
  rw [det_congr (N := fun i t => R i (C t)) fun i t hi _ => e i (C t) hi]; exact h C
theorem Mn.swap (h : Mn n R B) (hr : r < n) (hs : s < n) (hne : r ≠ s) : Mn n (swp R r s) B := fun C => by
  rw [show (fun i t => swp R r s i (C t)) = swp (fun i t => R i (C t)) r s from rfl, det_swap hr hs hne]
  exact (h C).neg
theorem Mn.turn (h : Mn n R B) (hr : r < n) : Mn n (up R r (fun j => - R r j)) B := fun C => by
  rw [show (fun i t => up R r (fun j => - R r j) i (C t)) = up (fun i t => R i (C t)) r (fun t => (-1) * R r (C t)) by funext i t; unfold up; split <;> (dsimp only; try omega)]
  rw [show (fun t => (-1) * R r (C t)) = fun t => (-1) * (fun i t => R i (C t)) r t from rfl, det_scale hr]
  have := (h C).neg
  rwa [show (-1 : Int) * det n (fun i t => R i (C t)) = - det n (fun i t => R i (C t)) by omega]
theorem Mn.add (h : Mn n R B) (hr : r < n) (hs : s < n) (hne : s ≠ r) (a : Int) : Mn n (up R r (fun j => R r j + a * R s j)) B := fun C => by
  rw [show (fun i t => up R r (fun j => R r j + a * R s j) i (C t)) = up (fun i t => R i (C t)) r (fun t => (fun i t => R i (C t)) r t + a * (fun i t => R i (C t)) s t) by funext i t; unfold up; split <;> rfl, det_add hr hs hne]
  exact h C
theorem Mn.mix (h : Mn n R B) (hr : r < n) (hs : s < n) (hne : r ≠ s) {a b c d : Int} (hd : a * d - b * c = 1) : Mn n (mixR R r s a b c d) B := fun C => by
  rw [show (fun i t => mixR R r s a b c d i (C t)) = mixR (fun i t => R i (C t)) r s a b c d from rfl, det_mix hr hs hne, hd, Int.one_mul]
  exact h C
end
/-- a meeting: the numbers of both rows -/
theorem Bd.add {A B x y : Int} (hx : Bd A x) (hy : Bd B y) : Bd (A + B) (x + y) := ⟨by have := hx.1; have := hy.1; omega, by have := hx.2; have := hy.2; omega⟩
/-- what is taken off a row (q from its own numbers) and then mixed stays bounded -/
theorem meet_bd {T K B q x y u v : Int} (hT : 0 ≤ T) (hK : 0 ≤ K) (hB : 0 ≤ B) (hq : Bd (T + 1) q) (hu : Bd K u) (hv : Bd T v) (hx : Bd B x) (hy : Bd B y) : Bd (2 * B * ((T + 1) * (K + 1))) (x * u + y * (v + q * u)) := by
  have h1 : Bd (T + (T + 1) * K) (v + q * u) := hv.add (hq.mul hu (by omega) hK)
  have e : T + (T + 1) * K ≤ (T + 1) * (K + 1) := by grind
  have p : 0 ≤ (T + 1) * (K + 1) := Int.mul_nonneg (by omega) (by omega)
  have h2 := (hx.mul hu hB hK).add (hy.mul (h1.mono e) hB p)
  refine h2.mono ?_
  have e2 : K ≤ (T + 1) * (K + 1) := by
    have := Int.mul_nonneg hT hK
    grind
  have := Int.mul_le_mul_of_nonneg_left e2 hB
  grind
end Go.Det

namespace Go.Det

theorem sm_two {f g : Nat → Int} {n i j : Nat} (hi : i < n) (hj : j < n) (hne : i ≠ j) (h : ∀ k, k < n → k ≠ i → k ≠ j → f k = g k) (e : f i + f j = g i + g j) : sm f n = sm g n := by
  have h1 : sm f n = sm g n + sm (fun k => f k - g k) n := by
    rw [← sm_add]
    exact sm_congr fun k _ => by omega
  have h2 : sm (fun k => f k - g k) n = sm (fun k => (if k = i then f i - g i else 0) + (if k = j then f j - g j else 0)) n := sm_congr fun k hk => by
    by_cases e1 : k = i
    · subst e1; rw [if_pos rfl, if_neg hne]; omega
    · by_cases e2 : k = j
      · subst e2; rw [if_neg e1, if_pos rfl]; omega
      · rw [if_neg e1, if_neg e2, h k hk e1 e2]; omega
  have h3 : sm (fun k => if k = i then f i - g i else 0) n = f i - g i := by
    rw [sm_one hi fun k _ hk => if_neg hk, if_pos rfl]
  have h4 : sm (fun k => if k = j then f j - g j else 0) n = f j - g j := by
    rw [sm_one hj fun k _ hk => if_neg hk, if_pos rfl]
  rw [h1, h2, sm_add, h3, h4]; omega
theorem sm_onei {f g : Nat → Int} {n i : Nat} (h : ∀ k, k < n → k ≠ i → f k = g k) (e : f i = g i) : sm f n = sm g n := sm_congr fun k hk => by
  by_cases e1 : k = i
  · rw [e1]; exact e
  · exact h k hk e1
/-- F holds U A and U side by side; V is the transpose of the inverse of U; what W F is -/
structure Wide (n m : Nat) (A F V : Mx) : Prop where
  left : ∀ i c, i < n → c < m → F i c = sm (fun k => F i (m + k) * A k c) n
  back : ∀ r c, r < n → c < m → sm (fun k => V k r * F k c) n = A r c
  wu : ∀ r c, r < n → c < n → sm (fun k => V k r * F k (m + c)) n = if r = c then 1 else 0
  uw : ∀ p q, p < n → q < n → sm (fun k => F p (m + k) * V q k) n = if p = q then 1 else 0
/-- at the start -/
theorem Wide.start {n m : Nat} {A F V : Mx} (h1 : ∀ i c, i < n → c < m → F i c = A i c) (h2 : ∀ i c, i < n → c < n → F i (m + c) = if i = c then 1 else 0) (h3 : ∀ i c, i < n → c < n → V i c = if i = c then 1 else 0) : Wide n m A F V := by
  refine ⟨fun i c hi hc => ?_, fun r c hr hc => ?_, fun r c hr hc => ?_, fun p q hp hq => ?_⟩
  · rw [h1 i c hi hc, sm_one hi fun k hk hne => by rw [h2 i k hi hk, if_neg (fun e => hne e.symm), Int.zero_mul], h2 i i hi hi, if_pos rfl, Int.one_mul]
  · rw [sm_one hr fun k hk hne => by rw [h3 k r hk hr, if_neg hne, Int.zero_mul], h3 r r hr hr, if_pos rfl, Int.one_mul, h1 r c hr hc]
  · rw [sm_one hr fun k hk hne => by rw [h3 k r hk hr, if_neg hne, Int.zero_mul], h3 r r hr hr, if_pos rfl, Int.one_mul, h2 r c hr hc]
  · rw [sm_one hp fun k hk hne => by rw [h2 p k hp hk, if_neg (fun e => hne e.symm), Int.zero_mul], h2 p p hp hp, if_pos rfl, Int.one_mul, h3 q p hq hp]
    by_cases e : p = q
    · subst e; rfl
    · rw [if_neg e, if_neg fun h => e h.symm]
theorem mixR_r (M : Mx) (r q : Nat) (a b c d : Int) (j : Nat) : mixR M r q a b c d r j = a * M r j + b * M q j := if_pos rfl
theorem mixR_q {M : Mx} {r q : Nat} (h : q ≠ r) (a b c d : Int) (j : Nat) : mixR M r q a b c d q j = c * M r j + d * M q j := by unfold mixR; rw [if_neg h, if_pos rfl]
theorem mixR_o {M : Mx} {r q i : Nat} (h : i ≠ r) (h' : i ≠ q) (a b c d : Int) (j : Nat) : mixR M r q a b c d i j = M i j := by unfold mixR; rw [if_neg h, if_neg h']
/-- two rows mixed, and the inverse's columns by the matrix turned over -/
theorem Wide.mix2 {n m : Nat} {A F V : Mx} (h : Wide n m A F V) {i j : Nat} (hi : i < n) (hj : j < n) (hne : i ≠ j) {a b c d a' b' c' d' : Int}
    (e1 : a * a' + c * c' = 1) (e2 : b * b' + d * d' = 1) (e3 : a * b' + c * d' = 0) (e4 : b * a' + d * c' = 0)
    (f1 : a * a' + b * b' = 1) (f2 : c * c' + d * d' = 1) (f3 : a * c' + b * d' = 0) (f4 : c * a' + d * b' = 0) :
    Wide n m A (mixR F i j a b c d) (mixR V i j a' b' c' d') := by
  have hji : j ≠ i := fun e => hne e.symm
  have key : ∀ (u v x y : Int), (a' * u + b' * v) * (a * x + b * y) + (c' * u + d' * v) * (c * x + d * y) = u * x + v * y := fun u v x y => by
    have : (a' * u + b' * v) * (a * x + b * y) + (c' * u + d' * v) * (c * x + d * y) = (a * a' + c * c') * (u * x) + (b * b' + d * d') * (v * y) + (b * a' + d * c') * (u * y) + (a * b' + c * d') * (v * x) := by grind
    rw [this, e1, e2, e3, e4]; omega
  refine ⟨fun p q hp hq => ?_, fun r q hr hq => ?_, fun r q hr hq => ?_, fun p q hp hq => ?_⟩
  · by_cases hpi : p = i
    · subst hpi
      rw [mixR_r, h.left p q hi hq, h.left j q hj hq, ← sm_lin]
      exact sm_congr fun k _ => by rw [mixR_r]; grind
    · by_cases hpj : p = j
      · subst hpj
        rw [mixR_q hji, h.left i q hi hq, h.left p q hp hq, ← sm_lin]
        exact sm_congr fun k _ => by rw [mixR_q hji]; grind
      · rw [mixR_o hpi hpj, h.left p q hp hq]
        exact sm_congr fun k _ => by rw [mixR_o hpi hpj]
  · rw [← h.back r q hr hq]
    refine sm_two hi hj hne (fun k _ h1 h2 => by rw [mixR_o h1 h2, mixR_o h1 h2]) ?_
    rw [mixR_r, mixR_r, mixR_q hji, mixR_q hji]
    exact key _ _ _ _
  · rw [← h.wu r q hr hq]
    refine sm_two hi hj hne (fun k _ h1 h2 => by rw [mixR_o h1 h2, mixR_o h1 h2]) ?_
    rw [mixR_r, mixR_r, mixR_q hji, mixR_q hji]
    exact key _ _ _ _
  · have dot : ∀ (s t u v : Int) (p1 p2 q1 q2 : Nat), p1 < n → p2 < n → q1 < n → q2 < n → sm (fun k => (s * F p1 (m + k) + t * F p2 (m + k)) * (u * V q1 k + v * V q2 k)) n = s * u * (if p1 = q1 then 1 else 0) + s * v * (if p1 = q2 then 1 else 0) + t * u * (if p2 = q1 then 1 else 0) + t * v * (if p2 = q2 then 1 else 0) := fun s t u v p1 p2 q1 q2 h1 h2 h3 h4 => by
      rw [← h.uw p1 q1 h1 h3, ← h.uw p1 q2 h1 h4, ← h.uw p2 q1 h2 h3, ← h.uw p2 q2 h2 h4, ← sm_mul, ← sm_mul, ← sm_mul, ← sm_mul, ← sm_add, ← sm_add, ← sm_add]
      exact sm_congr fun k _ => by grind
    have one : ∀ (M : Mx) (p k : Nat), M p k = 1 * M p k + 0 * M p k := fun M p k => by omega
    by_cases hpi : p = i
    · subst hpi
      by_cases hqi : q = p
      · subst hqi
        rw [sm_congr (g := fun k => (a * F q (m + k) + b * F j (m + k)) * (a' * V q k + b' * V j k)) fun k _ => by rw [mixR_r, mixR_r], dot _ _ _ _ _ _ _ _ hi hj hi hj, if_pos rfl, if_neg hne, if_neg hji, if_pos rfl]
        omega
      · by_cases hqj : q = j
        · subst hqj
          rw [sm_congr (g := fun k => (a * F p (m + k) + b * F q (m + k)) * (c' * V p k + d' * V q k)) fun k _ => by rw [mixR_r, mixR_q hji], dot _ _ _ _ _ _ _ _ hi hj hi hj, if_pos rfl, if_neg hne, if_neg hji, if_pos rfl]
          omega
        · rw [sm_congr (g := fun k => (a * F p (m + k) + b * F j (m + k)) * (1 * V q k + 0 * V q k)) fun k _ => by rw [mixR_r, mixR_o hqi hqj, ← one], dot _ _ _ _ _ _ _ _ hi hj hq hq, if_neg (fun e => hqi e.symm), if_neg (fun e => hqj e.symm)]
          omega
    · by_cases hpj : p = j
      · subst hpj
        by_cases hqi : q = i
        · subst hqi
          rw [sm_congr (g := fun k => (c * F q (m + k) + d * F p (m + k)) * (a' * V q k + b' * V p k)) fun k _ => by rw [mixR_q hji, mixR_r], dot _ _ _ _ _ _ _ _ hi hj hi hj, if_pos rfl, if_neg hne, if_neg hji, if_pos rfl]
          omega
        · by_cases hqj : q = p
          · subst hqj
            rw [sm_congr (g := fun k => (c * F i (m + k) + d * F q (m + k)) * (c' * V i k + d' * V q k)) fun k _ => by rw [mixR_q hji, mixR_q hji], dot _ _ _ _ _ _ _ _ hi hj hi hj, if_pos rfl, if_neg hne, if_neg hji, if_pos rfl]
            omega
          · rw [sm_congr (g := fun k => (c * F i (m + k) + d * F p (m + k)) * (1 * V q k + 0 * V q k)) fun k _ => by rw [mixR_q hji, mixR_o hqi hqj, ← one], dot _ _ _ _ _ _ _ _ hi hj hq hq, if_neg (fun e => hqi e.symm), if_neg (fun e => hqj e.symm)]
            omega
      · by_cases hqi : q = i
        · subst hqi
          rw [sm_congr (g := fun k => (1 * F p (m + k) + 0 * F p (m + k)) * (a' * V q k + b' * V j k)) fun k _ => by rw [mixR_o hpi hpj, mixR_r, ← one], dot _ _ _ _ _ _ _ _ hp hp hi hj, if_neg hpi, if_neg hpj]
          omega
        · by_cases hqj : q = j
          · subst hqj
            rw [sm_congr (g := fun k => (1 * F p (m + k) + 0 * F p (m + k)) * (c' * V i k + d' * V q k)) fun k _ => by rw [mixR_o hpi hpj, mixR_q hji, ← one], dot _ _ _ _ _ _ _ _ hp hp hi hj, if_neg hpi, if_neg hpj]
            omega
          · rw [sm_congr (g := fun k => F p (m + k) * V q k) fun k _ => by rw [mixR_o hpi hpj, mixR_o hqi hqj], h.uw p q hp hq]
end Go.Det

namespace Go.Det

theorem mixR_congr {M : Mx} {r q : Nat} {a b c d : Int} {R : Mx} (h1 : ∀ j, R r j = a * M r j + b * M q j) (h2 : r ≠ q → ∀ j, R q j = c * M r j + d * M q j) (h3 : ∀ i j, i ≠ r → i ≠ q → R i j = M i j) : R = mixR M r q a b c d := by
  funext i j
  unfold mixR
  by_cases e1 : i = r
  · rw [if_pos e1, e1]; exact h1 j
  · by_cases e2 : i = q
    · rw [if_neg e1, if_pos e2, e2]; exact h2 (fun e => e1 (e2.trans e.symm)) j
    · rw [if_neg e1, if_neg e2]; exact h3 i j e1 e2
theorem swp_mix (M : Mx) {r q : Nat} (h : r ≠ q) : swp M r q = mixR M r q 0 1 1 0 := mixR_congr (fun j => by unfold swp; rw [if_pos rfl]; omega) (fun _ j => by unfold swp; rw [if_neg (fun e => h e.symm), if_pos rfl]; omega) (fun i j h1 h2 => by unfold swp; rw [if_neg h1, if_neg h2])
theorem up_mix (M : Mx) {r q : Nat} (h : r ≠ q) (k : Int) : up M r (fun j => M r j + k * M q j) = mixR M r q 1 k 0 1 := mixR_congr (fun j => by rw [up_eq]; omega) (fun _ j => by rw [up_ne (fun e => h e.symm)]; omega) (fun i j h1 h2 => by rw [up_ne h1])
theorem up_mix' (M : Mx) {r q : Nat} (h : r ≠ q) (k : Int) : up M q (fun j => M q j + k * M r j) = mixR M r q 1 0 k 1 := mixR_congr (fun j => by rw [up_ne h]; omega) (fun _ j => by rw [up_eq]; omega) (fun i j h1 h2 => by rw [up_ne h2])
section
variable {n m : Nat} {A F V : Mx}
theorem Wide.swap (h : Wide n m A F V) {i j : Nat} (hi : i < n) (hj : j < n) (hne : i ≠ j) : Wide n m A (swp F i j) (swp V i j) := by
  rw [swp_mix F hne, swp_mix V hne]
  exact h.mix2 hi hj hne (by decide) (by decide) (by decide) (by decide) (by decide) (by decide) (by decide) (by decide)
/-- row i and k times row j; to the inverse's columns: column j and -k times column i -/
theorem Wide.add (h : Wide n m A F V) {i j : Nat} (hi : i < n) (hj : j < n) (hne : i ≠ j) (k : Int) : Wide n m A (up F i (fun c => F i c + k * F j c)) (up V j (fun c => V j c + -k * V i c)) := by
  rw [up_mix F hne, up_mix' V hne]
  exact h.mix2 hi hj hne (by omega) (by omega) (by omega) (by omega) (by omega) (by omega) (by omega) (by omega)
theorem Wide.mix (h : Wide n m A F V) {i j : Nat} (hi : i < n) (hj : j < n) (hne : i ≠ j) {a b c d : Int} (hd : a * d - b * c = 1) : Wide n m A (mixR F i j a b c d) (mixR V i j d (-c) (-b) a) :=
  h.mix2 hi hj hne (by grind) (by grind) (by grind) (by grind) (by grind) (by grind) (by grind) (by grind)
theorem Wide.turn (h : Wide n m A F V) {i : Nat} (hi : i < n) : Wide n m A (up F i (fun c => - F i c)) (up V i (fun c => - V i c)) := by
  refine ⟨fun p q hp hq => ?_, fun r q hr hq => ?_, fun r q hr hq => ?_, fun p q hp hq => ?_⟩
  · by_cases e : p = i
    · subst e
      rw [up_eq, h.left p q hp hq, show (fun k => up F p (fun c => - F p c) p (m + k) * A k q) = fun k => (-1) * (F p (m + k) * A k q) from funext fun k => by rw [up_eq]; grind, sm_mul]
      omega
    · rw [up_ne e, h.left p q hp hq]
      exact sm_congr fun k _ => by rw [up_ne e]
  · rw [← h.back r q hr hq]
    exact sm_onei (fun k _ hk => by rw [up_ne hk, up_ne hk]) (by rw [up_eq, up_eq]; grind)
  · rw [← h.wu r q hr hq]
    exact sm_onei (fun k _ hk => by rw [up_ne hk, up_ne hk]) (by rw [up_eq, up_eq]; grind)
  · by_cases e : p = i
    · by_cases e' : q = i
      · subst e e'
        rw [← h.uw q q hq hq]
        exact sm_congr fun k _ => by rw [up_eq, up_eq]; grind
      · subst e
        rw [show (fun k => up F p (fun c => - F p c) p (m + k) * up V p (fun c => - V p c) q k) = fun k => (-1) * (F p (m + k) * V q k) from funext fun k => by rw [up_eq, up_ne e']; grind, sm_mul, h.uw p q hp hq, if_neg (fun h => e' h.symm)]
        rfl
    · by_cases e' : q = i
      · subst e'
        rw [show (fun k => up F q (fun c => - F q c) p (m + k) * up V q (fun c => - V q c) q k) = fun k => (-1) * (F p (m + k) * V q k) from funext fun k => by rw [up_eq, up_ne e]; grind, sm_mul, h.uw p q hp hq, if_neg e]
        rfl
      · rw [← h.uw p q hp hq]
        exact sm_congr fun k _ => by rw [up_ne e, up_ne e']
end
/-- a bound of determinants of numbers within M -/
def bdt (M : Int) : Nat → Int
  | 0 => 1
  | n + 1 => ((n + 1 : Nat) : Int) * (M * bdt M n)
theorem bdt_nn {M : Int} (hM : 0 ≤ M) : ∀ n, 0 ≤ bdt M n
  | 0 => by show (0 : Int) ≤ 1; decide
  | n + 1 => Int.mul_nonneg (Int.natCast_nonneg _) (Int.mul_nonneg hM (bdt_nn hM n))
theorem sg_cases (n : Nat) : sg n = 1 ∨ sg n = -1 := by unfold sg; split <;> simp
theorem Bd.sg {B x : Int} (h : Bd B x) (n : Nat) : Bd B (Go.Det.sg n * x) := by
  rcases sg_cases n with e | e
  · rw [e, Int.one_mul]; exact h
  · rw [e, Int.neg_one_mul]; exact h.neg
theorem det_bdt {M : Int} (hM : 0 ≤ M) : ∀ {n : Nat} {F : Mx}, (∀ i j, i < n → j < n → Bd M (F i j)) → Bd (bdt M n) (det n F)
  | 0, _, _ => ⟨by show -(1 : Int) ≤ 1; decide, by show (1 : Int) ≤ 1; decide⟩
  | n + 1, F, h => by
    have := Bd.sm (f := fun k => sg (n + k) * (F k n * det n (fun i j => F (sk k i) j))) (n := n + 1) (B := M * bdt M n) fun k hk => Bd.sg (Bd.mul (h k n hk (by omega)) (det_bdt hM fun i j hi hj => h _ j (sk_lt hi) (by omega)) hM (bdt_nn hM n)) _
    exact this
theorem bdt_pow {e : Nat} : ∀ {n : Nat}, n ≤ 64 → bdt (2 ^ e) n ≤ 2 ^ (n * (e + 6))
  | 0, _ => by rw [Nat.zero_mul]; exact Int.le_refl 1
  | n + 1, h => by
    have ih := bdt_pow (e := e) (n := n) (by omega)
    have h2 : (0 : Int) ≤ 2 ^ e := Int.le_of_lt (Int.pow_pos (by decide))
    have h3 : ((n + 1 : Nat) : Int) ≤ 2 ^ 6 := by omega
    have h4 : (2 : Int) ^ ((n + 1) * (e + 6)) = 2 ^ 6 * (2 ^ e * 2 ^ (n * (e + 6))) := by
      rw [← Int.pow_add, ← Int.pow_add]; congr 1; rw [Nat.add_mul]; omega
    rw [h4]
    refine Int.mul_le_mul h3 (Int.mul_le_mul_of_nonneg_left ih h2) (Int.mul_nonneg h2 (bdt_nn h2 n)) (by decide)
theorem unit_of_mul {a b : Int} (h : a * b = 1) : a = 1 ∨ a = -1 := Int.isUnit_iff' h
where
  Int.isUnit_iff' {a b : Int} (h : a * b = 1) : a = 1 ∨ a = -1 := by
    have h1 : a.natAbs * b.natAbs = 1 := by rw [← Int.natAbs_mul, h]; rfl
    have h2 := Nat.eq_one_of_mul_eq_one_right h1
    omega
/-- the inverse's numbers -/
theorem Wide.vbd {n m : Nat} {A F V : Mx} {M : Int} (h : Wide n m A F V) (hM : 1 ≤ M) (hF : ∀ i c, i < n → c < n → Bd M (F i (m + c))) {q r : Nat} (hq : q < n) (hr : r < n) : Bd (bdt M n) (V q r) := by
  obtain ⟨U, hU⟩ : ∃ U : Mx, U = fun i c => F i (m + c) := ⟨_, rfl⟩
  have huw : ∀ p q, p < n → q < n → sm (fun k => U p k * V q k) n = if p = q then 1 else 0 := by rw [hU]; exact h.uw
  have hd : det n U * det n (fun x j => V j x) = 1 := by
    rw [← det_prod, det_congr (N := fun i j => if i = j then 1 else 0) fun i j hi hj => huw i j hi hj]
    exact det_unit n
  have hu := unit_of_mul hd
  have hc : det n U * V q r = det n (up U q (fun j => if j = r then 1 else 0)) := by
    have h1 : sm (fun j => det n U * (if j = r then 1 else 0) * V q j) n = det n U * V q r := by
      rw [sm_one hr fun k _ hk => by rw [if_neg hk]; omega, if_pos rfl, Int.mul_one]
    have h2 : sm (fun j => det n U * (if j = r then 1 else 0) * V q j) n = sm (fun j => sm (fun k => det n (up U k (fun j => if j = r then 1 else 0)) * (U k j * V q j)) n) n := sm_congr fun j hj => by
      rw [cramer (P := U) (r := fun j => if j = r then 1 else 0) hj, Int.mul_comm, ← sm_mul]
      exact sm_congr fun k _ => by grind
    rw [← h1, h2, sm_swap, sm_congr (g := fun k => det n (up U k (fun j => if j = r then 1 else 0)) * (if k = q then 1 else 0)) fun k hk => by rw [sm_mul, huw k q hk hq]]
    rw [sm_one hq fun k _ hk => by rw [if_neg hk, Int.mul_zero], if_pos rfl, Int.mul_one]
  have hb : Bd (bdt M n) (det n (up U q (fun j => if j = r then 1 else 0))) := det_bdt (by omega) fun i j hi hj => by
    by_cases e : i = q
    · subst e
      rw [up_eq]
      split
      · exact ⟨by omega, by omega⟩
      · exact ⟨by omega, by omega⟩
    · rw [up_ne e, hU]; exact hF i j hi hj
  rw [← hc] at hb
  rcases hu with e | e
  · rw [e, Int.one_mul] at hb; exact hb
  · rw [e, Int.neg_one_mul] at hb
    have := hb.neg
    rwa [Int.neg_neg] at this
end Go.Det

namespace Go.Eng
open Go Go.RowKit

/-- an array -/
class UArr (P : Program) (t : TypeId) (n e : outParam Nat) : Prop where
  out : P.underlying t = some (.array n e)
section
variable {P : Program} {σ : Store} {H : Array Obj} {d : Option Tmp} {t : TypeId} {pos : String} {af : Array Edge} {gd : Option (Nat × Bool)}
end
end Go.Eng

namespace Go.Proofs.YthlbihbchobllaaGreat
open Go Go.Eng Go.Proofs
instance : UArr Tryz.prog 83 2 43 := ⟨Tryz.underlying83⟩
instance : UArr Tryz.prog 84 2 83 := ⟨Tryz.underlying84⟩
instance : UArr Tryz.prog 132 0 16 := ⟨Tryz.underlying132⟩
end Go.Proofs.YthlbihbchobllaaGreat

namespace Go.Eng
open Go Go.RowKit
section
variable {P : Program} {σ : Store} {H : Array Obj} {d : Option Tmp} {t : TypeId} {pos : String} {af : Array Edge} {gd : Option (Nat × Bool)}
theorem ev_indexArrS {x i : Operand} {ty e : TypeId} {len : Nat} [hT : UArr P ty len e] {z : Value} {sz b1 : Nat} [hS : USize P e z sz b1] {b o : Nat} {k : IntKind} {z0 : Int} {m : Nat} [e0 : IsN z0 m]
    (hx : look σ x = some (.pointer (some ⟨b, o, none⟩))) (hi : look σ i = some (.int k z0)) (h : m < len) : Ev P σ H ⟨d, .indexAddr ty x i, t, pos, af, gd⟩ (.pointer (some ⟨b, o + m * sz, none⟩)) := by
  unfold Ev
  intro ρ w hρ _
  obtain ⟨ii, hii, _, hsz, _⟩ := hS.info
  have h1 : (0 : Int) ≤ m ∧ (m : Int) < len := by omega
  simp [execOp, hρ x _ hx, hρ i _ hi, Instr.indexAt, asIntOf, run_underlying hT.out, Instr.sureAddr, e0.out, h1, sizeOf, typeInfo, hii, hsz, add_mk]
  intro h2; omega
/-- the parts of an array put over its zero -/
def fillA (sz : Nat) : List Value → List (Nat × Value) → Option (List Value)
  | cs, [] => some cs
  | cs, (i, v) :: rest => match Nat.beq v.cells.toList.length sz && Nat.ble (i * sz + sz) cs.length with
    | true => match putO cs (i * sz) v.cells.toList with
      | some cs' => fillA sz cs' rest
      | none => none
    | false => none
theorem fillR_eq {sz : Nat} : ∀ (parts : List (Nat × Value)) (cs r : List Value), fillA sz cs parts = some r → Instr.fill (fun i => some (i * sz, sz)) cs.toArray parts = some r.toArray
  | [], cs, r, h => by simp [fillA] at h; simp [Instr.fill, h]
  | (i, v) :: rest, cs, r, h => by
    simp only [fillA] at h
    split at h
    · rename_i hb
      split at h
      · rename_i cs' hp
        have h1 := fillR_eq rest cs' r h
        have h2 : fillV [(i * sz, sz)] cs [(0, v)] = some cs' := by
          simp only [fillV, List.getElem?_cons_zero]
          rw [if_pos hb, putV_of_O _ _ _ _ hp]
        have h3 := fillV_eq [(0, v)] cs cs' h2
        simp only [Instr.fill, List.getElem?_cons_zero] at h3 ⊢
        split at h3
        · cases h3
        · rename_i hn
          rw [if_neg hn]
          simp only [Option.some.injEq] at h3
          rw [h3]
          exact h1
      · cases h
    · cases h
theorem ev_buildArr {ty e : TypeId} {len : Nat} [hT : UArr P ty len e] {z : List Value} {sz b1 : Nat} [hS : USize P ty (.agg z.toArray) sz b1] {z1 : Value} {sz1 b2 : Nat} [hS1 : USize P e z1 sz1 b2] {parts : List (Nat × Operand)} {vs : List (Nat × Value)} {r : List Value}
    (hp : looksP σ parts = some vs) (hr : fillA sz1 z vs = some r) : Ev P σ H ⟨d, .build ty parts.toArray, t, pos, af, gd⟩ (.agg r.toArray) := by
  unfold Ev
  intro ρ w hρ _
  obtain ⟨ii, hii, hz, hsz, _⟩ := hS.info
  obtain ⟨i1, hi1, _, hsz1, _⟩ := hS1.info
  have e1 := looksP_eq hρ _ _ hp
  have e2 := fillR_eq vs z r hr
  have e3 : P.built ty vs = some r.toArray := by
    unfold Program.built
    simp only [hii, hT.out, hz, hi1, hsz1]
    exact e2
  have e4 : (parts.toArray.map fun (p : Nat × Operand) => (p.1, ρ p.2)).toList = vs := by simp [← e1]
  have e5 := _root_.Go.run_build (P := P) w ty (parts.toArray.map fun (p : Nat × Operand) => (p.1, ρ p.2)) r.toArray (by rw [e4]; exact e3)
  simp only [execOp, Sem.run_bind, e5, Result.andThen_ok, Sem.run_pure]
end
section
variable {P : Program} {σ : Store} {d : Option Tmp} {t : TypeId} {pos : String} {af : Array Edge} {gd : Option (Nat × Bool)} {S : Nat → Prop} {w0 w : World} {L : List VB} {D : List DP}
/-- an array read whole -/
theorem ev_loadArrV {H : Array Obj} {x : Operand} {ty e e' : TypeId} {len : Nat} [hA : UArr P ty len e] {z : Value} {sz b1 : Nat} [hS : USize P ty z sz b1] {b o : Nat} {cs cs' : List Value} (hx : look σ x = some (.pointer (some ⟨b, o, none⟩))) (hV : Vr H b e' cs) (hv : subV cs o sz = some cs') :
    Ev P σ H ⟨d, .load ty x, t, pos, af, gd⟩ (.agg cs'.toArray) := by
  unfold Ev
  intro ρ w hρ hH
  obtain ⟨ii, hii, _, hsz, _⟩ := hS.info
  have hl : ∀ {n off : Nat} {l : List Value}, subV cs off n = some l → l.length = n := by
    intro n
    induction n with
    | zero => intro off l h; simp [subV] at h; subst h; rfl
    | succ n ih =>
      intro off l h
      simp only [subV] at h
      cases h1 : nthV cs off with
      | none => rw [h1] at h; simp at h
      | some v =>
        rw [h1] at h
        cases h2 : subV cs (off + 1) n with
        | none => rw [h2] at h; simp at h
        | some l' => rw [h2] at h; simp at h; subst h; simp [ih h2]
  have hlen := hl hv
  have e := subV_eq hv
  have hr : w.rangeAt b o cs' := fun j u hu => by
    rw [cell_of_hcell, hH, hV.cell]
    have hj := (List.getElem?_eq_some_iff.1 hu).1
    rw [← e, List.getElem?_take, if_pos (by omega), List.getElem?_drop] at hu
    exact hu
  have := run_loadAt_mid (P := P) w b o ty cs' _ hr hA.out rfl (by rw [hii]; simp [hsz, hlen])
  simp [execOp, hρ x _ hx, this]
theorem ev_loadArr (hF : Fr w0 w L D S) {x : Operand} {ty e e' : TypeId} {len : Nat} [hA : UArr P ty len e] {z : Value} {sz b1 : Nat} [hS : USize P ty z sz b1] {b o : Nat} {cs cs' : List Value} (hx : look σ x = some (.pointer (some ⟨b, o, none⟩))) (h : InV L b e' cs ∧ subV cs o sz = some cs') :
    Ev P σ w.heap ⟨d, .load ty x, t, pos, af, gd⟩ (.agg cs'.toArray) := ev_loadArrV hx (hF.var h.1) h.2
end
end Go.Eng

namespace Go.Proofs.YthlbihbchobllaaGreat
open Go Go.Eng Go.Proofs Go.NatM Go.ChangeShapes Go.WideShapes Go.ChangeAt Go.RowKit

theorem spot_none {w : World} {a : Addr} {v : Value} (h : w.cell? a = some v) : a = ⟨a.block, a.off, none⟩ := by
  cases a with
  | mk b o s =>
    cases s with
    | none => rfl
    | some s => unfold World.cell? at h; split at h <;> simp at h
theorem getD_map_toNat (zs : List Int) (hz : ∀ z ∈ zs, 0 ≤ z) (j : Nat) (hj : j < zs.length) : ((zs.map Int.toNat)[j]?).map (fun x : Nat => (x : Int)) = some (zs.getD j 0) := by
  simp [List.getD, hj, Int.toNat_of_nonneg (hz _ (List.getElem_mem hj))]
end Go.Proofs.YthlbihbchobllaaGreat

namespace Go.Proofs.YthlbihbchobllaaGreat
open Go Go.Eng Go.Proofs Go.NatM

theorem bulk_one {H : Type} (d : DataW H) : 1 ≤ Rows.uptoBulk d := by
  cases d with
  | lit l => cases l <;> simp [Rows.uptoBulk]
  | nil => simp [Rows.uptoBulk]
  | ptr d => simp [Rows.uptoBulk]
  | slice elems spare => simp [Rows.uptoBulk]
  | agg parts => simp [Rows.uptoBulk]
  | iface t d => simp [Rows.uptoBulk]
  | map entries => simp [Rows.uptoBulk]
  | held h => simp [Rows.uptoBulk]
theorem bulk_part {H : Type} {d : DataW H} {l : List (DataW H)} (h : d ∈ l) : Rows.uptoBulk d ≤ Rows.uptoBulkAll l := by
  induction l with
  | nil => cases h
  | cons x r ih =>
    simp only [Rows.uptoBulkAll]
    cases List.mem_cons.1 h with
    | inl e => subst e; omega
    | inr e => have := ih e; omega
theorem bulk_length {H : Type} (l : List (DataW H)) : l.length ≤ Rows.uptoBulkAll l := by
  induction l with
  | nil => simp [Rows.uptoBulkAll]
  | cons x r ih => have := bulk_one x; simp only [Rows.uptoBulkAll, List.length_cons]; omega
theorem small_all {H : Type} {ds gs : List (DataW H)} (h : Rows.uptoSmall H (ds ++ gs) = true) : Rows.uptoBulkAll (ds ++ gs) ≤ 1048576 := of_decide_eq_true h
theorem small_part {H : Type} {ds gs : List (DataW H)} (h : Rows.uptoSmall H (ds ++ gs) = true) {j : Nat} {d : DataW H} (hd : (ds ++ gs)[j]? = some d) : Rows.uptoBulk d ≤ 1048576 := by
  have h1 := small_all h
  have h2 := bulk_part (List.mem_of_getElem? hd)
  omega
end Go.Proofs.YthlbihbchobllaaGreat

namespace Go.Proofs.YthlbihbchobllaaGreat
open Go Go.Eng Go.Proofs Go.NatM

end Go.Proofs.YthlbihbchobllaaGreat

namespace Go.Proofs.YthlbihbchobllaaGreat
open Go Go.Eng Go.Proofs Go.NatM

end Go.Proofs.YthlbihbchobllaaGreat

namespace Go.Proofs.YthlbihbchobllaaGreat
open Go Go.Eng Go.Proofs Go.NatM

/-- the words of each -/
def LS (H : Array Obj) (B : Nat) (L : List (SA Nat)) : Prop := ∀ x ∈ L, Sl u64v H B x.A x.n x.c x.l ∧ U64 x.l
theorem LS.ext {w w' : World} {B : Nat} {L : List (SA Nat)} (hb : Ext w w') (h : LS w.heap B L) : LS w'.heap B L := fun x hx => ⟨(h x hx).1.ext hb, (h x hx).2⟩
theorem LS.take {H : Array Obj} {B : Nat} {L : List (SA Nat)} (h : LS H B L) (k : Nat) : LS H B (L.take k) := fun x hx => h x (List.mem_of_mem_take hx)
theorem LS.drop {H : Array Obj} {B : Nat} {L : List (SA Nat)} (h : LS H B L) (k : Nat) : LS H B (L.drop k) := fun x hx => h x (List.mem_of_mem_drop hx)
end Go.Proofs.YthlbihbchobllaaGreat

namespace Go.Proofs.YthlbihbchobllaaGreat
open Go Go.Eng Go.Proofs Go.NatM Go.ChangeShapes Go.WideShapes Go.ChangeAt Go.RowKit Go.Deep

/-- a slice of words, by its cells -/
theorem open_u64c {H : Type} {enc : TypeId × Value → H} {P : Program} {t e : TypeId} {W : World} {base : Nat} {spare : Nat → Bool} {held : Bool} {v : Value} {d : DataW H} {ps : List MemPlace} {fuel : Nat}
    (ht : P.underlying t = some (.slice e)) (he : P.underlying e = some (.int .u64)) (hc : P.cellsOf e = 1) (hf : DataW.trod enc P W base spare held fuel t [v] = some (d, ps)) :
    ∃ x : SA Nat, v = sav x ∧ Sl u64v W.heap W.heap.size x.A x.n x.c x.l ∧ U64 x.l ∧ x.n + 1 ≤ Rows.uptoBulk d := by
  rcases open_ints ht he hc hf with ⟨hcs, hx⟩ | ⟨a, len, cap, zs, hcs, hb, hl, hm, hz, hx, hcell, hwz⟩
  · cases hcs
    cases hx
    exact ⟨⟨none, 0, 0, []⟩, rfl, Sl.nil _ _ _ _ _, U64.nil, bulk_one _⟩
  · cases hcs
    cases hx
    have hlen : len ≤ zs.length := by split at hz <;> omega
    have hr : ∀ z ∈ zs, 0 ≤ z ∧ z < 18446744073709551616 := fun z hz' => by
      have := hwz z hz'
      simp [Lit.wf, IntKind.min, IntKind.max, IntKind.signed, IntKind.bits] at this
      omega
    refine ⟨⟨some a, len, cap, (zs.take len).map Int.toNat⟩, rfl, ⟨by simp; omega, hl, ?_⟩, ?_, ?_⟩
    · rcases Nat.eq_zero_or_pos len with h0 | h0
      · exact .inl h0
      · have hc0 := hcell 0 (by omega)
        have ha0 : a.add 0 = a := by simp [Addr.add]
        rw [ha0] at hc0
        have hs := spot_none hc0
        refine .inr ⟨a.block, a.off, by rw [← hs], World.block_lt_of_cell? W a hc0, fun j x hx' => ?_⟩
        have hj : j < len := by
          have := (List.getElem?_eq_some_iff.1 hx').1
          simp at this; omega
        have hcj := hcell j (by omega)
        rw [hs, add_mk, cell_of_hcell] at hcj
        rw [hcj]
        have e1 : (zs.take len).getD j 0 = zs.getD j 0 := by simp [List.getD, List.getElem?_take, hj]
        have e2 := getD_map_toNat (zs.take len) (fun z hz' => (hr z (List.mem_of_mem_take hz')).1) j (by simp; omega)
        rw [hx', e1] at e2
        simp at e2
        show some (Value.int .u64 _) = some (Value.int .u64 _)
        simp only [List.getD] at e2 ⊢
        rw [← e2]
    · intro x hx'
      obtain ⟨z, hz', rfl⟩ := List.mem_map.1 hx'
      have := hr z (List.mem_of_mem_take hz')
      omega
    · have h1 := bulk_length (lits (H := H) .u64 (zs.take len))
      have h2 : (lits (H := H) .u64 (zs.take len)).length = len := by simp [lits]; omega
      simp only [Rows.uptoBulk]
      show len + 1 ≤ _
      omega
end Go.Proofs.YthlbihbchobllaaGreat

namespace Go.Proofs.YthlbihbchobllaaGreat
open Go Go.Eng Go.Proofs Go.NatM Go.ChangeShapes Go.WideShapes Go.ChangeAt Go.RowKit Go.Deep

def wts {α : Type} (wt : α → Nat) : List α → Nat
  | [] => 0
  | x :: l => wt x + wts wt l
theorem wts_mem {α : Type} {wt : α → Nat} {x : α} {l : List α} (h : x ∈ l) : wt x ≤ wts wt l := by
  induction l with
  | nil => cases h
  | cons y l ih =>
    simp only [wts]
    rcases List.mem_cons.1 h with rfl | h'
    · omega
    · have := ih h'; omega
theorem wts_bulk {H α : Type} {wt : α → Nat} (X : Nat → α) (D : Nat → DataW H) : ∀ is : List Nat, (∀ i ∈ is, wt (X i) ≤ Rows.uptoBulk (D i)) → wts wt (is.map X) ≤ Rows.uptoBulkAll (is.map D)
  | [], _ => by simp [wts]
  | i :: is, h => by
    have h1 := h i (by simp)
    have h2 := wts_bulk X D is (fun j hj => h j (by simp [hj]))
    simp only [List.map_cons, wts, Rows.uptoBulkAll]
    omega
/-- an int, by its cell -/
theorem open_i64c {H : Type} {enc : TypeId × Value → H} {P : Program} {t : TypeId} {W : World} {base : Nat} {spare : Nat → Bool} {held : Bool} {cs : List Value} {x : DataW H × List MemPlace} {fuel : Nat}
    (ht : P.underlying t = some (.int .i64)) (hf : DataW.trod enc P W base spare held fuel t cs = some x) : ∃ z : Int, cs = [.int .i64 z] ∧ -9223372036854775808 ≤ z ∧ z < 9223372036854775808 := by
  obtain ⟨m, rfl, _, hw⟩ := DataW.trod_int ht hf
  refine ⟨m, rfl, ?_⟩
  simp [Lit.wf, IntKind.min, IntKind.max, IntKind.signed, IntKind.bits] at hw
  omega
/-- a slice of words, by its cells -/
theorem open_u64d {H : Type} {enc : TypeId × Value → H} {P : Program} {t e : TypeId} {W : World} {base : Nat} {spare : Nat → Bool} {held : Bool} {cs : List Value} {x : DataW H × List MemPlace} {fuel : Nat}
    (ht : P.underlying t = some (.slice e)) (he : P.underlying e = some (.int .u64)) (hc : P.cellsOf e = 1) (hf : DataW.trod enc P W base spare held fuel t cs = some x) :
    ∃ y : SA Nat, cs = [sav y] ∧ Sl u64v W.heap W.heap.size y.A y.n y.c y.l ∧ U64 y.l ∧ y.n + 1 ≤ Rows.uptoBulk x.1 := by
  rcases DataW.trod_slice ht hf with ⟨rfl, _⟩ | ⟨a, len, cap, _, _, _, _, rfl, _⟩
  · obtain ⟨y, e1, r⟩ := open_u64c (d := x.1) (ps := x.2) ht he hc hf <;> exact ⟨y, by rw [e1], r⟩
  · obtain ⟨y, e1, r⟩ := open_u64c (d := x.1) (ps := x.2) ht he hc hf <;> exact ⟨y, by rw [e1], r⟩
/-- a slice of values of k cells -/
theorem open_elems {H α : Type} [Inhabited α] {enc : TypeId × Value → H} {P : Program} {t e : TypeId} {W : World} {base : Nat} {spare : Nat → Bool} {held : Bool} {cs : List Value} {x : DataW H × List MemPlace} {fuel k : Nat}
    (f : α → List Value) (G : α → Prop) (wt : α → Nat) (hk : 0 < k) (hf : ∀ y, (f y).length = k) (ht : P.underlying t = some (.slice e)) (hc : P.cellsOf e = k)
    (elem : ∀ n cs' x, DataW.trod enc P W base spare held n e cs' = some x → ∃ y, cs' = f y ∧ G y ∧ wt y ≤ Rows.uptoBulk x.1)
    (h : DataW.trod enc P W base spare held fuel t cs = some x) :
    ∃ A n c L, cs = [.slice A n c] ∧ Sm k f W.heap W.heap.size A n c L ∧ (∀ y ∈ L, G y) ∧ wts wt L + 1 ≤ Rows.uptoBulk x.1 ∧ n + 1 ≤ Rows.uptoBulk x.1 := by
  rcases open_slice ht h with ⟨rfl, rfl⟩ | ⟨a, len, cap, m, n, D, Pl, rfl, hb, hl, hm, hmm, rfl, hx⟩
  · exact ⟨none, 0, 0, [], rfl, Sm.nil hk _ _ _ _ _, fun y hy => (by cases hy), by simp [wts, Rows.uptoBulk], by simp [Rows.uptoBulk]⟩
  · have hlm : len ≤ m := by split at hmm <;> omega
    rw [hc] at hx
    obtain ⟨X, hX⟩ := choose_lt (n := len) (p := fun i (y : α) => W.cells? base (a.add (i * k)) k = some (f y) ∧ G y ∧ wt y ≤ Rows.uptoBulk (D i)) (fun i hi => by
      obtain ⟨cs', h1, h2⟩ := hx i (by omega)
      obtain ⟨y, rfl, g1, g2⟩ := elem n cs' _ h2
      exact ⟨y, h1, g1, g2⟩)
    refine ⟨some a, len, cap, (List.range len).map X, rfl, ⟨by simp, hl, hk, fun y hy => hf y, ?_⟩, ?_, ?_, ?_⟩
    · rcases Nat.eq_zero_or_pos len with h0 | h0
      · exact .inl h0
      · have hc0 := (hX 0 (by omega)).1
        obtain ⟨_, hl0, hc0⟩ := World.cells?_some hc0
        have hc1 := hc0 0 hk
        obtain ⟨v0, hv0⟩ : ∃ v0, (f (X 0))[0]? = some v0 := ⟨_, List.getElem?_eq_getElem (by rw [hf]; exact hk)⟩
        rw [hv0] at hc1
        have e0 : (a.add (0 * k)).add 0 = a := by simp [Addr.add]
        rw [e0] at hc1
        have hs := spot_none hc1
        refine .inr ⟨a.block, a.off, by rw [← hs], World.block_lt_of_cell? W a hc1, fun j y hy q v hv => ?_⟩
        have hj : j < len := by
          have := (List.getElem?_eq_some_iff.1 hy).1
          simpa using this
        rw [List.getElem?_map, List.getElem?_range hj] at hy
        simp at hy
        subst hy
        obtain ⟨_, hlj, hcj⟩ := World.cells?_some (hX j hj).1
        have hq : q < k := by have := (List.getElem?_eq_some_iff.1 hv).1; rwa [hf] at this
        have := hcj q hq
        rw [hv, hs, add_mk, add_mk, cell_of_hcell, Nat.add_assoc] at this
        exact this
    · intro y hy
      obtain ⟨i, hi, rfl⟩ := List.mem_map.1 hy
      exact (hX i (List.mem_range.1 hi)).2.1
    · have := wts_bulk X D (List.range len) (fun i hi => (hX i (List.mem_range.1 hi)).2.2)
      simp only [Rows.uptoBulk]
      omega
    · have h1 := bulk_length ((List.range len).map D)
      simp only [List.length_map, List.length_range] at h1
      simp only [Rows.uptoBulk]
      omega
end Go.Proofs.YthlbihbchobllaaGreat

namespace Go.Proofs.YthlbihbchobllaaGreat
open Go Go.Eng Go.Proofs Go.NatM Go.ChangeShapes Go.WideShapes Go.ChangeAt Go.RowKit Go.Deep

theorem len2 {α : Type} {l : List α} (h : l.length = 2) : ∃ a b, l = [a, b] := by
  match l, h with
  | [a, b], _ => exact ⟨a, b, rfl⟩
theorem len3 {α : Type} {l : List α} (h : l.length = 3) : ∃ a b c, l = [a, b, c] := by
  match l, h with
  | [a, b, c], _ => exact ⟨a, b, c, rfl⟩
def ivw (x : IV) : Nat := x.m.n
theorem open_int {H : Type} {enc : TypeId × Value → H} {W : World} {base : Nat} {spare : Nat → Bool} {held : Bool} (m : Nat) (cs : List Value) (x : DataW H × List MemPlace)
    (h : DataW.trod enc Tryz.prog W base spare held m 43 cs = some x) : ∃ y : IV, cs = ivc y ∧ GI W.heap y ∧ ivw y ≤ Rows.uptoBulk x.1 := by
  obtain ⟨xs, q, _, rfl, hl, hxl, hall⟩ := DataW.trod_struct Tryz.underlying43 h
  have hl' : cs.length = 2 := hl.trans (by kernel_rfl)
  have hxl' : xs.length = 2 := hxl.trans rfl
  obtain ⟨v0, v1, rfl⟩ := len2 hl'
  obtain ⟨x0, x1, rfl⟩ := len2 hxl'
  have cb : Tryz.prog.cellsOf 4 = 1 := by kernel_rfl
  have cu : Tryz.prog.cellsOf 41 = 1 := by kernel_rfl
  have h0 : DataW.trod enc Tryz.prog W base spare held q 4 (([v0, v1].drop 0).take (Tryz.prog.cellsOf 4)) = some x0 := hall 0 _ rfl
  rw [cb] at h0
  have h1 : DataW.trod enc Tryz.prog W base spare held q 41 (([v0, v1].drop 1).take (Tryz.prog.cellsOf 41)) = some x1 := hall 1 _ rfl
  rw [cu] at h1
  obtain ⟨b, e0, _⟩ := DataW.trod_bool Tryz.underlying4 h0
  obtain rfl : v0 = .bool b := by simpa using e0
  obtain ⟨y1, e1, s1, u1, m1⟩ := open_u64d Tryz.underlying41 Tryz.underlying45 (by kernel_rfl) h1
  obtain rfl : v1 = sav y1 := by simpa using e1
  refine ⟨⟨b, y1⟩, rfl, ⟨s1, u1⟩, ?_⟩
  simp only [ivw, List.map_cons, List.map_nil, Rows.uptoBulk, Rows.uptoBulkAll]
  omega
/-- what is read of a matrix -/
structure RM0 (H : Array Obj) (x : MV) : Prop where
  s : Sm 2 ivc H H.size x.A x.n x.k x.l
  g : ∀ y ∈ x.l, GI H y
theorem small_mat {H : Array Obj} {y : MV} {b : Nat} (h : b ≤ 1048576) (r : RM0 H y) (hn : wts ivw y.l ≤ b) : RM H y 1048576 := ⟨r.s, fun x hx => ⟨r.g x hx, Nat.le_trans (wts_mem (wt := ivw) hx) (Nat.le_trans hn h)⟩⟩
end Go.Proofs.YthlbihbchobllaaGreat

namespace Go.Proofs.YthlbihbchobllaaGreat
open Go Go.Eng Go.Proofs Go.NatM Go.RowKit

end Go.Proofs.YthlbihbchobllaaGreat

namespace Go.Proofs.YthlbihbchobllaaGreat
open Go Go.Eng Go.Proofs Go.NatM Go.RowKit

end Go.Proofs.YthlbihbchobllaaGreat

namespace Go.Proofs.YthlbihbchobllaaGreat
open Go Go.Eng Go.Proofs Go.NatM Go.RowKit

theorem zsign_ok (w : World) (x : IV) (g : GI w.heap x) (hn : x.m.n ≤ 1099511627776) : Cl Tryz.prog 50 #[.agg (ivc x).toArray] w (fun e w' => e = .returned (.int .i64 (sig (ival x))) ∧ Ext w w') := by
  obtain ⟨yn, ⟨A1, n1, c1, l1⟩⟩ := x
  obtain ⟨b, hb⟩ : ∃ b, bl (val l1) = b := ⟨_, rfl⟩
  have hb0 : b = 0 ↔ val l1 = 0 := by rw [← hb]; unfold bl; constructor <;> intro h <;> (try split at h) <;> simp_all
  have hs := g.s
  have hu := g.u
  dsimp only at hs hu hn
  have hbl := fun w1 (hE : Ext w w1) => (bitlen_ok w1.heap _ A1 n1 c1 l1 (hs.ext hE) hu (by omega)).cl
  rw [hb] at hbl
  by_cases h0 : b = 0
  · have e : sig (ival ⟨yn, ⟨A1, n1, c1, l1⟩⟩) = 0 := by have := hb0.1 h0; simp [sig, ival, sgn, this]
    rw [e]
    refine enter Tryz.func50 rfl rfl rfl ?_
    have hF := Fr.refl w
    repeat' (first | (refine TL.isOp ?_; first | (refine TL.isCall ?_; refine TL.call rfl rfl ?_; first | (refine (hbl _ hF.ext).mono ?_; rintro _ w1 ⟨rfl, hE⟩; replace hF := hF.exts hE.ext; clear hE; refine Back.mk ?_)) | (refine TL.isBin ?_; refine TL.cmpG rfl rfl rfl rfl (fun hc => ?_) (fun hc => ?_) <;> (try (first | (exfalso; omega) | exact absurd rfl hc))) | (apply TL.ev; (case hd => rfl); (case h => (first | exact ev_simple rfl | (apply Ev.isLoad; first | exact ev_loadFr hF rfl (by refine ⟨?_, ?_⟩; (focus (repeat (first | exact InV.head | apply InV.tail))); rfl)) | exact ev_fieldAddr rfl))) | (refine TL.boxAFr hF (d := 1) (cs := [.bool yn, .slice A1 n1 c1]) rfl rfl ?_; clear hF; intro w1 b1 hF)) | (refine T.is ?_; first | refine T.seq ?_ | refine T.region ?_ | refine T.block ?_ | refine T.cond_t rfl ?_ | refine T.ret ?_) | (refine G.is ?_; first | refine G.next ?_ | refine G.blockR ?_ | refine G.thenR ?_) | refine TL.nil ?_)
    exact G.ret1 rfl rfl ⟨rfl, hF.ext⟩
  · have h1 : val l1 ≠ 0 := fun h => h0 (hb0.2 h)
    cases yn with
    | true =>
      have e : sig (ival ⟨true, ⟨A1, n1, c1, l1⟩⟩) = -1 := by simp only [sig, ival, sgn, if_true]; rw [if_pos (by omega)]
      rw [e]
      refine enter Tryz.func50 rfl rfl rfl ?_
      have hF := Fr.refl w
      repeat' (first | (refine TL.isOp ?_; first | (refine TL.isCall ?_; refine TL.call rfl rfl ?_; first | (refine (hbl _ hF.ext).mono ?_; rintro _ w1 ⟨rfl, hE⟩; replace hF := hF.exts hE.ext; clear hE; refine Back.mk ?_)) | (refine TL.isBin ?_; refine TL.cmpG rfl rfl rfl rfl (fun hc => ?_) (fun hc => ?_) <;> (try (first | (exfalso; omega) | exact absurd rfl hc))) | (apply TL.ev; (case hd => rfl); (case h => (first | exact ev_simple rfl | (apply Ev.isLoad; first | exact ev_loadFr hF rfl (by refine ⟨?_, ?_⟩; (focus (repeat (first | exact InV.head | apply InV.tail))); rfl)) | exact ev_fieldAddr rfl))) | (refine TL.boxAFr hF (d := 1) (cs := [.bool true, .slice A1 n1 c1]) rfl rfl ?_; clear hF; intro w1 b1 hF)) | (refine T.is ?_; first | refine T.seq ?_ | refine T.region ?_ | refine T.block ?_ | refine T.cond_t rfl ?_ | refine T.cond_f rfl ?_ | refine T.ret ?_) | (refine G.is ?_; first | refine G.next ?_ | refine G.blockR ?_ | refine G.thenR ?_) | refine TL.nil ?_)
      exact G.ret1 rfl rfl ⟨rfl, hF.ext⟩
    | false =>
      have e : sig (ival ⟨false, ⟨A1, n1, c1, l1⟩⟩) = 1 := by simp only [sig, ival, sgn, Bool.false_eq_true, if_false]; rw [if_neg (by omega), if_neg (by omega)]
      rw [e]
      refine enter Tryz.func50 rfl rfl rfl ?_
      have hF := Fr.refl w
      repeat' (first | (refine TL.isOp ?_; first | (refine TL.isCall ?_; refine TL.call rfl rfl ?_; first | (refine (hbl _ hF.ext).mono ?_; rintro _ w1 ⟨rfl, hE⟩; replace hF := hF.exts hE.ext; clear hE; refine Back.mk ?_)) | (refine TL.isBin ?_; refine TL.cmpG rfl rfl rfl rfl (fun hc => ?_) (fun hc => ?_) <;> (try (first | (exfalso; omega) | exact absurd rfl hc))) | (apply TL.ev; (case hd => rfl); (case h => (first | exact ev_simple rfl | (apply Ev.isLoad; first | exact ev_loadFr hF rfl (by refine ⟨?_, ?_⟩; (focus (repeat (first | exact InV.head | apply InV.tail))); rfl)) | exact ev_fieldAddr rfl))) | (refine TL.boxAFr hF (d := 1) (cs := [.bool false, .slice A1 n1 c1]) rfl rfl ?_; clear hF; intro w1 b1 hF)) | (refine T.is ?_; first | refine T.seq ?_ | refine T.region ?_ | refine T.block ?_ | refine T.cond_f rfl ?_ | refine T.ret ?_ | refine T.skip ?_) | (refine G.is ?_; first | refine G.next ?_ | refine G.blockN ?_) | refine TL.nil ?_)
      exact G.ret1 rfl rfl ⟨rfl, hF.ext⟩
def cmpZ (a b : Int) : Int := if a < b then -1 else if b < a then 1 else 0
theorem cmpZ_sig {x y : IV} (h : sig (ival x) = sig (ival y)) : sig (ival x) * cmp3 (val x.m.l) (val y.m.l) = cmpZ (ival x) (ival y) := by
  have e1 := ival_abs x
  have e2 := ival_abs y
  revert h e1 e2
  generalize ival x = a
  generalize ival y = b
  generalize val x.m.l = m
  generalize val y.m.l = n
  intro h e1 e2
  subst e1 e2
  unfold sig cmpZ cmp3 at *
  by_cases ha : a < 0 <;> by_cases hb : b < 0 <;> by_cases ha0 : a = 0 <;> by_cases hb0 : b = 0 <;> simp [ha, hb, ha0, hb0] at h ⊢ <;> (try omega)
  all_goals (repeat split) <;> omega
theorem cmpZ_ne {a b : Int} (h : sig a ≠ sig b) : (if sig a < sig b then -1 else 1) = cmpZ a b := by
  unfold sig cmpZ at *
  by_cases ha : a < 0 <;> by_cases hb : b < 0 <;> by_cases ha0 : a = 0 <;> by_cases hb0 : b = 0 <;> simp [ha, hb, ha0, hb0] at h ⊢ <;> (try omega)
  all_goals (repeat split) <;> omega
theorem zcmp_ok (w : World) (x y : IV) (g : GI w.heap x) (g' : GI w.heap y) (hn : x.m.n ≤ 1099511627776) (hn' : y.m.n ≤ 1099511627776) : Cl Tryz.prog 28 #[.agg (ivc x).toArray, .agg (ivc y).toArray] w (fun e w' => e = .returned (.int .i64 (cmpZ (ival x) (ival y))) ∧ Ext w w') := by
  have hsx := fun w1 (hE : Ext w w1) => zsign_ok w1 x (g.ext hE) hn
  have hsy := fun w1 (hE : Ext w w1) => zsign_ok w1 y (g'.ext hE) hn'
  have hcm := fun w1 (hE : Ext w w1) => (cmp_eqX w1.heap _ _ _ _ _ _ _ _ _ _ (g.s.ext hE) (g'.s.ext hE) g.u g'.u (by omega) (by omega) rfl).cl
  have hc1 := cmpZ_sig (x := x) (y := y)
  have hc2 := cmpZ_ne (a := ival x) (b := ival y)
  obtain ⟨sx, hsx'⟩ : ∃ s, sig (ival x) = s := ⟨_, rfl⟩
  obtain ⟨sy, hsy'⟩ : ∃ s, sig (ival y) = s := ⟨_, rfl⟩
  obtain ⟨q, hq'⟩ : ∃ s, cmp3 (val x.m.l) (val y.m.l) = s := ⟨_, rfl⟩
  have hqb : -1 ≤ q ∧ q ≤ 1 := by rw [← hq']; unfold cmp3; split <;> (try split) <;> omega
  have hb : -1 ≤ sx ∧ sx ≤ 1 := by rw [← hsx']; unfold sig; split <;> (try split) <;> omega
  rw [hsx'] at hsx hc1 hc2
  rw [hsy'] at hsy hc1 hc2
  rw [hq'] at hcm hc1
  generalize cmpZ (ival x) (ival y) = cz at *
  obtain ⟨xn, ⟨A1, n1, c1, l1⟩⟩ := x
  obtain ⟨yn, ⟨A2, n2, c2, l2⟩⟩ := y
  by_cases h : sx = sy
  · have hm : -1 ≤ sx * q ∧ sx * q ≤ 1 := by
      have h3 : sx = -1 ∨ sx = 0 ∨ sx = 1 := by omega
      rcases h3 with rfl | rfl | rfl <;> omega
    subst h
    refine enter Tryz.func28 rfl rfl rfl ?_
    have hF := Fr.refl w
    repeat' (first | (refine TL.isOp ?_; first | (refine TL.isCall ?_; refine TL.call rfl rfl ?_; first | (refine (hsx _ hF.ext).mono ?_; rintro _ w1 ⟨rfl, hE⟩; replace hF := hF.exts hE; clear hE; refine Back.mk ?_) | (refine (hsy _ hF.ext).mono ?_; rintro _ w1 ⟨rfl, hE⟩; replace hF := hF.exts hE; clear hE; refine Back.mk ?_) | (refine (hcm _ hF.ext).mono ?_; rintro _ w1 ⟨rfl, hE⟩; replace hF := hF.exts hE.ext; clear hE; refine Back.mk ?_)) | (refine TL.isBin ?_; refine TL.cmpG rfl rfl rfl rfl (fun hc => ?_) (fun hc => ?_) <;> (try (first | (exfalso; omega) | exact absurd rfl hc))) | (apply TL.ev; (case hd => rfl); (case h => (first | exact ev_simple rfl | (apply Ev.isBin; first | exact ev_arI rfl rfl rfl (by omega)) | (apply Ev.isLoad; first | exact ev_loadFr hF rfl (by refine ⟨?_, ?_⟩; (focus (repeat (first | exact InV.head | apply InV.tail))); rfl)) | exact ev_fieldAddr rfl))) | (refine TL.boxAFr hF (d := 2) (cs := [.bool xn, .slice A1 n1 c1]) rfl rfl ?_; clear hF; intro w2 b2 hF) | (refine TL.boxAFr hF (d := 3) (cs := [.bool yn, .slice A2 n2 c2]) rfl rfl ?_; clear hF; intro w3 b3 hF)) | (refine TF.is ?_; first | refine TF.nil ?_ | refine TF.e rfl ?_ | (refine TF.pick rfl ?_; first | (apply TFo.ev; (case hd => rfl); (case h => (intro wh hF; first | exact ev_simple rfl | (apply Ev.isLoad; first | exact ev_loadAFr hF rfl (by refine ⟨?_, ?_⟩; (focus (repeat (first | exact InV.head | apply InV.tail))); rfl))))))) | (refine T.is ?_; first | refine T.seq ?_ | refine T.region ?_ | refine T.cond_f rfl ?_ | refine T.ret ?_ | refine T.skip ?_ | (refine T.regionFr hF 1 6 (.s 0 (.s 2 (.e 1 (.e 3 (.s 4 (.s 5 .nil)))))) mixed (by kernel_rfl) ?_; clear hF; intro wr hF)) | (refine G.is ?_; first | refine G.next ?_ | refine G.only ?_ | refine G.tree rfl (by first | exact hF | exact hF.weak (List.sublist_append_right _ _) (by repeat (first | exact allR | apply allT)) | exact hF.weak (by repeat (first | exact List.Sublist.refl _ | apply List.Sublist.cons)) (by repeat (first | exact allR | apply allT)) | exact hF.weak (by repeat (first | exact List.Sublist.refl _ | apply List.Sublist.cons)) (by repeat (first | exact allN | refine allH (by repeat (first | exact memH | apply memT)) ?_))) ?_) | refine TL.nil ?_)
    exact G.ret1 rfl rfl ⟨by rw [hc1 rfl], hF.ext⟩
  · have hz := hc2 h
    refine enter Tryz.func28 rfl rfl rfl ?_
    have hF := Fr.refl w
    repeat' (first | (refine TL.isOp ?_; first | (refine TL.isCall ?_; refine TL.call rfl rfl ?_; first | (refine (hsx _ hF.ext).mono ?_; rintro _ w1 ⟨rfl, hE⟩; replace hF := hF.exts hE; clear hE; refine Back.mk ?_) | (refine (hsy _ hF.ext).mono ?_; rintro _ w1 ⟨rfl, hE⟩; replace hF := hF.exts hE; clear hE; refine Back.mk ?_)) | (refine TL.isBin ?_; refine TL.cmpG rfl rfl rfl rfl (fun hc => ?_) (fun hc => ?_) <;> (try (first | (exfalso; omega) | exact absurd rfl hc))) | (apply TL.ev; (case hd => rfl); (case h => (first | exact ev_simple rfl))) | (refine TL.boxAFr hF (d := 2) (cs := [.bool xn, .slice A1 n1 c1]) rfl rfl ?_; clear hF; intro w2 b2 hF) | (refine TL.boxAFr hF (d := 3) (cs := [.bool yn, .slice A2 n2 c2]) rfl rfl ?_; clear hF; intro w3 b3 hF)) | (refine TF.is ?_; first | refine TF.nil ?_ | refine TF.e rfl ?_ | (refine TF.pick rfl ?_; first | (apply TFo.ev; (case hd => rfl); (case h => (intro wh hF; first | exact ev_simple rfl | (apply Ev.isLoad; first | exact ev_loadAFr hF rfl (by refine ⟨?_, ?_⟩; (focus (repeat (first | exact InV.head | apply InV.tail))); rfl))))))) | (refine T.is ?_; first | refine T.seq ?_ | refine T.region ?_ | refine T.cond_t rfl ?_ | refine T.cond_f rfl ?_ | refine T.ret ?_ | refine T.skip ?_ | (refine T.regionFr hF 1 6 (.s 0 (.s 2 (.e 1 (.e 3 (.s 4 (.s 5 .nil)))))) mixed (by kernel_rfl) ?_; clear hF; intro wr hF)) | (refine G.is ?_; first | refine G.next ?_ | refine G.thenR ?_ | refine G.only ?_ | refine G.tree rfl (by first | exact hF | exact hF.weak (List.sublist_append_right _ _) (by repeat (first | exact allR | apply allT)) | exact hF.weak (by repeat (first | exact List.Sublist.refl _ | apply List.Sublist.cons)) (by repeat (first | exact allR | apply allT)) | exact hF.weak (by repeat (first | exact List.Sublist.refl _ | apply List.Sublist.cons)) (by repeat (first | exact allN | refine allH (by repeat (first | exact memH | apply memT)) ?_))) ?_) | refine TL.nil ?_)
    · exact G.ret1 rfl rfl ⟨by rw [← hz, if_pos (by assumption)], hF.ext⟩
    · exact G.ret1 rfl rfl ⟨by rw [← hz, if_neg (by assumption)], hF.ext⟩
theorem ev_notB {P : Program} {σ : Store} {H : Array Obj} {d : Option Tmp} {t : TypeId} {pos : String} {af : Array Edge} {gd : Option (Nat × Bool)} {x : Operand} {ty : TypeId} {b : Bool} (h : Eng.look σ x = some (.bool b)) : Ev P σ H ⟨d, .unOp .not ty x, t, pos, af, gd⟩ (.bool !b) := by
  cases b with
  | true => exact ev_not_t h
  | false => exact ev_not_f h
theorem ival_neg (n : Bool) (m : SA Nat) : ival ⟨!n, m⟩ = - ival ⟨n, m⟩ := by unfold ival sgn; cases n <;> simp
theorem zsub_ok (w : World) (x y : IV) (gx : GI w.heap x) (gy : GI w.heap y) (hx : x.m.n ≤ 17592186044416) (hy : y.m.n ≤ 17592186044416) : Cl Tryz.prog 83 #[.agg (ivc x).toArray, .agg (ivc y).toArray] w (RetZ w (ival x - ival y) (max x.m.n y.m.n + 1)) := by
  obtain ⟨xn, ⟨A1, n1, c1, l1⟩⟩ := x
  obtain ⟨yn, ⟨A2, n2, c2, l2⟩⟩ := y
  have ha := fun w1 (hE : Ext w w1) => zadd_ok w1 ⟨xn, ⟨A1, n1, c1, l1⟩⟩ ⟨!yn, ⟨A2, n2, c2, l2⟩⟩ (gx.ext hE) ⟨(gy.ext hE).s, gy.u⟩ hx hy
  rw [ival_neg, ← Int.sub_eq_add_neg] at ha
  dsimp only at ha ⊢
  refine enter Tryz.func83 rfl rfl rfl ?_
  have hF := Fr.refl w
  repeat' (first | (refine TL.isOp ?_; first | (refine TL.isCall ?_; refine TL.call rfl rfl ?_; first | (refine (ha _ hF.ext).mono ?_; rintro _ w1 ⟨z, rfl, hL, hE, hK⟩; replace hF := Fr.addLI (hF.exts hE) hL; clear hE hL; refine Back.mk ?_)) | (apply TL.ev; (case hd => rfl); (case h => (first | (apply Ev.isLoad; first | exact ev_loadFr hF rfl (by refine ⟨?_, ?_⟩; (focus (repeat (first | exact InV.head | apply InV.tail))); rfl) | exact ev_loadAFr hF rfl (by refine ⟨?_, ?_⟩; (focus (repeat (first | exact InV.head | apply InV.tail))); rfl)) | exact ev_fieldAddr rfl | exact ev_buildX rfl rfl | exact ev_notB rfl))) | (refine TL.storeAFr hF rfl rfl rfl rfl (by refine ⟨?_, ?_⟩; (focus (repeat (first | apply SetV.head | apply SetV.tail))); rfl) rfl ?_; clear hF; intro ws hF) | (refine TL.boxAFr hF (d := 2) (cs := [.bool xn, .slice A1 n1 c1]) rfl rfl ?_; clear hF; intro w2 b2 hF) | (refine TL.boxAFr hF (d := 3) (cs := [.bool yn, .slice A2 n2 c2]) rfl rfl ?_; clear hF; intro w3 b3 hF) | (refine TL.allocFr hF (d := 4) rfl rfl ?_; clear hF; intro w4 b4 hF)) | (refine T.is ?_; first | refine T.seq ?_ | refine T.region ?_ | refine T.ret ?_) | (refine G.is ?_; first | refine G.next ?_) | refine TL.nil ?_)
  exact G.retC1 rfl rfl (held_agg (hF.var (by repeat (first | exact InV.head | apply InV.tail))) rfl) ⟨z, rfl, Fr.li hF (by repeat (first | exact memH | apply memT)), hF.ext, hK⟩
end Go.Proofs.YthlbihbchobllaaGreat
