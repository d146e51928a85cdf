/- Layer 9: facts on matrices and integers that frames carry. -/
import Derived.Test.YtlhmehikajidhaaMatR
import Derived.Test.YtlhmehikajidhaaEngF
set_option linter.unusedVariables false
set_option linter.unusedSimpArgs false
namespace Go.Proofs.Ytlhmehikajidhaa
open Go Go.Eng Go.Proofs Go.NatM Go.RowKit

theorem Sl.deS {F : Nat → Prop} {H H' : Array Obj} {n c : Nat} {A : Option Addr} {l : List Nat} (hd : DE F H H') (h : Sl u64v H H.size A n c l) : Sl u64v H' H'.size A n c l := (Sl.de hd h).size
theorem Sm.deS {F : Nat → Prop} {H H' : Array Obj} {n c : Nat} {A : Option Addr} {l : List IV} (hF : ∀ b, fpA A n b → F b) (hd : DE F H H') (h : Sm 2 ivc H H.size A n c l) : Sm 2 ivc H' H'.size A n c l := (Sm.de hF hd h).size
theorem GI.de {F : Nat → Prop} {H H' : Array Obj} {x : IV} (hd : DE F H H') (h : GI H x) : GI H' x := ⟨Sl.deS hd h.s, h.u⟩
theorem LI.de {F : Nat → Prop} {H H' : Array Obj} {x : IV} {z : Int} (hd : DE F H H') (h : LI H z x) : LI H' z x := ⟨h.g.de hd, h.d, h.e⟩
theorem GM.de {H H' : Array Obj} {x : MV} {r c K : Nat} (hd : DE (fpA x.A x.n) H H') (h : GM H x r c K) : GM H' x r c K := ⟨h.sh, Sm.deS (fun _ h => h) hd h.s, fun y hy => ⟨(h.g y hy).1.de hd, (h.g y hy).2⟩⟩
theorem LM.de {H H' : Array Obj} {x : MV} {r c K : Nat} {F : Nat → Nat → Int} (hd : DE (fpA x.A x.n) H H') (h : LM H x r c F K) : LM H' x r c F K := ⟨h.sh, Sm.deS (fun _ h => h) hd h.s, fun i j hi hj => ⟨(h.g i j hi hj).1.de hd, (h.g i j hi hj).2⟩⟩
theorem RM.de {H H' : Array Obj} {x : MV} {K : Nat} (hd : DE (fpA x.A x.n) H H') (h : RM H x K) : RM H' x K := ⟨Sm.deS (fun _ h => h) hd h.s, fun y hy => ⟨(h.g y hy).1.de hd, (h.g y hy).2⟩⟩
def dpSl (A : Option Addr) (n c : Nat) (l : List Nat) : DP := ⟨fun H => Sl u64v H H.size A n c l, fun _ => False, fun _ _ _ h => h.elim, fun _ _ hd h => Sl.deS hd h⟩
def dpSm (A : Option Addr) (n c : Nat) (l : List IV) : DP := ⟨fun H => Sm 2 ivc H H.size A n c l, fpA A n, fun _ _ h hk => h.fp_lt hk, fun _ _ hd h => Sm.deS (fun _ h => h) hd h⟩
def dpGI (x : IV) : DP := ⟨fun H => GI H x, fun _ => False, fun _ _ _ h => h.elim, fun _ _ hd h => h.de hd⟩
def dpLI (z : Int) (x : IV) : DP := ⟨fun H => LI H z x, fun _ => False, fun _ _ _ h => h.elim, fun _ _ hd h => h.de hd⟩
def dpGM (x : MV) (r c K : Nat) : DP := ⟨fun H => GM H x r c K, fpA x.A x.n, fun _ _ h hk => h.s.fp_lt hk, fun _ _ hd h => h.de hd⟩
def dpLM (x : MV) (r c : Nat) (F : Nat → Nat → Int) (K : Nat) : DP := ⟨fun H => LM H x r c F K, fpA x.A x.n, fun _ _ h hk => h.s.fp_lt hk, fun _ _ hd h => h.de hd⟩
section
variable {w0 w w' : World} {L : List VB} {D : List DP}
theorem mf_fp {x : MV} (h : MF w x) (k : Nat) (hk : fpA x.A x.n k) : w.heap.size ≤ k := by
  obtain ⟨h0, o, e⟩ := hk
  rcases h with h | ⟨b, e', hb⟩
  · omega
  · rw [e] at e'; cases e'; exact hb
theorem Fr.addSl (h : Fr w0 w L D) {A : Option Addr} {n c : Nat} {l : List Nat} (k : Sl u64v w.heap w.heap.size A n c l) : Fr w0 w L (dpSl A n c l :: D) := h.add _ k fun _ _ h => h
theorem Fr.addGI (h : Fr w0 w L D) {x : IV} (k : GI w.heap x) : Fr w0 w L (dpGI x :: D) := h.add _ k fun _ _ h => h
theorem Fr.addLI (h : Fr w0 w L D) {x : IV} {z : Int} (k : LI w.heap z x) : Fr w0 w L (dpLI z x :: D) := h.add _ k fun _ _ h => h
theorem Fr.addLM (h : Fr w0 w L D) (hE : Ext w w') {x : MV} {r c K : Nat} {F : Nat → Nat → Int} (k : LM w'.heap x r c F K) (hf : MF w x) : Fr w0 w' L (dpLM x r c F K :: D) := h.addNew hE _ k (mf_fp hf)
theorem Fr.sl (h : Fr w0 w L D) {A : Option Addr} {n c : Nat} {l : List Nat} (hm : dpSl A n c l ∈ D) : Sl u64v w.heap w.heap.size A n c l := h.data _ hm
theorem Fr.sm (h : Fr w0 w L D) {A : Option Addr} {n c : Nat} {l : List IV} (hm : dpSm A n c l ∈ D) : Sm 2 ivc w.heap w.heap.size A n c l := h.data _ hm
theorem Fr.gi (h : Fr w0 w L D) {x : IV} (hm : dpGI x ∈ D) : GI w.heap x := h.data _ hm
theorem Fr.li (h : Fr w0 w L D) {x : IV} {z : Int} (hm : dpLI z x ∈ D) : LI w.heap z x := h.data _ hm
theorem Fr.gm (h : Fr w0 w L D) {x : MV} {r c K : Nat} (hm : dpGM x r c K ∈ D) : GM w.heap x r c K := h.data _ hm
theorem Fr.lm (h : Fr w0 w L D) {x : MV} {r c K : Nat} {F : Nat → Nat → Int} (hm : dpLM x r c F K ∈ D) : LM w.heap x r c F K := h.data _ hm
/-- another fact of the same matrix -/
theorem Fr.moreLM {x : MV} {r c K K' : Nat} {F G : Nat → Nat → Int} (h : Fr w0 w L (dpLM x r c F K :: D)) (hk : ∀ H, LM H x r c F K → LM H x r c G K') : Fr w0 w L (dpLM x r c G K' :: D) :=
  (h.weak (List.Sublist.refl _) (fun d hd => List.mem_cons_of_mem _ hd)).add _ (hk _ (h.data _ (List.mem_cons_self ..))) fun v hv hq => h.apart v hv _ (List.mem_cons_self ..) hq
end
attribute [irreducible] dpSl dpSm dpGI dpLI dpGM dpLM
end Go.Proofs.Ytlhmehikajidhaa
