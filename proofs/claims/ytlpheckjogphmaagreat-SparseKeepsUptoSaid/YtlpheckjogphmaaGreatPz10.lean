/- Statements about memory: the book's lists of integers. Statements about memory: the book's puts, and Apart of a book of words and integers. zint's answers, their words in blocks of their own: Least, Mul, Add, MulAdd, Sub. build, its integers' words in blocks of their own. -/
import Derived.Test.YtlpheckjogphmaaGreatPz9
import Derived.Test.YtlpheckjogphmaaGreatPz3
import Derived.Test.YtlpheckjogphmaaGreatPz6
import Derived.Test.YtlpheckjogphmaaGreatPz5
set_option maxHeartbeats 8000000
set_option linter.unusedVariables false
set_option linter.unusedSimpArgs false
namespace Go.Eng
open Go Go.RowKit
def siv (x : SA IV) : Value := .slice x.A x.n x.c
theorem TL.storeSI {P : Program} {N : Fm} {Q : Exit → Act → World → Prop} {σ : Store} {w : World} {ops : Array Oper} {t : TypeId} {pos : String} {af : Array Edge} {rest : List Oper} {x y : Operand} {ty e : TypeId} {z0 : Value} {b1 : Nat} [hS : USize P ty z0 1 b1] {b k : Nat} {l : List (SA IV)} {A : Option Addr} {n c : Nat} (u : SA IV) (hu : u.A = A ∧ u.n = n ∧ u.c = c)
    (hx : look σ x = some (.pointer (elemA (some ⟨b, 0, none⟩) k))) (hy : look σ y = some (.slice A n c)) (hB : Bk siv w.heap b e l) (hk : k < l.length)
    (K : ∀ w', Bk siv w'.heap b e (l.set k u) → Upd b w w' → TL P N .seq ops Q rest σ w') :
    TL P N .seq ops Q (⟨none, .store ty x y, t, pos, af, none⟩ :: rest) σ w := by
  obtain ⟨rfl, rfl, rfl⟩ := hu
  have := TL.store (P := P) (N := N) (ops := ops) (Q := Q) (rest := rest) (ty := ty) (t := t) (pos := pos) (af := af) (f := siv) (o := 0) (k := k) (u := u) rfl rfl (by rw [hx]; simp [elemA, add_mk]) hy hB (by omega)
  rw [Nat.zero_add] at this
  exact this K
end Go.Eng
namespace Go.Proofs.YtlpheckjogphmaaGreat
open Go Go.Eng Go.Proofs Go.NatM Go.RowKit
instance : Inhabited (SA IV) := ⟨⟨none, 0, 0, []⟩⟩
abbrev siA (ws : List (SA IV)) (i : Nat) : SA IV := ws.getD i default
theorem ivc_w (x : IV) : (ivc x).length = 2 := rfl
theorem ivc_n (x : IV) : (ivc x).all noU64 = true := rfl
theorem ivc_1 (x : IV) : (ivc x).all (·.oneCell') = true := rfl
abbrev OwI (H : Array Obj) (A : Option Addr) (n c : Nat) (l : List IV) : Prop := OwC 2 ivc H 27 A n c l
theorem OwI.smI {H : Array Obj} {A : Option Addr} {n c : Nat} {l : List IV} (h : OwI H A n c l) : Sm 2 ivc H H.size A n c l := OwC.sm (by omega) ivc_w h
def mki (b v : Nat) : IV := ⟨false, ⟨some ⟨b, 0, none⟩, 1, 1, [v]⟩⟩
def MkB (ms : List (Nat × Nat)) (i : Nat) (l : List IV) (q : Nat) : Prop := ∀ j, j < q → ∃ b, l[j]? = some (mki b (sgv i j)) ∧ (b, sgv i j) ∈ ms
theorem MkB.zero (ms : List (Nat × Nat)) (i : Nat) (l : List IV) : MkB ms i l 0 := fun j h => absurd h (Nat.not_lt_zero _)
theorem MkB.cons {ms : List (Nat × Nat)} {i : Nat} {l : List IV} {q : Nat} (h : MkB ms i l q) (x : Nat × Nat) : MkB (x :: ms) i l q := fun j hj => by
  obtain ⟨b, h1, h2⟩ := h j hj
  exact ⟨b, h1, List.mem_cons_of_mem _ h2⟩
theorem MkB.set {ms : List (Nat × Nat)} {i : Nat} {l : List IV} {q b : Nat} (h : MkB ms i l q) (hq : q < l.length) : MkB ((b, sgv i q) :: ms) i (l.set q (mki b (sgv i q))) (q + 1) := fun j hj => by
  by_cases e : j = q
  · subst e; exact ⟨b, by simp [hq], List.mem_cons_self ..⟩
  · obtain ⟨b', h1, h2⟩ := h j (by omega)
    exact ⟨b', by rw [List.getElem?_set_ne (Ne.symm e)]; exact h1, List.mem_cons_of_mem _ h2⟩
theorem MkB.app {ms : List (Nat × Nat)} {i : Nat} {l : List IV} {q b : Nat} (h : MkB ms i l q) (hq : l.length = q) : MkB ((b, sgv i q) :: ms) i (l ++ [mki b (sgv i q)]) (q + 1) := fun j hj => by
  by_cases e : j = q
  · subst e; subst hq; exact ⟨b, by simp, List.mem_cons_self ..⟩
  · obtain ⟨b', h1, h2⟩ := h j (by omega)
    exact ⟨b', by rw [List.getElem?_append_left (by omega)]; exact h1, List.mem_cons_of_mem _ h2⟩
theorem MkB.take {ms : List (Nat × Nat)} {i : Nat} {l : List IV} {q m : Nat} (h : MkB ms i l q) (hm : m ≤ q) : MkB ms i (l.take m) m := fun j hj => by
  obtain ⟨b, h1, h2⟩ := h j (by omega)
  exact ⟨b, by rw [List.getElem?_take, if_pos hj]; exact h1, h2⟩
def dkW (ms : List (Nat × Nat)) : DK where
  p H := ∀ q ∈ ms, Bk u64v H q.1 64 [q.2]
  fp k := ∃ q ∈ ms, q.1 = k
  lt H k h := fun ⟨q, hq, hk⟩ => by subst hk; exact (h q hq).lt
  st H H' hd h := fun q hq => vr_bk (f := u64v) (l := [q.2]) ((hd.block q.1 (h q hq).lt ⟨q, hq, rfl⟩).trans (bk_vr (h q hq)))
theorem Fk.mark {S : Nat → Prop} {w0 w w' : World} {L : List VB} {D : List DK} {ms : List (Nat × Nat)} {b v : Nat} (h : Fk S w0 w L (dkW ms :: D)) (hE : Ext w w') (hb : b = w.heap.size) (hB : Bk u64v w'.heap b 64 [v]) : Fk S w0 w' L (dkW ((b, v) :: ms) :: D) :=
  h.write SetD.head (.of hE) (fun q hq => by
    rcases List.mem_cons.1 hq with rfl | hq
    · exact hB
    · exact (h.get kmemH q hq).ext hE) fun k => fun ⟨q, hq, hk⟩ => by
    rcases List.mem_cons.1 hq with rfl | hq
    · exact .inr (by subst hk; dsimp only; omega)
    · exact .inl ⟨q, hq, hk⟩
theorem dkW_sl {S : Nat → Prop} {w0 w : World} {L : List VB} {D : List DK} {ms : List (Nat × Nat)} {b v : Nat} (h : Fk S w0 w L (dkW ms :: D)) (hm : (b, v) ∈ ms) : Sl u64v w.heap w.heap.size (some ⟨b, 0, none⟩) 1 1 [v] := by
  have hB : Bk u64v w.heap b 64 [v] := h.get kmemH _ hm
  exact hB.slN (n := 1) (c := 1) rfl (Nat.le_refl _) hB.lt
def dkI (ws : List (SA IV)) (f : Nat → List IV) : DK where
  p H := ∀ i, i < ws.length → OwI H (siA ws i).A (siA ws i).n (siA ws i).c (f i)
  fp k := ∃ i, i < ws.length ∧ blk (siA ws i).A k
  lt H k h := fun ⟨i, hi, hk⟩ => (h i hi).blt hk
  st H H' hd h := fun i hi => (h i hi).de hd fun k hk => ⟨i, hi, hk⟩
def OwnI (ws : List (SA IV)) : Prop := ∀ i j, i < ws.length → j < ws.length → i ≠ j → ∀ k, blk (siA ws i).A k → ¬ blk (siA ws j).A k
def inBookI (ws : List (SA IV)) (k : Nat) : Prop := ∃ i, i < ws.length ∧ blk (siA ws i).A k
theorem dkI_upd {w w' : World} {ws : List (SA IV)} {f f' : Nat → List IV} {i : Nat} (hd : OwnI ws) (h : (dkI ws f).p w.heap) (hi : i < ws.length) (hE : Exs (fun j => blk (siA ws i).A j) w w')
    (hO : OwI w'.heap (siA ws i).A (siA ws i).n (siA ws i).c (f' i)) (hf : ∀ j, j ≠ i → f' j = f j) : (dkI ws f').p w'.heap := fun j hj => by
  by_cases e : j = i
  · subst e; exact hO
  · rw [hf j e]; exact (h j hj).exs hE fun k hk => hd j i hj hi e k hk
def dkIG (ws G : List (SA IV)) (f : Nat → List IV) (i : Nat) : DK where
  p H := (∀ k, k < ws.length → OwI H (siA ws k).A (siA ws k).n (siA ws k).c (f k)) ∧ ∀ k, k < i → OwI H (siA G k).A ((siA ws k).n + 80) (siA G k).c (siA G k).l
  fp b := inBookI ws b ∨ ∃ k, k < i ∧ blk (siA G k).A b
  lt H k h := fun hf => hf.elim (fun ⟨i, hi, hk⟩ => (h.1 i hi).blt hk) (fun ⟨i, hi, hk⟩ => (h.2 i hi).blt hk)
  st H H' hd h := ⟨fun k hk => (h.1 k hk).de hd fun b hb => .inl ⟨k, hk, hb⟩, fun k hk => (h.2 k hk).de hd fun b hb => .inr ⟨k, hk, hb⟩⟩
def dkIR (ws G : List (SA IV)) (f : Nat → List IV) (i : Nat) : DK where
  p H := (∀ k, k < ws.length → k ≠ i → OwI H (siA ws k).A (siA ws k).n (siA ws k).c (f k)) ∧ ∀ k, k < i → OwI H (siA G k).A ((siA ws k).n + 80) (siA G k).c (siA G k).l
  fp b := (∃ k, k < ws.length ∧ k ≠ i ∧ blk (siA ws k).A b) ∨ ∃ k, k < i ∧ blk (siA G k).A b
  lt H k h := fun hf => hf.elim (fun ⟨i, hi, hne, hk⟩ => (h.1 i hi hne).blt hk) (fun ⟨i, hi, hk⟩ => (h.2 i hi).blt hk)
  st H H' hd h := ⟨fun k hk hne => (h.1 k hk hne).de hd fun b hb => .inl ⟨k, hk, hne, hb⟩, fun k hk => (h.2 k hk).de hd fun b hb => .inr ⟨k, hk, hb⟩⟩
def dkIC (A : Option Addr) (n c : Nat) (l : List IV) (A2 : Option Addr) (m c2 : Nat) (l2 : List IV) : DK where
  p H := OwI H A n c l ∧ OwI H A2 m c2 l2
  fp b := blk A b ∨ blk A2 b
  lt H k h := fun hf => hf.elim (fun hk => h.1.blt hk) (fun hk => h.2.blt hk)
  st H H' hd h := ⟨h.1.de hd fun b hb => .inl hb, h.2.de hd fun b hb => .inr hb⟩
def fSet (f : Nat → List IV) (i : Nat) (l : List IV) (k : Nat) : List IV := if k = i then l else f k
theorem fSet_i (f : Nat → List IV) (i : Nat) (l : List IV) : fSet f i l i = l := if_pos rfl
theorem fSet_o (f : Nat → List IV) {i k : Nat} (l : List IV) (h : k ≠ i) : fSet f i l k = f k := if_neg h
set_option maxRecDepth 100000 in
theorem ints_ok (w : World) (bb : Nat) (ws : List (SA IV)) (WA : Option Addr) (wn wc : Nat) (y z : Value) (hV : Vr w.heap bb 54 [y, .slice WA wn wc, z]) (hW : Sl siv w.heap w.heap.size WA wn wc ws)
    (hO : (dkI ws (fun i => (siA ws i).l)).p w.heap) (hd : OwnI ws) (hbb : ¬ inBookI ws bb) (hbW : ∀ k, fpA WA wn k → ¬ inBookI ws k) (hn : wn ≤ 4294967296) (hl : ∀ i, i < wn → (siA ws i).n ≤ 1099511627776) :
    Cl Tryz.prog 52 #[.pointer (some ⟨bb, 0, none⟩)] w (fun e w' => e = .returned (.bool true) ∧ Exs (inBookI ws) w w') := by
  have hlen := hW.len
  have hget : ∀ i, i < wn → ws[i]? = some (siA ws i) := fun i hi => by simp [siA, List.getD, show i < ws.length by omega]
  have hblt : ∀ i, i < ws.length → ∀ b, blk (siA ws i).A b → b < w.heap.size := fun i hi b hb => (hO i hi).blt hb
  refine enter Tryz.func52 rfl rfl rfl ?_
  have hF := (Fk.own0 (S := inBookI ws) (dkI ws (fun i => (siA ws i).l)) hO (fun k hk => hk)).add0 (dkW []) (fun q hq => by cases hq) (fun k => fun ⟨q, hq, _⟩ => by cases hq)
  repeat' (first | (refine TL.isOp ?_; first | (apply TL.ev; (case hd => rfl); (case h => (first | exact ev_simple rfl)))) | (refine T.is ?_; first | refine T.seq ?_ | refine T.region ?_ | refine T.block ?_) | (refine G.is ?_; first | refine G.next ?_) | refine TL.nil ?_)
  refine T.loop (α := Nat × (Nat → List IV) × List (Nat × Nat)) (fun x => [(0, .pointer (some ⟨bb, 0, none⟩)), (3, .int .i64 (x.1 : Int))])
    (fun x w' => x.1 ≤ wn ∧ Fk (inBookI ws) w w' [] [dkW x.2.2, dkI ws x.2.1] ∧ ∀ k, k < x.1 → MkB x.2.2 k (x.2.1 k) (siA ws k).n)
    (fun x => wn - x.1) (0, (fun i => (siA ws i).l), []) (by repeat (first | exact Sub.nil _ | refine Sub.cons rfl ?_ | refine Sub.cons' rfl (int_congr (by omega)) ?_)) ⟨Nat.zero_le _, hF, fun k hk => absurd hk (Nat.not_lt_zero _)⟩ ?_
  clear hF
  rintro ⟨i, f, ms⟩ w2 ⟨hi, hF, hf⟩
  dsimp only at hi hF hf ⊢
  rcases Nat.lt_or_ge i wn with hin | hin
  · have hg := hget i hin
    have hni := hl i hin
    generalize hx : siA ws i = x at hg hni
    obtain ⟨A, n, c, l⟩ := x
    dsimp only at hni
    repeat' (first | (refine TL.isOp ?_; first | (refine TL.isBin ?_; refine TL.cmpG rfl rfl rfl rfl (fun hc => ?_) (fun hc => ?_) <;> (try (first | (exfalso; omega) | exact absurd rfl hc))) | (apply TL.ev; (case hd => rfl); (case h => (first | exact ev_simple rfl | (apply Ev.isLoad; first | exact ev_loadV rfl (hV.exs hF.exs hbb) rfl | exact ev_loadSl (f := siv) rfl (hW.exs hF.exs hbW) hg) | exact ev_len rfl | exact ev_fieldAddr rfl | exact ev_nilCheck rfl | exact ev_indexN rfl rfl hin (hW.exs hF.exs hbW).some)))) | (refine T.is ?_; first | refine T.seq ?_ | refine T.region ?_ | refine T.block ?_ | refine T.cond_t rfl ?_ | refine T.skip ?_) | (refine G.is ?_; first | refine G.next ?_) | refine TL.nil ?_)
    refine T.loop (α := Nat × (Nat → List IV) × List (Nat × Nat)) (fun q => [(0, .pointer (some ⟨bb, 0, none⟩)), (3, .int .i64 (i : Int)), (4, .slice A n c), (5, .int .i64 (q.1 : Int))])
      (fun q w' => q.1 ≤ n ∧ Fk (inBookI ws) w w' [] [dkW q.2.2, dkI ws q.2.1] ∧ (∀ k, k < i → MkB q.2.2 k (q.2.1 k) (siA ws k).n) ∧ MkB q.2.2 i (q.2.1 i) q.1)
      (fun q => n - q.1) (0, f, ms) (by repeat (first | exact Sub.nil _ | refine Sub.cons rfl ?_ | refine Sub.cons' rfl (int_congr (by omega)) ?_)) ⟨Nat.zero_le _, hF, hf, MkB.zero _ _ _⟩ ?_
    clear hF hf f ms
    rintro ⟨j, f, ms⟩ w2 ⟨hj, hF, hf, hfi⟩
    dsimp only at hj hF hf hfi ⊢
    have hlen2 : (f i).length = n := by
      have h := hF.get (kmemT kmemH) i (by omega)
      rw [hx] at h
      exact h.1
    rcases Nat.lt_or_ge j n with hjn | hjn
    · repeat' (first | (refine TL.isOp ?_; first | (refine TL.isCall ?_; refine TL.call rfl rfl ?_; first | (refine (sign_ok (i := i) (j := j) _ (by omega) (by omega)).mono ?_; rintro _ wy ⟨rfl, hE⟩; replace hF := hF.exts hE; clear hE; refine Back.mk ?_)) | (refine TL.isBin ?_; refine TL.cmpG rfl rfl rfl rfl (fun hc => ?_) (fun hc => ?_) <;> (try (first | (exfalso; omega) | exact absurd rfl hc))) | (apply TL.ev; (case hd => rfl); (case h => (first | exact ev_simple rfl | (apply Ev.isBin; first | exact ev_arN rfl rfl rfl (by omega)) | exact ev_len rfl | exact ev_buildX rfl rfl | exact ev_indexM rfl rfl hjn (OwI.smI hOk).some))) | (refine TL.build1U (d := 42) rfl rfl ?_; intro w42 b42 eb hB hE hz; replace hF := Fk.mark hF hE eb hB; clear hB hE hz eb; have hOk : OwI w42.heap A n c (f i) := (by have h := hF.get (kmemT kmemH) i (by omega); rw [hx] at h; exact h)) | (refine TL.storeOwC (f := ivc) ivc_w ivc_n (i := j) (mki b42 (sgv i j)) rfl rfl rfl rfl hOk hjn ?_; intro ws1 hOs hEs)) | (refine T.is ?_; first | refine T.seq ?_ | refine T.region ?_ | refine T.block ?_ | refine T.cond_t rfl ?_ | refine T.skip ?_) | (refine G.is ?_; first | refine G.next ?_ | refine G.blockN ?_) | refine TL.nil ?_)
      have hF2 := hF.write (e := dkI ws (fSet f i ((f i).set j (mki b42 (sgv i j))))) (SetD.tail SetD.head) (hEs.mono fun k _ hk => ⟨i, by omega, by rw [hx]; exact hk⟩)
        (dkI_upd hd (hF.get (kmemT kmemH)) (i := i) (by omega) (by rw [hx]; exact hEs) (by rw [hx]; dsimp only; rw [fSet_i]; exact hOs) (fun j hj => fSet_o _ _ hj)) (fun k hk => .inl hk)
      refine G.again (j + 1, fSet f i ((f i).set j (mki b42 (sgv i j))), (b42, sgv i j) :: ms) (by repeat (first | exact Sub.nil _ | refine Sub.cons rfl ?_ | refine Sub.cons' rfl (int_congr (by omega)) ?_)) ⟨by dsimp only; omega, hF2, fun k hk => ?_, ?_⟩ (by dsimp only; omega)
      · dsimp only
        rw [fSet_o _ _ (Nat.ne_of_lt hk)]; exact (hf k hk).cons _
      · dsimp only
        rw [fSet_i]; exact hfi.set (by omega)
    · obtain rfl : n = j := by omega
      repeat' (first | (refine TL.isOp ?_; first | (refine TL.isBin ?_; refine TL.cmpG rfl rfl rfl rfl (fun hc => ?_) (fun hc => ?_) <;> (try (first | (exfalso; omega) | exact absurd rfl hc))) | (apply TL.ev; (case hd => rfl); (case h => (first | exact ev_simple rfl | (apply Ev.isBin; first | exact ev_arN rfl rfl rfl (by omega)) | exact ev_len rfl)))) | (refine T.is ?_; first | refine T.seq ?_ | refine T.region ?_ | refine T.cond_f rfl ?_ | refine T.exit ?_) | (refine G.is ?_; first | refine G.next ?_ | refine G.blockN ?_ | refine G.blockE ?_ | refine G.thenE ?_) | refine TL.nil ?_)
      refine G.again (i + 1, f, ms) (by repeat (first | exact Sub.nil _ | refine Sub.cons rfl ?_ | refine Sub.cons' rfl (int_congr (by omega)) ?_)) ⟨by dsimp only; omega, hF, fun k hk => ?_⟩ (by dsimp only; omega)
      dsimp only at hk ⊢
      rcases Nat.lt_or_ge k i with h | h
      · exact hf k h
      · obtain rfl : k = i := by omega
        rw [hx]; exact hfi
  · obtain rfl : wn = i := by omega
    repeat' (first | (refine TL.isOp ?_; first | (refine TL.isBin ?_; refine TL.cmpG rfl rfl rfl rfl (fun hc => ?_) (fun hc => ?_) <;> (try (first | (exfalso; omega) | exact absurd rfl hc))) | (apply TL.ev; (case hd => rfl); (case h => (first | exact ev_simple rfl | (apply Ev.isLoad; first | exact ev_loadV rfl (hV.exs hF.exs hbb) rfl) | exact ev_len rfl | exact ev_fieldAddr rfl | exact ev_nilCheck rfl))) | (refine TL.make siv default (d := 50) rfl rfl rfl rfl rfl (Nat.le_refl _) (by omega) ?_; intro wg bg ebg hBg hEg hzg; replace hF := hF.new ebg (bk_vr hBg) hEg; clear ebg hBg hEg hzg)) | (refine T.is ?_; first | refine T.seq ?_ | refine T.region ?_ | refine T.block ?_ | refine T.cond_f rfl ?_ | refine T.exit ?_) | (refine G.is ?_; first | refine G.next ?_ | refine G.blockE ?_ | refine G.thenE ?_) | refine TL.nil ?_)
    have hF2 := hF.re [dkW ms, dkIG ws (List.replicate wn default) f 0] (fun d hd => by
      rcases List.mem_cons.1 hd with rfl | hd
      · exact hF.get kmemH
      · rw [List.mem_singleton] at hd; subst hd
        exact ⟨fun k hk => hF.get (kmemT kmemH) k hk, fun k hk => absurd hk (Nat.not_lt_zero _)⟩) (fun d hd k hk => by
      rcases List.mem_cons.1 hd with rfl | hd
      · exact ⟨_, kmemH, hk⟩
      · rw [List.mem_singleton] at hd; subst hd
        exact ⟨_, kmemT kmemH, hk.elim id fun ⟨i, hi, _⟩ => absurd hi (Nat.not_lt_zero _)⟩) (List.pairwise_cons.2 ⟨fun e he b hb => by
        rw [List.mem_singleton] at he; subst he
        rintro (h | ⟨i, hi, _⟩)
        · exact hF.two (D1 := []) (D2 := [dkI ws f]) rfl (.inr kmemH) b hb h
        · exact absurd hi (Nat.not_lt_zero _), List.pairwise_singleton _ _⟩)
    clear hF
    refine T.loop (α := Nat × List (SA IV) × (Nat → List IV) × List (Nat × Nat)) (fun x => [(0, .pointer (some ⟨bb, 0, none⟩)), (6, .slice (some ⟨bg, 0, none⟩) wn wn), (7, .int .i64 (x.1 : Int))])
      (fun x w' => x.1 ≤ wn ∧ x.2.1.length = wn ∧ Fk (inBookI ws) w w' [⟨bg, 22, x.2.1.map siv⟩] [dkW x.2.2.2, dkIG ws x.2.1 x.2.2.1 x.1] ∧ (∀ k, k < wn → MkB x.2.2.2 k (x.2.2.1 k) (siA ws k).n) ∧ ∀ k, k < x.1 → (siA x.2.1 k).n = (siA ws k).n + 80 ∧ MkB x.2.2.2 k (siA x.2.1 k).l ((siA ws k).n + 80) ∧ ((siA x.2.1 k).A = (siA ws k).A ∨ ∀ b, blk (siA x.2.1 k).A b → w.heap.size ≤ b))
      (fun x => wn - x.1) (0, List.replicate wn default, f, ms) (by repeat (first | exact Sub.nil _ | refine Sub.cons rfl ?_ | refine Sub.cons' rfl (int_congr (by omega)) ?_)) ⟨Nat.zero_le _, by simp, hF2, hf, fun k hk => absurd hk (Nat.not_lt_zero _)⟩ ?_
    clear hF2 hf f ms
    rintro ⟨i, Gs, f, ms⟩ w2 ⟨hi, hG, hF, hf, hGk⟩
    dsimp only at hi hG hF hf hGk ⊢
    rcases Nat.lt_or_ge i wn with hin | hin
    · have hg := hget i hin
      have hni := hl i hin
      have hbi := hblt i (by omega)
      have hdi := fun k hk hne => hd i k (by omega) hk hne
      generalize hx : siA ws i = x at hg hni hbi hdi
      obtain ⟨A, n, c, l⟩ := x
      dsimp only at hni hbi hdi
      repeat' (first | (refine TL.isOp ?_; first | (refine TL.isBin ?_; refine TL.cmpG rfl rfl rfl rfl (fun hc => ?_) (fun hc => ?_) <;> (try (first | (exfalso; omega) | exact absurd rfl hc))) | (apply TL.ev; (case hd => rfl); (case h => (first | exact ev_simple rfl | (apply Ev.isLoad; first | exact ev_loadV rfl (hV.exs hF.exs hbb) rfl | exact ev_loadSl (f := siv) rfl (hW.exs hF.exs hbW) hg) | exact ev_len rfl | exact ev_fieldAddr rfl | exact ev_nilCheck rfl | exact ev_indexN rfl rfl hin (hW.exs hF.exs hbW).some)))) | (refine T.is ?_; first | refine T.seq ?_ | refine T.region ?_ | refine T.block ?_ | refine T.cond_t rfl ?_ | refine T.skip ?_) | (refine G.is ?_; first | refine G.next ?_) | refine TL.nil ?_)
      have hfi : MkB ms i (f i) n := by have := hf i hin; rw [hx] at this; exact this
      have hap := hF.two (D1 := []) (D2 := [dkIG ws Gs f i]) rfl (.inr kmemH)
      have hOi := (hF.get (kmemT kmemH)).1 i (by omega)
      rw [hx] at hOi
      change OwI _ A n c (f i) at hOi
      have hlf := hOi.1
      have hF2 := hF.re [dkW ms, dkIC A n c (f i) A n c (f i), dkIR ws Gs f i] (fun d hd => by
        rcases List.mem_cons.1 hd with rfl | hd
        · exact hF.get kmemH
        rcases List.mem_cons.1 hd with rfl | hd
        · exact ⟨hOi, hOi⟩
        · rw [List.mem_singleton] at hd; subst hd
          exact ⟨fun k hk _ => (hF.get (kmemT kmemH)).1 k hk, (hF.get (kmemT kmemH)).2⟩) (fun d hd k hk => by
        rcases List.mem_cons.1 hd with rfl | hd
        · exact ⟨_, kmemH, hk⟩
        refine ⟨_, kmemT kmemH, ?_⟩
        rcases List.mem_cons.1 hd with rfl | hd
        · exact .inl ⟨i, by omega, by rw [hx]; exact hk.elim id id⟩
        · rw [List.mem_singleton] at hd; subst hd
          exact hk.imp (fun ⟨k, h1, _, h2⟩ => ⟨k, h1, h2⟩) id) (List.pairwise_cons.2 ⟨fun e he b hb => by
        rcases List.mem_cons.1 he with rfl | he
        · exact fun h => hap b hb (.inl ⟨i, by omega, by rw [hx]; exact h.elim id id⟩)
        · rw [List.mem_singleton] at he; subst he
          exact fun h => hap b hb (h.imp (fun ⟨k, h1, _, h2⟩ => ⟨k, h1, h2⟩) id), List.pairwise_cons.2 ⟨fun e he b hb => by
        rw [List.mem_singleton] at he; subst he
        have hb' : blk A b := hb.elim id id
        rintro (⟨k, h1, h2, h3⟩ | ⟨k, h1, h3⟩)
        · exact hdi k h1 (Ne.symm h2) b hb' h3
        · rcases (hGk k h1).2.2 with h4 | h4
          · rw [h4] at h3; exact hdi k (by omega) (by omega) b hb' h3
          · have := h4 b h3; have := hbi b hb'; omega, List.pairwise_singleton _ _⟩⟩)
      clear hF hap hOi
      refine T.loop (α := Nat × (Option Addr × Nat) × (List IV × List IV) × List (Nat × Nat)) (fun q => [(0, .pointer (some ⟨bb, 0, none⟩)), (6, .slice (some ⟨bg, 0, none⟩) wn wn), (7, .int .i64 (i : Int)), (8, .slice q.2.1.1 (n + q.1) q.2.1.2), (9, .int .i64 (q.1 : Int))])
        (fun q w' => q.1 ≤ 80 ∧ Fk (inBookI ws) w w' [⟨bg, 22, Gs.map siv⟩] [dkW q.2.2.2, dkIC A n c q.2.2.1.1 q.2.1.1 (n + q.1) q.2.1.2 q.2.2.1.2, dkIR ws Gs f i] ∧ (q.2.1.1 = A ∧ q.2.1.2 = c ∨ ∀ b, blk q.2.1.1 b → w.heap.size ≤ b)
          ∧ MkB q.2.2.2 i q.2.2.1.1 n ∧ MkB q.2.2.2 i q.2.2.1.2 (n + q.1) ∧ q.2.2.1.2.length = n + q.1 ∧ (∀ k, k < wn → MkB q.2.2.2 k (f k) (siA ws k).n) ∧ ∀ k, k < i → MkB q.2.2.2 k (siA Gs k).l ((siA ws k).n + 80))
        (fun q => 80 - q.1) (0, (A, c), (f i, f i), ms) (by repeat (first | exact Sub.nil _ | refine Sub.cons rfl ?_ | refine Sub.cons' rfl (int_congr (by omega)) ?_)) ⟨Nat.zero_le _, hF2, .inl ⟨rfl, rfl⟩, hfi, hfi, hlf, hf, fun k hk => (hGk k hk).2.1⟩ ?_
      replace hGk := fun k hk => And.intro (hGk k hk).1 (hGk k hk).2.2
      clear hF2 hf hfi hlf ms
      rintro ⟨q, ⟨A2, c2⟩, ⟨l1, l2⟩, ms⟩ w2 ⟨hq, hF, hA2, hm1, hm2, hl2, hf, hmG⟩
      dsimp only at hq hF hA2 hm1 hm2 hl2 hf hmG ⊢
      rcases Nat.lt_or_ge q 80 with hqn | hqn
      · repeat' (first | (refine TL.isOp ?_; first | (refine TL.isCall ?_; refine TL.call rfl rfl ?_; first | (refine (sign_ok (i := i) (j := n + q) _ (by omega) (by omega)).mono ?_; rintro _ wy ⟨rfl, hE⟩; replace hF := hF.exts hE; clear hE; refine Back.mk ?_)) | (refine TL.isBin ?_; refine TL.cmpG rfl rfl rfl rfl (fun hc => ?_) (fun hc => ?_) <;> (try (first | (exfalso; omega) | exact absurd rfl hc))) | (apply TL.ev; (case hd => rfl); (case h => (first | exact ev_simple rfl | (apply Ev.isBin; first | exact ev_arN rfl rfl rfl (by omega)) | exact ev_len rfl | exact ev_buildX rfl rfl))) | (refine TL.build1U (d := 76) rfl rfl ?_; intro w76 b76 eb hB hE hz; replace hF := Fk.mark hF hE eb hB; clear hB hE hz eb) | (refine TL.buildX1 (f := ivc) (u := mki b76 (sgv i (n + q))) rfl rfl rfl rfl rfl rfl rfl (fun wn78 b78 ebn hVn hSn hEn hzn => ?_); replace hF := hF.exts hEn; clear ebn hVn hEn hzn) | (refine TL.appendOwC (f := ivc) (z := [.bool false, .slice none 0 0]) ivc_w ivc_n ivc_1 rfl rfl rfl rfl (hF.get (kmemT kmemH)).2 hSn rfl rfl (by omega) ?_; intro w79 A3 c3 hO3 hcase)) | (refine T.is ?_; first | refine T.seq ?_ | refine T.region ?_ | refine T.block ?_ | refine T.cond_t rfl ?_ | refine T.skip ?_) | (refine G.is ?_; first | refine G.next ?_ | refine G.blockN ?_) | refine TL.nil ?_)
        have hOA := (hF.get (kmemT kmemH)).1
        have hla := hOA.1
        have hm3 := hm2.app (b := b76) hl2
        have hfin : ∃ l1', Fk (inBookI ws) w w79 [⟨bg, 22, Gs.map siv⟩] [dkW ((b76, sgv i (n + q)) :: ms), dkIC A n c l1' A3 (n + (q + 1)) c3 (l2 ++ [mki b76 (sgv i (n + q))]), dkIR ws Gs f i] ∧ (A3 = A ∧ c3 = c ∨ ∀ b, blk A3 b → w.heap.size ≤ b) ∧ MkB ((b76, sgv i (n + q)) :: ms) i l1' n := by
          rcases hcase with ⟨rfl, rfl, hs, hE3⟩ | ⟨hfr, hE3⟩
          · rcases hA2 with ⟨rfl, rfl⟩ | h
            · exact ⟨_, hF.write (SetD.tail SetD.head) (hE3.mono fun k _ hk => .inr hk) ⟨OwC.take ivc_w ivc_n hO3 (m := n) (by omega) hs, hO3⟩ (fun k hk => .inl hk), .inl ⟨rfl, rfl⟩, hm3.take (by omega)⟩
            · exact ⟨_, hF.write (SetD.tail SetD.head) (hE3.mono fun k _ hk => .inr hk) ⟨hOA.exs hE3 fun k hk hk' => by have := h k hk'; have := hbi k hk; omega, hO3⟩ (fun k hk => .inl hk), .inr h, hm1.cons _⟩
          · exact ⟨_, hF.write (SetD.tail SetD.head) (.of hE3) ⟨hOA.ext hE3, hO3⟩ (fun k hk => hk.elim (fun h => .inl (.inl h)) (fun h => .inr (hfr k h))), .inr fun b hb => Nat.le_trans hF.exs.size (hfr b hb), hm1.cons _⟩
        obtain ⟨l1', hF3, hA3, hm4⟩ := hfin
        exact G.again (q + 1, (A3, c3), (l1', l2 ++ [mki b76 (sgv i (n + q))]), (b76, sgv i (n + q)) :: ms) (by repeat (first | exact Sub.nil _ | refine Sub.cons rfl ?_ | refine Sub.cons' rfl (int_congr (by omega)) ?_)) ⟨by dsimp only; omega, hF3, hA3, hm4, hm3, (by dsimp only; rw [List.length_append, hl2]; rfl), fun k hk => (hf k hk).cons _, fun k hk => (hmG k hk).cons _⟩ (by dsimp only; omega)
      · obtain rfl : q = 80 := by omega
        repeat' (first | (refine TL.isOp ?_; first | (refine TL.isBin ?_; refine TL.cmpG rfl rfl rfl rfl (fun hc => ?_) (fun hc => ?_) <;> (try (first | (exfalso; omega) | exact absurd rfl hc))) | (apply TL.ev; (case hd => rfl); (case h => (first | exact ev_simple rfl | (apply Ev.isBin; first | exact ev_arN rfl rfl rfl (by omega)) | exact ev_indexN rfl rfl hin (.inr rfl)))) | (refine TL.storeSI ⟨A2, n + 80, c2, l2⟩ ⟨rfl, rfl, rfl⟩ rfl rfl (vr_bk (hF.var InV.head)) (by omega) ?_; intro ws2 hB2 hU2; replace hF := hF.store SetV.head hU2 (bk_vr hB2); clear hB2 hU2)) | (refine T.is ?_; first | refine T.seq ?_ | refine T.region ?_ | refine T.cond_f rfl ?_ | refine T.exit ?_) | (refine G.is ?_; first | refine G.next ?_ | refine G.blockN ?_ | refine G.blockE ?_ | refine G.thenE ?_) | refine TL.nil ?_)
        have hGi : siA (Gs.set i ⟨A2, n + 80, c2, l2⟩) i = ⟨A2, n + 80, c2, l2⟩ := by simp [siA, List.getD, show i < Gs.length by omega]
        have hGo : ∀ k, k ≠ i → siA (Gs.set i ⟨A2, n + 80, c2, l2⟩) k = siA Gs k := fun k hk => by simp [siA, List.getD, List.getElem?_set_ne (Ne.symm hk)]
        generalize hGs : Gs.set i ⟨A2, n + 80, c2, l2⟩ = Gt at hF hGi hGo
        have hGl : Gt.length = wn := by rw [← hGs, List.length_set]; exact hG
        have hap := hF.two (D1 := []) (D2 := [dkIC A n c l1 A2 (n + 80) c2 l2, dkIR ws Gs f i]) rfl (.inr kmemH)
        have hap2 := hF.two (D1 := []) (D2 := [dkIC A n c l1 A2 (n + 80) c2 l2, dkIR ws Gs f i]) rfl (.inr (kmemT kmemH))
        have hfp : ∀ b, (dkIG ws Gt (fSet f i l1) (i + 1)).fp b → (dkIC A n c l1 A2 (n + 80) c2 l2).fp b ∨ (dkIR ws Gs f i).fp b := fun b hb => by
          rcases hb with ⟨k, h1, h2⟩ | ⟨k, h1, h2⟩
          · by_cases e : k = i
            · subst e; rw [hx] at h2; exact .inl (.inl h2)
            · exact .inr (.inl ⟨k, h1, e, h2⟩)
          · by_cases e : k = i
            · subst e; rw [hGi] at h2; exact .inl (.inr h2)
            · rw [hGo k e] at h2; exact .inr (.inr ⟨k, by omega, h2⟩)
        have hF2 := hF.re [dkW ms, dkIG ws Gt (fSet f i l1) (i + 1)] (fun d hd => by
          rcases List.mem_cons.1 hd with rfl | hd
          · exact hF.get kmemH
          rw [List.mem_singleton] at hd; subst hd
          have h1 := hF.get (kmemT kmemH)
          have h2 := hF.get (kmemT (kmemT kmemH))
          refine ⟨fun k hk => ?_, fun k hk => ?_⟩
          · by_cases e : k = i
            · subst e; rw [hx, fSet_i]; exact h1.1
            · rw [fSet_o _ _ e]; exact h2.1 k hk e
          · by_cases e : k = i
            · subst e; rw [hGi, hx]; exact h1.2
            · rw [hGo k e]; exact h2.2 k (by omega)) (fun d hd b hb => by
          rcases List.mem_cons.1 hd with rfl | hd
          · exact ⟨_, kmemH, hb⟩
          rw [List.mem_singleton] at hd; subst hd
          rcases hfp b hb with h | h
          · exact ⟨_, kmemT kmemH, h⟩
          · exact ⟨_, kmemT (kmemT kmemH), h⟩) (List.pairwise_cons.2 ⟨fun e he b hb h => by
          rw [List.mem_singleton] at he; subst he
          rcases hfp b h with h | h
          · exact hap b hb h
          · exact hap2 b hb h, List.pairwise_singleton _ _⟩)
        refine G.again (i + 1, Gt, fSet f i l1, ms) (by repeat (first | exact Sub.nil _ | refine Sub.cons rfl ?_ | refine Sub.cons' rfl (int_congr (by omega)) ?_)) ⟨by dsimp only; omega, hGl, hF2, fun k hk => ?_, fun k hk => ?_⟩ (by dsimp only; omega)
        · dsimp only
          by_cases e : k = i
          · subst e; rw [fSet_i, hx]; exact hm1
          · rw [fSet_o _ _ e]; exact hf k hk
        · dsimp only at hk ⊢
          by_cases e : k = i
          · subst e
            rw [hGi, hx]
            exact ⟨rfl, hm2, hA2.imp (fun h => h.1) id⟩
          · rw [hGo k e]; exact ⟨(hGk k (by omega)).1, hmG k (by omega), (hGk k (by omega)).2⟩
    · obtain rfl : wn = i := by omega
      repeat' (first | (refine TL.isOp ?_; first | (refine TL.isBin ?_; refine TL.cmpG rfl rfl rfl rfl (fun hc => ?_) (fun hc => ?_) <;> (try (first | (exfalso; omega) | exact absurd rfl hc))) | (apply TL.ev; (case hd => rfl); (case h => (first | exact ev_simple rfl | (apply Ev.isLoad; first | exact ev_loadV rfl (hV.exs hF.exs hbb) rfl) | exact ev_len rfl | exact ev_fieldAddr rfl | exact ev_nilCheck rfl)))) | (refine T.is ?_; first | refine T.seq ?_ | refine T.region ?_ | refine T.block ?_ | refine T.cond_f rfl ?_ | refine T.exit ?_) | (refine G.is ?_; first | refine G.next ?_ | refine G.blockE ?_ | refine G.thenE ?_) | refine TL.nil ?_)
      refine T.loop (α := Nat) (fun i => [(0, .pointer (some ⟨bb, 0, none⟩)), (6, .slice (some ⟨bg, 0, none⟩) wn wn), (10, .int .i64 (i : Int))])
        (fun i w' => i ≤ wn ∧ Fk (inBookI ws) w w' [⟨bg, 22, Gs.map siv⟩] [dkW ms, dkIG ws Gs f wn])
        (fun i => wn - i) 0 (by repeat (first | exact Sub.nil _ | refine Sub.cons rfl ?_ | refine Sub.cons' rfl (int_congr (by omega)) ?_)) ⟨Nat.zero_le _, hF⟩ ?_
      clear hF
      rintro i w2 ⟨hi, hF⟩
      rcases Nat.lt_or_ge i wn with hin | hin
      · have hg := hget i hin
        have hni := hl i hin
        have hG1 := (hGk i hin).1
        have hm2 := (hGk i hin).2.1
        have hm1 := hf i hin
        have hg2 : Gs[i]? = some (siA Gs i) := by simp [siA, List.getD, show i < Gs.length by omega]
        have hgt := fun (H : Array Obj) (h : (dkIG ws Gs f wn).p H) => And.intro (h.1 i (by omega)) (h.2 i hin)
        generalize siA ws i = x at hg hni hG1 hgt hm1 hm2
        generalize siA Gs i = x2 at hg2 hG1 hgt hm2
        generalize f i = l1 at hgt hm1
        obtain ⟨A, n, c, l⟩ := x
        obtain ⟨A2, n2, c2, l2⟩ := x2
        dsimp only at hni hG1 hgt hm1 hm2
        subst hG1
        repeat' (first | (refine TL.isOp ?_; first | (refine TL.isBin ?_; refine TL.cmpG rfl rfl rfl rfl (fun hc => ?_) (fun hc => ?_) <;> (try (first | (exfalso; omega) | exact absurd rfl hc))) | (apply TL.ev; (case hd => rfl); (case h => (first | exact ev_simple rfl | (apply Ev.isLoad; first | exact ev_loadV rfl (hV.exs hF.exs hbb) rfl | exact ev_loadSl (f := siv) rfl (hW.exs hF.exs hbW) hg | exact ev_loadSl (f := siv) rfl ((vr_bk (hF.var InV.head)).slN hG (Nat.le_refl _) (hF.var InV.head).lt) hg2) | exact ev_len rfl | exact ev_fieldAddr rfl | exact ev_nilCheck rfl | exact ev_indexN rfl rfl hin (hW.exs hF.exs hbW).some | exact ev_indexN rfl rfl hin (.inr rfl))))) | (refine T.is ?_; first | refine T.seq ?_ | refine T.region ?_ | refine T.block ?_ | refine T.cond_t rfl ?_ | refine T.skip ?_) | (refine G.is ?_; first | refine G.next ?_) | refine TL.nil ?_)
        refine T.loop (α := Nat) (fun j => [(0, .pointer (some ⟨bb, 0, none⟩)), (6, .slice (some ⟨bg, 0, none⟩) wn wn), (10, .int .i64 (i : Int)), (11, .slice A n c), (12, .slice A2 (n + 80) c2), (13, .int .i64 (j : Int))])
          (fun j w' => j ≤ n + 80 ∧ Fk (inBookI ws) w w' [⟨bg, 22, Gs.map siv⟩] [dkW ms, dkIG ws Gs f wn])
          (fun j => n + 80 - j) 0 (by repeat (first | exact Sub.nil _ | refine Sub.cons rfl ?_ | refine Sub.cons' rfl (int_congr (by omega)) ?_)) ⟨Nat.zero_le _, hF⟩ ?_
        clear hF
        rintro j w2 ⟨hj, hF⟩
        rcases Nat.lt_or_ge j (n + 80) with hjn | hjn
        · obtain ⟨b2, hy2, hb2⟩ := hm2 j hjn
          rcases Nat.lt_or_ge j n with hjl | hjl
          · obtain ⟨b1, hy1, hb1⟩ := hm1 j hjl
            have hA1 := (hgt _ (hF.get (kmemT kmemH))).1.smI.isSome hjl
            repeat' (first | (refine TL.isOp ?_; first | (refine TL.isG ?_; first | refine TL.grun rfl rfl rfl ?_) | (refine TL.isCall ?_; refine TL.call rfl rfl ?_; first | (refine (sign_ok (i := i) (j := j) _ (by omega) (by omega)).mono ?_; rintro _ wy ⟨rfl, hE⟩; replace hF := hF.exts hE; clear hE; refine Back.mk ?_)) | (refine TL.isBin ?_; refine TL.cmpG rfl rfl rfl rfl (fun hc => ?_) (fun hc => ?_) <;> (try (first | (exfalso; omega) | exact absurd rfl hc))) | (apply TL.ev; (case hd => rfl); (case h => (first | exact ev_simple rfl | (apply Ev.isBin; first | exact ev_arN rfl rfl rfl (by omega)) | (apply Ev.isLoad; first | exact ev_loadMc [.bool false, .slice (some ⟨b2, 0, none⟩) 1 1] rfl (hgt _ (hF.get (kmemT kmemH))).2.smI hy2 rfl) | exact ev_len rfl | exact ev_indexM rfl rfl hjn (hgt _ (hF.get (kmemT kmemH))).2.smI.some))) | (refine TL.storeAFk hF rfl rfl rfl rfl (by refine ⟨?_, ?_⟩; (focus (repeat (first | apply SetV.head | apply SetV.tail))); rfl) rfl ?_; clear hF; intro ws hF) | (refine TL.allocFk hF (d := 14) rfl rfl ?_; clear hF; intro w14 b14 hF)) | (refine TF.is ?_; first | refine TF.nil ?_ | refine TF.e rfl ?_ | (refine TF.pick rfl ?_; first | (refine TFo.cmpG rfl rfl rfl rfl (fun hc => ?_) (fun hc => ?_) <;> (try (first | (exfalso; omega) | exact absurd rfl hc))) | (refine TFo.cmpGg rfl rfl rfl rfl rfl rfl rfl (fun hc => ?_) (fun hc => ?_) <;> (try (first | (exfalso; omega) | exact absurd rfl hc))) | (apply TFo.ev; (case hd => rfl); (case h => (intro wh hF; first | exact ev_simple rfl | (apply Ev.isLoad; first | exact ev_loadFk hF rfl (by refine ⟨?_, ?_⟩; (focus (repeat (first | exact InV.head | apply InV.tail))); rfl)) | exact ev_len rfl | exact ev_fieldAddr rfl))) | (apply TFo.evg rfl rfl rfl; (case hd => rfl); (case h => (intro wh hF; first | exact ev_simple rfl | (apply Ev.isLoad; first | exact ev_loadFk hF rfl (by refine ⟨?_, ?_⟩; (focus (repeat (first | exact InV.head | apply InV.tail))); rfl) | exact ev_loadMF rfl (hgt _ (hF.get (kmemT kmemH))).1.smI hy1 rfl | exact ev_loadU rfl (dkW_sl hF hb2) (by omega) | exact ev_loadU rfl (dkW_sl hF hb1) (by omega)) | exact ev_len rfl | exact ev_fieldAddr rfl | exact ev_fieldAddrE rfl hA1 | exact ev_indexM rfl rfl hjl (hgt _ (hF.get (kmemT kmemH))).1.smI.some | exact ev_indexN rfl rfl (show 0 < 1 by omega) (.inr rfl)))))) | (refine T.is ?_; first | refine T.seq ?_ | refine T.region ?_ | refine T.block ?_ | refine T.cond_t rfl ?_ | refine T.cond_f rfl ?_ | refine T.skip ?_ | (refine T.regionFk hF 28 14 (.s 0 (.s 1 (.s 2 (.s 3 (.s 4 (.s 5 (.s 6 (.s 7 (.s 8 (.s 9 (.s 10 (.e 11 (.s 12 (.s 13 .nil)))))))))))))) mixed (by kernel_rfl) ?_; clear hF; intro wr hF) | (refine T.regionFk hF 30 26 (.s 0 (.s 1 (.s 2 (.s 3 (.s 4 (.s 5 (.s 6 (.s 7 (.s 8 (.s 9 (.s 10 (.s 11 (.s 12 (.s 13 (.s 14 (.s 15 (.s 16 (.s 17 (.s 18 (.s 19 (.s 20 (.s 21 (.e 22 (.s 23 (.s 24 (.s 25 .nil)))))))))))))))))))))))))) mixed (by kernel_rfl) ?_; clear hF; intro wr hF)) | (refine G.is ?_; first | refine G.next ?_ | refine G.blockN ?_ | refine G.only ?_ | refine G.tree rfl (by first | exact hF | exact hF.weak (by repeat (first | exact List.Sublist.refl _ | apply List.Sublist.cons)) (by repeat (first | exact List.Sublist.refl _ | apply List.Sublist.cons))) ?_) | refine TL.nil ?_)
            exact G.again (j + 1) (by repeat (first | exact Sub.nil _ | refine Sub.cons rfl ?_ | refine Sub.cons' rfl (int_congr (by omega)) ?_)) ⟨by omega, hF.weak (List.sublist_cons_self _ _) (List.Sublist.refl _)⟩ (by omega)
          · repeat' (first | (refine TL.isOp ?_; first | (refine TL.isG ?_; first | refine TL.grun rfl rfl rfl ?_ | refine TL.gskipU rfl rfl rfl ?_) | (refine TL.isCall ?_; refine TL.call rfl rfl ?_; first | (refine (sign_ok (i := i) (j := j) _ (by omega) (by omega)).mono ?_; rintro _ wy ⟨rfl, hE⟩; replace hF := hF.exts hE; clear hE; refine Back.mk ?_)) | (refine TL.isBin ?_; refine TL.cmpG rfl rfl rfl rfl (fun hc => ?_) (fun hc => ?_) <;> (try (first | (exfalso; omega) | exact absurd rfl hc))) | (apply TL.ev; (case hd => rfl); (case h => (first | exact ev_simple rfl | (apply Ev.isBin; first | exact ev_arN rfl rfl rfl (by omega)) | (apply Ev.isLoad; first | exact ev_loadMc [.bool false, .slice (some ⟨b2, 0, none⟩) 1 1] rfl (hgt _ (hF.get (kmemT kmemH))).2.smI hy2 rfl) | exact ev_len rfl | exact ev_indexM rfl rfl hjn (hgt _ (hF.get (kmemT kmemH))).2.smI.some))) | (refine TL.storeAFk hF rfl rfl rfl rfl (by refine ⟨?_, ?_⟩; (focus (repeat (first | apply SetV.head | apply SetV.tail))); rfl) rfl ?_; clear hF; intro ws hF) | (refine TL.allocFk hF (d := 14) rfl rfl ?_; clear hF; intro w14 b14 hF)) | (refine TF.is ?_; first | refine TF.nil ?_ | refine TF.e rfl ?_ | (refine TF.pick rfl ?_; first | (refine TFo.cmpG rfl rfl rfl rfl (fun hc => ?_) (fun hc => ?_) <;> (try (first | (exfalso; omega) | exact absurd rfl hc))) | (refine TFo.cmpGg rfl rfl rfl rfl rfl rfl rfl (fun hc => ?_) (fun hc => ?_) <;> (try (first | (exfalso; omega) | exact absurd rfl hc))) | (apply TFo.ev; (case hd => rfl); (case h => (intro wh hF; first | exact ev_simple rfl | (apply Ev.isLoad; first | exact ev_loadFk hF rfl (by refine ⟨?_, ?_⟩; (focus (repeat (first | exact InV.head | apply InV.tail))); rfl)) | exact ev_len rfl | exact ev_fieldAddr rfl))) | (apply TFo.evg rfl rfl rfl; (case hd => rfl); (case h => (intro wh hF; first | exact ev_simple rfl | (apply Ev.isLoad; first | exact ev_loadFk hF rfl (by refine ⟨?_, ?_⟩; (focus (repeat (first | exact InV.head | apply InV.tail))); rfl) | exact ev_loadU rfl (dkW_sl hF hb2) (by omega)) | exact ev_fieldAddr rfl | exact ev_indexN rfl rfl (show 0 < 1 by omega) (.inr rfl)))) | refine TFo.skip rfl rfl rfl rfl ?_ | refine TFo.skipU rfl rfl rfl ?_)) | (refine T.is ?_; first | refine T.seq ?_ | refine T.region ?_ | refine T.block ?_ | refine T.cond_t rfl ?_ | refine T.cond_f rfl ?_ | refine T.skip ?_ | (refine T.regionFk hF 28 14 (.s 0 (.s 1 (.s 2 (.s 3 (.s 4 (.s 5 (.s 6 (.s 7 (.s 8 (.s 9 (.s 10 (.e 11 (.s 12 (.s 13 .nil)))))))))))))) mixed (by kernel_rfl) ?_; clear hF; intro wr hF) | (refine T.regionFk hF 30 26 (.s 0 (.s 1 (.s 2 (.s 3 (.s 4 (.s 5 (.s 6 (.s 7 (.s 8 (.s 9 (.s 10 (.s 11 (.s 12 (.s 13 (.s 14 (.s 15 (.s 16 (.s 17 (.s 18 (.s 19 (.s 20 (.s 21 (.e 22 (.s 23 (.s 24 (.s 25 .nil)))))))))))))))))))))))))) mixed (by kernel_rfl) ?_; clear hF; intro wr hF)) | (refine G.is ?_; first | refine G.next ?_ | refine G.blockN ?_ | refine G.only ?_ | refine G.tree rfl (by first | exact hF | exact hF.weak (by repeat (first | exact List.Sublist.refl _ | apply List.Sublist.cons)) (by repeat (first | exact List.Sublist.refl _ | apply List.Sublist.cons))) ?_) | refine TL.nil ?_)
            exact G.again (j + 1) (by repeat (first | exact Sub.nil _ | refine Sub.cons rfl ?_ | refine Sub.cons' rfl (int_congr (by omega)) ?_)) ⟨by omega, hF.weak (List.sublist_cons_self _ _) (List.Sublist.refl _)⟩ (by omega)
        · obtain rfl : j = n + 80 := by omega
          repeat' (first | (refine TL.isOp ?_; first | (refine TL.isBin ?_; refine TL.cmpG rfl rfl rfl rfl (fun hc => ?_) (fun hc => ?_) <;> (try (first | (exfalso; omega) | exact absurd rfl hc))) | (apply TL.ev; (case hd => rfl); (case h => (first | exact ev_simple rfl | (apply Ev.isBin; first | exact ev_arN rfl rfl rfl (by omega)) | exact ev_len rfl)))) | (refine T.is ?_; first | refine T.seq ?_ | refine T.region ?_ | refine T.cond_f rfl ?_ | refine T.exit ?_) | (refine G.is ?_; first | refine G.next ?_ | refine G.blockN ?_ | refine G.blockE ?_ | refine G.thenE ?_) | refine TL.nil ?_)
          exact G.again (i + 1) (by repeat (first | exact Sub.nil _ | refine Sub.cons rfl ?_ | refine Sub.cons' rfl (int_congr (by omega)) ?_)) ⟨by omega, hF⟩ (by omega)
      · obtain rfl : wn = i := by omega
        repeat' (first | (refine TL.isOp ?_; first | (refine TL.isBin ?_; refine TL.cmpG rfl rfl rfl rfl (fun hc => ?_) (fun hc => ?_) <;> (try (first | (exfalso; omega) | exact absurd rfl hc))) | (apply TL.ev; (case hd => rfl); (case h => (first | exact ev_simple rfl | (apply Ev.isLoad; first | exact ev_loadV rfl (hV.exs hF.exs hbb) rfl) | exact ev_len rfl | exact ev_fieldAddr rfl | exact ev_nilCheck rfl)))) | (refine T.is ?_; first | refine T.seq ?_ | refine T.region ?_ | refine T.cond_f rfl ?_ | refine T.exit ?_ | refine T.ret ?_) | (refine G.is ?_; first | refine G.next ?_ | refine G.blockE ?_ | refine G.thenE ?_) | refine TL.nil ?_)
        exact G.ret1 rfl rfl ⟨rfl, hF.exs⟩
end Go.Proofs.YtlpheckjogphmaaGreat
namespace Go.Eng
open Go Go.RowKit
theorem T.regionF0 {P : Program} {N : Fm} {Q : Exit → Act → World → Prop} {σ : Store} {S : Nat → Prop} {w0 w : World} {L : List VB} {D : List DK} {l : List Oper} (hF : Fk S w0 w L D) (id : Nat) (f : Nat) (t : Rt) (hm : P.follows .mixedOrders = true) (hB : treeB l.toArray f t = true)
    (h : ∀ w1 : World, Fk S w0 w1 L D → TF P N l Q (fun w' => Fk S w0 w' L []) f t σ w1) : T P N (.region id l.toArray true) Q σ w :=
  T.regionF _ f t hm hB ((hF.weak (List.Sublist.refl _) (List.nil_sublist _)).exts (ext_drewN w 1)) (h _ (hF.exts (ext_drewN w 1)))
end Go.Eng
namespace Go.Proofs.YtlpheckjogphmaaGreat
open Go Go.Eng Go.Proofs Go.NatM Go.RowKit
theorem nums_nil (w : World) (bb : Nat) (x y : Value) (hV : Vr w.heap bb 54 [x, y, .slice none 0 0]) : Cl Tryz.prog 53 #[.pointer (some ⟨bb, 0, none⟩)] w (YesB w) := by
  refine enter Tryz.func53 rfl rfl rfl ?_
  have hF := Fk.refl (fun _ => False) w
  repeat' (first | (refine TL.isOp ?_; first | (apply TL.ev; (case hd => rfl); (case h => (first | exact ev_simple rfl)))) | (refine T.is ?_; first | refine T.seq ?_ | refine T.region ?_ | refine T.block ?_) | (refine G.is ?_; first | refine G.next ?_) | refine TL.nil ?_)
  refine T.loop (α := Unit) (fun _ => [(0, .pointer (some ⟨bb, 0, none⟩)), (3, .int .i64 0)]) (fun _ w' => Fk (fun _ => False) w w' [] []) (fun _ => 0) () (by repeat (first | exact Sub.nil _ | refine Sub.cons rfl ?_ | refine Sub.cons' rfl (int_congr (by omega)) ?_)) hF ?_
  clear hF
  rintro _ w2 hF
  repeat' (first | (refine TL.isOp ?_; first | (refine TL.isBin ?_; refine TL.cmpG rfl rfl rfl rfl (fun hc => ?_) (fun hc => ?_) <;> (try (first | (exfalso; omega) | exact absurd rfl hc))) | (apply TL.ev; (case hd => rfl); (case h => (first | exact ev_simple rfl | (apply Ev.isLoad; first | exact ev_loadV rfl (hV.ext hF.ext) rfl) | exact ev_len rfl | exact ev_fieldAddr rfl | exact ev_nilCheck rfl))) | (refine TL.make sav default (d := 48) (n := 0) (c := 0) rfl rfl rfl rfl rfl (Nat.le_refl _) (by omega) ?_; intro wg bg ebg hBg hEg hzg; replace hF := hF.exts hEg; clear ebg hBg hEg hzg)) | (refine T.is ?_; first | refine T.seq ?_ | refine T.region ?_ | refine T.block ?_ | refine T.cond_f rfl ?_ | refine T.exit ?_) | (refine G.is ?_; first | refine G.next ?_ | refine G.blockE ?_ | refine G.thenE ?_) | refine TL.nil ?_)
  refine T.loop (α := Unit) (fun _ => [(0, .pointer (some ⟨bb, 0, none⟩)), (6, .slice (some ⟨bg, 0, none⟩) 0 0), (7, .int .i64 0)]) (fun _ w' => Fk (fun _ => False) w w' [] []) (fun _ => 0) () (by repeat (first | exact Sub.nil _ | refine Sub.cons rfl ?_ | refine Sub.cons' rfl (int_congr (by omega)) ?_)) hF ?_
  clear hF
  rintro _ w2 hF
  repeat' (first | (refine TL.isOp ?_; first | (refine TL.isBin ?_; refine TL.cmpG rfl rfl rfl rfl (fun hc => ?_) (fun hc => ?_) <;> (try (first | (exfalso; omega) | exact absurd rfl hc))) | (apply TL.ev; (case hd => rfl); (case h => (first | exact ev_simple rfl | (apply Ev.isLoad; first | exact ev_loadV rfl (hV.ext hF.ext) rfl) | exact ev_len rfl | exact ev_fieldAddr rfl | exact ev_nilCheck rfl)))) | (refine T.is ?_; first | refine T.seq ?_ | refine T.region ?_ | refine T.block ?_ | refine T.cond_f rfl ?_ | refine T.exit ?_) | (refine G.is ?_; first | refine G.next ?_ | refine G.blockE ?_ | refine G.thenE ?_) | refine TL.nil ?_)
  refine T.loop (α := Unit) (fun _ => [(0, .pointer (some ⟨bb, 0, none⟩)), (6, .slice (some ⟨bg, 0, none⟩) 0 0), (10, .int .i64 0)]) (fun _ w' => Fk (fun _ => False) w w' [] []) (fun _ => 0) () (by repeat (first | exact Sub.nil _ | refine Sub.cons rfl ?_ | refine Sub.cons' rfl (int_congr (by omega)) ?_)) hF ?_
  clear hF
  rintro _ w2 hF
  repeat' (first | (refine TL.isOp ?_; first | (refine TL.isBin ?_; refine TL.cmpG rfl rfl rfl rfl (fun hc => ?_) (fun hc => ?_) <;> (try (first | (exfalso; omega) | exact absurd rfl hc))) | (apply TL.ev; (case hd => rfl); (case h => (first | exact ev_simple rfl | (apply Ev.isLoad; first | exact ev_loadV rfl (hV.ext hF.ext) rfl) | exact ev_len rfl | exact ev_fieldAddr rfl | exact ev_nilCheck rfl)))) | (refine T.is ?_; first | refine T.seq ?_ | refine T.region ?_ | refine T.cond_f rfl ?_ | refine T.exit ?_ | refine T.ret ?_) | (refine G.is ?_; first | refine G.next ?_ | refine G.blockE ?_ | refine G.thenE ?_) | refine TL.nil ?_)
  exact G.ret1 rfl rfl ⟨rfl, hF.ext⟩
theorem Fk.bare {S : Nat → Prop} {w0 w : World} (h : Exs S w0 w) : Fk S w0 w [] [] := ⟨h, fun _ h => (by cases h), List.Pairwise.nil, fun _ h => (by cases h), fun _ h => (by cases h), List.Pairwise.nil, fun _ h => (by cases h)⟩
theorem fpA_blk {α : Type} {f : α → Value} {H : Array Obj} {lo : Nat} {t : TypeId} {A : Option Addr} {n c : Nat} {l : List α} (h : Ow f H lo t A n c l) {k : Nat} (hk : fpA A n k) : blk A k := by
  rcases (ow_iff.1 h).2 with ⟨e, e2, _⟩ | ⟨g, cur, e, _⟩
  · subst e e2; exact absurd hk (by unfold fpA; simp)
  · subst e
    have : k = g := by unfold fpA at hk; simpa [eq_comm] using hk.2
    subst this; rfl
structure BK where
  bb : Nat
  WA : Option Addr
  wc : Nat
  ws : List (SA Nat)
  IA : Option Addr
  ic : Nat
  is : List (SA IV)
def BK.cs (x : BK) : List Value := [.slice x.WA x.ws.length x.wc, .slice x.IA x.is.length x.ic, .slice none 0 0]
def BK.fp (x : BK) (k : Nat) : Prop := k = x.bb ∨ blk x.WA k ∨ blk x.IA k
def BK.p (x : BK) (H : Array Obj) : Prop := Vr H x.bb 54 x.cs ∧ Ow sav H 0 25 x.WA x.ws.length x.wc x.ws ∧ Ow siv H 0 22 x.IA x.is.length x.ic x.is
def dkBK (x : BK) : DK where
  p H := x.p H
  fp := x.fp
  lt H k h := fun hf => by
    rcases hf with rfl | hf | hf
    · exact h.1.lt
    · exact h.2.1.blt hf
    · exact h.2.2.blt hf
  st H H' hd h := ⟨(hd.block _ h.1.lt (.inl rfl)).trans h.1, h.2.1.de hd fun b hb => .inr (.inl hb), h.2.2.de hd fun b hb => .inr (.inr hb)⟩
theorem Ow.ty {α : Type} {f : α → Value} {H : Array Obj} {lo : Nat} {t : TypeId} {A : Option Addr} {n c : Nat} {l : List α} (h : Ow f H lo t A n c l) {b : Nat} (hb : blk A b) : ∃ cur, H[b]? = some (.cells cur t (0, 0)) := by
  rcases (ow_iff.1 h).2 with ⟨e, _⟩ | ⟨g, cur, e, _, hg, _⟩
  · rw [e] at hb; cases hb
  · rw [e] at hb; cases hb; exact ⟨cur, hg⟩
theorem Vr.ty {H : Array Obj} {b : Nat} {t : TypeId} {cs : List Value} (h : Vr H b t cs) : ∃ cur, H[b]? = some (.cells cur t (0, 0)) := ⟨cs.toArray, by unfold Vr at h; exact h⟩
theorem ty_ne {H : Array Obj} {b : Nat} {t t' : TypeId} (hne : t ≠ t') (h : ∃ cur, H[b]? = some (.cells cur t (0, 0))) (h' : ∃ cur, H[b]? = some (.cells cur t' (0, 0))) : False := by
  obtain ⟨c1, h1⟩ := h
  obtain ⟨c2, h2⟩ := h'
  rw [h1] at h2
  injection h2 with h2
  injection h2 with _ h3 _
  exact hne h3
def RetBK (w : World) (x : BK) (ws : List (SA Nat)) (is : List (SA IV)) (e : Ending) (w' : World) : Prop :=
  e = .returned (.tuple #[]) ∧ ∃ WA wc IA ic, BK.p ⟨x.bb, WA, wc, ws, IA, ic, is⟩ w'.heap ∧ Exs x.fp w w' ∧ ∀ k, BK.fp ⟨x.bb, WA, wc, ws, IA, ic, is⟩ k → x.fp k ∨ w.heap.size ≤ k
theorem BK.fk {w : World} (x : BK) (h : x.p w.heap) : Fk x.fp w w [⟨x.bb, 54, [.slice x.WA x.ws.length x.wc, .slice x.IA x.is.length x.ic, .slice none 0 0]⟩] [dkOG sav 25 x.WA x.ws.length x.wc x.ws, dkOG siv 22 x.IA x.is.length x.ic x.is] := by
  obtain ⟨hV, hW, hI⟩ := h
  refine ⟨Exs.refl _ _, fun v hv => ?_, List.pairwise_singleton _ _, fun d hd => ?_, fun v hv d hd => ?_, List.pairwise_cons.2 ⟨fun e he k h1 h2 => ?_, List.pairwise_singleton _ _⟩, fun d hd k hk => ?_⟩
  · rw [List.mem_singleton] at hv; subst hv
    exact ⟨.inr (.inl rfl), hV⟩
  · rcases List.mem_cons.1 hd with rfl | hd
    · exact dkOG_p.2 hW
    · rw [List.mem_singleton] at hd; subst hd
      exact dkOG_p.2 hI
  · rw [List.mem_singleton] at hv; subst hv
    rcases List.mem_cons.1 hd with rfl | hd
    · exact fun hb => ty_ne (by decide) (Vr.ty hV) (Ow.ty hW (dkOG_fp.1 hb))
    · rw [List.mem_singleton] at hd; subst hd
      exact fun hb => ty_ne (by decide) (Vr.ty hV) (Ow.ty hI (dkOG_fp.1 hb))
  · rw [List.mem_singleton] at he; subst he
    exact ty_ne (by decide) (Ow.ty hW (dkOG_fp.1 h1)) (Ow.ty hI (dkOG_fp.1 h2))
  · rcases List.mem_cons.1 hd with rfl | hd
    · exact .inr (.inr (.inl (dkOG_fp.1 hk)))
    · rw [List.mem_singleton] at hd; subst hd
      exact .inr (.inr (.inr (dkOG_fp.1 hk)))
theorem RetBK.of {w w' : World} {x : BK} {WA IA : Option Addr} {n wc m ic : Nat} {ws : List (SA Nat)} {is : List (SA IV)} (hF : Fk x.fp w w' [⟨x.bb, 54, [.slice WA n wc, .slice IA m ic, .slice none 0 0]⟩] [dkOG sav 25 WA n wc ws, dkOG siv 22 IA m ic is]) : RetBK w x ws is (.returned (.tuple #[])) w' := by
  have hW := hF.og kmemH
  have hI := hF.og (kmemT kmemH)
  have hV := hF.var InV.head
  have e1 : ws.length = n := (ow_iff.1 hW).1
  have e2 : is.length = m := (ow_iff.1 hI).1
  subst e1 e2
  refine ⟨rfl, WA, wc, IA, ic, ⟨hV, hW, hI⟩, hF.exs, fun k hk => ?_⟩
  rcases hk with rfl | hk | hk
  · exact .inl (.inl rfl)
  · exact (hF.own _ kmemH k (dkOG_fp.2 hk)).symm
  · exact (hF.own _ (kmemT kmemH) k (dkOG_fp.2 hk)).symm
set_option maxRecDepth 100000 in
theorem bint_ok (w : World) (x : BK) (v : IV) (h : x.p w.heap) (hn : x.ws.length ≤ 4294967296) :
    Cl Tryz.prog 20 #[.pointer (some ⟨x.bb, 0, none⟩), .agg (ivc v).toArray] w (RetBK w x (x.ws ++ [v.m]) x.is) := by
  obtain ⟨ng, mA, mn, mc, ml⟩ := v
  have hF := x.fk h
  have hln : x.ws.length = x.ws.length := rfl
  generalize x.ws.length = n at hF hn hln
  refine enter Tryz.func20 rfl rfl rfl ?_
  repeat' (first | (refine TL.isOp ?_; first | (refine TL.storeFk hF rfl rfl rfl rfl (by refine ⟨?_, ?_⟩; (focus (repeat (first | apply SetV.head | apply SetV.tail))); rfl) rfl ?_; clear hF; intro ws hF) | (refine TL.build1 (f := sav) (u := ⟨mA, mn, mc, ml⟩) (fun _ => rfl) rfl rfl rfl ?_; intro w10 b10 eb hB hE hz; have hSn := (hB.slN (n := 1) (c := 1) rfl (Nat.le_refl _) hB.lt).size; replace hF := hF.exts hE; clear hB hE hz eb) | (refine TL.appendOwG (f := sav) (fun _ => rfl) rfl rfl rfl rfl (hF.og kmemH) hSn (by omega) ?_; intro w11 A3 c3 hO3 hcase; replace hF := hF.appendG SetD.head hO3 hcase; clear hO3 hcase) | (refine TL.boxAFk hF rfl rfl ?_; clear hF; intro wb bb hF)) | (refine TF.is ?_; first | refine TF.nil ?_ | refine TF.e rfl ?_ | (refine TF.pick rfl ?_; first | (apply TFo.ev; (case hd => rfl); (case h => (intro wh hF; first | exact ev_simple rfl | (apply Ev.isLoad; first | exact ev_loadFk hF rfl (by refine ⟨?_, ?_⟩; (focus (repeat (first | exact InV.head | apply InV.tail))); rfl)) | exact ev_fieldAddr rfl | exact ev_nilCheck rfl))))) | (refine T.is ?_; first | refine T.seq ?_ | refine T.region ?_ | (refine T.regionF0 hF 1 11 (.s 0 (.s 1 (.s 2 (.s 3 (.s 4 (.s 5 (.s 6 (.e 7 (.e 8 (.s 9 (.s 10 (.e 11 .nil)))))))))))) mixed (by kernel_rfl) ?_; clear hF; intro wr hF)) | (refine G.is ?_; first | refine G.next ?_ | refine G.only ?_ | refine G.treeEnd rfl ?_ | refine G.tree rfl (by first | exact hF | exact hF.weak (by repeat (first | exact List.Sublist.refl _ | apply List.Sublist.cons)) (by repeat (first | exact List.Sublist.refl _ | apply List.Sublist.cons))) ?_) | refine TL.nil ?_)
  exact G.end0 rfl (RetBK.of (hF.weak (List.sublist_cons_self _ _) (List.Sublist.refl _)))
theorem OwC.ty {α : Type} {k : Nat} {f : α → List Value} {H : Array Obj} {e : TypeId} {A : Option Addr} {n c : Nat} {l : List α} (h : OwC k f H e A n c l) {b : Nat} (hb : blk A b) : ∃ cur, H[b]? = some (.cells cur e (0, 0)) := by
  rcases h.2 with ⟨e1, _⟩ | ⟨g, zs, e1, _, _, _, hV⟩
  · rw [e1] at hb; cases hb
  · rw [e1] at hb; cases hb; exact Vr.ty hV
theorem BK.offI {H : Array Obj} {x : BK} (h : x.p H) {A : Option Addr} {n c : Nat} {l : List IV} (hO : OwI H A n c l) (b : Nat) (hb : blk A b) : ¬ x.fp b := by
  rintro (rfl | h1 | h1)
  · exact ty_ne (by decide) (Vr.ty h.1) (OwC.ty hO hb)
  · exact ty_ne (by decide) (Ow.ty h.2.1 h1) (OwC.ty hO hb)
  · exact ty_ne (by decide) (Ow.ty h.2.2 h1) (OwC.ty hO hb)
theorem RetBK.ext {w w2 : World} {x : BK} {ws : List (SA Nat)} {is : List (SA IV)} {e : Ending} {w' : World} (hE : Ext w w2) (h : RetBK w2 x ws is e w') : RetBK w x ws is e w' := by
  obtain ⟨h0, WA, wc, IA, ic, h1, h2, h3⟩ := h
  exact ⟨h0, WA, wc, IA, ic, h1, (Exs.of hE).then h2 fun i _ h => h, fun k hk => (h3 k hk).imp id fun h => Nat.le_trans hE.size h⟩
set_option maxRecDepth 100000 in
theorem brow_ok (w : World) (x : BK) (u : SA IV) (h : x.p w.heap) (hO : OwI w.heap u.A u.n u.c u.l) (hn : x.ws.length + u.n ≤ 4294967296) (hn2 : x.is.length ≤ 4294967296) :
    Cl Tryz.prog 50 #[.pointer (some ⟨x.bb, 0, none⟩), .slice u.A u.n u.c] w (RetBK w x (x.ws ++ u.l.map (·.m)) (x.is ++ [u])) := by
  obtain ⟨A, n, c, l⟩ := u
  have hoff := BK.offI h hO
  dsimp only at hO hn hoff ⊢
  have hl := hO.1
  have hF := x.fk h
  have hln : x.ws.length = x.ws.length := rfl
  generalize x.ws.length = m at hF hn hln
  have hli : x.is.length = x.is.length := rfl
  generalize x.is.length = mi at hF hn2 hli
  refine enter Tryz.func50 rfl rfl rfl ?_
  repeat' (first | (refine TL.isOp ?_; first | (apply TL.ev; (case hd => rfl); (case h => (first | exact ev_simple rfl | (apply Ev.isLoad; first | exact ev_loadFk hF rfl (by refine ⟨?_, ?_⟩; (focus (repeat (first | exact InV.head | apply InV.tail))); rfl)) | exact ev_fieldAddr rfl | exact ev_nilCheck rfl))) | (refine TL.storeFk hF rfl rfl rfl rfl (by refine ⟨?_, ?_⟩; (focus (repeat (first | apply SetV.head | apply SetV.tail))); rfl) rfl ?_; clear hF; intro ws hF) | (refine TL.build1 (f := siv) (u := ⟨A, n, c, l⟩) (fun _ => rfl) rfl rfl rfl ?_; intro w10 b10 eb hB hE hz; have hSn := (hB.slN (n := 1) (c := 1) rfl (Nat.le_refl _) hB.lt).size; replace hF := hF.exts hE; clear hB hE hz eb) | (refine TL.appendOwG (f := siv) (fun _ => rfl) rfl rfl rfl rfl (hF.og (kmemT kmemH)) hSn (by omega) ?_; intro w11 A3 c3 hO3 hcase; replace hF := hF.appendG (SetD.tail SetD.head) hO3 hcase; clear hO3 hcase)) | (refine T.is ?_; first | refine T.seq ?_ | refine T.region ?_ | refine T.block ?_) | (refine G.is ?_; first | refine G.next ?_) | refine TL.nil ?_)
  refine T.loop (α := Nat × Option Addr × Nat) (fun q => [(0, .pointer (some ⟨x.bb, 0, none⟩)), (1, .slice A n c), (4, .int .i64 (q.1 : Int))])
    (fun q w' => q.1 ≤ n ∧ Fk x.fp w w' [⟨x.bb, 54, [.slice q.2.1 (m + q.1) q.2.2, .slice A3 (mi + 1) c3, .slice none 0 0]⟩] [dkOG sav 25 q.2.1 (m + q.1) q.2.2 (x.ws ++ (l.take q.1).map (·.m)), dkOG siv 22 A3 (mi + 1) c3 (x.is ++ [⟨A, n, c, l⟩])])
    (fun q => n - q.1) (0, x.WA, x.wc) (by repeat (first | exact Sub.nil _ | refine Sub.cons rfl ?_ | refine Sub.cons' rfl (int_congr (by omega)) ?_)) ⟨Nat.zero_le _, by simpa using hF⟩ ?_
  clear hF
  rintro ⟨j, WA, wc⟩ w2 ⟨hj, hF⟩
  dsimp only at hj hF ⊢
  rcases Nat.lt_or_ge j n with hjn | hjn
  · have hA1 := (OwI.smI hO).isSome hjn
    have hy : l[j]? = some (l.getD j default) := by simp [List.getD, show j < l.length by omega]
    have htk : l.take (j + 1) = l.take j ++ [l.getD j default] := by rw [List.take_add_one, hy]; rfl
    generalize l.getD j default = y at hy htk
    obtain ⟨ng, mA, mn, mc, ml⟩ := y
    repeat' (first | (refine TL.isOp ?_; first | (refine TL.isBin ?_; refine TL.cmpG rfl rfl rfl rfl (fun hc => ?_) (fun hc => ?_) <;> (try (first | (exfalso; omega) | exact absurd rfl hc))) | (apply TL.ev; (case hd => rfl); (case h => (first | exact ev_simple rfl | (apply Ev.isBin; first | exact ev_arN rfl rfl rfl (by omega)) | exact ev_len rfl))) | (refine TL.storeFk hF rfl rfl rfl rfl (by refine ⟨?_, ?_⟩; (focus (repeat (first | apply SetV.head | apply SetV.tail))); rfl) rfl ?_; clear hF; intro ws hF) | (refine TL.build1 (f := sav) (u := ⟨mA, mn, mc, ml⟩) (fun _ => rfl) rfl rfl rfl ?_; intro w10 b10 eb hB hE hz; have hSn := (hB.slN (n := 1) (c := 1) rfl (Nat.le_refl _) hB.lt).size; replace hF := hF.exts hE; clear hB hE hz eb) | (refine TL.appendOwG (f := sav) (fun _ => rfl) rfl rfl rfl rfl (hF.og kmemH) hSn (by omega) ?_; intro w11 A4 c4 hO4 hcase; replace hF := hF.appendG SetD.head hO4 hcase; clear hO4 hcase)) | (refine TF.is ?_; first | refine TF.nil ?_ | refine TF.e rfl ?_ | (refine TF.pick rfl ?_; first | (apply TFo.ev; (case hd => rfl); (case h => (intro wh hF; first | exact ev_simple rfl | (apply Ev.isLoad; first | exact ev_loadFk hF rfl (by refine ⟨?_, ?_⟩; (focus (repeat (first | exact InV.head | apply InV.tail))); rfl) | exact ev_loadMF rfl (OwI.smI (hO.exs hF.exs hoff)) hy rfl) | exact ev_fieldAddr rfl | exact ev_nilCheck rfl | exact ev_indexM rfl rfl hjn (.inr hA1) | exact ev_fieldAddrE rfl hA1))))) | (refine T.is ?_; first | refine T.seq ?_ | refine T.region ?_ | refine T.block ?_ | refine T.cond_t rfl ?_ | refine T.skip ?_ | (refine T.regionF0 hF 4 14 (.s 0 (.s 1 (.s 2 (.s 3 (.s 4 (.s 5 (.s 6 (.s 7 (.s 8 (.s 9 (.e 10 (.e 11 (.s 12 (.s 13 (.e 14 .nil))))))))))))))) mixed (by kernel_rfl) ?_; clear hF; intro wr hF)) | (refine G.is ?_; first | refine G.next ?_ | refine G.blockN ?_ | refine G.only ?_ | refine G.treeEnd rfl ?_ | refine G.tree rfl (by first | exact hF | exact hF.weak (by repeat (first | exact List.Sublist.refl _ | apply List.Sublist.cons)) (by repeat (first | exact List.Sublist.refl _ | apply List.Sublist.cons))) ?_) | refine TL.nil ?_)
    refine G.again (j + 1, A4, c4) (by repeat (first | exact Sub.nil _ | refine Sub.cons rfl ?_ | refine Sub.cons' rfl (int_congr (by omega)) ?_)) ⟨by dsimp only; omega, ?_⟩ (by dsimp only; omega)
    dsimp only
    rw [htk, List.map_append, ← List.append_assoc]
    exact hF
  · obtain rfl : n = j := by omega
    repeat' (first | (refine TL.isOp ?_; first | (refine TL.isBin ?_; refine TL.cmpG rfl rfl rfl rfl (fun hc => ?_) (fun hc => ?_) <;> (try (first | (exfalso; omega) | exact absurd rfl hc))) | (apply TL.ev; (case hd => rfl); (case h => (first | exact ev_simple rfl | exact ev_len rfl)))) | (refine T.is ?_; first | refine T.seq ?_ | refine T.region ?_ | refine T.cond_f rfl ?_ | refine T.exit ?_) | (refine G.is ?_; first | refine G.next ?_ | refine G.blockE ?_ | refine G.thenE ?_) | refine TL.nil ?_)
    rw [List.take_of_length_le (by omega)] at hF
    exact G.end0 rfl (RetBK.of hF)
set_option maxRecDepth 100000 in
theorem bmat_ok (w : World) (x : BK) (u : MV) (h : x.p w.heap) (hO : OwI w.heap u.A u.n u.k u.l) (hn : x.ws.length + u.n ≤ 4294967296) (hn2 : x.is.length ≤ 4294967296) :
    Cl Tryz.prog 19 #[.pointer (some ⟨x.bb, 0, none⟩), .agg (mvc u).toArray] w (RetBK w x (x.ws ++ u.l.map (·.m)) (x.is ++ [⟨u.A, u.n, u.k, u.l⟩])) := by
  obtain ⟨r, c, A, n, k, l⟩ := u
  dsimp only at hO hn ⊢
  refine enter Tryz.func19 rfl rfl rfl ?_
  have hF := Fk.refl (fun _ => False) w
  repeat' (first | (refine TL.isOp ?_; first | (refine TL.isCall ?_; refine TL.call rfl rfl ?_; first | (refine (brow_ok _ x ⟨A, n, k, l⟩ ((dkBK x).st _ _ ⟨hF.ext.size, fun q hq _ => hF.ext.block q hq⟩ h) (hO.ext hF.ext) hn hn2).mono ?_; rintro _ wr ⟨rfl, WA, wc, IA, ic, h1, h2, h3⟩; have hR := RetBK.ext hF.ext ⟨rfl, WA, wc, IA, ic, h1, h2, h3⟩; clear hF h1 h2 h3; refine Back.mk ?_)) | (apply TL.ev; (case hd => rfl); (case h => (first | exact ev_simple rfl | (apply Ev.isLoad; first | exact ev_loadFk hF rfl (by refine ⟨?_, ?_⟩; (focus (repeat (first | exact InV.head | apply InV.tail))); rfl)) | exact ev_fieldAddr rfl))) | (refine TL.boxAFk hF rfl rfl ?_; clear hF; intro wb bb hF)) | (refine T.is ?_; first | refine T.seq ?_ | refine T.region ?_) | (refine G.is ?_; first | refine G.next ?_) | refine TL.nil ?_)
  exact G.end0 rfl hR
set_option maxRecDepth 100000 in
theorem apart_ok (w : World) (x : BK) (h : x.p w.heap) (hW : (dkB x.ws (fun i => (saA x.ws i).l)).p w.heap) (hI : (dkI x.is (fun i => (siA x.is i).l)).p w.heap) (hdW : Own x.ws) (hdI : OwnI x.is) (hn : x.ws.length ≤ 4294967296) (hn2 : x.is.length ≤ 4294967296)
    (hlW : ∀ i, i < x.ws.length → (saA x.ws i).n ≤ 1099511627776) (hlI : ∀ i, i < x.is.length → (siA x.is i).n ≤ 1099511627776) :
    Cl Tryz.prog 22 #[.pointer (some ⟨x.bb, 0, none⟩)] w (fun e w' => e = .returned (.bool true) ∧ Exs (fun k => inBook x.ws k ∨ inBookI x.is k) w w') := by
  obtain ⟨hV, hWs, hIs⟩ := h
  replace hV : Vr w.heap x.bb 54 [.slice x.WA x.ws.length x.wc, .slice x.IA x.is.length x.ic, .slice none 0 0] := hV
  have tW : ∀ k, inBook x.ws k → ∃ cur, w.heap[k]? = some (.cells cur 64 (0, 0)) := fun k ⟨i, hi, hk⟩ => Ow.ty (hW i hi) hk
  have tI : ∀ k, inBookI x.is k → ∃ cur, w.heap[k]? = some (.cells cur 27 (0, 0)) := fun k ⟨i, hi, hk⟩ => OwC.ty (hI i hi) hk
  have n1 : ¬ inBook x.ws x.bb := fun h => ty_ne (by decide) (Vr.ty hV) (tW _ h)
  have n2 : ¬ inBookI x.is x.bb := fun h => ty_ne (by decide) (Vr.ty hV) (tI _ h)
  have hSW : Sl sav w.heap w.heap.size x.WA x.ws.length x.wc x.ws := hWs.sl (Nat.le_refl _)
  have hSI : Sl siv w.heap w.heap.size x.IA x.is.length x.ic x.is := hIs.sl (Nat.le_refl _)
  have n3 : ∀ k, fpA x.WA x.ws.length k → ¬ inBook x.ws k := fun k hk h => ty_ne (by decide) (Ow.ty hWs (fpA_blk hWs hk)) (tW _ h)
  have n4 : ∀ k, fpA x.IA x.is.length k → ¬ inBook x.ws k := fun k hk h => ty_ne (by decide) (Ow.ty hIs (fpA_blk hIs hk)) (tW _ h)
  have n5 : ∀ k, fpA x.IA x.is.length k → ¬ inBookI x.is k := fun k hk h => ty_ne (by decide) (Ow.ty hIs (fpA_blk hIs hk)) (tI _ h)
  have n7 : ∀ k, blk x.IA k → ¬ inBook x.ws k := fun k hk h => ty_ne (by decide) (Ow.ty hIs hk) (tW _ h)
  have n6 : ∀ k, inBookI x.is k → ¬ inBook x.ws k := fun k hk h => ty_ne (by decide) (tI _ hk) (tW _ h)
  refine enter Tryz.func22 rfl rfl rfl ?_
  have hF := Fk.refl (fun k => inBook x.ws k ∨ inBookI x.is k) w
  repeat' (first | (refine TL.isOp ?_; first | (refine TL.isG ?_; first | refine TL.grun rfl rfl rfl ?_) | (refine TL.isCall ?_; refine TL.call rfl rfl ?_; first | (refine (words_ok w x.bb x.ws x.WA x.ws.length x.wc _ _ hV hSW hW hdW n1 n3 hn hlW).mono ?_; rintro _ w1 ⟨rfl, hE1⟩; replace hF := Fk.bare (S := fun k => inBook x.ws k ∨ inBookI x.is k) (hE1.mono (fun k _ h => Or.inl h)); refine Back.mk ?_) | (refine (ints_ok w1 x.bb x.is x.IA x.is.length x.ic _ _ (hV.exs hE1 n1) (((hIs.exs hE1 n7)).sl (Nat.le_refl _)) (fun i hi => (hI i hi).exs hE1 (fun k hk => n6 k ⟨i, hi, hk⟩)) hdI n2 n5 hn2 hlI).mono ?_; rintro _ w2 ⟨rfl, hE2⟩; replace hF := Fk.bare (hF.exs.then hE2 (fun k _ h => Or.inr h)); refine Back.mk ?_) | (refine (nums_nil _ x.bb _ _ (hV.exs hF.exs (fun h => h.elim n1 n2))).mono ?_; rintro _ wi ⟨rfl, hE⟩; replace hF := hF.exts hE; clear hE; refine Back.mk ?_)) | (apply TL.ev; (case hd => rfl); (case h => (first | exact ev_simple rfl)))) | (refine T.is ?_; first | refine T.seq ?_ | refine T.region ?_ | refine T.ret ?_) | (refine G.is ?_; first | refine G.next ?_) | refine TL.nil ?_)
  exact G.ret1 rfl rfl ⟨rfl, hF.exs⟩
end Go.Proofs.YtlpheckjogphmaaGreat
set_option linter.unusedSectionVars false
namespace Go.Eng
open Go Go.Proofs Go.NatM Go.RowKit Go.Proofs.YtlpheckjogphmaaGreat
theorem Ow.bltZ {α : Type} {f : α → Value} {H : Array Obj} {t : TypeId} {A : Option Addr} {n c lo : Nat} {l : List α} (h : Ow f H lo t A n c l) {k : Nat} (hk : A = some ⟨k, 0, none⟩) : k < H.size := by
  unfold Ow at h
  rcases h.2 with ⟨e, _⟩ | ⟨g, cur, e, _, hg, _⟩
  · rw [e] at hk; cases hk
  · rw [e] at hk; cases hk; exact (Array.getElem?_eq_some_iff.1 hg).1
theorem Ow.loZ {α : Type} {f : α → Value} {H : Array Obj} {t : TypeId} {A : Option Addr} {n c lo : Nat} {l : List α} (h : Ow f H lo t A n c l) {k : Nat} (hk : A = some ⟨k, 0, none⟩) : lo ≤ k := by
  unfold Ow at h
  rcases h.2 with ⟨e, _⟩ | ⟨g, cur, e, hl, hg, _⟩
  · rw [e] at hk; cases hk
  · rw [e] at hk; cases hk; exact hl
theorem Ow.extZ {α : Type} {f : α → Value} {w w' : World} {t : TypeId} {A : Option Addr} {n c lo : Nat} {l : List α} (hE : Ext w w') (h : Ow f w.heap lo t A n c l) : Ow f w'.heap lo t A n c l := by
  unfold Ow at h ⊢
  refine ⟨h.1, h.2.imp id ?_⟩
  rintro ⟨g, cur, e, hlo, hg, r⟩
  exact ⟨g, cur, e, hlo, (hE.block g (Array.getElem?_eq_some_iff.1 hg).1).trans hg, r⟩
def dpOz (lo : Nat) (t : TypeId) (A : Option Addr) (n c : Nat) (l : List Nat) : DP := ⟨fun H => Ow u64v H lo t A n c l, fun k => A = some ⟨k, 0, none⟩, fun _ _ h hk => h.bltZ hk, fun H H' hd h => by
  unfold Ow at h ⊢
  refine ⟨h.1, h.2.imp id ?_⟩
  rintro ⟨g, cur, e, hlo, hg, r⟩
  exact ⟨g, cur, e, hlo, (hd.block g _ _ _ hg (.inl e)).trans hg, r⟩⟩
section
variable {S : Nat → Prop} {w0 w w' : World} {L : List VB} {D : List DP} {lo : Nat} {t : TypeId} {A : Option Addr} {n c : Nat} {l : List Nat}
theorem Fr.addOz (h : Fr w0 w L D S) (hE : Ext w w') (hO : Ow u64v w'.heap w.heap.size t A n c l) (hlo : lo ≤ w.heap.size) : Fr w0 w' L (dpOz lo t A n c l :: D) S := h.addNew hE _ (by unfold dpOz; exact hO.mono hlo) fun k hk => by unfold dpOz at hk; exact hO.loZ hk
theorem Fr.oz (h : Fr w0 w L D S) (hm : dpOz lo t A n c l ∈ D) : Ow u64v w.heap lo t A n c l := by have := h.data _ hm; unfold dpOz at this; exact this
end
end Go.Eng
namespace Go.Proofs.YtlpheckjogphmaaGreat
open Go Go.Eng Go.Proofs Go.NatM Go.RowKit
def RetP (w : World) (z : Int) (K : Nat) (e : Ending) (w' : World) : Prop := ∃ x : IV, e = .returned (.agg (ivc x).toArray) ∧ LI w'.heap z x ∧ Ext w w' ∧ x.m.n ≤ K ∧ Ow u64v w'.heap w.heap.size 64 x.m.A x.m.n x.m.c x.m.l
theorem RetP.z {w : World} {z : Int} {K : Nat} {e : Ending} {w' : World} (h : RetP w z K e w') : RetZ w z K e w' := by
  obtain ⟨x, h1, h2, h3, h4, _⟩ := h
  exact ⟨x, h1, h2, h3, h4⟩
theorem zaddP_same (w : World) (x y : IV) (gx : GI w.heap x) (gy : GI w.heap y) (hx : x.m.n ≤ 17592186044416) (hy : y.m.n ≤ 17592186044416) (hxy : x.neg = y.neg) : Cl Tryz.prog 61 #[.agg (ivc x).toArray, .agg (ivc y).toArray] w (RetP w (ival x + ival y) (max x.m.n y.m.n + 1)) := by
  have e : ival x + ival y = sgn x.neg (val x.m.l + val y.m.l) := by unfold ival sgn; rw [← hxy]; split <;> omega
  rw [e]
  have hl := fun w1 (hE : Ext w w1) => add_ok w1 _ _ x.m.A y.m.A x.m.n x.m.c y.m.n y.m.c x.m.l y.m.l (gx.s.ext hE) (gy.s.ext hE) gx.u gy.u (by omega) (by omega)
  obtain ⟨xs, ⟨xA, xn, xc, xl⟩⟩ := x
  obtain ⟨ys, ⟨yA, yn, yc, yl⟩⟩ := y
  dsimp only at hl hx hy hxy ⊢
  subst hxy
  refine enter Tryz.func61 rfl rfl rfl ?_
  have hF := Fr.refl w
  repeat' (first | (refine TL.isOp ?_; first | (refine TL.isCall ?_; refine TL.call rfl rfl ?_; first | (refine (hl _ hF.ext).mono ?_; rintro _ wl ⟨Al, nl, cl, rfl, hOl, hEl, hKl⟩; replace hF := Fr.addOz (lo := w.heap.size) hF hEl hOl hF.exs.size; clear hOl hEl; refine Back.mk ?_) | (refine (of_ok _ _ _ _ _ _ ((Fr.oz hF (by repeat (first | exact memH | apply memT))).sl (Nat.le_refl _))).mono ?_; rintro _ wo ⟨rfl, hLo, hEo⟩; replace hF := Fr.addLI (hF.exts hEo) hLo; clear hLo hEo; refine Back.mk ?_)) | (apply TL.ev; (case hd => rfl); (case h => (first | (apply Ev.isBin; first | exact ev_eqlB (r := true) rfl rfl (beq_self_eq_true _)) | (apply Ev.isLoad; first | exact ev_loadFr hF rfl (by refine ⟨?_, ?_⟩; (focus (repeat (first | exact InV.head | apply InV.tail))); rfl)) | exact ev_fieldAddr rfl))) | (refine TL.storeAFr hF rfl rfl rfl rfl (by refine ⟨?_, ?_⟩; (focus (repeat (first | apply SetV.head | apply SetV.tail))); rfl) rfl ?_; clear hF; intro ws hF) | (refine TL.boxAFr hF (d := 2) (cs := [.bool xs, .slice xA xn xc]) rfl rfl ?_; clear hF; intro w2 b2 hF) | (refine TL.boxAFr hF (d := 3) (cs := [.bool xs, .slice yA yn yc]) rfl rfl ?_; clear hF; intro w3 b3 hF) | (refine TL.allocFr hF (d := 4) rfl rfl ?_; clear hF; intro w4 b4 hF)) | (refine TF.is ?_; first | refine TF.nil ?_ | refine TF.e rfl ?_ | (refine TF.pick rfl ?_; first | (apply TFo.ev; (case hd => rfl); (case h => (intro wh hF; first | (apply Ev.isLoad; first | exact ev_loadFr hF rfl (by refine ⟨?_, ?_⟩; (focus (repeat (first | exact InV.head | apply InV.tail))); rfl)) | exact ev_fieldAddr rfl))))) | (refine T.is ?_; first | refine T.seq ?_ | refine T.region ?_ | refine T.cond_t rfl ?_ | refine T.ret ?_ | (refine T.regionFt hF 2 8 (.s 0 (.s 1 (.s 2 (.s 3 (.s 4 (.s 5 (.e 6 (.e 7 (.e 8 .nil))))))))) mixed (by kernel_rfl) ?_; clear hF; intro wr hF)) | (refine G.is ?_; first | refine G.next ?_ | refine G.thenR ?_ | refine G.only ?_ | refine G.treeEnd rfl ?_ | refine G.tree rfl (by first | exact hF | exact hF.weak (List.sublist_append_right _ _) (by repeat (first | exact allR | apply allT)) | exact hF.weak (by repeat (first | exact List.Sublist.refl _ | apply List.Sublist.cons)) (by repeat (first | exact allR | apply allT)) | exact hF.weak (by repeat (first | exact List.Sublist.refl _ | apply List.Sublist.cons)) (by repeat (first | exact allN | refine allH (by repeat (first | exact memH | apply memT)) ?_))) ?_) | refine TL.nil ?_)
  all_goals exact G.retC1 rfl rfl (held_agg (hF.var (b := b4) (by repeat (first | exact InV.head | apply InV.tail))) rfl) ⟨_, rfl, Fr.li hF (by repeat (first | exact memH | apply memT)), hF.ext, hKl, Fr.oz hF (by repeat (first | exact memH | apply memT))⟩
theorem zaddP_lt (w : World) (x y : IV) (gx : GI w.heap x) (gy : GI w.heap y) (hx : x.m.n ≤ 17592186044416) (hy : y.m.n ≤ 17592186044416) (hxy : (x.neg == y.neg) = false) {q : Int} (hq : cmp3 (val x.m.l) (val y.m.l) = q) (hq0 : q < 0) (hle : val x.m.l ≤ val y.m.l) : Cl Tryz.prog 61 #[.agg (ivc x).toArray, .agg (ivc y).toArray] w (RetP w (sgn y.neg (val y.m.l - val x.m.l)) (max x.m.n y.m.n + 1)) := by
  have hc := fun w1 (hE : Ext w w1) => (cmp_eqX w1.heap _ _ x.m.A y.m.A x.m.n x.m.c y.m.n y.m.c x.m.l y.m.l (gx.s.ext hE) (gy.s.ext hE) gx.u gy.u (by omega) (by omega) hq).clX
  have hl := fun w1 (hE : Ext w w1) => sub_ok w1 _ _ y.m.A x.m.A y.m.n y.m.c x.m.n x.m.c y.m.l x.m.l (gy.s.ext hE) (gx.s.ext hE) gy.u gx.u (by omega) (by omega) hle
  obtain ⟨xs, ⟨xA, xn, xc, xl⟩⟩ := x
  obtain ⟨ys, ⟨yA, yn, yc, yl⟩⟩ := y
  dsimp only at hl hc hx hy hxy ⊢
  refine enter Tryz.func61 rfl rfl rfl ?_
  have hF := Fr.refl w
  repeat' (first | (refine TL.isOp ?_; first | (refine TL.isCall ?_; refine TL.call rfl rfl ?_; first | (refine (hc _ hF.ext).mono ?_; rintro _ wc ⟨rfl, hzc, hE⟩; replace hF := hF.exts hE; clear hE hzc; refine Back.mk ?_) | (refine (hl _ hF.ext).mono ?_; rintro _ wl ⟨Al, nl, cl, rfl, hOl, hEl, hKl⟩; replace hF := Fr.addOz (lo := w.heap.size) hF hEl hOl hF.exs.size; clear hOl hEl; refine Back.mk ?_) | (refine (of_ok _ _ _ _ _ _ ((Fr.oz hF (by repeat (first | exact memH | apply memT))).sl (Nat.le_refl _))).mono ?_; rintro _ wo ⟨rfl, hLo, hEo⟩; replace hF := Fr.addLI (hF.exts hEo) hLo; clear hLo hEo; refine Back.mk ?_)) | (refine TL.isBin ?_; refine TL.cmpG rfl rfl rfl rfl (fun hc => ?_) (fun hc => ?_) <;> (try (first | (exfalso; omega) | exact absurd rfl hc))) | (apply TL.ev; (case hd => rfl); (case h => (first | exact ev_simple rfl | (apply Ev.isBin; first | exact ev_eqlB (r := false) rfl rfl hxy) | (apply Ev.isLoad; first | exact ev_loadFr hF rfl (by refine ⟨?_, ?_⟩; (focus (repeat (first | exact InV.head | apply InV.tail))); rfl) | exact ev_loadAFr hF rfl (by refine ⟨?_, ?_⟩; (focus (repeat (first | exact InV.head | apply InV.tail))); rfl)) | exact ev_fieldAddr rfl))) | (refine TL.storeAFr hF rfl rfl rfl rfl (by refine ⟨?_, ?_⟩; (focus (repeat (first | apply SetV.head | apply SetV.tail))); rfl) rfl ?_; clear hF; intro ws hF) | (refine TL.boxAFr hF (d := 2) (cs := [.bool xs, .slice xA xn xc]) rfl rfl ?_; clear hF; intro w2 b2 hF) | (refine TL.boxAFr hF (d := 3) (cs := [.bool ys, .slice yA yn yc]) rfl rfl ?_; clear hF; intro w3 b3 hF) | (refine TL.allocFr hF (d := 4) rfl rfl ?_; clear hF; intro w4 b4 hF)) | (refine T.is ?_; first | refine T.seq ?_ | refine T.region ?_ | refine T.cond_t rfl ?_ | refine T.cond_f rfl ?_ | refine T.ret ?_ | refine T.skip ?_) | (refine G.is ?_; first | refine G.next ?_) | refine TL.nil ?_)
  all_goals exact G.retC1 rfl rfl (held_agg (hF.var (b := b4) (by repeat (first | exact InV.head | apply InV.tail))) rfl) ⟨_, rfl, Fr.li hF (by repeat (first | exact memH | apply memT)), hF.ext, by exact Nat.le_trans hKl (by omega), Fr.oz hF (by repeat (first | exact memH | apply memT))⟩
theorem zaddP_ge (w : World) (x y : IV) (gx : GI w.heap x) (gy : GI w.heap y) (hx : x.m.n ≤ 17592186044416) (hy : y.m.n ≤ 17592186044416) (hxy : (x.neg == y.neg) = false) {q : Int} (hq : cmp3 (val x.m.l) (val y.m.l) = q) (hq0 : ¬ q < 0) (hle : val y.m.l ≤ val x.m.l) : Cl Tryz.prog 61 #[.agg (ivc x).toArray, .agg (ivc y).toArray] w (RetP w (sgn x.neg (val x.m.l - val y.m.l)) (max x.m.n y.m.n + 1)) := by
  have hc := fun w1 (hE : Ext w w1) => (cmp_eqX w1.heap _ _ x.m.A y.m.A x.m.n x.m.c y.m.n y.m.c x.m.l y.m.l (gx.s.ext hE) (gy.s.ext hE) gx.u gy.u (by omega) (by omega) hq).clX
  have hl := fun w1 (hE : Ext w w1) => sub_ok w1 _ _ x.m.A y.m.A x.m.n x.m.c y.m.n y.m.c x.m.l y.m.l (gx.s.ext hE) (gy.s.ext hE) gx.u gy.u (by omega) (by omega) hle
  obtain ⟨xs, ⟨xA, xn, xc, xl⟩⟩ := x
  obtain ⟨ys, ⟨yA, yn, yc, yl⟩⟩ := y
  dsimp only at hl hc hx hy hxy ⊢
  refine enter Tryz.func61 rfl rfl rfl ?_
  have hF := Fr.refl w
  repeat' (first | (refine TL.isOp ?_; first | (refine TL.isCall ?_; refine TL.call rfl rfl ?_; first | (refine (hc _ hF.ext).mono ?_; rintro _ wc ⟨rfl, hzc, hE⟩; replace hF := hF.exts hE; clear hE hzc; refine Back.mk ?_) | (refine (hl _ hF.ext).mono ?_; rintro _ wl ⟨Al, nl, cl, rfl, hOl, hEl, hKl⟩; replace hF := Fr.addOz (lo := w.heap.size) hF hEl hOl hF.exs.size; clear hOl hEl; refine Back.mk ?_) | (refine (of_ok _ _ _ _ _ _ ((Fr.oz hF (by repeat (first | exact memH | apply memT))).sl (Nat.le_refl _))).mono ?_; rintro _ wo ⟨rfl, hLo, hEo⟩; replace hF := Fr.addLI (hF.exts hEo) hLo; clear hLo hEo; refine Back.mk ?_)) | (refine TL.isBin ?_; refine TL.cmpG rfl rfl rfl rfl (fun hc => ?_) (fun hc => ?_) <;> (try (first | (exfalso; omega) | exact absurd rfl hc))) | (apply TL.ev; (case hd => rfl); (case h => (first | exact ev_simple rfl | (apply Ev.isBin; first | exact ev_eqlB (r := false) rfl rfl hxy) | (apply Ev.isLoad; first | exact ev_loadFr hF rfl (by refine ⟨?_, ?_⟩; (focus (repeat (first | exact InV.head | apply InV.tail))); rfl)) | exact ev_fieldAddr rfl))) | (refine TL.storeAFr hF rfl rfl rfl rfl (by refine ⟨?_, ?_⟩; (focus (repeat (first | apply SetV.head | apply SetV.tail))); rfl) rfl ?_; clear hF; intro ws hF) | (refine TL.boxAFr hF (d := 2) (cs := [.bool xs, .slice xA xn xc]) rfl rfl ?_; clear hF; intro w2 b2 hF) | (refine TL.boxAFr hF (d := 3) (cs := [.bool ys, .slice yA yn yc]) rfl rfl ?_; clear hF; intro w3 b3 hF) | (refine TL.allocFr hF (d := 4) rfl rfl ?_; clear hF; intro w4 b4 hF)) | (refine T.is ?_; first | refine T.seq ?_ | refine T.region ?_ | refine T.cond_f rfl ?_ | refine T.ret ?_ | refine T.skip ?_) | (refine G.is ?_; first | refine G.next ?_) | refine TL.nil ?_)
  all_goals exact G.retC1 rfl rfl (held_agg (hF.var (b := b4) (by repeat (first | exact InV.head | apply InV.tail))) rfl) ⟨_, rfl, Fr.li hF (by repeat (first | exact memH | apply memT)), hF.ext, by exact Nat.le_trans hKl (by omega), Fr.oz hF (by repeat (first | exact memH | apply memT))⟩
theorem zaddP (w : World) (x y : IV) (gx : GI w.heap x) (gy : GI w.heap y) (hx : x.m.n ≤ 17592186044416) (hy : y.m.n ≤ 17592186044416) : Cl Tryz.prog 61 #[.agg (ivc x).toArray, .agg (ivc y).toArray] w (RetP w (ival x + ival y) (max x.m.n y.m.n + 1)) := by
  by_cases hxy : x.neg = y.neg
  · exact zaddP_same w x y gx gy hx hy hxy
  · have hb : (x.neg == y.neg) = false := by simpa using hxy
    rcases Nat.lt_or_ge (val x.m.l) (val y.m.l) with h | h
    · have e : ival x + ival y = sgn y.neg (val y.m.l - val x.m.l) := by unfold ival sgn; cases hx1 : x.neg <;> cases hy1 : y.neg <;> simp_all <;> omega
      rw [e]
      exact zaddP_lt w x y gx gy hx hy hb rfl (by rw [cmp3, if_pos h]; omega) (by omega)
    · have e : ival x + ival y = sgn x.neg (val x.m.l - val y.m.l) := by unfold ival sgn; cases hx1 : x.neg <;> cases hy1 : y.neg <;> simp_all <;> omega
      rw [e]
      exact zaddP_ge w x y gx gy hx hy hb rfl (by rw [cmp3, if_neg (by omega)]; split <;> omega) h
theorem zmulAddP (w : World) (x y z : IV) (gx : GI w.heap x) (gy : GI w.heap y) (gz : GI w.heap z) (hx : x.m.n ≤ 8796093022208) (hy : y.m.n ≤ 8796093022208) (hz : z.m.n ≤ 17592186044416) : Cl Tryz.prog 41 #[.agg (ivc x).toArray, .agg (ivc y).toArray, .agg (ivc z).toArray] w (RetP w (ival x * ival y + ival z) (max (x.m.n + y.m.n) z.m.n + 1)) := by
  have hm := fun w1 (hE : Ext w w1) => zmul_ok w1 x y (gx.ext hE) (gy.ext hE) hx hy
  have ha := fun w1 (p : IV) (hE : Ext w w1) (hp : GI w1.heap p) (hn : p.m.n ≤ 17592186044416) => zaddP w1 p z hp (gz.ext hE) hn hz
  obtain ⟨xs, ⟨xA, xn, xc, xl⟩⟩ := x
  obtain ⟨ys, ⟨yA, yn, yc, yl⟩⟩ := y
  obtain ⟨zs, ⟨zA, zn, zc, zl⟩⟩ := z
  dsimp only at hm ha hx hy hz ⊢
  refine enter Tryz.func41 rfl rfl rfl ?_
  have hF := Fr.refl w
  repeat' (first | (refine TL.isOp ?_; first | (refine TL.isCall ?_; refine TL.call rfl rfl ?_; first | (refine (hm _ hF.ext).mono ?_; rintro _ wm ⟨p, rfl, hLp, hEm, hKp⟩; replace hF := Fr.addLI (hF.exts hEm) hLp; clear hEm; refine Back.mk ?_) | (refine (ha _ p hF.ext (Fr.li hF (by repeat (first | exact memH | apply memT))).g (by omega)).mono ?_; rintro _ wo ⟨s, rfl, hLs, hEo, hKs, hOs⟩; rw [hLp.val] at hLs; replace hF := Fr.addLI (Fr.addOz (lo := w.heap.size) hF hEo hOs hF.exs.size) hLs; clear hEo hLs hOs; refine Back.mk ?_)) | (refine TL.storeAFr hF rfl rfl rfl rfl (by refine ⟨?_, ?_⟩; (focus (repeat (first | apply SetV.head | apply SetV.tail))); rfl) rfl ?_; clear hF; intro ws hF) | (refine TL.boxAFr hF (d := 3) (cs := [.bool xs, .slice xA xn xc]) rfl rfl ?_; clear hF; intro w3 b3 hF) | (refine TL.boxAFr hF (d := 4) (cs := [.bool ys, .slice yA yn yc]) rfl rfl ?_; clear hF; intro w4 b4 hF) | (refine TL.boxAFr hF (d := 5) (cs := [.bool zs, .slice zA zn zc]) rfl rfl ?_; clear hF; intro w5 b5 hF) | (refine TL.allocFr hF (d := 6) rfl rfl ?_; clear hF; intro w6 b6 hF)) | (refine TF.is ?_; first | refine TF.nil ?_ | refine TF.e rfl ?_ | (refine TF.pick rfl ?_; first | (apply TFo.ev; (case hd => rfl); (case h => (intro wh hF; first | (apply Ev.isLoad; first | exact ev_loadAFr hF rfl (by refine ⟨?_, ?_⟩; (focus (repeat (first | exact InV.head | apply InV.tail))); rfl))))))) | (refine T.is ?_; first | refine T.seq ?_ | refine T.region ?_ | refine T.ret ?_ | (refine T.regionFt hF 1 5 (.s 0 (.s 1 (.s 3 (.e 2 (.e 4 (.e 5 .nil)))))) mixed (by kernel_rfl) ?_; clear hF; intro wr hF)) | (refine G.is ?_; first | refine G.next ?_ | refine G.only ?_ | refine G.treeEnd rfl ?_ | refine G.tree rfl (by first | exact hF | exact hF.weak (List.sublist_append_right _ _) (by repeat (first | exact allR | apply allT)) | exact hF.weak (by repeat (first | exact List.Sublist.refl _ | apply List.Sublist.cons)) (by repeat (first | exact allR | apply allT)) | exact hF.weak (by repeat (first | exact List.Sublist.refl _ | apply List.Sublist.cons)) (by repeat (first | exact allN | refine allH (by repeat (first | exact memH | apply memT)) ?_))) ?_) | refine TL.nil ?_)
  all_goals exact G.retC1 rfl rfl (held_agg (hF.var (b := b6) (by repeat (first | exact InV.head | apply InV.tail))) rfl) ⟨s, rfl, Fr.li hF (by repeat (first | exact memH | apply memT)), hF.ext, by omega, Fr.oz hF (by repeat (first | exact memH | apply memT))⟩
end Go.Proofs.YtlpheckjogphmaaGreat
namespace Go.Proofs.YtlpheckjogphmaaGreat
open Go Go.Eng Go.Proofs Go.NatM Go.RowKit
def OwL (H : Array Obj) (lo : Nat) (l : List IV) : Prop := (∀ x, x ∈ l → Ow u64v H lo 64 x.m.A x.m.n x.m.c x.m.l) ∧ l.Pairwise (fun x y => ∀ k, blk x.m.A k → ¬ blk y.m.A k)
theorem OwL.nil (H : Array Obj) (lo : Nat) : OwL H lo [] := ⟨fun _ h => (by cases h), List.Pairwise.nil⟩
theorem OwL.ext {w w' : World} {lo : Nat} {l : List IV} (hE : Ext w w') (h : OwL w.heap lo l) : OwL w'.heap lo l := ⟨fun x hx => Ow.extZ hE (h.1 x hx), h.2⟩
theorem OwL.updV {w w' : World} {lo b : Nat} {t : TypeId} {cs : List Value} {l : List IV} (hu : Upd b w w') (hV : Vr w.heap b t cs) (ht : 64 ≠ t) (h : OwL w.heap lo l) : OwL w'.heap lo l :=
  ⟨fun x hx => (h.1 x hx).exs hu.exs fun k hk e => ty_ne ht (Ow.ty (h.1 x hx) hk) (by rw [e]; exact Vr.ty hV), h.2⟩
theorem OwL.call {w0 w2 w w' : World} {l : List IV} {x : IV} (h : OwL w2.heap w0.heap.size l) (hE : Ext w w') (hO : Ow u64v w'.heap w.heap.size 64 x.m.A x.m.n x.m.c x.m.l) (h2 : Ext w2 w) (h0 : Ext w0 w) : OwL w'.heap w0.heap.size (l ++ [x]) := by
  have h3 := h.ext h2
  refine ⟨fun y hy => ?_, List.pairwise_append.2 ⟨h.2, List.pairwise_singleton _ _, fun y hy z hz k hk hk' => ?_⟩⟩
  · rcases List.mem_append.1 hy with hy | hy
    · exact Ow.extZ hE (h3.1 y hy)
    · rw [List.mem_singleton] at hy; subst hy
      exact hO.mono h0.size
  · rw [List.mem_singleton] at hz; subst hz
    have a := (h3.1 y hy).bltZ hk
    have b := hO.loZ hk'
    omega
def RetMP (w : World) (r c : Nat) (F : Nat → Nat → Int) (K : Nat) (e : Ending) (w' : World) : Prop := ∃ (b : Nat) (l : List IV), e = .returned (.agg (mvc ⟨(r : Int), (c : Int), some ⟨b, 0, none⟩, r * c, r * c, l⟩).toArray) ∧ Vr w'.heap b 27 (l.flatMap ivc) ∧ l.length = r * c ∧
  (∀ i j, i < r → j < c → LI w'.heap (F i j) (l.getD (i * c + j) default) ∧ (l.getD (i * c + j) default).m.n ≤ K) ∧ Ext w w' ∧ w.heap.size ≤ b ∧ OwL w'.heap w.heap.size l
set_option maxRecDepth 100000 in
theorem build_okP (w : World) (r c : Nat) (hr : r ≤ 64) (hc : c ≤ 64) (g : FuncId) (cap : List Value) (hg : IsFn Tryz.prog g) (F : Nat → Nat → Int) (K : Nat)
    (hF : ∀ (i j : Nat) (w1 : World), i < r → j < c → Ext w w1 → Cl Tryz.prog g ([Value.int .i64 (i : Int), Value.int .i64 (j : Int)] ++ cap).toArray w1 (RetP w1 (F i j) K)) :
    Cl Tryz.prog 66 #[.int .i64 (r : Int), .int .i64 (c : Int), .func (.func g) #[] cap.toArray] w (RetMP w r c F K) := by
  have hm := mul64 hr hc
  refine enter Tryz.func66 rfl rfl rfl ?_
  repeat' (first | refine TL.ev (ev_simple rfl) rfl ?_ | refine TL.ev (ev_arN rfl rfl rfl (by omega)) rfl ?_ | (refine TL.makeX (z := [.bool false, .slice none 0 0]) rfl rfl rfl (by omega) (by omega) rfl rfl rfl (fun w3 b3 zs eb3 hzl hzn hV3 hE3 hz3 => ?_)) | (refine TL.alloc rfl (fun wa ba eba hVa hEa hza => ?_); have hla := box_lo (w0 := w) (by repeat (first | exact Ext.refl _ | (refine Ext.trans ?_ (by assumption)) | (apply ext_upd; assumption; rotate_left; omega))) eba) | (refine TL.storeVX rfl rfl rfl rfl (by refine ⟨?_, ?_⟩; (focus (repeat (first | assumption | (apply Vr.ext; assumption) | (apply Vr.updX; assumption; rotate_left; omega)))); rfl) (fun ws hVs hUs hzs => ?_)) | (refine TL.ev (ev_buildX rfl rfl) rfl ?_) | refine T.seq ?_ | refine T.region ?_ | refine TL.nil ?_ | refine T.block ?_ | refine G.next ?_)
  rename_i w6 b6 eb6 hV6 hE6 hz6 hl6
  have hne : b3 ≠ ba := by omega
  have hl3 : w.heap.size ≤ b3 := by omega
  have hV3s : Vr ws.heap b3 27 zs := (by repeat (first | assumption | (apply Vr.ext; assumption) | (apply Vr.updX; assumption; rotate_left; omega)))
  have hV6s : Vr ws.heap b6 24 (Value.agg #[.int .i64 0, .int .i64 0, .slice none 0 0]).cells.toList := (by repeat (first | assumption | (apply Vr.ext; assumption) | (apply Vr.updX; assumption; rotate_left; omega)))
  have hEs : Ext w ws := (by repeat (first | exact Ext.refl _ | (refine Ext.trans ?_ (by assumption)) | (apply ext_upd; assumption; rotate_left; omega)))
  have hne6 : b6 ≠ ba := by omega
  have hne63 : b6 ≠ b3 := by omega
  clear hV3 hVa hzs hEa
  have hgone : True := trivial
  refine T.loop (α := Nat × List IV × List Value) (fun x => [(1, .int .i64 (c : Int)), (2, .func (.func g) #[] cap.toArray), (6, .pointer (some ⟨b6, 0, none⟩)), (7, .pointer (some ⟨ba, 0, none⟩)), (17, .int .i64 (r : Int)), (18, .int .i64 (x.1 : Int))])
    (fun x w' => x.1 ≤ r ∧ x.2.1.length = x.1 * c ∧ x.2.2.length = (r * c - x.1 * c) * 2 ∧ x.2.2.all noU64 = true ∧ Ext w w' ∧ Vr w'.heap b3 27 (x.2.1.flatMap ivc ++ x.2.2) ∧ Vr w'.heap ba 24 [.int .i64 (r : Int), .int .i64 (c : Int), .slice (some ⟨b3, 0, none⟩) (x.1 * c) (r * c)] ∧
      (∃ cs6, Vr w'.heap b6 24 cs6 ∧ cs6.length = 3 ∧ cs6.all noU64 = true) ∧ (∀ q, q < x.2.1.length → LI w'.heap (F (q / c) (q % c)) (x.2.1.getD q default) ∧ (x.2.1.getD q default).m.n ≤ K) ∧ OwL w'.heap w.heap.size x.2.1)
    (fun x => r - x.1) (0, [], zs) (by repeat (first | exact Sub.nil _ | refine Sub.cons rfl ?_ | refine Sub.cons' rfl (int_congr (by omega)) ?_)) ⟨Nat.zero_le _, by simp, by simp; omega, hzn, hEs, by simpa using hV3s, by simpa using hVs, ⟨_, hV6s, rfl, rfl⟩, fun q hq => by simp at hq, OwL.nil _ _⟩ ?_
  rintro ⟨i, l, zz⟩ w2 ⟨hi, hl, hzzl, hzz, hE2, hV32, hV72, ⟨cs6, hV62, hl6', hn6⟩, hg2, ho⟩
  dsimp only at hi hl hzzl hzz hE2 hV32 hV72 hV62 hg2 ho ⊢
  rcases Nat.lt_or_ge i r with hin | hin
  · repeat' (first | refine TL.ev (ev_simple rfl) rfl ?_ | (refine TL.cmpG rfl rfl rfl rfl (fun hc => ?_) (fun hc => ?_) <;> try (exfalso; omega)) | refine T.seq ?_ | refine T.region ?_ | refine TL.nil ?_ | refine T.block ?_ | refine T.cond_t rfl ?_ | refine T.skip ?_ | refine G.next ?_)
    refine T.loop (α := Nat × List IV × List Value) (fun x => [(1, .int .i64 (c : Int)), (2, .func (.func g) #[] cap.toArray), (6, .pointer (some ⟨b6, 0, none⟩)), (7, .pointer (some ⟨ba, 0, none⟩)), (8, .int .i64 (i : Int)), (17, .int .i64 (r : Int)), (18, .int .i64 (i : Int)), (21, .int .i64 (c : Int)), (22, .int .i64 (x.1 : Int))])
      (fun x w' => x.1 ≤ c ∧ x.2.1.length = i * c + x.1 ∧ x.2.2.length = (r * c - (i * c + x.1)) * 2 ∧ x.2.2.all noU64 = true ∧ Ext w w' ∧ Vr w'.heap b3 27 (x.2.1.flatMap ivc ++ x.2.2) ∧ Vr w'.heap ba 24 [.int .i64 (r : Int), .int .i64 (c : Int), .slice (some ⟨b3, 0, none⟩) (i * c + x.1) (r * c)] ∧
        (∃ cs6, Vr w'.heap b6 24 cs6 ∧ cs6.length = 3 ∧ cs6.all noU64 = true) ∧ (∀ q, q < x.2.1.length → LI w'.heap (F (q / c) (q % c)) (x.2.1.getD q default) ∧ (x.2.1.getD q default).m.n ≤ K) ∧ OwL w'.heap w.heap.size x.2.1)
      (fun x => c - x.1) (0, l, zz) (by repeat (first | exact Sub.nil _ | refine Sub.cons rfl ?_ | refine Sub.cons' rfl (int_congr (by omega)) ?_)) ⟨Nat.zero_le _, hl, hzzl, hzz, hE2, hV32, hV72, ⟨cs6, hV62, hl6', hn6⟩, hg2, ho⟩ ?_
    clear hV32 hV72 hV62 hg2 hE2 hl hzzl hzz ho
    rintro ⟨j, l, zz⟩ w2 ⟨hj, hl, hzzl, hzz, hE2, hV32, hV72, ⟨cs6, hV62, hl6', hn6⟩, hg2, ho⟩
    dsimp only at hj hl hzzl hzz hE2 hV32 hV72 hV62 hg2 ho ⊢
    rcases Nat.lt_or_ge j c with hjn | hjn
    · have hpl := place_lt hin hjn
      have hc0 : 0 < c := by omega
      repeat' (first | refine TL.ev (ev_simple rfl) rfl ?_ | (refine TL.cmpG rfl rfl rfl rfl (fun hc => ?_) (fun hc => ?_) <;> try (exfalso; omega)) | refine TL.ev (ev_arN rfl rfl rfl (by omega)) rfl ?_ | refine TF.nil ?_ | refine TF.e rfl ?_ | refine G.treeEnd rfl ?_ | refine TF.s rfl (fun _ hh => ev_simple rfl) rfl ?_ | refine TF.s rfl (fun _ hh => ev_fieldAddr rfl) rfl ?_ | refine T.regionXb b3 8 9 (.s 0 (.s 1 (.s 2 (.s 3 (.s 4 (.e 5 (.e 6 (.e 7 (.s 8 (.e 9 .nil)))))))))) mixed (by kernel_rfl) (fun wr hzr hEr => ?_) | (refine G.tree rfl (by repeat (first | exact Exb.refl _ _ | (refine Exb.ext ?_ (by assumption)) | (refine Exb.upd ?_ (by assumption)))) ?_) | (refine TF.s rfl (fun _ hh => ev_loadVX rfl ⟨Vr.exb hh hV72 (Ne.symm hne), rfl⟩) rfl ?_) | (refine TL.callV (vs := [.int .i64 (i : Int), .int .i64 (j : Int)]) (cap := cap) hg rfl rfl rfl ?_; refine (hF i j _ hin hjn (by repeat (first | exact Ext.refl _ | (refine Ext.trans ?_ (by assumption)) | (apply ext_upd; assumption; rotate_left; omega)))).mono ?_; rintro _ wf ⟨x, rfl, hLx, hEf, hKx, hOx⟩; refine Back.mk ?_; have hzf := hEf.size; have ho1 := OwL.call ho hEf hOx (by repeat (first | exact Ext.refl _ | (refine Ext.trans ?_ (by assumption)) | (apply ext_upd; assumption; rotate_left; omega))) (show Ext w _ from (by repeat (first | exact Ext.refl _ | (refine Ext.trans ?_ (by assumption)) | (apply ext_upd; assumption; rotate_left; omega)))); clear hOx) | (refine TL.buildX1 (f := ivc) (u := x) rfl rfl rfl rfl rfl rfl rfl (fun wn bn ebn hVn hSn hEn hzn' => ?_)) | (refine TL.appendX (f := ivc) (u := x) (l := l) (zs := zz) (fun _ => rfl) rfl rfl rfl hSn (by repeat (first | assumption | (apply Vr.ext; assumption) | (apply Vr.updX; assumption; rotate_left; omega))) (fun _ _ => rfl) hl (by omega) (by omega) (fun wp hVp hUp hzp => ?_)) | (refine TL.storeX rfl rfl rfl rfl (by refine ⟨?_, ?_⟩; (focus (repeat (first | assumption | (apply Vr.ext; assumption) | (apply Vr.updX; assumption; rotate_left; omega)))); rfl) (fun ws hVs hUs hzs => ?_)) | refine T.seq ?_ | refine T.region ?_ | refine TL.nil ?_ | refine T.block ?_ | refine T.cond_t rfl ?_ | refine T.skip ?_ | refine G.next ?_ | refine G.blockN ?_ | refine G.only ?_)
      have hEn' : ∀ z y, LI w2.heap z y → LI wn.heap z y := fun z y h => by repeat (first | assumption | (apply LI.ext; assumption))
      have hV3n : Vr wn.heap b3 27 (l.flatMap ivc ++ zz) := (by repeat (first | assumption | (apply Vr.ext; assumption) | (apply Vr.updX; assumption; rotate_left; omega)))
      have hV7p : Vr wp.heap ba 24 [.int .i64 (r : Int), .int .i64 (c : Int), .slice (some ⟨b3, 0, none⟩) (i * c + j) (r * c)] := (by repeat (first | assumption | (apply Vr.ext; assumption) | (apply Vr.updX; assumption; rotate_left; omega)))
      have keep : ∀ z y, LI wn.heap z y → LI ws.heap z y := fun z y h => LI.updV hUs hV7p rfl (LI.updV hUp hV3n (ivc_all _ _ hzz) h)
      have hV6e : Vr ws.heap b6 24 cs6 := (by repeat (first | assumption | (apply Vr.ext; assumption) | (apply Vr.updX; assumption; rotate_left; omega)))
      have hV3e := Vr.updX hUs hVp hne
      have hlq : (l ++ [x]).length = i * c + (j + 1) := by simp; omega
      have hqd : (i * c + j) / c = i := by rw [Nat.mul_comm, Nat.mul_add_div hc0, Nat.div_eq_of_lt hjn, Nat.add_zero]
      have hqm : (i * c + j) % c = j := by rw [Nat.mul_comm, Nat.mul_add_mod, Nat.mod_eq_of_lt hjn]
      refine G.again (j + 1, l ++ [x], zz.drop 2) (by repeat (first | exact Sub.nil _ | refine Sub.cons rfl ?_ | refine Sub.cons' rfl (int_congr (by omega)) ?_)) ⟨by dsimp only; omega, hlq, by simp; omega, ?_, (by repeat (first | exact Ext.refl _ | (refine Ext.trans ?_ (by assumption)) | (apply ext_upd; assumption; rotate_left; omega))), hV3e, hVs, ⟨cs6, hV6e, hl6', hn6⟩, fun q hq => ?_, OwL.updV hUs hV7p (by decide) (OwL.updV hUp hV3n (by decide) (ho1.ext hEn))⟩ (by dsimp only; omega)
      · rw [List.all_eq_true] at hzz ⊢
        exact fun v hv => hzz v (List.mem_of_mem_drop hv)
      · dsimp only at hq ⊢
        rw [getD_snoc hq]
        split
        · rename_i h1
          exact ⟨keep _ _ (hEn' _ _ (hg2 q h1).1), (hg2 q h1).2⟩
        · rename_i h1
          obtain rfl : q = i * c + j := by rw [hlq] at hq; omega
          rw [hqd, hqm]
          exact ⟨keep _ _ (hLx.ext hEn), hKx⟩
    · obtain rfl : j = c := by omega
      repeat' (first | refine TL.ev (ev_simple rfl) rfl ?_ | (refine TL.cmpG rfl rfl rfl rfl (fun hc => ?_) (fun hc => ?_) <;> try (exfalso; omega)) | refine TL.ev (ev_arN rfl rfl rfl (by omega)) rfl ?_ | refine T.seq ?_ | refine T.region ?_ | refine TL.nil ?_ | refine T.cond_f rfl ?_ | refine T.exit ?_ | refine G.next ?_ | refine G.blockN ?_ | refine G.blockE ?_ | refine G.thenE ?_)
      refine G.again (i + 1, l, zz) (by repeat (first | exact Sub.nil _ | refine Sub.cons rfl ?_ | refine Sub.cons' rfl (int_congr (by omega)) ?_)) ⟨by dsimp only; omega, by dsimp only; rw [hl, Nat.add_mul, Nat.one_mul], by dsimp only; rw [hzzl, Nat.add_mul, Nat.one_mul], hzz, hE2, hV32, by dsimp only; rw [Nat.add_mul, Nat.one_mul]; exact hV72, ⟨cs6, hV62, hl6', hn6⟩, hg2, ho⟩ (by dsimp only; omega)
  · obtain rfl : i = r := by omega
    have hzz0 : zz = [] := List.eq_nil_of_length_eq_zero (by rw [hzzl, Nat.sub_self, Nat.zero_mul])
    subst hzz0
    match cs6, hl6', hV62, hn6 with
    | [y0, y1, y2], _, hV62, hn6 =>
      repeat' (first | (refine TL.cmpG rfl rfl rfl rfl (fun hc => ?_) (fun hc => ?_) <;> try (exfalso; omega)) | (refine TL.ev (ev_loadVAX rfl (by refine ⟨?_, ?_⟩; (focus (repeat (first | assumption | (apply Vr.ext; assumption) | (apply Vr.updX; assumption; rotate_left; omega)))); rfl)) rfl ?_) | (refine TL.storeVX rfl rfl rfl rfl (by refine ⟨?_, ?_⟩; (focus (repeat (first | assumption | (apply Vr.ext; assumption) | (apply Vr.updX; assumption; rotate_left; omega)))); rfl) (fun ws hVs hUs hzs => ?_)) | refine T.seq ?_ | refine T.region ?_ | refine TL.nil ?_ | refine T.cond_f rfl ?_ | refine T.exit ?_ | refine T.ret ?_ | refine G.next ?_ | refine G.blockE ?_ | refine G.thenE ?_)
      have hV3e : Vr ws.heap b3 27 (l.flatMap ivc ++ []) := Vr.updX hUs hV32 (Ne.symm hne63)
      rw [List.append_nil] at hV3e
      refine G.retC1 rfl rfl (held_agg hVs rfl) ⟨b3, l, rfl, hV3e, hl, fun a b ha hb => ?_, (by repeat (first | exact Ext.refl _ | (refine Ext.trans ?_ (by assumption)) | (apply ext_upd; assumption; rotate_left; omega))), hl3, OwL.updV hUs hV62 (by decide) ho⟩
      have hq := place_lt ha hb
      obtain ⟨g1, g2⟩ := hg2 (a * c + b) (by omega)
      rw [show (a * c + b) / c = a by rw [Nat.mul_comm, Nat.mul_add_div (by omega), Nat.div_eq_of_lt hb, Nat.add_zero], show (a * c + b) % c = b by rw [Nat.mul_comm, Nat.mul_add_mod, Nat.mod_eq_of_lt hb]] at g1
      exact ⟨LI.updV hUs hV62 hn6 g1, g2⟩
end Go.Proofs.YtlpheckjogphmaaGreat
