/- Layer 9: Stack of the document. Layer 9: Beside of the document. Layer 9: Lines of the document. The document's answer to Lines. MatAll: each kind of call answers what the document answers. -/
import Derived.Test.YtlhmehikajidhaaGreatPm13
import Derived.Test.YtlhmehikajidhaaGreatPm8
import Derived.Test.YtlhmehikajidhaaGreatPm11
import Derived.Test.YtlhmehikajidhaaGreatPm9
import Derived.Test.YtlhmehikajidhaaGreatPm5
set_option maxHeartbeats 8000000
set_option linter.unusedVariables false
set_option linter.unusedSimpArgs false
namespace Go.Eng
open Go Go.RowKit
section
variable {P : Program} {σ : Store} {H : Array Obj} {d : Option Tmp} {t : TypeId} {pos : String} {af : Array Edge} {gd : Option (Nat × Bool)}
theorem ev_loadMFc {x : Operand} {ty : TypeId} [hO : UOne P ty] {sz off : Nat} {α : Type} {f : α → List Value} {B n c i : Nat} {A : Option Addr} {l : List α} {y : α} {v : Value} (cs : List Value)
    (hx : look σ x = some (.pointer (elemA A (i * sz + off)))) (hs : Sm sz f H B A n c l) (hy : l[i]? = some y) (hc : f y = cs) (hv : nthV cs off = some v) : Ev P σ H ⟨d, .load ty x, t, pos, af, gd⟩ v := ev_loadMF hx hs hy (by rw [hc]; exact hv)
end
end Go.Eng
namespace Go.Proofs.YtlhmehikajidhaaGreat
open Go Go.Eng Go.Proofs Go.NatM Go.RowKit
theorem rstack_bad (w : World) (A : Option Addr) (n k : Nat) (L : List MV) (hs : Sm 3 mvc w.heap w.heap.size A n k L) (hL : ∃ y ∈ L, ¬ Snd y) (hn : n ≤ 1048576) : Cl Tryz.prog 38 #[.slice A n k] w (RetMF w 1) := by
  have hlen := hs.len
  refine enter Tryz.func38 rfl rfl rfl ?_
  have hF := Fr.refl w
  repeat' (first | (refine TL.isOp ?_; first | (apply TL.ev; (case hd => rfl); (case h => (first | exact ev_simple rfl))) | (refine TL.allocFr hF (d := 2) rfl rfl ?_; clear hF; intro w2 b2 hF)) | (refine T.is ?_; first | refine T.seq ?_ | refine T.region ?_ | refine T.block ?_) | (refine G.is ?_; first | refine G.next ?_) | refine TL.nil ?_)
  refine T.loop (α := Nat) (fun i => [(0, .slice A n k), (2, .pointer (some ⟨b2, 0, none⟩)), (3, .int .i64 0), (4, .int .i64 (i : Int))])
    (fun i w' => i ≤ n ∧ (∀ j y, j < i → L[j]? = some y → Snd y) ∧ Fr w w' [⟨b2, 27, [.int .i64 0, .int .i64 0, .slice none 0 0]⟩] [])
    (fun i => n - i) 0 (by repeat (first | exact Sub.nil _ | refine Sub.cons rfl ?_ | refine Sub.cons' rfl (int_congr (by omega)) ?_)) ⟨Nat.zero_le _, fun j y hj => absurd hj (Nat.not_lt_zero _), hF⟩ ?_
  clear hF
  rintro i w2 ⟨hi, hq, hF⟩
  rcases Nat.lt_or_ge i n with hin | hin
  · have hy : L[i]? = some (L.getD i default) := by simp [List.getD, show i < L.length by omega]
    generalize L.getD i default = y at *
    have hck := fun w1 (z : Int) h => rchk_any w1 y (z := z) h
    by_cases hS : Snd y
    · have hck := fun w1 => hck w1 0 (.inl ⟨hS, rfl⟩)
      obtain ⟨yr, yc, A2, n2, k2, l2⟩ := y
      repeat' (first | (refine TL.isOp ?_; first | (refine TL.isCall ?_; refine TL.call rfl rfl ?_; first | (refine (hck _).mono ?_; rintro _ wc ⟨rfl, hE⟩; replace hF := hF.exts hE; clear hE; refine Back.mk ?_)) | (refine TL.isBin ?_; refine TL.cmpG rfl rfl rfl rfl (fun hc => ?_) (fun hc => ?_) <;> (try (first | (exfalso; omega) | exact absurd rfl hc))) | (apply TL.ev; (case hd => rfl); (case h => (first | exact ev_simple rfl | (apply Ev.isBin; first | exact ev_arN rfl rfl rfl (by omega)) | (apply Ev.isLoad; first | exact ev_loadMc [.int .i64 yr, .int .i64 yc, .slice A2 n2 k2] rfl (hs.ext hF.ext) hy rfl) | exact ev_len rfl | exact ev_indexM rfl rfl hin (hs.ext hF.ext).some)))) | (refine T.is ?_; first | refine T.seq ?_ | refine T.region ?_ | refine T.block ?_ | refine T.cond_t rfl ?_ | refine T.cond_f rfl ?_ | refine T.skip ?_) | (refine G.is ?_; first | refine G.next ?_ | refine G.blockN ?_) | refine TL.nil ?_)
      refine G.again (i + 1) (by repeat (first | exact Sub.nil _ | refine Sub.cons rfl ?_ | refine Sub.cons' rfl (int_congr (by omega)) ?_)) ⟨by omega, fun j z hj hz => ?_, hF⟩ (by omega)
      rcases Nat.lt_or_ge j i with h | h
      · exact hq j z h hz
      · obtain rfl : j = i := by omega
        rw [hy] at hz; cases hz
        exact hS
    · have hck := fun w1 => hck w1 1 (.inr ⟨hS, rfl⟩)
      clear hS
      obtain ⟨yr, yc, A2, n2, k2, l2⟩ := y
      repeat' (first | (refine TL.isOp ?_; first | (refine TL.isCall ?_; refine TL.call rfl rfl ?_; first | (refine (hck _).mono ?_; rintro _ wc ⟨rfl, hE⟩; replace hF := hF.exts hE; clear hE; refine Back.mk ?_)) | (refine TL.isBin ?_; refine TL.cmpG rfl rfl rfl rfl (fun hc => ?_) (fun hc => ?_) <;> (try (first | (exfalso; omega) | exact absurd rfl hc))) | (apply TL.ev; (case hd => rfl); (case h => (first | exact ev_simple rfl | (apply Ev.isLoad; first | exact ev_loadMc [.int .i64 yr, .int .i64 yc, .slice A2 n2 k2] rfl (hs.ext hF.ext) hy rfl) | exact ev_len rfl | exact ev_buildX rfl rfl | exact ev_indexM rfl rfl hin (hs.ext hF.ext).some))) | (refine TL.storeAFr hF rfl rfl rfl rfl (by refine ⟨?_, ?_⟩; (focus (repeat (first | apply SetV.head | apply SetV.tail))); rfl) rfl ?_; clear hF; intro ws hF)) | (refine T.is ?_; first | refine T.seq ?_ | refine T.region ?_ | refine T.block ?_ | refine T.cond_t rfl ?_ | refine T.ret ?_ | refine T.skip ?_) | (refine G.is ?_; first | refine G.next ?_ | refine G.blockR ?_ | refine G.thenR ?_) | refine TL.nil ?_)
      exact G.retC2 rfl rfl rfl (held_agg (hF.var (by repeat (first | exact InV.head | apply InV.tail))) rfl) ⟨rfl, hF.ext⟩
  · exfalso
    obtain ⟨y, hy, hb⟩ := hL
    obtain ⟨j, hj⟩ := List.getElem?_of_mem hy
    exact hb (hq j y (by have := (List.getElem?_eq_some_iff.1 hj).1; omega) hj)
theorem fl_succ {L : List MV} {i : Nat} {y : MV} (h : L[i]? = some y) : fl (L.take (i + 1)) = fl (L.take i) ++ y.l := by
  rw [List.take_add_one, h]
  simp [fl]
def StL (w w' : World) (b2 : Nat) (n : Nat) (A : Option Addr) (k : Nat) (l : List IV) : Prop := l.length = n ∧
  ((n = 0 ∧ A = none ∧ k = 0 ∧ Fr w w' [⟨b2, 27, [.int .i64 0, .int .i64 0, .slice none 0 0]⟩] []) ∨
   ∃ g zs, A = some ⟨g, 0, none⟩ ∧ n ≤ k ∧ zs.length = (k - n) * 2 ∧ zs.all noU64 = true ∧ Fr w w' [⟨g, 30, l.flatMap ivc ++ zs⟩, ⟨b2, 27, [.int .i64 0, .int .i64 0, .slice none 0 0]⟩] [])
set_option maxRecDepth 100000 in
theorem rstack_ok (w : World) (A : Option Addr) (n k : Nat) (L : List MV) (K : Nat) (hs : Sm 3 mvc w.heap w.heap.size A n k L) (hG : ∀ y ∈ L, GM w.heap y (nr y) (nc y) K) (hn : n ≤ 1048576) (hK : K ≤ 1099511627776) :
    Cl Tryz.prog 38 #[.slice A n k] w (RetStack w L K) := by
  have hlen := hs.len
  refine enter Tryz.func38 rfl rfl rfl ?_
  have hF := Fr.refl w
  repeat' (first | (refine TL.isOp ?_; first | (apply TL.ev; (case hd => rfl); (case h => (first | exact ev_simple rfl))) | (refine TL.allocFr hF (d := 2) rfl rfl ?_; clear hF; intro w2 b2 hF)) | (refine T.is ?_; first | refine T.seq ?_ | refine T.region ?_ | refine T.block ?_) | (refine G.is ?_; first | refine G.next ?_) | refine TL.nil ?_)
  refine T.loop (α := Nat) (fun i => [(0, .slice A n k), (2, .pointer (some ⟨b2, 0, none⟩)), (3, .int .i64 0), (4, .int .i64 (i : Int))])
    (fun i w' => i ≤ n ∧ Fr w w' [⟨b2, 27, [.int .i64 0, .int .i64 0, .slice none 0 0]⟩] [])
    (fun i => n - i) 0 (by repeat (first | exact Sub.nil _ | refine Sub.cons rfl ?_ | refine Sub.cons' rfl (int_congr (by omega)) ?_)) ⟨Nat.zero_le _, hF⟩ ?_
  clear hF
  rintro i w2 ⟨hi, hF⟩
  rcases Nat.lt_or_ge i n with hin | hin
  · have hy : L[i]? = some (L.getD i default) := by simp [List.getD, show i < L.length by omega]
    have gy := (hG _ (List.mem_of_getElem? hy)).sh
    generalize L.getD i default = y at *
    have hck := fun w1 => rchkE_ok w1 y _ _ gy
    clear gy
    obtain ⟨yr, yc, A2, n2, k2, l2⟩ := y
    repeat' (first | (refine TL.isOp ?_; first | (refine TL.isCall ?_; refine TL.call rfl rfl ?_; first | (refine (hck _).mono ?_; rintro _ wc ⟨rfl, hE⟩; replace hF := hF.exts hE; clear hE; refine Back.mk ?_)) | (refine TL.isBin ?_; refine TL.cmpG rfl rfl rfl rfl (fun hc => ?_) (fun hc => ?_) <;> (try (first | (exfalso; omega) | exact absurd rfl hc))) | (apply TL.ev; (case hd => rfl); (case h => (first | exact ev_simple rfl | (apply Ev.isBin; first | exact ev_arN rfl rfl rfl (by omega)) | (apply Ev.isLoad; first | exact ev_loadMc [.int .i64 yr, .int .i64 yc, .slice A2 n2 k2] rfl (hs.ext hF.ext) hy rfl) | exact ev_len rfl | exact ev_indexM rfl rfl hin (hs.ext hF.ext).some)))) | (refine T.is ?_; first | refine T.seq ?_ | refine T.region ?_ | refine T.block ?_ | refine T.cond_t rfl ?_ | refine T.cond_f rfl ?_ | refine T.skip ?_) | (refine G.is ?_; first | refine G.next ?_ | refine G.blockN ?_) | refine TL.nil ?_)
    exact G.again (i + 1) (by repeat (first | exact Sub.nil _ | refine Sub.cons rfl ?_ | refine Sub.cons' rfl (int_congr (by omega)) ?_)) ⟨by omega, hF⟩ (by omega)
  obtain rfl : i = n := by omega
  repeat' (first | (refine TL.isOp ?_; first | (refine TL.isBin ?_; refine TL.cmpG rfl rfl rfl rfl (fun hc => ?_) (fun hc => ?_) <;> (try (first | (exfalso; omega) | exact absurd rfl hc))) | (apply TL.ev; (case hd => rfl); (case h => (first | exact ev_simple rfl | exact ev_len rfl)))) | (refine T.is ?_; first | refine T.seq ?_ | refine T.region ?_ | refine T.block ?_ | refine T.cond_f rfl ?_ | refine T.exit ?_) | (refine G.is ?_; first | refine G.next ?_ | refine G.blockE ?_ | refine G.thenE ?_) | refine TL.nil ?_)
  refine T.loop (α := Nat) (fun j => [(0, .slice A i k), (2, .pointer (some ⟨b2, 0, none⟩)), (3, .int .i64 0), (6, .int .i64 0), (7, .int .i64 (((if j = 0 then 0 else c0 L) : Nat) : Int)), (8, .slice none 0 0), (9, .int .i64 (j : Int))])
    (fun j w' => j ≤ i ∧ (∀ q y, q < j → L[q]? = some y → nc y = c0 L) ∧ Fr w w' [⟨b2, 27, [.int .i64 0, .int .i64 0, .slice none 0 0]⟩] [])
    (fun j => i - j) 0 (by repeat (first | exact Sub.nil _ | refine Sub.cons rfl ?_ | refine Sub.cons' rfl (int_congr (by omega)) ?_)) ⟨Nat.zero_le _, fun j y hj => absurd hj (Nat.not_lt_zero _), hF⟩ ?_
  clear hF hi hin
  rintro j w2 ⟨hj, hq, hF⟩
  rcases Nat.lt_or_ge j i with hjn | hjn
  · have hy : L[j]? = some (L.getD j default) := by simp [List.getD, show j < L.length by omega]
    have gy := (hG _ (List.mem_of_getElem? hy)).sh
    have hmem := List.mem_of_getElem? hy
    generalize L.getD j default = y at *
    have hnc : nc y = y.c.toNat := rfl
    obtain ⟨yr, yc, A2, n2, k2, l2⟩ := y
    obtain ⟨h1, h2, h3, h4, h5⟩ := gy
    dsimp only at h1 h2 h5 hnc
    generalize hr' : nr (⟨yr, yc, A2, n2, k2, l2⟩ : MV) = r' at *
    generalize hc' : nc (⟨yr, yc, A2, n2, k2, l2⟩ : MV) = c' at *
    subst h1 h2 h5
    rcases Nat.eq_zero_or_pos j with h0 | h0
    · subst h0
      have hc0 : c0 L = c' := (c0_head hy).trans hc'
      rw [if_pos rfl]
      repeat' (first | (refine TL.isOp ?_; first | (refine TL.isG ?_; first | refine TL.gskip rfl rfl rfl rfl ?_) | (refine TL.isBin ?_; refine TL.cmpG rfl rfl rfl rfl (fun hc => ?_) (fun hc => ?_) <;> (try (first | (exfalso; omega) | exact absurd rfl hc))) | (apply TL.ev; (case hd => rfl); (case h => (first | exact ev_simple rfl | (apply Ev.isBin; first | exact ev_arN rfl rfl rfl (by omega)) | (apply Ev.isLoad; first | exact ev_loadMFc [.int .i64 (r' : Int), .int .i64 (c' : Int), .slice A2 (r' * c') k2] rfl (hs.ext hF.ext) hy rfl rfl) | exact ev_len rfl | exact ev_indexM rfl rfl hjn (hs.ext hF.ext).some | exact ev_fieldAddrE rfl (hs.isSome hjn))))) | (refine T.is ?_; first | refine T.seq ?_ | refine T.region ?_ | refine T.block ?_ | refine T.cond_t rfl ?_ | refine T.cond_f rfl ?_ | refine T.skip ?_) | (refine G.is ?_; first | refine G.next ?_ | refine G.blockN ?_) | refine TL.nil ?_)
      refine G.again 1 (by rw [if_neg (by omega), hc0]; exact (by repeat (first | exact Sub.nil _ | refine Sub.cons rfl ?_ | refine Sub.cons' rfl (int_congr (by omega)) ?_))) ⟨by omega, fun j z hj hz => ?_, hF⟩ (by omega)
      obtain rfl : j = 0 := by omega
      rw [hy] at hz; cases hz
      rw [hc', hc0]
    · rw [if_neg (by omega)]
      by_cases hcc : c' = c0 L
      · repeat' (first | (refine TL.isOp ?_; first | (refine TL.isG ?_; first | refine TL.grun rfl rfl rfl ?_) | (refine TL.isBin ?_; refine TL.cmpG rfl rfl rfl rfl (fun hc => ?_) (fun hc => ?_) <;> (try (first | (exfalso; omega) | exact absurd rfl hc))) | (apply TL.ev; (case hd => rfl); (case h => (first | exact ev_simple rfl | (apply Ev.isBin; first | exact ev_arN rfl rfl rfl (by omega)) | (apply Ev.isLoad; first | exact ev_loadMFc [.int .i64 (r' : Int), .int .i64 (c' : Int), .slice A2 (r' * c') k2] rfl (hs.ext hF.ext) hy rfl rfl) | exact ev_len rfl | exact ev_indexM rfl rfl hjn (hs.ext hF.ext).some | exact ev_fieldAddrE rfl (hs.isSome hjn))))) | (refine T.is ?_; first | refine T.seq ?_ | refine T.region ?_ | refine T.block ?_ | refine T.cond_t rfl ?_ | refine T.cond_f rfl ?_ | refine T.skip ?_) | (refine G.is ?_; first | refine G.next ?_ | refine G.blockN ?_) | refine TL.nil ?_)
        refine G.again (j + 1) (by rw [if_neg (by omega), ← hcc]; exact (by repeat (first | exact Sub.nil _ | refine Sub.cons rfl ?_ | refine Sub.cons' rfl (int_congr (by omega)) ?_))) ⟨by omega, fun q z hj hz => ?_, hF⟩ (by omega)
        rcases Nat.lt_or_ge q j with h | h
        · exact hq q z h hz
        · obtain rfl : q = j := by omega
          rw [hy] at hz; cases hz
          exact hc'.trans hcc
      · have hno : ¬ OneW L := fun h => hcc (hc'.symm.trans (h _ hmem))
        repeat' (first | (refine TL.isOp ?_; first | (refine TL.isG ?_; first | refine TL.grun rfl rfl rfl ?_) | (refine TL.isBin ?_; refine TL.cmpG rfl rfl rfl rfl (fun hc => ?_) (fun hc => ?_) <;> (try (first | (exfalso; omega) | exact absurd rfl hc))) | (apply TL.ev; (case hd => rfl); (case h => (first | exact ev_simple rfl | (apply Ev.isLoad; first | exact ev_loadMFc [.int .i64 (r' : Int), .int .i64 (c' : Int), .slice A2 (r' * c') k2] rfl (hs.ext hF.ext) hy rfl rfl) | exact ev_len rfl | exact ev_buildX rfl rfl | exact ev_indexM rfl rfl hjn (hs.ext hF.ext).some | exact ev_fieldAddrE rfl (hs.isSome hjn)))) | (refine TL.storeAFr hF rfl rfl rfl rfl (by refine ⟨?_, ?_⟩; (focus (repeat (first | apply SetV.head | apply SetV.tail))); rfl) rfl ?_; clear hF; intro ws hF)) | (refine T.is ?_; first | refine T.seq ?_ | refine T.region ?_ | refine T.block ?_ | refine T.cond_t rfl ?_ | refine T.ret ?_ | refine T.skip ?_) | (refine G.is ?_; first | refine G.next ?_ | refine G.blockR ?_ | refine G.thenR ?_) | refine TL.nil ?_)
        all_goals first | exact G.retC2 rfl rfl rfl (held_agg (hF.var (by repeat (first | exact InV.head | apply InV.tail))) rfl) (by unfold RetStack; rw [if_neg hno]; exact ⟨rfl, hF.ext⟩) | (exfalso; omega)
  obtain rfl : j = i := by omega
  have hW : OneW L := fun y hy => by
    obtain ⟨q, hq'⟩ := List.getElem?_of_mem hy
    exact hq q y (by have := (List.getElem?_eq_some_iff.1 hq').1; omega) hq'
  have hci : ((if j = 0 then 0 else c0 L) : Nat) = c0 L := by
    split
    · rename_i h0
      rw [h0] at hlen
      rw [List.eq_nil_of_length_eq_zero hlen]; rfl
    · rfl
  rw [hci]
  have hall : ∀ y ∈ L, nc y = c0 L ∧ y.l.length = nr y * nc y := fun y hy => ⟨hW y hy, (hG y hy).len⟩
  have hc64 : c0 L ≤ 64 := by
    cases hL : L with
    | nil => simp [c0]
    | cons x L' => subst hL; exact (hG x (List.mem_cons_self ..)).sh.c64
  clear hq hj hjn hci
  repeat' (first | (refine TL.isOp ?_; first | (refine TL.isBin ?_; refine TL.cmpG rfl rfl rfl rfl (fun hc => ?_) (fun hc => ?_) <;> (try (first | (exfalso; omega) | exact absurd rfl hc))) | (apply TL.ev; (case hd => rfl); (case h => (first | exact ev_simple rfl | exact ev_len rfl)))) | (refine T.is ?_; first | refine T.seq ?_ | refine T.region ?_ | refine T.block ?_ | refine T.cond_f rfl ?_ | refine T.exit ?_) | (refine G.is ?_; first | refine G.next ?_ | refine G.blockE ?_ | refine G.thenE ?_) | refine TL.nil ?_)
  refine T.loop (α := Nat × Option Addr × Nat) (fun x => [(0, .slice A j k), (2, .pointer (some ⟨b2, 0, none⟩)), (3, .int .i64 0), (6, .int .i64 ((sumR (L.take x.1) : Nat) : Int)), (7, .int .i64 (c0 L : Int)), (8, .slice x.2.1 (sumR (L.take x.1) * c0 L) x.2.2), (10, .int .i64 (x.1 : Int))])
    (fun x w' => x.1 ≤ j ∧ sumR (L.take x.1) ≤ 64 ∧ StL w w' b2 (sumR (L.take x.1) * c0 L) x.2.1 x.2.2 (fl (L.take x.1))) (fun x => j - x.1) (0, none, 0)
    (by simp only [List.take_zero, show sumR [] = 0 from rfl, Nat.zero_mul]; exact (by repeat (first | exact Sub.nil _ | refine Sub.cons rfl ?_ | refine Sub.cons' rfl (int_congr (by omega)) ?_))) ⟨Nat.zero_le _, by simp [sumR], by simp [sumR, fl], .inl ⟨by simp [sumR], rfl, rfl, hF⟩⟩ ?_
  clear hF
  rintro ⟨i, B, kB⟩ w3 ⟨hi, hS, hl, hst⟩
  dsimp only at hi hS hl hst ⊢
  rcases Nat.lt_or_ge i j with hin | hin
  · have hy : L[i]? = some (L.getD i default) := by simp [List.getD, show i < L.length by omega]
    have hmem := List.mem_of_getElem? hy
    have gy := hG _ hmem
    generalize L.getD i default = y at *
    have hsucc := sumR_succ hy
    have hflu := fl_succ hy
    have hle := sumR_le L (i + 1)
    rw [hsucc] at hle
    have hyc := hW y hmem
    have hsy := gy.s
    have hys := gy.sh
    obtain ⟨yr, yc, A2, n2, k2, l2⟩ := y
    obtain ⟨h1, h2, h3, h4, h5⟩ := hys
    dsimp only at h1 h2 h5 hsy hflu
    generalize hr' : nr (⟨yr, yc, A2, n2, k2, l2⟩ : MV) = r' at *
    rw [hyc] at h2 h5 h4
    clear hyc gy
    subst h1 h2 h5
    have hm := mul64 h3 h4
    have hl2 := hsy.len
    generalize hSe : sumR (L.take i) = S at *
    generalize hle' : fl (L.take i) = lt at *
    rcases Nat.lt_or_ge 64 (S + r') with hbig | hsml
    · have hno : ¬ sumR L ≤ 64 := by omega
      rcases hst with ⟨h0, rfl, rfl, hF⟩ | ⟨g, zs, rfl, hkg, hzs, hzn, hF⟩
      · repeat' (first | (refine TL.isOp ?_; first | (refine TL.isBin ?_; refine TL.cmpG rfl rfl rfl rfl (fun hc => ?_) (fun hc => ?_) <;> (try (first | (exfalso; omega) | exact absurd rfl hc))) | (apply TL.ev; (case hd => rfl); (case h => (first | exact ev_simple rfl | (apply Ev.isBin; first | exact ev_arN rfl rfl rfl (by omega)) | (apply Ev.isLoad; first | exact ev_loadMFc [.int .i64 (r' : Int), .int .i64 (c0 L : Int), .slice A2 (r' * c0 L) k2] rfl (hs.ext hF.ext) hy rfl rfl) | exact ev_len rfl | exact ev_buildX rfl rfl | exact ev_indexM rfl rfl hin (hs.ext hF.ext).some | exact ev_fieldAddrE rfl (hs.isSome hin)))) | (refine TL.storeAFr hF rfl rfl rfl rfl (by refine ⟨?_, ?_⟩; (focus (repeat (first | apply SetV.head | apply SetV.tail))); rfl) rfl ?_; clear hF; intro ws hF)) | (refine T.is ?_; first | refine T.seq ?_ | refine T.region ?_ | refine T.block ?_ | refine T.cond_t rfl ?_ | refine T.ret ?_ | refine T.skip ?_) | (refine G.is ?_; first | refine G.next ?_ | refine G.blockR ?_ | refine G.thenR ?_) | refine TL.nil ?_)
        all_goals first | exact G.retC2 rfl rfl rfl (held_agg (hF.var (by repeat (first | exact InV.head | apply InV.tail))) rfl) (by unfold RetStack; rw [if_pos hW, if_neg hno]; exact ⟨rfl, hF.ext⟩) | (exfalso; omega)
      · repeat' (first | (refine TL.isOp ?_; first | (refine TL.isBin ?_; refine TL.cmpG rfl rfl rfl rfl (fun hc => ?_) (fun hc => ?_) <;> (try (first | (exfalso; omega) | exact absurd rfl hc))) | (apply TL.ev; (case hd => rfl); (case h => (first | exact ev_simple rfl | (apply Ev.isBin; first | exact ev_arN rfl rfl rfl (by omega)) | (apply Ev.isLoad; first | exact ev_loadMFc [.int .i64 (r' : Int), .int .i64 (c0 L : Int), .slice A2 (r' * c0 L) k2] rfl (hs.ext hF.ext) hy rfl rfl) | exact ev_len rfl | exact ev_buildX rfl rfl | exact ev_indexM rfl rfl hin (hs.ext hF.ext).some | exact ev_fieldAddrE rfl (hs.isSome hin)))) | (refine TL.storeAFr hF rfl rfl rfl rfl (by refine ⟨?_, ?_⟩; (focus (repeat (first | apply SetV.head | apply SetV.tail))); rfl) rfl ?_; clear hF; intro ws hF)) | (refine T.is ?_; first | refine T.seq ?_ | refine T.region ?_ | refine T.block ?_ | refine T.cond_t rfl ?_ | refine T.ret ?_ | refine T.skip ?_) | (refine G.is ?_; first | refine G.next ?_ | refine G.blockR ?_ | refine G.thenR ?_) | refine TL.nil ?_)
        all_goals first | exact G.retC2 rfl rfl rfl (held_agg (hF.var (by repeat (first | exact InV.head | apply InV.tail))) rfl) (by unfold RetStack; rw [if_pos hW, if_neg hno]; exact ⟨rfl, hF.ext⟩) | (exfalso; omega)
    · have hmul : (S + r') * c0 L = S * c0 L + r' * c0 L := Nat.add_mul ..
      have hcap : (S + r') * c0 L ≤ 4096 := mul64 hsml hc64
      rcases Nat.eq_zero_or_pos (r' * c0 L) with hz | hz
      · have hl20 : l2 = [] := List.eq_nil_of_length_eq_zero (by rw [hl2]; exact hz)
        have e0 : (S + r') * c0 L = S * c0 L := by omega
        rcases hst with ⟨h0, rfl, rfl, hF⟩ | ⟨g, zs, rfl, hkg, hzs, hzn, hF⟩
        · repeat' (first | (refine TL.isOp ?_; first | (refine TL.isBin ?_; refine TL.cmpG rfl rfl rfl rfl (fun hc => ?_) (fun hc => ?_) <;> (try (first | (exfalso; omega) | exact absurd rfl hc))) | (apply TL.ev; (case hd => rfl); (case h => (first | exact ev_simple rfl | (apply Ev.isBin; first | exact ev_arN rfl rfl rfl (by omega)) | (apply Ev.isLoad; first | exact ev_loadMFc [.int .i64 (r' : Int), .int .i64 (c0 L : Int), .slice A2 (r' * c0 L) k2] rfl (hs.ext hF.ext) hy rfl rfl) | exact ev_len rfl | exact ev_indexM rfl rfl hin (hs.ext hF.ext).some | exact ev_fieldAddrE rfl (hs.isSome hin)))) | (refine TL.appendZero rfl (by rw [hz]; rfl) rfl (by omega) ?_)) | (refine T.is ?_; first | refine T.seq ?_ | refine T.region ?_ | refine T.block ?_ | refine T.cond_t rfl ?_ | refine T.cond_f rfl ?_ | refine T.skip ?_) | (refine G.is ?_; first | refine G.next ?_ | refine G.blockN ?_) | refine TL.nil ?_)
          refine G.again (i + 1, none, 0) (by dsimp only; rw [hsucc, e0]; exact (by repeat (first | exact Sub.nil _ | refine Sub.cons rfl ?_ | refine Sub.cons' rfl (int_congr (by omega)) ?_))) ⟨by dsimp only; omega, by dsimp only; rw [hsucc]; exact hsml, ?_⟩ (by dsimp only; omega)
          dsimp only
          rw [hsucc, e0, hflu, hl20, List.append_nil]
          exact ⟨hl, .inl ⟨h0, rfl, rfl, hF⟩⟩
        · repeat' (first | (refine TL.isOp ?_; first | (refine TL.isBin ?_; refine TL.cmpG rfl rfl rfl rfl (fun hc => ?_) (fun hc => ?_) <;> (try (first | (exfalso; omega) | exact absurd rfl hc))) | (apply TL.ev; (case hd => rfl); (case h => (first | exact ev_simple rfl | (apply Ev.isBin; first | exact ev_arN rfl rfl rfl (by omega)) | (apply Ev.isLoad; first | exact ev_loadMFc [.int .i64 (r' : Int), .int .i64 (c0 L : Int), .slice A2 (r' * c0 L) k2] rfl (hs.ext hF.ext) hy rfl rfl) | exact ev_len rfl | exact ev_indexM rfl rfl hin (hs.ext hF.ext).some | exact ev_fieldAddrE rfl (hs.isSome hin)))) | (refine TL.appendZero rfl (by rw [hz]; rfl) rfl hkg ?_)) | (refine T.is ?_; first | refine T.seq ?_ | refine T.region ?_ | refine T.block ?_ | refine T.cond_t rfl ?_ | refine T.cond_f rfl ?_ | refine T.skip ?_) | (refine G.is ?_; first | refine G.next ?_ | refine G.blockN ?_) | refine TL.nil ?_)
          refine G.again (i + 1, some ⟨g, 0, none⟩, kB) (by dsimp only; rw [hsucc, e0]; exact (by repeat (first | exact Sub.nil _ | refine Sub.cons rfl ?_ | refine Sub.cons' rfl (int_congr (by omega)) ?_))) ⟨by dsimp only; omega, by dsimp only; rw [hsucc]; exact hsml, ?_⟩ (by dsimp only; omega)
          dsimp only
          rw [hsucc, e0, hflu, hl20, List.append_nil]
          exact ⟨hl, .inr ⟨g, zs, rfl, hkg, hzs, hzn, hF⟩⟩
      · obtain ⟨aa, rfl⟩ : ∃ a, A2 = some a := Option.isSome_iff_exists.1 (hsy.isSome (i := 0) hz)
        rcases hst with ⟨h0, rfl, rfl, hF⟩ | ⟨g, zs, rfl, hkg, hzs, hzn, hF⟩
        · rw [h0]
          repeat' (first | (refine TL.isOp ?_; first | (refine TL.isBin ?_; refine TL.cmpG rfl rfl rfl rfl (fun hc => ?_) (fun hc => ?_) <;> (try (first | (exfalso; omega) | exact absurd rfl hc))) | (apply TL.ev; (case hd => rfl); (case h => (first | exact ev_simple rfl | (apply Ev.isBin; first | exact ev_arN rfl rfl rfl (by omega)) | (apply Ev.isLoad; first | exact ev_loadMFc [.int .i64 (r' : Int), .int .i64 (c0 L : Int), .slice (some aa) (r' * c0 L) k2] rfl (hs.ext hF.ext) hy rfl rfl) | exact ev_len rfl | exact ev_indexM rfl rfl hin (hs.ext hF.ext).some | exact ev_fieldAddrE rfl (hs.isSome hin)))) | (refine TL.appendNilFr hF ivc rfl rfl rfl (hsy.ext hF.ext) (fun _ => rfl) rfl rfl (by omega) (fun h0 => absurd h0 (by omega)) ?_; clear hF; intro _ wn bn cn zn hcn hzl hznn hF)) | (refine T.is ?_; first | refine T.seq ?_ | refine T.region ?_ | refine T.block ?_ | refine T.cond_t rfl ?_ | refine T.cond_f rfl ?_ | refine T.skip ?_) | (refine G.is ?_; first | refine G.next ?_ | refine G.blockN ?_) | refine TL.nil ?_)
          have e0 : (S + r') * c0 L = r' * c0 L := by omega
          have el : lt = [] := List.eq_nil_of_length_eq_zero (by omega)
          refine G.again (i + 1, some ⟨bn, 0, none⟩, cn) (by dsimp only; rw [hsucc, e0]; exact (by repeat (first | exact Sub.nil _ | refine Sub.cons rfl ?_ | refine Sub.cons' rfl (int_congr (by omega)) ?_))) ⟨by dsimp only; omega, by dsimp only; rw [hsucc]; exact hsml, ?_⟩ (by dsimp only; omega)
          dsimp only
          rw [hsucc, e0, hflu, el, List.nil_append]
          exact ⟨hl2, .inr ⟨bn, zn, rfl, hcn, hzl, hznn, hF⟩⟩
        · repeat' (first | (refine TL.isOp ?_; first | (refine TL.isBin ?_; refine TL.cmpG rfl rfl rfl rfl (fun hc => ?_) (fun hc => ?_) <;> (try (first | (exfalso; omega) | exact absurd rfl hc))) | (apply TL.ev; (case hd => rfl); (case h => (first | exact ev_simple rfl | (apply Ev.isBin; first | exact ev_arN rfl rfl rfl (by omega)) | (apply Ev.isLoad; first | exact ev_loadMFc [.int .i64 (r' : Int), .int .i64 (c0 L : Int), .slice (some aa) (r' * c0 L) k2] rfl (hs.ext hF.ext) hy rfl rfl) | exact ev_len rfl | exact ev_indexM rfl rfl hin (hs.ext hF.ext).some | exact ev_fieldAddrE rfl (hs.isSome hin)))) | (refine TL.appendVFr hF rfl rfl rfl (hsy.ext hF.ext) (fun _ => rfl) (fun _ => rfl) rfl rfl hl hzs hkg (ivc_all lt zs hzn) (by omega) (fun hle1 wn hF => ?_) (fun hgr wn bn cn zn hcn hzl hznn hF => ?_))) | (refine T.is ?_; first | refine T.seq ?_ | refine T.region ?_ | refine T.block ?_ | refine T.cond_t rfl ?_ | refine T.cond_f rfl ?_ | refine T.skip ?_) | (refine G.is ?_; first | refine G.next ?_ | refine G.blockN ?_) | refine TL.nil ?_)
          · refine G.again (i + 1, some ⟨g, 0, none⟩, kB) (by dsimp only; rw [hsucc, hmul]; exact (by repeat (first | exact Sub.nil _ | refine Sub.cons rfl ?_ | refine Sub.cons' rfl (int_congr (by omega)) ?_))) ⟨by dsimp only; omega, by dsimp only; rw [hsucc]; exact hsml, ?_⟩ (by dsimp only; omega)
            dsimp only
            rw [hsucc, hmul, hflu]
            exact ⟨by rw [List.length_append, hl, hl2], .inr ⟨g, zs.drop (r' * c0 L * 2), rfl, by omega, by rw [List.length_drop]; omega, List.all_eq_true.2 fun v hv => List.all_eq_true.1 hzn v (List.mem_of_mem_drop hv), hF⟩⟩
          · refine G.again (i + 1, some ⟨bn, 0, none⟩, cn) (by dsimp only; rw [hsucc, hmul]; exact (by repeat (first | exact Sub.nil _ | refine Sub.cons rfl ?_ | refine Sub.cons' rfl (int_congr (by omega)) ?_))) ⟨by dsimp only; omega, by dsimp only; rw [hsucc]; exact hsml, ?_⟩ (by dsimp only; omega)
            dsimp only
            rw [hsucc, hmul, hflu]
            exact ⟨by rw [List.length_append, hl, hl2], .inr ⟨bn, zn, rfl, hcn, hzl, hznn, hF.weak (by repeat (first | exact List.Sublist.refl _ | apply List.Sublist.cons_cons | apply List.Sublist.cons)) allN⟩⟩
  · obtain rfl : i = j := by omega
    have htk : L.take i = L := List.take_of_length_le (by omega)
    rw [htk] at hS hl hst
    rw [htk]
    have hgl : ∀ y ∈ fl L, GI w.heap y ∧ y.m.n ≤ K := fun y hy => by
      unfold fl at hy
      obtain ⟨m, hm1, hm2⟩ := List.mem_flatMap.1 hy
      exact (hG m hm1).g y hm2
    have hRs : ∀ (e : Ending) (w' : World), RetME w (sumR L) (c0 L) (fun i j => ival ((fl L).getD (i * c0 L + j) default)) K e w' → RetStack w L K e w' := fun e w' h => by unfold RetStack; rw [if_pos hW, if_pos hS]; exact h
    have hmk := fun (w1 : World) (hE : Ext w w1) (B : Option Addr) (kB : Nat) (hB : Sm 2 ivc w1.heap w1.heap.size B (sumR L * c0 L) kB (fl L)) => rmake_ok w1 (sumR L) (c0 L) kB K hS hc64 B (fl L) hB (fun y hy => ⟨(hgl y hy).1.ext hE, (hgl y hy).2⟩) hK
    generalize hSe : sumR L = S at *
    rcases hst with ⟨h0, rfl, rfl, hF⟩ | ⟨g, zs, rfl, hkg, hzs, hzn, hF⟩
    · have hmk := hmk _ hF.ext none 0 (by rw [h0, List.eq_nil_of_length_eq_zero (hl.trans h0)]; exact Sm.nil (by omega) _ _ _ _ _)
      repeat' (first | (refine TL.isOp ?_; first | (refine TL.isCall ?_; refine TL.call rfl rfl ?_; first | (refine hmk.mono ?_; rintro _ wz ⟨zz, rfl, hLz, hE, hf⟩; obtain ⟨Az, kz, lz, rfl⟩ := lm_mk hLz; rw [mvc_mk _ _ Az]; have hfz := hf.mono hF.ext.size; replace hF := Fr.addLM hF hE hLz hf; clear hE hf hLz; refine Back.mk ?_)) | (refine TL.isBin ?_; refine TL.cmpG rfl rfl rfl rfl (fun hc => ?_) (fun hc => ?_) <;> (try (first | (exfalso; omega) | exact absurd rfl hc))) | (apply TL.ev; (case hd => rfl); (case h => (first | exact ev_simple rfl | exact ev_len rfl))) | (refine TL.storeAFr hF rfl rfl rfl rfl (by refine ⟨?_, ?_⟩; (focus (repeat (first | apply SetV.head | apply SetV.tail))); rfl) rfl ?_; clear hF; intro ws hF)) | (refine T.is ?_; first | refine T.seq ?_ | refine T.region ?_ | refine T.cond_f rfl ?_ | refine T.exit ?_ | refine T.ret ?_) | (refine G.is ?_; first | refine G.next ?_ | refine G.blockE ?_ | refine G.thenE ?_) | refine TL.nil ?_)
      exact G.retC2 rfl rfl rfl (held_agg (hF.var (by repeat (first | exact InV.head | apply InV.tail))) rfl) (hRs _ _ ⟨⟨S, c0 L, Az, S * c0 L, kz, lz⟩, rfl, Fr.lm hF (by repeat (first | exact memH | apply memT)), hF.ext, hfz⟩)
    · have hmk := hmk _ hF.ext (some ⟨g, 0, none⟩) kB (vr_sm (by omega) (fun _ _ => rfl) (hF.var (.head)) hl hkg (hF.var (.head)).lt)
      repeat' (first | (refine TL.isOp ?_; first | (refine TL.isCall ?_; refine TL.call rfl rfl ?_; first | (refine hmk.mono ?_; rintro _ wz ⟨zz, rfl, hLz, hE, hf⟩; obtain ⟨Az, kz, lz, rfl⟩ := lm_mk hLz; rw [mvc_mk _ _ Az]; have hfz := hf.mono hF.ext.size; replace hF := Fr.addLM hF hE hLz hf; clear hE hf hLz; refine Back.mk ?_)) | (refine TL.isBin ?_; refine TL.cmpG rfl rfl rfl rfl (fun hc => ?_) (fun hc => ?_) <;> (try (first | (exfalso; omega) | exact absurd rfl hc))) | (apply TL.ev; (case hd => rfl); (case h => (first | exact ev_simple rfl | exact ev_len rfl))) | (refine TL.storeAFr hF rfl rfl rfl rfl (by refine ⟨?_, ?_⟩; (focus (repeat (first | apply SetV.head | apply SetV.tail))); rfl) rfl ?_; clear hF; intro ws hF)) | (refine T.is ?_; first | refine T.seq ?_ | refine T.region ?_ | refine T.cond_f rfl ?_ | refine T.exit ?_ | refine T.ret ?_) | (refine G.is ?_; first | refine G.next ?_ | refine G.blockE ?_ | refine G.thenE ?_) | refine TL.nil ?_)
      exact G.retC2 rfl rfl rfl (held_agg (hF.var (by repeat (first | exact InV.head | apply InV.tail))) rfl) (hRs _ _ ⟨⟨S, c0 L, Az, S * c0 L, kz, lz⟩, rfl, Fr.lm hF (by repeat (first | exact memH | apply memT)), hF.ext, hfz⟩)
end Go.Proofs.YtlhmehikajidhaaGreat
namespace Go.Proofs.YtlhmehikajidhaaGreat
open Go Go.Eng Go.Proofs Go.NatM Go.RowKit
section
variable {S : Nat → Prop} {w0 w w' : World} {L : List VB} {D : List DP}
theorem Fr.msAdd (h : Fr w0 w L D S) {i : Nat} {l : List MV} {R C : Nat → Nat} {F : Nat → Nat → Nat → Int} {K : Nat} {x : MV} (hl : l.length = i) (hm : dpMs i l R C F K ∈ D) (hx : dpLM x (R i) (C i) (F i) K ∈ D) : Fr w0 w L (dpMs (i + 1) (l ++ [x]) R C F K :: D) S := by
  refine h.add _ ?_ fun v hv hfp => ?_
  · unfold dpMs
    intro q hq
    by_cases e : q = i
    · subst e
      rw [getD_snoc_eq hl]; exact Fr.lm h hx
    · rw [getD_snoc_lt hl (by omega)]; exact Fr.ms h hm q (by omega)
  · unfold dpMs at hfp
    obtain ⟨q, hq, hk⟩ := hfp
    by_cases e : q = i
    · subst e
      rw [getD_snoc_eq hl] at hk
      refine h.apart v hv _ hx ?_
      unfold dpLM; exact hk
    · rw [getD_snoc_lt hl (by omega)] at hk
      refine h.apart v hv _ hm ?_
      unfold dpMs
      exact ⟨q, by omega, hk⟩
end
theorem mvc_all (l : List MV) (zs : List Value) (h : zs.all noU64 = true) : (l.flatMap mvc ++ zs).all noU64 = true := by rw [List.all_append, mvc_noV, h]; rfl
def BeL (w w' : World) (b2 : Nat) (L V : List MV) (i : Nat) (A : Option Addr) (k K : Nat) : Prop := V.length = i ∧
  ((i = 0 ∧ A = none ∧ k = 0 ∧ Fr w w' [⟨b2, 27, [.int .i64 0, .int .i64 0, .slice none 0 0]⟩] [dpMs i V (fun q => nc (L.getD q default)) (fun q => nr (L.getD q default)) (fun q i j => ent (L.getD q default) (nc (L.getD q default)) j i) K]) ∨
   ∃ g zs, A = some ⟨g, 0, none⟩ ∧ i ≤ k ∧ zs.length = (k - i) * 3 ∧ zs.all noU64 = true ∧ Fr w w' [⟨g, 27, V.flatMap mvc ++ zs⟩, ⟨b2, 27, [.int .i64 0, .int .i64 0, .slice none 0 0]⟩] [dpMs i V (fun q => nc (L.getD q default)) (fun q => nr (L.getD q default)) (fun q i j => ent (L.getD q default) (nc (L.getD q default)) j i) K])
open Classical in
noncomputable def RetBes (w : World) (L : List MV) (K : Nat) (e : Ending) (w' : World) : Prop := if ∀ y ∈ L, Snd y then RetBeside w L K e w' else RetMF w 1 e w'
open Classical in
set_option maxRecDepth 100000 in
theorem rbeside_any (w : World) (A : Option Addr) (n k : Nat) (L : List MV) (K : Nat) (hs : Sm 3 mvc w.heap w.heap.size A n k L) (hG : ∀ y ∈ L, Snd y → GM w.heap y (nr y) (nc y) K) (hn : n ≤ 1048576) (hK : K ≤ 1099511627776) :
    Cl Tryz.prog 39 #[.slice A n k] w (RetBes w L K) := by
  have hlen := hs.len
  refine enter Tryz.func39 rfl rfl rfl ?_
  have hF := Fr.refl w
  repeat' (first | (refine TL.isOp ?_; first | (apply TL.ev; (case hd => rfl); (case h => (first | exact ev_simple rfl))) | (refine TL.allocFr hF (d := 2) rfl rfl ?_; clear hF; intro w2 b2 hF)) | (refine T.is ?_; first | refine T.seq ?_ | refine T.region ?_ | refine T.block ?_) | (refine G.is ?_; first | refine G.next ?_) | refine TL.nil ?_)
  refine T.loop (α := Nat × Option Addr × Nat × List MV) (fun x => [(0, .slice A n k), (2, .pointer (some ⟨b2, 0, none⟩)), (3, .int .i64 0), (4, .slice x.2.1 x.1 x.2.2.1), (5, .int .i64 (x.1 : Int))])
    (fun x w' => x.1 ≤ n ∧ (∀ j y, j < x.1 → L[j]? = some y → Snd y) ∧ BeL w w' b2 L x.2.2.2 x.1 x.2.1 x.2.2.1 K)
    (fun x => n - x.1) (0, none, 0, []) (by repeat (first | exact Sub.nil _ | refine Sub.cons rfl ?_ | refine Sub.cons' rfl (int_congr (by omega)) ?_)) ⟨Nat.zero_le _, fun j y hj => absurd hj (Nat.not_lt_zero _), rfl, .inl ⟨rfl, rfl, rfl, Fr.ms0 hF _ _ _ _ _⟩⟩ ?_
  clear hF
  rintro ⟨i, B, kB, V⟩ w2 ⟨hi, hq, hTl, hst⟩
  dsimp only at hi hq hTl hst ⊢
  rcases Nat.lt_or_ge i n with hin | hin
  · have hy : L[i]? = some (L.getD i default) := by simp [List.getD, show i < L.length by omega]
    have hmem := List.mem_of_getElem? hy
    have gy := hG _ hmem
    obtain ⟨y, ey⟩ : ∃ y, L.getD i default = y := ⟨_, rfl⟩
    rw [ey] at hy gy hmem
    by_cases hS : Snd y
    · have ht := fun w1 (hE : Ext w w1) => rturn_ok w1 y _ _ K ((gy hS).ext hE) hK
      have hqn : ∀ q z, q < i + 1 → L[q]? = some z → Snd z := fun q z hq' hz => by
        rcases Nat.lt_or_ge q i with h | h
        · exact hq q z h hz
        · obtain rfl : q = i := by omega
          rw [hy] at hz; cases hz; exact hS
      clear gy
      obtain ⟨yr, yc, A2, n2, k2, l2⟩ := y
      rcases hst with ⟨h0, rfl, rfl, hF⟩ | ⟨g, zs, rfl, hkg, hzs, hzn, hF⟩
      · subst h0
        obtain rfl : V = [] := List.eq_nil_of_length_eq_zero hTl
        repeat' (first | (refine TL.isOp ?_; first | (refine TL.isCall ?_; refine TL.call rfl rfl ?_; first | (refine (ht _ hF.ext).mono ?_; rintro _ wt ⟨zt, rfl, hLt, hE, hf⟩; replace hF := Fr.addLM hF hE hLt hf; clear hE hf hLt; refine Back.mk ?_)) | (refine TL.isBin ?_; refine TL.cmpG rfl rfl rfl rfl (fun hc => ?_) (fun hc => ?_) <;> (try (first | (exfalso; omega) | exact absurd rfl hc))) | (apply TL.ev; (case hd => rfl); (case h => (first | exact ev_simple rfl | (apply Ev.isBin; first | exact ev_arN rfl rfl rfl (by omega)) | (apply Ev.isLoad; first | exact ev_loadAFr hF rfl (by refine ⟨?_, ?_⟩; (focus (repeat (first | exact InV.head | apply InV.tail))); rfl) | exact ev_loadMc [.int .i64 yr, .int .i64 yc, .slice A2 n2 k2] rfl (hs.ext hF.ext) hy rfl) | exact ev_len rfl | exact ev_indexM rfl rfl hin (hs.ext hF.ext).some))) | (refine TL.storeAFr hF rfl rfl rfl rfl (by refine ⟨?_, ?_⟩; (focus (repeat (first | apply SetV.head | apply SetV.tail))); rfl) rfl ?_; clear hF; intro ws hF) | (refine TL.allocFr hF (d := 6) rfl rfl ?_; clear hF; intro w6 b6 hF) | (refine TL.buildX1 (f := mvc) (u := zt) rfl rfl rfl rfl rfl rfl rfl (fun wn bn ebn hVn hSn hEn hzn => ?_); replace hF := hF.exts hEn; clear ebn hVn hEn hzn) | (refine TL.appendNilFr hF mvc rfl rfl rfl hSn (fun _ => rfl) rfl rfl (by omega) (fun h0 => absurd h0 (by omega)) ?_; clear hF hSn; intro _ wn bN cN zN hcN hzN hzNn hF)) | (refine T.is ?_; first | refine T.seq ?_ | refine T.region ?_ | refine T.block ?_ | refine T.cond_t rfl ?_ | refine T.cond_f rfl ?_ | refine T.skip ?_) | (refine G.is ?_; first | refine G.next ?_ | refine G.blockN ?_) | refine TL.nil ?_)
        have hF2 := Fr.msAdd hF (x := zt) (i := 0) (l := []) (R := fun q => nc (L.getD q default)) (C := fun q => nr (L.getD q default)) (F := fun q i j => ent (L.getD q default) (nc (L.getD q default)) j i) (K := K) rfl (by repeat (first | exact memH | apply memT)) (by rw [ey]; exact memH)
        exact G.again (1, some ⟨bN, 0, none⟩, cN, [zt]) (by repeat (first | exact Sub.nil _ | refine Sub.cons rfl ?_ | refine Sub.cons' rfl (int_congr (by omega)) ?_)) ⟨by dsimp only; omega, hqn, rfl, .inr ⟨bN, zN, rfl, hcN, hzN, hzNn, hF2.weak (by repeat (first | exact List.Sublist.refl _ | apply List.Sublist.cons_cons | apply List.Sublist.cons)) (by repeat (first | exact allN | refine allH (by repeat (first | exact memH | apply memT)) ?_))⟩⟩ (by dsimp only; omega)
      · repeat' (first | (refine TL.isOp ?_; first | (refine TL.isCall ?_; refine TL.call rfl rfl ?_; first | (refine (ht _ hF.ext).mono ?_; rintro _ wt ⟨zt, rfl, hLt, hE, hf⟩; replace hF := Fr.addLM hF hE hLt hf; clear hE hf hLt; refine Back.mk ?_)) | (refine TL.isBin ?_; refine TL.cmpG rfl rfl rfl rfl (fun hc => ?_) (fun hc => ?_) <;> (try (first | (exfalso; omega) | exact absurd rfl hc))) | (apply TL.ev; (case hd => rfl); (case h => (first | exact ev_simple rfl | (apply Ev.isBin; first | exact ev_arN rfl rfl rfl (by omega)) | (apply Ev.isLoad; first | exact ev_loadAFr hF rfl (by refine ⟨?_, ?_⟩; (focus (repeat (first | exact InV.head | apply InV.tail))); rfl) | exact ev_loadMc [.int .i64 yr, .int .i64 yc, .slice A2 n2 k2] rfl (hs.ext hF.ext) hy rfl) | exact ev_len rfl | exact ev_indexM rfl rfl hin (hs.ext hF.ext).some))) | (refine TL.storeAFr hF rfl rfl rfl rfl (by refine ⟨?_, ?_⟩; (focus (repeat (first | apply SetV.head | apply SetV.tail))); rfl) rfl ?_; clear hF; intro ws hF) | (refine TL.allocFr hF (d := 6) rfl rfl ?_; clear hF; intro w6 b6 hF) | (refine TL.buildX1 (f := mvc) (u := zt) rfl rfl rfl rfl rfl rfl rfl (fun wn bn ebn hVn hSn hEn hzn => ?_); replace hF := hF.exts hEn; clear ebn hVn hEn hzn) | (refine TL.appendAtFr (f := mvc) (l := V) (zs := zs) hF rfl rfl rfl rfl hSn (fun _ => rfl) (fun _ => rfl) rfl rfl hTl hzs hkg (mvc_all _ _ hzn) (by omega) (by repeat (first | apply SetV.head | apply SetV.tail)) (fun hle wn hFn => ?_) (fun hgr wn bN cN zN2 hcN hzN hzNn hFn => ?_) <;> (clear hF hSn; have hF := hFn; clear hFn))) | (refine T.is ?_; first | refine T.seq ?_ | refine T.region ?_ | refine T.block ?_ | refine T.cond_t rfl ?_ | refine T.cond_f rfl ?_ | refine T.skip ?_) | (refine G.is ?_; first | refine G.next ?_ | refine G.blockN ?_) | refine TL.nil ?_)
        all_goals have hF2 := Fr.msAdd hF (x := zt) (i := i) (l := V) (R := fun q => nc (L.getD q default)) (C := fun q => nr (L.getD q default)) (F := fun q i j => ent (L.getD q default) (nc (L.getD q default)) j i) (K := K) hTl (by repeat (first | exact memH | apply memT)) (by rw [ey]; exact memH)
        · exact G.again (i + 1, some ⟨g, 0, none⟩, kB, V ++ [zt]) (by repeat (first | exact Sub.nil _ | refine Sub.cons rfl ?_ | refine Sub.cons' rfl (int_congr (by omega)) ?_)) ⟨by dsimp only; omega, hqn, len_snoc hTl, .inr ⟨g, zs.drop (1 * 3), rfl, hle, by dsimp only; rw [List.length_drop]; omega, drop_noV hzn _, hF2.weak (by repeat (first | exact List.Sublist.refl _ | apply List.Sublist.cons_cons | apply List.Sublist.cons)) (by repeat (first | exact allN | refine allH (by repeat (first | exact memH | apply memT)) ?_))⟩⟩ (by dsimp only; omega)
        · exact G.again (i + 1, some ⟨bN, 0, none⟩, cN, V ++ [zt]) (by repeat (first | exact Sub.nil _ | refine Sub.cons rfl ?_ | refine Sub.cons' rfl (int_congr (by omega)) ?_)) ⟨by dsimp only; omega, hqn, len_snoc hTl, .inr ⟨bN, zN2, rfl, hcN, hzN, hzNn, hF2.weak (by repeat (first | exact List.Sublist.refl _ | apply List.Sublist.cons_cons | apply List.Sublist.cons)) (by repeat (first | exact allN | refine allH (by repeat (first | exact memH | apply memT)) ?_))⟩⟩ (by dsimp only; omega)
    · have ht := fun w1 => rturn_bad w1 y (fun r c h => hS ⟨r, c, h⟩)
      have hno : ¬ ∀ y ∈ L, Snd y := fun h => hS (h y hmem)
      clear gy
      obtain ⟨yr, yc, A2, n2, k2, l2⟩ := y
      rcases hst with ⟨h0, rfl, rfl, hF⟩ | ⟨g, zs, rfl, hkg, hzs, hzn, hF⟩
      all_goals
        repeat' (first | (refine TL.isOp ?_; first | (refine TL.isCall ?_; refine TL.call rfl rfl ?_; first | (refine (ht _).mono ?_; rintro _ wt ⟨rfl, hE⟩; replace hF := hF.exts hE; clear hE; refine Back.mk ?_)) | (refine TL.isBin ?_; refine TL.cmpG rfl rfl rfl rfl (fun hc => ?_) (fun hc => ?_) <;> (try (first | (exfalso; omega) | exact absurd rfl hc))) | (apply TL.ev; (case hd => rfl); (case h => (first | exact ev_simple rfl | (apply Ev.isLoad; first | exact ev_loadMc [.int .i64 yr, .int .i64 yc, .slice A2 n2 k2] rfl (hs.ext hF.ext) hy rfl) | exact ev_len rfl | exact ev_buildX rfl rfl | exact ev_indexM rfl rfl hin (hs.ext hF.ext).some))) | (refine TL.storeAFr hF rfl rfl rfl rfl (by refine ⟨?_, ?_⟩; (focus (repeat (first | apply SetV.head | apply SetV.tail))); rfl) rfl ?_; clear hF; intro ws hF) | (refine TL.allocFr hF (d := 6) rfl rfl ?_; clear hF; intro w6 b6 hF)) | (refine T.is ?_; first | refine T.seq ?_ | refine T.region ?_ | refine T.block ?_ | refine T.cond_t rfl ?_ | refine T.ret ?_ | refine T.skip ?_) | (refine G.is ?_; first | refine G.next ?_ | refine G.blockR ?_ | refine G.thenR ?_) | refine TL.nil ?_)
        exact G.retC2 rfl rfl rfl (held_agg (hF.var (by repeat (first | exact InV.head | apply InV.tail))) rfl) (by unfold RetBes; rw [if_neg hno]; exact ⟨rfl, hF.ext⟩)
  obtain rfl : i = n := by omega
  clear hin hi
  have hall : ∀ y ∈ L, Snd y := fun y hy => by
    obtain ⟨q, hq'⟩ := List.getElem?_of_mem hy
    exact hq q y (by have := (List.getElem?_eq_some_iff.1 hq').1; omega) hq'
  have hRB : ∀ (e : Ending) (w' : World), RetBeside w L K e w' → RetBes w L K e w' := fun e w' h => by unfold RetBes; rw [if_pos hall]; exact h
  have hTns : ∀ (w' : World), MsK i V (fun q => nc (L.getD q default)) (fun q => nr (L.getD q default)) (fun q i j => ent (L.getD q default) (nc (L.getD q default)) j i) K w'.heap → Tns L V ∧ ∀ y ∈ V, GM w'.heap y (nr y) (nc y) K := fun w' hms => by
    have hz0 : ∀ q, q < i → nr (V.getD q default) = nc (L.getD q default) ∧ nc (V.getD q default) = nr (L.getD q default) := fun q hq => by
      have h := (hms q hq).sh
      constructor
      · unfold nr; rw [h.er]; rfl
      · unfold nc; rw [h.ec]; rfl
    refine ⟨⟨by omega, fun q hq => (hz0 q (by omega)).1, fun q hq => (hz0 q (by omega)).2, fun q hq => tz_of (hms q (by omega))⟩, fun y hy => ?_⟩
    obtain ⟨q, hq⟩ := List.getElem?_of_mem hy
    have hlt := (List.getElem?_eq_some_iff.1 hq).1
    have e1 : V.getD q default = y := by simp [List.getD, hq]
    have h := (hms q (by omega)).gm
    rw [← e1, (hz0 q (by omega)).1, (hz0 q (by omega)).2]; exact h
  have hbe : ∀ (w1 : World), Ext w2 w1 → MsK i V (fun q => nc (L.getD q default)) (fun q => nr (L.getD q default)) (fun q i j => ent (L.getD q default) (nc (L.getD q default)) j i) K w1.heap → Sm 3 mvc w1.heap w1.heap.size B i kB V → Cl Tryz.prog 38 #[.slice B i kB] w1 (fun e w' => if OneR L then (if sumC L ≤ 64 then RetME w1 (sumC L) (r0 L) (fun i j => (tl L).getD (i * r0 L + j) 0) K e w' else RetMF w1 5 e w') else RetMF w1 2 e w') := fun w1 hE hms hsm => by
    obtain ⟨hT, hGV⟩ := hTns w1 hms
    refine (rstack_ok w1 B i kB V K hsm hGV hn hK).mono fun e w' h => ?_
    obtain ⟨s1, s2⟩ := hT.sums
    unfold RetStack at h
    by_cases hW : OneR L
    · rw [if_pos (hT.one.2 hW), s1, hT.c0] at h
      rw [if_pos hW]
      simp only [map_getD ival, s2, ival_def] at h
      exact h
    · rw [if_neg (fun h => hW (hT.one.1 h))] at h
      rw [if_neg hW]
      exact h
  obtain ⟨hF, hms, hsm⟩ : Fr w w2 [⟨b2, 27, [.int .i64 0, .int .i64 0, .slice none 0 0]⟩] [] ∧ MsK i V (fun q => nc (L.getD q default)) (fun q => nr (L.getD q default)) (fun q i j => ent (L.getD q default) (nc (L.getD q default)) j i) K w2.heap ∧ Sm 3 mvc w2.heap w2.heap.size B i kB V := by
    rcases hst with ⟨h0, rfl, rfl, hF⟩ | ⟨g, zs, rfl, hkg, hzs, hzn, hF⟩
    · subst h0
      obtain rfl : V = [] := List.eq_nil_of_length_eq_zero hTl
      exact ⟨hF.weak (List.Sublist.refl _) allN, Fr.ms hF (by repeat (first | exact memH | apply memT)), Sm.nil (by omega) _ _ _ _ _⟩
    · exact ⟨hF.weak (.cons _ (.refl _)) allN, Fr.ms hF (by repeat (first | exact memH | apply memT)), vr_sm (by omega) (fun _ _ => rfl) (hF.var .head) hTl hkg (hF.var .head).lt⟩
  have hsk := hbe w2 (Ext.refl _) hms hsm
  clear hbe hTns hms hst
  by_cases hW : OneR L
  · have hR : ∀ (e : Ending) (w' : World), RetBeside w L K e w' ↔ (if sumC L ≤ 64 then RetME w (r0 L) (sumC L) (fun i j => (tl L).getD (j * r0 L + i) 0) K e w' else RetMF w 5 e w') := fun e w' => by unfold RetBeside; rw [if_pos hW]
    simp only [if_pos hW] at hsk
    by_cases h64 : sumC L ≤ 64
    · simp only [if_pos h64] at hR hsk
      repeat' (first | (refine TL.isOp ?_; first | (refine TL.isCall ?_; refine TL.call rfl rfl ?_; first | (refine hsk.mono ?_; rintro _ wm ⟨zm, rfl, hLm, hE, hf⟩; obtain ⟨Am, km, lm, rfl⟩ := lm_mk hLm; rw [mvc_mk _ _ Am]; replace hF := Fr.addLM hF hE hLm hf; clear hE hf; refine Back.mk ?_) | (refine (rturn_ok _ ⟨_, _, Am, sumC L * r0 L, km, lm⟩ (sumC L) (r0 L) K (Fr.lm hF (by repeat (first | exact memH | apply memT))).gm hK).mono ?_; rintro _ wt ⟨zt, rfl, hLt, hE, hf⟩; obtain ⟨At, kt, lt, rfl⟩ := lm_mk hLt; rw [mvc_mk _ _ At]; have hft := hf.mono hF.ext.size; replace hF := Fr.addLM hF hE hLt hf; clear hE hf; refine Back.mk ?_)) | (refine TL.isBin ?_; refine TL.cmpG rfl rfl rfl rfl (fun hc => ?_) (fun hc => ?_) <;> (try (first | (exfalso; omega) | exact absurd rfl hc))) | (apply TL.ev; (case hd => rfl); (case h => (first | exact ev_simple rfl | (apply Ev.isLoad; first | exact ev_loadAFr hF rfl (by refine ⟨?_, ?_⟩; (focus (repeat (first | exact InV.head | apply InV.tail))); rfl)) | exact ev_len rfl))) | (refine TL.storeAFr hF rfl rfl rfl rfl (by refine ⟨?_, ?_⟩; (focus (repeat (first | apply SetV.head | apply SetV.tail))); rfl) rfl ?_; clear hF; intro ws hF) | (refine TL.allocFr hF (d := 8) rfl rfl ?_; clear hF; intro w8 b8 hF)) | (refine T.is ?_; first | refine T.seq ?_ | refine T.region ?_ | refine T.cond_f rfl ?_ | refine T.exit ?_ | refine T.ret ?_ | refine T.skip ?_) | (refine G.is ?_; first | refine G.next ?_ | refine G.blockE ?_ | refine G.thenE ?_) | refine TL.nil ?_)
      refine G.retC2 rfl rfl rfl (held_agg (hF.var (by repeat (first | exact InV.head | apply InV.tail))) rfl) (hRB _ _ ((hR _ _).2 ⟨⟨r0 L, sumC L, At, r0 L * sumC L, kt, lt⟩, rfl, (Fr.lm hF (by repeat (first | exact memH | apply memT))).congr fun i j hi hj => ?_, hF.ext, hft⟩))
      exact (hLm.ent hj hi)
    · simp only [if_neg h64] at hR hsk
      repeat' (first | (refine TL.isOp ?_; first | (refine TL.isCall ?_; refine TL.call rfl rfl ?_; first | (refine hsk.mono ?_; rintro _ wm ⟨rfl, hE⟩; replace hF := hF.exts hE; clear hE; refine Back.mk ?_)) | (refine TL.isBin ?_; refine TL.cmpG rfl rfl rfl rfl (fun hc => ?_) (fun hc => ?_) <;> (try (first | (exfalso; omega) | exact absurd rfl hc))) | (apply TL.ev; (case hd => rfl); (case h => (first | exact ev_simple rfl | exact ev_len rfl | exact ev_buildX rfl rfl))) | (refine TL.storeAFr hF rfl rfl rfl rfl (by refine ⟨?_, ?_⟩; (focus (repeat (first | apply SetV.head | apply SetV.tail))); rfl) rfl ?_; clear hF; intro ws hF) | (refine TL.allocFr hF (d := 8) rfl rfl ?_; clear hF; intro w8 b8 hF)) | (refine T.is ?_; first | refine T.seq ?_ | refine T.region ?_ | refine T.cond_t rfl ?_ | refine T.cond_f rfl ?_ | refine T.exit ?_ | refine T.ret ?_) | (refine G.is ?_; first | refine G.next ?_ | refine G.blockE ?_ | refine G.thenE ?_ | refine G.thenR ?_) | refine TL.nil ?_)
      exact G.retC2 rfl rfl rfl (held_agg (hF.var (by repeat (first | exact InV.head | apply InV.tail))) rfl) (hRB _ _ ((hR _ _).2 ⟨rfl, hF.ext⟩))
  · have hR : ∀ (e : Ending) (w' : World), RetBeside w L K e w' ↔ RetMF w 2 e w' := fun e w' => by unfold RetBeside; rw [if_neg hW]
    simp only [if_neg hW] at hsk
    repeat' (first | (refine TL.isOp ?_; first | (refine TL.isCall ?_; refine TL.call rfl rfl ?_; first | (refine hsk.mono ?_; rintro _ wm ⟨rfl, hE⟩; replace hF := hF.exts hE; clear hE; refine Back.mk ?_)) | (refine TL.isBin ?_; refine TL.cmpG rfl rfl rfl rfl (fun hc => ?_) (fun hc => ?_) <;> (try (first | (exfalso; omega) | exact absurd rfl hc))) | (apply TL.ev; (case hd => rfl); (case h => (first | exact ev_simple rfl | exact ev_len rfl | exact ev_buildX rfl rfl))) | (refine TL.storeAFr hF rfl rfl rfl rfl (by refine ⟨?_, ?_⟩; (focus (repeat (first | apply SetV.head | apply SetV.tail))); rfl) rfl ?_; clear hF; intro ws hF) | (refine TL.allocFr hF (d := 8) rfl rfl ?_; clear hF; intro w8 b8 hF)) | (refine T.is ?_; first | refine T.seq ?_ | refine T.region ?_ | refine T.cond_t rfl ?_ | refine T.cond_f rfl ?_ | refine T.exit ?_ | refine T.ret ?_) | (refine G.is ?_; first | refine G.next ?_ | refine G.blockE ?_ | refine G.thenE ?_ | refine G.thenR ?_) | refine TL.nil ?_)
    exact G.retC2 rfl rfl rfl (held_agg (hF.var (by repeat (first | exact InV.head | apply InV.tail))) rfl) (hRB _ _ ((hR _ _).2 ⟨rfl, hF.ext⟩))
end Go.Proofs.YtlhmehikajidhaaGreat
namespace Go.Eng
open Go Go.RowKit
section
variable {P : Program} {N : Fm} {ops : Array Oper} {Q : Exit → Act → World → Prop} {rest : List Oper} {σ : Store} {d : Tmp} {t : TypeId} {pos : String} {af : Array Edge} {S : Nat → Prop} {w0 w : World} {L : List VB} {D : List DP}
theorem TL.make1Fr (hF : Fr w0 w L D S) {α : Type} (f : α → Value) (g : α → List Value) (hg : ∀ x, g x = [f x]) (u : α) {x y : Operand} {ty e : TypeId} [hT : USlice P ty e] {v : Value} {b1 : Nat} [hS : USize P e v 1 b1] (hz : v = f u) (hzc : v.cells = #[v]) {k k' : IntKind} {z1 z2 : Int} {n c : Nat} [e1 : IsN z1 n] [e2 : IsN z2 c]
    (hx : look σ x = some (.int k z1)) (hy : look σ y = some (.int k' z2)) (hd : Nat.blt d N.n = true) (hn : n ≤ c) (hc : b1 * c ≤ 281474976710656 ∧ c ≤ 9223372036854775807)
    (K : ∀ w' b, Fr w0 w' (⟨b, e, (List.replicate c u).flatMap g⟩ :: L) D S → TL P N .seq ops Q rest ((d, .slice (some ⟨b, 0, none⟩) n c) :: σ) w') :
    TL P N .seq ops Q (⟨some d, .makeSlice ty x y, t, pos, af, none⟩ :: rest) σ w :=
  TL.make f u hz hzc hx hy hd hn hc fun w' b hb hB hE _ => K w' b (hF.new hb (by
    have e0 : (List.replicate c u).flatMap g = (List.replicate c u).map f := by
      rw [show g = fun x => [f x] from funext hg]
      induction (List.replicate c u) with
      | nil => rfl
      | cons y l ih => simp [List.flatMap_cons, ih]
    unfold Bk at hB; unfold Vr; rw [e0]; exact hB) hE)
theorem putO_nil (cs : List Value) (o : Nat) : putO cs o [] = some cs := by cases cs <;> rfl
theorem putO_set {α : Type} {f : α → Value} {g : α → List Value} (hg : ∀ x, g x = [f x]) (u : α) : ∀ (l : List α) (i : Nat), i < l.length → putO (l.flatMap g) i [f u] = some ((l.set i u).flatMap g)
  | [], i, h => by simp at h
  | y :: l, 0, h => by
    rw [List.flatMap_cons, hg y, List.set_cons_zero, List.flatMap_cons, hg u]
    simp [putO, putO_nil]
  | y :: l, i + 1, h => by
    have ih := putO_set hg u l i (by simpa using h)
    rw [List.flatMap_cons, hg y, List.set_cons_succ, List.flatMap_cons, hg y]
    simp [putO, ih]
theorem TL.storeAt1Fr (hF : Fr w0 w L D S) {α : Type} {f : α → Value} {g : α → List Value} (hg : ∀ x, g x = [f x]) {x y : Operand} {ty e : TypeId} {z : Value} {b1 : Nat} [hS : USize P ty z 1 b1] {b i : Nat} {l : List α} (u : α) {v : Value} {L' : List VB}
    (hx : look σ x = some (.pointer (elemA (some ⟨b, 0, none⟩) i))) (hy : look σ y = some v) (hv : f u = v) (hvs : v.cells.toList = [v]) (h1 : v.oneCell' = true) (hi : i < l.length) (hn : (l.flatMap g).all noU64 = true)
    (hL : SetV L b e (l.flatMap g) ((l.set i u).flatMap g) L')
    (K : ∀ w', Fr w0 w' L' D S → TL P N .seq ops Q rest σ w') : TL P N .seq ops Q (⟨none, .store ty x y, t, pos, af, none⟩ :: rest) σ w :=
  TL.storeFr hF (b := b) (o := i) (by rw [hx]; simp [elemA, add_mk]) hy hvs h1 ⟨hL, by rw [← hv]; exact putO_set hg u l i hi⟩ hn K
end
end Go.Eng
namespace Go.Proofs.YtlhmehikajidhaaGreat
open Go Go.Eng Go.Proofs Go.NatM Go.RowKit
theorem lvc_no (l : List LV) : (l.flatMap lvc).all noU64 = true := by have := lvc_noV l [] rfl; rwa [List.append_nil] at this
theorem vr_sm1 {H : Array Obj} {b n : Nat} {t : TypeId} {l : List LV} (hV : Vr H b t (l.flatMap lvc)) (hn : l.length = n) : Sm 1 lvc H H.size (some ⟨b, 0, none⟩) n n l :=
  vr_sm (zs := []) (by omega) (fun _ _ => rfl) (by rw [List.append_nil]; exact hV) hn (Nat.le_refl _) hV.lt
theorem rw_set {i c K q : Nat} {l : List LV} {F : Nat → Nat → Int} {u : LV} {H : Array Obj} (h : RwK i l c F K H) (hq : i ≤ q) : RwK i (l.set q u) c F K H := fun p hp => by rw [getD_set_ne (by omega)]; exact h p hp
section
variable {S : Nat → Prop} {w0 w w' : World} {L : List VB} {D : List DP}
theorem Fr.rwSet (h : Fr w0 w L D S) {i c K q : Nat} {l : List LV} {F : Nat → Nat → Int} (u : LV) (hq : i ≤ q) (hm : dpRw i l c F K ∈ D) : Fr w0 w L (dpRw i (l.set q u) c F K :: D) S := by
  refine h.add _ (by unfold dpRw; exact rw_set (Fr.rws h hm) hq) fun v hv hfp => h.apart v hv _ hm ?_
  unfold dpRw at hfp ⊢
  obtain ⟨p, hp, hk⟩ := hfp
  rw [getD_set_ne (by omega)] at hk
  exact ⟨p, hp, hk⟩
theorem Fr.rwDone {b i c K : Nat} {t : TypeId} {l : List LV} {F : Nat → Nat → Int} {zl : List IV} (h : Fr w0 w (⟨b, t, zl.flatMap ivc⟩ :: L) D S) (hzl : zl.length = c) (hi : i < l.length) (hm : dpRw i l c F K ∈ D) (hk : dpLK c zl (upZ c (F i)) K ∈ D) : Fr w0 w L [dpRw (i + 1) (l.set i ⟨some ⟨b, 0, none⟩, c, c, zl⟩) c F K] S := by
  have hV := h.var (InV.head (b := b))
  have hLL : LL w.heap (some ⟨b, 0, none⟩) c c zl (F i) K := ⟨vr_sm (zs := []) (by omega) (fun _ _ => rfl) (by rw [List.append_nil]; exact hV) hzl (Nat.le_refl _) hV.lt, fun q hq => by
    have := Fr.lk h hk q hq
    rwa [upZ_end hq] at this⟩
  have hd := h.dist
  have h0 : Fr w0 w L D S := h.weak (.cons _ (.refl _)) fun d hd => hd
  refine (h0.add (dpRw (i + 1) (l.set i ⟨some ⟨b, 0, none⟩, c, c, zl⟩) c F K) ?_ fun v hv hfp => ?_).weak (.refl _) (allH memH allN)
  · unfold dpRw
    intro q hq
    by_cases e : q = i
    · subst e
      rw [getD_set_eq hi]; exact ⟨rfl, hLL⟩
    · rw [getD_set_ne e]; exact Fr.rws h hm q (by omega)
  · unfold dpRw at hfp
    obtain ⟨q, hq, hk⟩ := hfp
    by_cases e : q = i
    · subst e
      rw [getD_set_eq hi] at hk
      obtain ⟨_, o, e⟩ := hk
      cases e
      exact (List.pairwise_cons.1 hd).1 v hv rfl
    · rw [getD_set_ne e] at hk
      refine h0.apart v hv _ hm ?_
      unfold dpRw
      exact ⟨q, by omega, hk⟩
end
theorem lv_set_same {l : List LV} {i : Nat} {u v : LV} (hi : i < l.length) (hu : lvc u = lvc v) (e : l.getD i default = v) : (l.set i u).flatMap lvc = l.flatMap lvc := by
  have e1 : (l.set i u).flatMap lvc = (l.set i u).map sv := by induction (l.set i u) with
    | nil => rfl
    | cons y l ih => simp [List.flatMap_cons, ih, lvc, sv]
  have e2 : l.flatMap lvc = l.map sv := by
    clear e1 hi e
    induction l with
    | nil => rfl
    | cons y l ih => simp [List.flatMap_cons, ih, lvc, sv]
  rw [e1, e2]
  apply List.ext_getElem?
  intro q
  rw [List.getElem?_map, List.getElem?_map]
  by_cases h : i = q
  · subst h
    have e3 : l[i]? = some v := by rw [← e]; simp [List.getD, hi]
    rw [List.getElem?_set_self hi, e3]
    have : [sv u] = [sv v] := hu
    simp at this
    simp [this]
  · rw [List.getElem?_set_ne h]
def RetRows (w : World) (r c : Nat) (F : Nat → Nat → Int) (K : Nat) (e : Ending) (w' : World) : Prop := ∃ A k rl, e = .returned (.slice A r k) ∧ Sm 1 lvc w'.heap w'.heap.size A r k rl ∧ RwK r rl c F K w'.heap ∧ Ext w w' ∧ (∀ b, fpA A r b → w.heap.size ≤ b) ∧ (∀ q, q < r → ∀ b, fpA (rl.getD q default).A c b → w.heap.size ≤ b)
theorem rlines_bad (w : World) (x : MV) (h : ¬ Snd x) (F : Nat → Nat → Int) (K : Nat) : Cl Tryz.prog 41 #[.agg (mvc x).toArray] w (RetRows w 0 0 F K) := by
  have hck := fun w => rchk_any w x (.inr ⟨h, rfl⟩)
  clear h
  obtain ⟨xr, xc, A, n, k, l⟩ := x
  refine enter Tryz.func41 rfl rfl rfl ?_
  have hF := Fr.refl w
  repeat' (first | (refine TL.isOp ?_; first | (refine TL.isCall ?_; refine TL.call rfl rfl ?_; first | (refine (hck _).mono ?_; rintro _ wy ⟨rfl, hE⟩; replace hF := hF.exts hE; clear hE; refine Back.mk ?_)) | (refine TL.isBin ?_; refine TL.cmpG rfl rfl rfl rfl (fun hc => ?_) (fun hc => ?_) <;> (try (first | (exfalso; omega) | exact absurd rfl hc))) | (apply TL.ev; (case hd => rfl); (case h => (first | exact ev_simple rfl | (apply Ev.isLoad; first | exact ev_loadAFr hF rfl (by refine ⟨?_, ?_⟩; (focus (repeat (first | exact InV.head | apply InV.tail))); rfl))))) | (refine TL.boxAFr hF (d := 1) (cs := [.int .i64 xr, .int .i64 xc, .slice A n k]) rfl rfl ?_; clear hF; intro w1 b1 hF)) | (refine T.is ?_; first | refine T.seq ?_ | refine T.region ?_ | refine T.cond_t rfl ?_ | refine T.ret ?_) | (refine G.is ?_; first | refine G.next ?_ | refine G.thenR ?_) | refine TL.nil ?_)
  exact G.ret1 rfl rfl ⟨none, 0, [], rfl, rows_zero _, fun q hq => absurd hq (Nat.not_lt_zero _), hF.ext, fun b hb => absurd hb fpA_none, fun q hq => absurd hq (Nat.not_lt_zero _)⟩
set_option maxRecDepth 100000 in
theorem rlines_ok (w : World) (x : MV) (r c K : Nat) (gx : GM w.heap x r c K) (hK : K ≤ 1099511627776) : Cl Tryz.prog 41 #[.agg (mvc x).toArray] w (RetRows w r c (ent x c) K) := by
  have hck := fun w => rchkE_ok w x r c gx.sh
  have hld := fun i j (hi : i < r) (hj : j < c) => gx.load hi hj
  have hsx := gx.s
  have s1 := gx.sh
  clear gx
  generalize ent x c = F at *
  obtain ⟨xr, xc, A, n, k, l⟩ := x
  obtain ⟨hr1, hc1, hr, hcc, hn1⟩ := s1
  dsimp only at hr1 hc1 hn1 hsx hld
  subst hr1 hc1 hn1
  have hm := mul64 hr hcc
  refine enter Tryz.func41 rfl rfl rfl ?_
  have hF := Fr.refl w
  repeat' (first | (refine TL.isOp ?_; first | (refine TL.isCall ?_; refine TL.call rfl rfl ?_; first | (refine (hck _).mono ?_; rintro _ wy ⟨rfl, hE⟩; replace hF := hF.exts hE; clear hE; refine Back.mk ?_)) | (refine TL.isBin ?_; refine TL.cmpG rfl rfl rfl rfl (fun hc => ?_) (fun hc => ?_) <;> (try (first | (exfalso; omega) | exact absurd rfl hc))) | (apply TL.ev; (case hd => rfl); (case h => (first | exact ev_simple rfl | (apply Ev.isLoad; first | exact ev_loadFr hF rfl (by refine ⟨?_, ?_⟩; (focus (repeat (first | exact InV.head | apply InV.tail))); rfl) | exact ev_loadAFr hF rfl (by refine ⟨?_, ?_⟩; (focus (repeat (first | exact InV.head | apply InV.tail))); rfl)) | exact ev_fieldAddr rfl))) | (refine TL.boxAFr hF (d := 1) (cs := [.int .i64 (r : Int), .int .i64 (c : Int), .slice A (r * c) k]) rfl rfl ?_; clear hF; intro w1 b1 hF) | (refine TL.make1Fr hF sv lvc (fun _ => rfl) ⟨none, 0, 0, []⟩ (d := 13) rfl rfl rfl rfl rfl (Nat.le_refl _) (by omega) ?_; clear hF; intro w13 b13 hF)) | (refine T.is ?_; first | refine T.seq ?_ | refine T.region ?_ | refine T.block ?_ | refine T.cond_f rfl ?_ | refine T.skip ?_) | (refine G.is ?_; first | refine G.next ?_) | refine TL.nil ?_)
  refine T.loop (α := Nat × List LV) (fun x => [(1, .pointer (some ⟨b1, 0, none⟩)), (4, .slice (some ⟨b13, 0, none⟩) r r), (5, .int .i64 (x.1 : Int))])
    (fun x w' => x.1 ≤ r ∧ x.2.length = r ∧ (∀ q, q < x.1 → ∀ b, fpA (x.2.getD q default).A c b → w.heap.size ≤ b) ∧ Fr w w' [⟨b13, 25, x.2.flatMap lvc⟩, ⟨b1, 27, [.int .i64 (r : Int), .int .i64 (c : Int), .slice A (r * c) k]⟩] [dpRw x.1 x.2 c F K])
    (fun x => r - x.1) (0, List.replicate r ⟨none, 0, 0, []⟩) (by repeat (first | exact Sub.nil _ | refine Sub.cons rfl ?_ | refine Sub.cons' rfl (int_congr (by omega)) ?_)) ⟨Nat.zero_le _, List.length_replicate .., fun q hq => absurd hq (Nat.not_lt_zero _), Fr.rw0 hF _ _ _ _⟩ ?_
  clear hF
  rintro ⟨i, rl⟩ w2 ⟨hi, hrl, hfr, hF⟩
  dsimp only at hi hrl hfr hF ⊢
  rcases Nat.lt_or_ge i r with hin | hin
  · repeat' (first | (refine TL.isOp ?_; first | (refine TL.isBin ?_; refine TL.cmpG rfl rfl rfl rfl (fun hc => ?_) (fun hc => ?_) <;> (try (first | (exfalso; omega) | exact absurd rfl hc))) | (apply TL.ev; (case hd => rfl); (case h => (first | exact ev_simple rfl | (apply Ev.isLoad; first | exact ev_loadFr hF rfl (by refine ⟨?_, ?_⟩; (focus (repeat (first | exact InV.head | apply InV.tail))); rfl)) | exact ev_fieldAddr rfl | exact ev_indexN rfl rfl hin (.inr rfl)))) | (refine TL.makeFr hF ivc nought (d := 24) rfl rfl rfl (Nat.le_refl _) (by omega) rfl rfl rfl ?_; clear hF; intro w24 b24 hF) | (refine TL.storeAt1Fr hF (f := sv) (g := lvc) (fun _ => rfl) (i := i) ⟨some ⟨b24, 0, none⟩, c, c, []⟩ rfl rfl rfl rfl rfl (by rw [hrl]; exact hin) (lvc_no rl) (by repeat (first | apply SetV.head | apply SetV.tail)) ?_; clear hF; intro ws hF)) | (refine T.is ?_; first | refine T.seq ?_ | refine T.region ?_ | refine T.block ?_ | refine T.cond_t rfl ?_ | refine T.skip ?_) | (refine G.is ?_; first | refine G.next ?_) | refine TL.nil ?_)
    replace hF := Fr.rwSet hF (q := i) (l := rl) ⟨some ⟨b24, 0, none⟩, c, c, []⟩ (Nat.le_refl i) (by repeat (first | exact memH | apply memT))
    obtain ⟨rl', hrl'⟩ : ∃ l', rl.set i ⟨some ⟨b24, 0, none⟩, c, c, []⟩ = l' := ⟨_, rfl⟩
    have hlen' : rl'.length = r := by rw [← hrl', List.length_set]; exact hrl
    have hgi : rl'.getD i default = ⟨some ⟨b24, 0, none⟩, c, c, []⟩ := by rw [← hrl']; exact getD_set_eq (by omega)
    have hfr' : ∀ q, q < i → ∀ b, fpA (rl'.getD q default).A c b → w.heap.size ≤ b := fun q hq b hb => by
      rw [← hrl', getD_set_ne (by omega)] at hb
      exact hfr q hq b hb
    rw [hrl'] at hF
    clear hrl' hrl hfr
    refine T.loop (α := Nat × List IV) (fun x => [(1, .pointer (some ⟨b1, 0, none⟩)), (4, .slice (some ⟨b13, 0, none⟩) r r), (5, .int .i64 (i : Int)), (6, .int .i64 (x.1 : Int))])
      (fun x w' => x.1 ≤ c ∧ x.2.length = c ∧ Fr w w' [⟨b24, 30, x.2.flatMap ivc⟩, ⟨b13, 25, rl'.flatMap lvc⟩, ⟨b1, 27, [.int .i64 (r : Int), .int .i64 (c : Int), .slice A (r * c) k]⟩] [dpLK c x.2 (upZ x.1 (F i)) K, dpRw i rl' c F K])
      (fun x => c - x.1) (0, List.replicate c nought) (by repeat (first | exact Sub.nil _ | refine Sub.cons rfl ?_ | refine Sub.cons' rfl (int_congr (by omega)) ?_)) ⟨Nat.zero_le _, List.length_replicate .., Fr.addLK (hF.weak (List.Sublist.refl _) (allH (by repeat (first | exact memH | apply memT)) allN)) ((lk_zeros _ _ _).congrN fun q _ => by unfold upZ; rw [if_neg (Nat.not_lt_zero _)])⟩ ?_
    clear hF
    rintro ⟨j, zl⟩ w3 ⟨hj, hzl, hF⟩
    dsimp only at hj hzl hF ⊢
    rcases Nat.lt_or_ge j c with hjn | hjn
    · have hpl := place_lt hin hjn
      obtain ⟨y, hy, g1, n1, v1⟩ := hld i j hin hjn
      repeat' (first | (refine TL.isOp ?_; first | (refine TL.isCall ?_; refine TL.call rfl rfl ?_; first | (refine (r5least_t _ y (g1.ext hF.ext) (by omega)).mono ?_; rintro _ wl ⟨u, rfl, hLu, hE, hKu⟩; replace hF := Fr.addLI (hF.exts hE) hLu; clear hE hLu; refine Back.mk ?_)) | (refine TL.isBin ?_; refine TL.cmpG rfl rfl rfl rfl (fun hc => ?_) (fun hc => ?_) <;> (try (first | (exfalso; omega) | exact absurd rfl hc))) | (apply TL.ev; (case hd => rfl); (case h => (first | exact ev_simple rfl | (apply Ev.isBin; first | exact ev_arN rfl rfl rfl (by omega)) | (apply Ev.isLoad; first | exact ev_loadFr hF rfl (by refine ⟨?_, ?_⟩; (focus (repeat (first | exact InV.head | apply InV.tail))); rfl)) | exact ev_fieldAddr rfl))) | (refine TL.storeAtFr hF (f := ivc) (i := j) u rfl rfl rfl rfl (fun _ => rfl) (by rw [hzl]; exact hjn) (ivc_noV zl) (by repeat (first | apply SetV.head | apply SetV.tail)) ?_; clear hF; intro ws hF)) | (refine TF.is ?_; first | refine TF.nil ?_ | refine TF.e rfl ?_ | (refine TF.pick rfl ?_; first | (apply TFo.ev; (case hd => rfl); (case h => (intro wh hF; first | exact ev_simple rfl | (apply Ev.isBin; first | exact ev_arN rfl rfl rfl (by omega)) | (apply Ev.isLoad; first | exact ev_loadFr hF rfl (by refine ⟨?_, ?_⟩; (focus (repeat (first | exact InV.head | apply InV.tail))); rfl) | exact ev_loadSv rfl (sm_sv (vr_sm1 (hF.var (b := b13) (by repeat (first | exact InV.head | apply InV.tail))) hlen')) hin hgi | exact ev_loadM rfl (hsx.ext hF.ext) hy) | exact ev_fieldAddr rfl | exact ev_indexN rfl rfl hin (.inr rfl) | exact ev_indexM rfl rfl hpl (hsx.ext hF.ext).some | exact ev_indexM rfl rfl hjn (.inr rfl)))))) | (refine T.is ?_; first | refine T.seq ?_ | refine T.region ?_ | refine T.block ?_ | refine T.cond_t rfl ?_ | refine T.skip ?_ | (refine T.regionFr hF 12 17 (.s 0 (.s 1 (.s 2 (.s 3 (.s 4 (.s 5 (.s 6 (.s 7 (.s 8 (.s 9 (.s 10 (.s 11 (.s 12 (.s 13 (.s 14 (.e 15 (.s 16 (.e 17 .nil)))))))))))))))))) mixed (by kernel_rfl) ?_; clear hF; intro wr hF)) | (refine G.is ?_; first | refine G.next ?_ | refine G.blockN ?_ | refine G.only ?_ | refine G.treeEnd rfl ?_ | refine G.tree rfl (by first | exact hF | exact hF.weak (by repeat (first | exact List.Sublist.refl _ | apply List.Sublist.cons)) (by repeat (first | exact allR | apply allT)) | exact hF.weak (by repeat (first | exact List.Sublist.refl _ | apply List.Sublist.cons)) (by repeat (first | exact allN | refine allH (by repeat (first | exact memH | apply memT)) ?_))) ?_) | refine TL.nil ?_)
      have hk := (Fr.lk hF (i := c) (l := zl) (by repeat (first | exact memH | apply memT))).setAtN (Z' := upZ (j + 1) (F i)) (u := u) (q := j) (by omega) (by rw [upZ_succ, ← v1]; exact Fr.li hF (by repeat (first | exact memH | apply memT))) (by omega) (fun p hp => upZ_ne hp)
      exact G.again (j + 1, zl.set j u) (by repeat (first | exact Sub.nil _ | refine Sub.cons rfl ?_ | refine Sub.cons' rfl (int_congr (by omega)) ?_)) ⟨by dsimp only; omega, by rw [List.length_set]; exact hzl, Fr.addLK (hF.weak (List.Sublist.refl _) (allH (by repeat (first | exact memH | apply memT)) allN)) hk⟩ (by dsimp only; omega)
    · obtain rfl : j = c := by omega
      repeat' (first | (refine TL.isOp ?_; first | (refine TL.isBin ?_; refine TL.cmpG rfl rfl rfl rfl (fun hc => ?_) (fun hc => ?_) <;> (try (first | (exfalso; omega) | exact absurd rfl hc))) | (apply TL.ev; (case hd => rfl); (case h => (first | exact ev_simple rfl | (apply Ev.isBin; first | exact ev_arN rfl rfl rfl (by omega)) | (apply Ev.isLoad; first | exact ev_loadFr hF rfl (by refine ⟨?_, ?_⟩; (focus (repeat (first | exact InV.head | apply InV.tail))); rfl)) | exact ev_fieldAddr rfl)))) | (refine T.is ?_; first | refine T.seq ?_ | refine T.region ?_ | refine T.cond_f rfl ?_ | refine T.exit ?_) | (refine G.is ?_; first | refine G.next ?_ | refine G.blockN ?_ | refine G.blockE ?_ | refine G.thenE ?_) | refine TL.nil ?_)
      have hF2 := Fr.rwDone hF (i := i) (l := rl') (F := F) (K := K) hzl (by omega) (by repeat (first | exact memH | apply memT)) (by repeat (first | exact memH | apply memT))
      have hsm := lv_set_same (l := rl') (i := i) (u := ⟨some ⟨b24, 0, none⟩, j, j, zl⟩) (v := ⟨some ⟨b24, 0, none⟩, j, j, []⟩) (by omega) rfl hgi
      have hb24 := (hF.lo (b := b24) (by repeat (first | exact InV.head | apply InV.tail))).resolve_right id
      refine G.again (i + 1, rl'.set i ⟨some ⟨b24, 0, none⟩, j, j, zl⟩) (by repeat (first | exact Sub.nil _ | refine Sub.cons rfl ?_ | refine Sub.cons' rfl (int_congr (by omega)) ?_)) ⟨by dsimp only; omega, by rw [List.length_set]; exact hlen', fun q hq b hb => ?_, by dsimp only; rw [hsm]; exact hF2⟩ (by dsimp only; omega)
      dsimp only at hq hb
      by_cases e : q = i
      · subst e
        rw [getD_set_eq (by omega)] at hb
        obtain ⟨_, o, e⟩ := hb
        cases e; exact hb24
      · rw [getD_set_ne e] at hb
        exact hfr' q (by omega) b hb
  · obtain rfl : i = r := by omega
    repeat' (first | (refine TL.isOp ?_; first | (refine TL.isBin ?_; refine TL.cmpG rfl rfl rfl rfl (fun hc => ?_) (fun hc => ?_) <;> (try (first | (exfalso; omega) | exact absurd rfl hc))) | (apply TL.ev; (case hd => rfl); (case h => (first | exact ev_simple rfl | (apply Ev.isLoad; first | exact ev_loadFr hF rfl (by refine ⟨?_, ?_⟩; (focus (repeat (first | exact InV.head | apply InV.tail))); rfl)) | exact ev_fieldAddr rfl)))) | (refine T.is ?_; first | refine T.seq ?_ | refine T.region ?_ | refine T.cond_f rfl ?_ | refine T.exit ?_ | refine T.ret ?_) | (refine G.is ?_; first | refine G.next ?_ | refine G.blockE ?_ | refine G.thenE ?_) | refine TL.nil ?_)
    have hb13 := (hF.lo (b := b13) (by repeat (first | exact InV.head | apply InV.tail))).resolve_right id
    exact G.ret1 rfl rfl ⟨some ⟨b13, 0, none⟩, i, rl, rfl, vr_sm1 (hF.var (b := b13) (by repeat (first | exact InV.head | apply InV.tail))) hrl, Fr.rws hF (by repeat (first | exact memH | apply memT)), hF.ext, fun b hb => (by obtain ⟨_, o, e⟩ := hb; cases e; exact hb13), hfr⟩
end Go.Proofs.YtlhmehikajidhaaGreat
namespace Go.Proofs.YtlhmehikajidhaaGreat
open Go Go.Eng Go.Proofs Go.NatM Go.RowKit
def dpRs (A : Option Addr) (r k : Nat) (rl : List LV) (c : Nat) (F : Nat → Nat → Int) (K : Nat) : DP := ⟨fun H => Sm 1 lvc H H.size A r k rl ∧ RwK r rl c F K H, fun b => fpA A r b ∨ ∃ q, q < r ∧ fpA (rl.getD q default).A c b,
  fun _ _ h hk => by
    rcases hk with hk | ⟨q, hq, hk⟩
    · exact h.1.fp_lt hk
    · exact (h.2 q hq).2.s.fp_lt hk,
  fun _ _ hd h => ⟨(Sm.de (fun b hb => .inl hb) hd h.1).size, fun q hq => ⟨(h.2 q hq).1, (h.2 q hq).2.de (hd.mono fun k hk => .inr ⟨q, hq, hk⟩)⟩⟩⟩
theorem Fr.rs {S : Nat → Prop} {w0 w : World} {L : List VB} {D : List DP} (h : Fr w0 w L D S) {A : Option Addr} {r k c K : Nat} {rl : List LV} {F : Nat → Nat → Int} (hm : dpRs A r k rl c F K ∈ D) : Sm 1 lvc w.heap w.heap.size A r k rl ∧ RwK r rl c F K w.heap := h.data _ hm
theorem Fr.addRs {S : Nat → Prop} {w0 w w' : World} {L : List VB} {D : List DP} (h : Fr w0 w L D S) (hE : Ext w w') {A : Option Addr} {r k c K : Nat} {rl : List LV} {F : Nat → Nat → Int} (g : Sm 1 lvc w'.heap w'.heap.size A r k rl) (g2 : RwK r rl c F K w'.heap) (h1 : ∀ b, fpA A r b → w.heap.size ≤ b) (h2 : ∀ q, q < r → ∀ b, fpA (rl.getD q default).A c b → w.heap.size ≤ b) : Fr w0 w' L (dpRs A r k rl c F K :: D) S :=
  h.addNew hE _ ⟨g, g2⟩ fun b hb => hb.elim (h1 b) fun ⟨q, hq, hk⟩ => h2 q hq b hk
attribute [irreducible] dpRs
theorem nums_snoc {nl : List Int} {i : Nat} (hl : nl.length = i) (h : ∀ q, q < i → nl.getD q 0 = (q : Int)) : ∀ q, q < i + 1 → (nl ++ [(i : Int)]).getD q 0 = (q : Int) := fun q hq => by
  by_cases e : q = i
  · subst e; subst hl; simp [List.getD]
  · have := h q (by omega)
    simp only [List.getD] at this ⊢
    rw [List.getElem?_append_left (by omega)]; exact this
set_option maxRecDepth 100000 in
theorem wants20 (w : World) (o : OV) (ho : o.kind = 20) (r c : Nat) (F : Nat → Nat → Int) (K : Nat) (hr : r ≤ 64)
    (hC : ∀ w1, Ext w w1 → Cl Tryz.prog 41 #[.agg (mvc o.a).toArray] w1 (RetRows w1 r c F K)) : Cl Tryz.prog 15 #[.agg (ovc o).toArray] w (RetA w (sR r c F) K) := by
  obtain ⟨kd, ⟨ar, ac, aA, an, ak, al⟩, ⟨br, bc, bA, bn, bk, bl⟩, ⟨lA0, ln0, lk0, ll0⟩, ⟨kn, ⟨kA, km, kc, kl⟩⟩, on, om, pA, pn, pk, p, qA, qn, qk, q, sA, sn, sk, s⟩ := o
  dsimp only at ho
  subst ho
  refine enter Tryz.func15 rfl rfl rfl ?_
  have hF := Fr.refl w
  repeat' (first | (refine TL.isOp ?_; first | (refine TL.isCall ?_; refine TL.call rfl rfl ?_; first | (refine (hC _ hF.ext).mono ?_; rintro _ w1 ⟨RA, kR, rl, rfl, hSm, hRw, hE, hf1, hf2⟩; have hfA := fun b hb => Nat.le_trans hF.ext.size (hf1 b hb); have hfR := fun q hq b hb => Nat.le_trans hF.ext.size (hf2 q hq b hb); replace hF := Fr.addRs hF hE hSm hRw hf1 hf2; clear hE hSm hRw hf1 hf2; refine Back.mk ?_)) | (refine TL.isBin ?_; refine TL.cmpG rfl rfl rfl rfl (fun hc => ?_) (fun hc => ?_) <;> (try (first | (exfalso; omega) | exact absurd rfl hc))) | (apply TL.ev; (case hd => rfl); (case h => (first | exact ev_simple rfl | (apply Ev.isLoad; first | exact ev_loadFr hF rfl (by refine ⟨?_, ?_⟩; (focus (repeat (first | exact InV.head | apply InV.tail))); rfl) | exact ev_loadAFr hF rfl (by refine ⟨?_, ?_⟩; (focus (repeat (first | exact InV.head | apply InV.tail))); rfl)) | exact ev_fieldAddr rfl))) | (refine TL.storeFr hF rfl rfl rfl rfl (by refine ⟨?_, ?_⟩; (focus (repeat (first | apply SetV.head | apply SetV.tail))); rfl) rfl ?_; clear hF; intro ws hF) | (refine TL.boxAFr hF (d := 1) (cs := [.int .i64 20, .int .i64 ar, .int .i64 ac, .slice aA an ak, .int .i64 br, .int .i64 bc, .slice bA bn bk, .slice lA0 ln0 lk0, .bool kn, .slice kA km kc, .int .i64 on, .int .i64 om, .slice pA pn pk, .slice qA qn qk, .slice sA sn sk]) rfl rfl ?_; clear hF; intro w1 b1 hF) | (refine TL.allocFr hF (d := 2) rfl rfl ?_; clear hF; intro w2 b2 hF) | (refine TL.allocFr hF (d := 3) rfl rfl ?_; clear hF; intro w3 b3 hF)) | (refine T.is ?_; first | refine T.seq ?_ | refine T.region ?_ | refine T.block ?_ | refine T.cond_t rfl ?_ | refine T.cond_f rfl ?_) | (refine G.is ?_; first | refine G.next ?_) | refine TL.nil ?_)
  refine T.loop (α := Nat × Option Addr × Nat × List Int) (fun x => [(2, .pointer (some ⟨b2, 0, none⟩)), (3, .pointer (some ⟨b3, 0, none⟩)), (4, .int .i64 (x.1 : Int))])
    (fun x w' => x.1 ≤ r ∧ x.2.2.2.length = x.1 ∧ (∀ q, q < x.1 → x.2.2.2.getD q 0 = (q : Int)) ∧
      ((x.1 = 0 ∧ x.2.1 = none ∧ x.2.2.1 = 0 ∧ Fr w w' [⟨b3, 51, [.int .i64 0, .int .i64 0, .slice none 0 0, .bool false, .slice none 0 0, .slice none 0 0, .slice RA r kR, .slice none 0 0, .bool false, .int .i64 0]⟩, ⟨b2, 51, [.int .i64 0, .int .i64 0, .slice none 0 0, .bool false, .slice none 0 0, .slice none 0 0, .slice none 0 0, .slice none 0 0, .bool false, .int .i64 0]⟩] [dpRs RA r kR rl c F K]) ∨
       ∃ g zs, x.2.1 = some ⟨g, 0, none⟩ ∧ x.1 ≤ x.2.2.1 ∧ zs.length = x.2.2.1 - x.1 ∧ zs.all noU64 = true ∧ Fr w w' [⟨g, 3, x.2.2.2.flatMap (fun x => [i64v x]) ++ zs⟩, ⟨b3, 51, [.int .i64 0, .int .i64 0, .slice none 0 0, .bool false, .slice none 0 0, .slice none 0 0, .slice RA r kR, .slice (some ⟨g, 0, none⟩) x.1 x.2.2.1, .bool false, .int .i64 0]⟩, ⟨b2, 51, [.int .i64 0, .int .i64 0, .slice none 0 0, .bool false, .slice none 0 0, .slice none 0 0, .slice none 0 0, .slice none 0 0, .bool false, .int .i64 0]⟩] [dpRs RA r kR rl c F K]))
    (fun x => r - x.1) (0, none, 0, []) (by repeat (first | exact Sub.nil _ | refine Sub.cons rfl ?_ | refine Sub.cons' rfl (int_congr (by omega)) ?_)) ⟨Nat.zero_le _, rfl, fun q hq => absurd hq (Nat.not_lt_zero _), .inl ⟨rfl, rfl, rfl, hF.weak (by repeat (first | exact List.Sublist.refl _ | apply List.Sublist.cons_cons | apply List.Sublist.cons)) (allH (by repeat (first | exact memH | apply memT)) allN)⟩⟩ ?_
  clear hF
  rintro ⟨i, NA, kN, nl⟩ w2 ⟨hi, hnl, hnq, hst⟩
  dsimp only at hi hnl hnq hst ⊢
  rcases Nat.lt_or_ge i r with hin | hin
  · rcases hst with ⟨h0, rfl, rfl, hF⟩ | ⟨g, zs, rfl, a1, a2, a3, hF⟩
    · subst h0
      obtain rfl : nl = [] := List.eq_nil_of_length_eq_zero hnl
      repeat' (first | (refine TL.isOp ?_; first | (refine TL.isBin ?_; refine TL.cmpG rfl rfl rfl rfl (fun hc => ?_) (fun hc => ?_) <;> (try (first | (exfalso; omega) | exact absurd rfl hc))) | (apply TL.ev; (case hd => rfl); (case h => (first | exact ev_simple rfl | (apply Ev.isBin; first | exact ev_arN rfl rfl rfl (by omega)) | (apply Ev.isLoad; first | exact ev_loadFr hF rfl (by refine ⟨?_, ?_⟩; (focus (repeat (first | exact InV.head | apply InV.tail))); rfl)) | exact ev_len rfl | exact ev_fieldAddr rfl))) | (refine TL.storeFr hF rfl rfl rfl rfl (by refine ⟨?_, ?_⟩; (focus (repeat (first | apply SetV.head | apply SetV.tail))); rfl) rfl ?_; clear hF; intro ws hF) | (refine TL.build1Fr hF (f := i64v) (u := 0) (fun _ => rfl) rfl rfl rfl ?_; clear hF; intro wl bl hbl hF hSl hEl) | (refine TL.appendNewFr hF (fun x => [i64v x]) rfl rfl rfl rfl hSl (fun _ => rfl) rfl rfl (by omega) (fun h0 => absurd h0 (by omega)) ?_; clear hF hSl hEl; intro _ wn bN cN zN hcN hzN hzNn hF)) | (refine T.is ?_; first | refine T.seq ?_ | refine T.region ?_ | refine T.block ?_ | refine T.cond_t rfl ?_ | refine T.skip ?_) | (refine G.is ?_; first | refine G.next ?_ | refine G.blockN ?_) | refine TL.nil ?_)
      exact G.again (1, some ⟨bN, 0, none⟩, cN, [(0 : Int)]) (by repeat (first | exact Sub.nil _ | refine Sub.cons rfl ?_ | refine Sub.cons' rfl (int_congr (by omega)) ?_)) ⟨by dsimp only; omega, rfl, fun q hq => (by obtain rfl : q = 0 := (by dsimp only at hq; omega); rfl), .inr ⟨bN, zN, rfl, hcN, by dsimp only; omega, hzNn, hF⟩⟩ (by dsimp only; omega)
    · repeat' (first | (refine TL.isOp ?_; first | (refine TL.isBin ?_; refine TL.cmpG rfl rfl rfl rfl (fun hc => ?_) (fun hc => ?_) <;> (try (first | (exfalso; omega) | exact absurd rfl hc))) | (apply TL.ev; (case hd => rfl); (case h => (first | exact ev_simple rfl | (apply Ev.isBin; first | exact ev_arN rfl rfl rfl (by omega)) | (apply Ev.isLoad; first | exact ev_loadFr hF rfl (by refine ⟨?_, ?_⟩; (focus (repeat (first | exact InV.head | apply InV.tail))); rfl)) | exact ev_len rfl | exact ev_fieldAddr rfl))) | (refine TL.storeFr hF rfl rfl rfl rfl (by refine ⟨?_, ?_⟩; (focus (repeat (first | apply SetV.head | apply SetV.tail))); rfl) rfl ?_; clear hF; intro ws hF) | (refine TL.build1Fr hF (f := i64v) (u := (i : Int)) (fun _ => rfl) rfl rfl rfl ?_; clear hF; intro wl bl hbl hF hSl hEl) | (refine TL.appendAtFr (f := fun x => [i64v x]) (l := nl) (zs := zs) hF rfl rfl rfl rfl hSl (fun _ => rfl) (fun _ => rfl) rfl rfl hnl (by omega) a1 (i64s_noV _ _ a3) (by omega) (by repeat (first | apply SetV.head | apply SetV.tail)) (fun hle wn hFn => ?_) (fun hgr wn bN cN zN2 hcN hzN hzNn hFn => ?_) <;> (clear hF hSl hEl; have hF := hFn; clear hFn))) | (refine T.is ?_; first | refine T.seq ?_ | refine T.region ?_ | refine T.block ?_ | refine T.cond_t rfl ?_ | refine T.skip ?_) | (refine G.is ?_; first | refine G.next ?_ | refine G.blockN ?_) | refine TL.nil ?_)
      · exact G.again (i + 1, some ⟨g, 0, none⟩, kN, nl ++ [(i : Int)]) (by repeat (first | exact Sub.nil _ | refine Sub.cons rfl ?_ | refine Sub.cons' rfl (int_congr (by omega)) ?_)) ⟨by dsimp only; omega, len_snoc hnl, nums_snoc hnl hnq, .inr ⟨g, zs.drop (1 * 1), rfl, hle, by dsimp only; rw [List.length_drop]; omega, drop_noV a3 _, hF⟩⟩ (by dsimp only; omega)
      · exact G.again (i + 1, some ⟨bN, 0, none⟩, cN, nl ++ [(i : Int)]) (by repeat (first | exact Sub.nil _ | refine Sub.cons rfl ?_ | refine Sub.cons' rfl (int_congr (by omega)) ?_)) ⟨by dsimp only; omega, len_snoc hnl, nums_snoc hnl hnq, .inr ⟨bN, zN2, rfl, hcN, by dsimp only; omega, hzNn, hF.weak (by repeat (first | exact List.Sublist.refl _ | apply List.Sublist.cons_cons | apply List.Sublist.cons)) (allH (by repeat (first | exact memH | apply memT)) allN)⟩⟩ (by dsimp only; omega)
  · obtain rfl : i = r := by omega
    rcases hst with ⟨h0, rfl, rfl, hF⟩ | ⟨g, zs, rfl, a1, a2, a3, hF⟩
    · subst h0
      repeat' (first | (refine TL.isOp ?_; first | (refine TL.isBin ?_; refine TL.cmpG rfl rfl rfl rfl (fun hc => ?_) (fun hc => ?_) <;> (try (first | (exfalso; omega) | exact absurd rfl hc))) | (apply TL.ev; (case hd => rfl); (case h => (first | exact ev_simple rfl | (apply Ev.isLoad; first | exact ev_loadFr hF rfl (by refine ⟨?_, ?_⟩; (focus (repeat (first | exact InV.head | apply InV.tail))); rfl) | exact ev_loadAFr hF rfl (by refine ⟨?_, ?_⟩; (focus (repeat (first | exact InV.head | apply InV.tail))); rfl)) | exact ev_len rfl | exact ev_fieldAddr rfl))) | (refine TL.storeAFr hF rfl rfl rfl rfl (by refine ⟨?_, ?_⟩; (focus (repeat (first | apply SetV.head | apply SetV.tail))); rfl) rfl ?_; clear hF; intro ws hF)) | (refine T.is ?_; first | refine T.seq ?_ | refine T.region ?_ | refine T.cond_f rfl ?_ | refine T.exit ?_ | refine T.ret ?_) | (refine G.is ?_; first | refine G.next ?_ | refine G.blockN ?_ | refine G.blockE ?_ | refine G.thenE ?_) | refine TL.nil ?_)
      have hrs := Fr.rs hF (by repeat (first | exact memH | apply memT))
      refine G.retC1 rfl rfl (held_agg (hF.var (by repeat (first | exact InV.head | apply InV.tail))) rfl) ⟨⟨⟨0, 0, none, 0, 0, []⟩, ⟨false, ⟨none, 0, 0, []⟩⟩, ⟨none, 0, 0, []⟩, RA, 0, kR, rl, none, 0, 0, [], false, 0⟩, rfl, ?_, hF.ext, fun k hk => ?_⟩
      · exact ⟨lm_none _ _ _, ⟨li_nought _, Nat.zero_le _⟩, ⟨ll_zero _ _ _, rfl⟩, ⟨hrs.1, rfl, fun q hq => absurd hq (Nat.not_lt_zero _)⟩, ⟨Sl.nil _ _ _ _ _, rfl, fun q hq => absurd hq (Nat.not_lt_zero _)⟩, rfl, rfl⟩
      · rcases hk with hk | hk | hk | hk | ⟨q, hq, hk⟩
        · exact absurd hk fpA_none
        · exact absurd hk fpA_none
        · exact absurd hk fpA_zero
        · exact absurd hk fpA_none
        · exact absurd hq (Nat.not_lt_zero _)
    · repeat' (first | (refine TL.isOp ?_; first | (refine TL.isBin ?_; refine TL.cmpG rfl rfl rfl rfl (fun hc => ?_) (fun hc => ?_) <;> (try (first | (exfalso; omega) | exact absurd rfl hc))) | (apply TL.ev; (case hd => rfl); (case h => (first | exact ev_simple rfl | (apply Ev.isLoad; first | exact ev_loadFr hF rfl (by refine ⟨?_, ?_⟩; (focus (repeat (first | exact InV.head | apply InV.tail))); rfl) | exact ev_loadAFr hF rfl (by refine ⟨?_, ?_⟩; (focus (repeat (first | exact InV.head | apply InV.tail))); rfl)) | exact ev_len rfl | exact ev_fieldAddr rfl))) | (refine TL.storeAFr hF rfl rfl rfl rfl (by refine ⟨?_, ?_⟩; (focus (repeat (first | apply SetV.head | apply SetV.tail))); rfl) rfl ?_; clear hF; intro ws hF)) | (refine T.is ?_; first | refine T.seq ?_ | refine T.region ?_ | refine T.cond_f rfl ?_ | refine T.exit ?_ | refine T.ret ?_) | (refine G.is ?_; first | refine G.next ?_ | refine G.blockN ?_ | refine G.blockE ?_ | refine G.thenE ?_) | refine TL.nil ?_)
      have hrs := Fr.rs hF (by repeat (first | exact memH | apply memT))
      have hg := (hF.lo (b := g) (by repeat (first | exact InV.head | apply InV.tail))).resolve_right id
      refine G.retC1 rfl rfl (held_agg (hF.var (by repeat (first | exact InV.head | apply InV.tail))) rfl) ⟨⟨⟨0, 0, none, 0, 0, []⟩, ⟨false, ⟨none, 0, 0, []⟩⟩, ⟨none, 0, 0, []⟩, RA, i, kR, rl, some ⟨g, 0, none⟩, i, kN, nl, false, 0⟩, rfl, ?_, hF.ext, fun k hk => ?_⟩
      · exact ⟨lm_none _ _ _, ⟨li_nought _, Nat.zero_le _⟩, ⟨ll_zero _ _ _, rfl⟩, ⟨hrs.1, rfl, hrs.2⟩, ⟨vr_sl1 (hF.var (b := g) (by repeat (first | exact InV.head | apply InV.tail))) hnl a1 (hF.var (b := g) (by repeat (first | exact InV.head | apply InV.tail))).lt, rfl, hnq⟩, rfl, rfl⟩
      · rcases hk with hk | hk | hk | ⟨_, o, e⟩ | ⟨q, hq, hk⟩
        · exact absurd hk fpA_none
        · exact absurd hk fpA_none
        · exact hfA k hk
        · cases e; exact hg
        · dsimp only at hq hk
          rw [(hrs.2 q hq).1] at hk
          exact hfR q hq k hk
end Go.Proofs.YtlhmehikajidhaaGreat
namespace Go.Proofs.YtlhmehikajidhaaGreat
open Go Go.Eng Go.Proofs Go.NatM Go.RowKit
theorem RM.exA {w w' : World} {x : MV} {K : Nat} (hE : Ext w w') (h : RM w.heap x K) : RM w'.heap x K := ⟨(h.s.ext hE).size, fun y hy => ⟨(h.g y hy).1.ext hE, (h.g y hy).2⟩⟩
structure OG (H : Array Obj) (o : OV) : Prop where
  a : RM H o.a 1048576
  ia : InR o.a
  b : RM H o.b 1048576
  ib : InR o.b
  l : Sm 2 ivc H H.size o.l.A o.l.n o.l.k o.l.l
  lg : ∀ y ∈ o.l.l, GI H y ∧ y.m.n ≤ 1048576
  k : GI H o.k ∧ o.k.m.n ≤ 1048576
  p : Sl i64v H H.size o.pA o.pn o.pk o.p
  pn : o.pn ≤ 1048576
  q : Sl i64v H H.size o.qA o.qn o.qk o.q
  qn : o.qn ≤ 1048576
  s : Sm 3 mvc H H.size o.sA o.sn o.sk o.s
  sg : ∀ y ∈ o.s, RM H y 1048576 ∧ InR y
  sn : o.sn ≤ 1048576
theorem OG.ext {w w' : World} {o : OV} (hE : Ext w w') (h : OG w.heap o) : OG w'.heap o :=
  ⟨h.a.exA hE, h.ia, h.b.exA hE, h.ib, (h.l.ext hE).size, fun y hy => ⟨(h.lg y hy).1.ext hE, (h.lg y hy).2⟩, ⟨h.k.1.ext hE, h.k.2⟩, (h.p.ext hE).size, h.pn, (h.q.ext hE).size, h.qn, (h.s.ext hE).size, fun y hy => ⟨(h.sg y hy).1.exA hE, (h.sg y hy).2⟩, h.sn⟩
def BX (fP fR : FuncId) (args : Array Value) (w : World) : Prop := ∃ r c F err, ∀ w1, Ext w w1 → Cl Tryz.prog fP args w1 (RetX w1 r c F err 1099511627776) ∧ Cl Tryz.prog fR args w1 (RetX w1 r c F err 1099511627776)
def BY (fP fR : FuncId) (args : Array Value) (w : World) : Prop := ∃ z err, ∀ w1, Ext w w1 → Cl Tryz.prog fP args w1 (RetY w1 z err 1099511627776) ∧ Cl Tryz.prog fR args w1 (RetY w1 z err 1099511627776)
def BV (fP fR : FuncId) (args : Array Value) (w : World) : Prop := ∃ n Z err, n ≤ 4096 ∧ ∀ w1, Ext w w1 → Cl Tryz.prog fP args w1 (RetV w1 n Z err 1099511627776) ∧ Cl Tryz.prog fR args w1 (RetV w1 n Z err 1099511627776)
def BB (fP fR : FuncId) (args : Array Value) (w : World) : Prop := ∃ b err, ∀ w1, Ext w w1 → Cl Tryz.prog fP args w1 (RetBE w1 b err) ∧ Cl Tryz.prog fR args w1 (RetBE w1 b err)
def BC (fP fR : FuncId) (args : Array Value) (w : World) : Prop := ∃ err, ∀ w1, Ext w w1 → Cl Tryz.prog fP args w1 (RetC w1 err) ∧ Cl Tryz.prog fR args w1 (RetC w1 err)
theorem LM.monoA {H : Array Obj} {x : MV} {r c : Nat} {F : Nat → Nat → Int} {K K' : Nat} (h : LM H x r c F K) (hK : K ≤ K') : LM H x r c F K' := ⟨h.sh, h.s, fun i j hi hj => ⟨(h.g i j hi hj).1, Nat.le_trans (h.g i j hi hj).2 hK⟩⟩
theorem LL.monoA {H : Array Obj} {A : Option Addr} {n k K K' : Nat} {l : List IV} {Z : Nat → Int} (h : LL H A n k l Z K) (hK : K ≤ K') : LL H A n k l Z K' := ⟨h.s, fun q hq => ⟨(h.g q hq).1, Nat.le_trans (h.g q hq).2 hK⟩⟩
theorem RetME.xK {w w' : World} {r c K : Nat} {F : Nat → Nat → Int} {e : Ending} (h : RetME w r c F K e w') (hK : K ≤ 1099511627776) : RetX w r c F 0 1099511627776 e w' := by
  obtain ⟨x, h1, h2, h3, h4⟩ := h
  exact ⟨x, h1, h2.monoA hK, h3, h4⟩
section
variable {fP fR : FuncId} {args : Array Value} {w : World}
theorem BX.me {r c K K' : Nat} {F : Nat → Nat → Int} (hp : ∀ w1, Ext w w1 → Cl Tryz.prog fP args w1 (RetME w1 r c F K)) (hr : ∀ w1, Ext w w1 → Cl Tryz.prog fR args w1 (RetME w1 r c F K')) (hK : K ≤ 1099511627776) (hK' : K' ≤ 1099511627776) : BX fP fR args w :=
  ⟨r, c, F, 0, fun w1 hE => ⟨(hp w1 hE).mono fun e w' h => h.xK hK, (hr w1 hE).mono fun e w' h => h.xK hK'⟩⟩
theorem BX.mf {err : Int} (hp : ∀ w1, Ext w w1 → Cl Tryz.prog fP args w1 (RetMF w1 err)) (hr : ∀ w1, Ext w w1 → Cl Tryz.prog fR args w1 (RetMF w1 err)) : BX fP fR args w :=
  ⟨0, 0, fun _ _ => 0, err, fun w1 hE => ⟨(hp w1 hE).mono fun e w' h => h.x _ _, (hr w1 hE).mono fun e w' h => h.x _ _⟩⟩
theorem BY.ze {z : Int} {K K' : Nat} (hp : ∀ w1, Ext w w1 → Cl Tryz.prog fP args w1 (RetZE w1 z K)) (hr : ∀ w1, Ext w w1 → Cl Tryz.prog fR args w1 (RetZE w1 z K')) (hK : K ≤ 1099511627776) (hK' : K' ≤ 1099511627776) : BY fP fR args w :=
  ⟨z, 0, fun w1 hE => ⟨(hp w1 hE).mono fun e w' ⟨x, h1, h2, h3, h4⟩ => ⟨x, h1, h2, h3, by omega⟩, (hr w1 hE).mono fun e w' ⟨x, h1, h2, h3, h4⟩ => ⟨x, h1, h2, h3, by omega⟩⟩⟩
theorem BY.zf {err : Int} (hp : ∀ w1, Ext w w1 → Cl Tryz.prog fP args w1 (RetZF w1 err)) (hr : ∀ w1, Ext w w1 → Cl Tryz.prog fR args w1 (RetZF w1 err)) : BY fP fR args w :=
  ⟨0, err, fun w1 hE => ⟨(hp w1 hE).mono fun e w' h => h.y _, (hr w1 hE).mono fun e w' h => h.y _⟩⟩
theorem BV.le {n K K' : Nat} {Z : Nat → Int} (hn : n ≤ 4096) (hp : ∀ w1, Ext w w1 → Cl Tryz.prog fP args w1 (RetLE w1 n Z K)) (hr : ∀ w1, Ext w w1 → Cl Tryz.prog fR args w1 (RetLE w1 n Z K')) (hK : K ≤ 1099511627776) (hK' : K' ≤ 1099511627776) : BV fP fR args w :=
  ⟨n, Z, 0, hn, fun w1 hE => ⟨(hp w1 hE).mono fun e w' ⟨A, k, l, h1, h2, h3, h4⟩ => ⟨A, k, l, h1, h2.monoA hK, h3, h4⟩, (hr w1 hE).mono fun e w' ⟨A, k, l, h1, h2, h3, h4⟩ => ⟨A, k, l, h1, h2.monoA hK', h3, h4⟩⟩⟩
theorem BV.lf {err : Int} (hp : ∀ w1, Ext w w1 → Cl Tryz.prog fP args w1 (RetLF w1 err)) (hr : ∀ w1, Ext w w1 → Cl Tryz.prog fR args w1 (RetLF w1 err)) : BV fP fR args w :=
  ⟨0, fun _ => 0, err, Nat.zero_le _, fun w1 hE => ⟨(hp w1 hE).mono fun e w' h => h.v _ _, (hr w1 hE).mono fun e w' h => h.v _ _⟩⟩
end
theorem snd_no {x : MV} (h : ¬ Snd x) : ∀ r c, ¬ Sound x r c := fun r c hs => h ⟨r, c, hs⟩
section
variable {w : World} {o : OV} (hO : OG w.heap o)
include hO
theorem b1 : BC 66 73 #[.agg (mvc o.a).toArray] w := by
  by_cases h : Snd o.a
  · obtain ⟨r, c, hs⟩ := h
    exact ⟨0, fun w1 hE => ⟨chk_ok w1 _ r c hs, rchkE_ok w1 _ r c hs⟩⟩
  · exact ⟨1, fun w1 hE => ⟨chk_bad w1 _ hO.ia h, rchk_any w1 _ (.inr ⟨h, rfl⟩)⟩⟩
theorem b2 : BX 97 78 #[.int .i64 o.n, .int .i64 o.m, .slice o.l.A o.l.n o.l.k] w := by
  by_cases h : isSd o.n ∧ isSd o.m
  · obtain ⟨h1, h2⟩ := h
    obtain ⟨r, hr⟩ := Int.eq_ofNat_of_zero_le h1.1
    obtain ⟨c, hc⟩ := Int.eq_ofNat_of_zero_le h2.1
    have hr64 : r ≤ 64 := by have := h1.2; omega
    have hc64 : c ≤ 64 := by have := h2.2; omega
    rw [hr, hc]
    by_cases e : o.l.n = r * c
    · have hl := hO.l
      rw [e] at hl ⊢
      exact BX.me (fun w1 hE => mmake_ok w1 r c _ 1048576 hr64 hc64 _ _ (hl.ext hE).size (fun y hy => ⟨(hO.lg y hy).1.ext hE, (hO.lg y hy).2⟩) (by omega)) (fun w1 hE => rmake_ok w1 r c _ 1048576 hr64 hc64 _ _ (hl.ext hE).size (fun y hy => ⟨(hO.lg y hy).1.ext hE, (hO.lg y hy).2⟩) (by omega)) (by omega) (by omega)
    · exact BX.mf (fun w1 hE => mmake_len w1 r c hr64 hc64 _ _ _ e) (fun w1 hE => rmake_len w1 r c hr64 hc64 _ _ _ e)
  · exact BX.mf (fun w1 hE => mmake_side w1 _ _ _ _ _ h) (fun w1 hE => rmake_side w1 _ _ _ _ _ h)
theorem b3 : BX 95 79 #[.agg (mvc o.a).toArray] w := by
  by_cases h : Snd o.a
  · obtain ⟨r, c, hs⟩ := h
    exact BX.me (fun w1 hE => mleast_ok w1 _ r c 1048576 ((hO.a.gm hs).ext hE) (by omega)) (fun w1 hE => rleastM_ok w1 _ r c 1048576 ((hO.a.gm hs).ext hE) (by omega)) (by omega) (by omega)
  · exact BX.mf (fun w1 hE => mleast_bad w1 _ hO.ia h) (fun w1 hE => rleastM_bad w1 _ (snd_no h))
omit hO in
theorem rzero_me (w : World) (r c : Nat) (hr : r ≤ 64) (hcc : c ≤ 64) : Cl Tryz.prog 80 #[.int .i64 (r : Int), .int .i64 (c : Int)] w (RetME w r c (fun _ _ => 0) 0) := by
  refine (rzero_ok w r c hr hcc).mono ?_
  rintro e w' ⟨b, rfl, hF⟩
  exact ⟨⟨r, c, some ⟨b, 0, none⟩, r * c, r * c, List.replicate (r * c) nought⟩, rfl, lm_of (hF.var .head) List.length_replicate hr hcc (lk_zeros _ _ _) (fun _ _ _ _ => rfl), hF.ext, .inr ⟨b, rfl, (hF.lo (b := b) .head).resolve_right id⟩⟩
omit hO in
theorem b4 : BX 98 80 #[.int .i64 o.n, .int .i64 o.m] w := by
  by_cases h : isSd o.n ∧ isSd o.m
  · obtain ⟨h1, h2⟩ := h
    obtain ⟨r, hr⟩ := Int.eq_ofNat_of_zero_le h1.1
    obtain ⟨c, hc⟩ := Int.eq_ofNat_of_zero_le h2.1
    have hr64 : r ≤ 64 := by have := h1.2; omega
    have hc64 : c ≤ 64 := by have := h2.2; omega
    rw [hr, hc]
    exact BX.me (fun w1 hE => mzero_ok w1 r c hr64 hc64) (fun w1 hE => rzero_me w1 r c hr64 hc64) (by omega) (by omega)
  · exact BX.mf (fun w1 hE => mzero_no w1 _ _ h) (fun w1 hE => rzero_no w1 _ _ h)
omit hO in
theorem b5 : BX 89 76 #[.int .i64 o.n] w := by
  by_cases h : isSd o.n
  · obtain ⟨r, hr⟩ := Int.eq_ofNat_of_zero_le h.1
    have hr64 : r ≤ 64 := by have := h.2; omega
    rw [hr]
    exact BX.me (fun w1 hE => munit_ok w1 r hr64) (fun w1 hE => runit_ok w1 r hr64) (by omega) (by omega)
  · exact BX.mf (fun w1 hE => munit_no w1 _ h) (fun w1 hE => runit_no w1 _ h)
theorem b6 : BX 99 81 #[.int .i64 o.n, .int .i64 o.m, .slice o.l.A o.l.n o.l.k] w := by
  by_cases h : isSd o.n ∧ isSd o.m
  · obtain ⟨h1, h2⟩ := h
    obtain ⟨r, hr⟩ := Int.eq_ofNat_of_zero_le h1.1
    obtain ⟨c, hc⟩ := Int.eq_ofNat_of_zero_le h2.1
    have hr64 : r ≤ 64 := by have := h1.2; omega
    have hc64 : c ≤ 64 := by have := h2.2; omega
    rw [hr, hc]
    by_cases e : o.l.n ≤ r ∧ o.l.n ≤ c
    · exact BX.me (fun w1 hE => mdiag_ok w1 r c _ _ 1048576 hr64 hc64 _ _ (hO.l.ext hE).size (fun y hy => ⟨(hO.lg y hy).1.ext hE, (hO.lg y hy).2⟩) (by omega) e.1 e.2) (fun w1 hE => rdiag_ok w1 r c _ _ 1048576 hr64 hc64 _ _ (hO.l.ext hE).size (fun y hy => ⟨(hO.lg y hy).1.ext hE, (hO.lg y hy).2⟩) (by omega) e.1 e.2) (by omega) (by omega)
    · exact BX.mf (fun w1 hE => mdiag_len w1 r c hr64 hc64 _ _ _ e) (fun w1 hE => rdiag_len w1 r c hr64 hc64 _ _ _ e)
  · exact BX.mf (fun w1 hE => mdiag_side w1 _ _ _ _ _ h) (fun w1 hE => rdiag_side w1 _ _ _ _ _ h)
theorem b7 : BB 100 82 #[.agg (mvc o.a).toArray, .agg (mvc o.b).toArray] w := by
  by_cases h : Snd o.a ∧ Snd o.b
  · obtain ⟨⟨r, c, hs⟩, ⟨r', c', hs'⟩⟩ := h
    have hp := fun w1 (hE : Ext w w1) => mequal_ok w1 _ _ r c r' c' 1048576 1048576 ((hO.a.gm hs).ext hE) ((hO.b.gm hs').ext hE) (by omega) (by omega)
    have hr := fun w1 (hE : Ext w w1) => requal_ok w1 _ _ r c r' c' 1048576 1048576 ((hO.a.gm hs).ext hE) ((hO.b.gm hs').ext hE) (by omega) (by omega)
    by_cases hc : (r = r' ∧ c = c' ∧ ∀ q, q < r * c → ival (o.a.l.getD q default) = ival (o.b.l.getD q default))
    · exact ⟨true, 0, fun w1 hE => ⟨(hp w1 hE).mono fun e w' ⟨b, h1, h2, h3⟩ => (by rw [h1.2 hc] at h2; exact ⟨h2, h3⟩), (hr w1 hE).mono fun e w' ⟨b, h1, h2, h3⟩ => (by rw [h1.2 hc] at h2; exact ⟨h2, h3⟩)⟩⟩
    · exact ⟨false, 0, fun w1 hE => ⟨(hp w1 hE).mono fun e w' ⟨b, h1, h2, h3⟩ => (by rw [show b = false from Bool.eq_false_iff.2 fun hb => hc (h1.1 hb)] at h2; exact ⟨h2, h3⟩), (hr w1 hE).mono fun e w' ⟨b, h1, h2, h3⟩ => (by rw [show b = false from Bool.eq_false_iff.2 fun hb => hc (h1.1 hb)] at h2; exact ⟨h2, h3⟩)⟩⟩
  · exact ⟨false, 1, fun w1 hE => ⟨mequal_bad w1 _ _ hO.ia hO.ib h, requal_bad w1 _ _ h⟩⟩
theorem b8 : BX 43 29 #[.agg (mvc o.a).toArray, .agg (mvc o.b).toArray] w := by
  by_cases h : Snd o.a ∧ Snd o.b
  · obtain ⟨⟨r, c, hs⟩, ⟨r', c', hs'⟩⟩ := h
    by_cases hc : r = r' ∧ c = c'
    · obtain ⟨rfl, rfl⟩ := hc
      exact BX.me (fun w1 hE => madd_ok w1 _ _ r c 1048576 1048576 ((hO.a.gm hs).ext hE) ((hO.b.gm hs').ext hE) (by omega) (by omega)) (fun w1 hE => radd_okM w1 _ _ r c 1048576 1048576 ((hO.a.gm hs).ext hE) ((hO.b.gm hs').ext hE) (by omega) (by omega)) (by omega) (by omega)
    · exact BX.mf (fun w1 hE => madd_unfit w1 _ _ r c r' c' hs hs' hc) (fun w1 hE => raddM_unfit w1 _ _ r c r' c' hs hs' hc)
  · exact BX.mf (fun w1 hE => madd_bad w1 _ _ hO.ia hO.ib h) (fun w1 hE => raddM_bad w1 _ _ h)
theorem b9 : BX 44 30 #[.agg (mvc o.a).toArray, .agg (mvc o.b).toArray] w := by
  by_cases h : Snd o.a ∧ Snd o.b
  · obtain ⟨⟨r, c, hs⟩, ⟨r', c', hs'⟩⟩ := h
    by_cases hc : r = r' ∧ c = c'
    · obtain ⟨rfl, rfl⟩ := hc
      exact BX.me (fun w1 hE => msub_ok w1 _ _ r c 1048576 1048576 ((hO.a.gm hs).ext hE) ((hO.b.gm hs').ext hE) (by omega) (by omega)) (fun w1 hE => rsub_okM w1 _ _ r c 1048576 1048576 ((hO.a.gm hs).ext hE) ((hO.b.gm hs').ext hE) (by omega) (by omega)) (by omega) (by omega)
    · exact BX.mf (fun w1 hE => msub_unfit w1 _ _ r c r' c' hs hs' hc) (fun w1 hE => rsubM_no w1 _ _ r' c' 1048576 ((hO.b.gm hs').ext hE) (by omega) 2 fun w2 u hE2 hu => raddM_unfit w2 _ _ r c r' c' hs hu hc)
  · refine BX.mf (fun w1 hE => msub_bad w1 _ _ hO.ia hO.ib h) (fun w1 hE => ?_)
    by_cases hb : Snd o.b
    · obtain ⟨r', c', hs'⟩ := id hb
      exact rsubM_no w1 _ _ r' c' 1048576 ((hO.b.gm hs').ext hE) (by omega) 1 fun w2 u hE2 hu => raddM_bad w2 _ _ fun h' => h ⟨h'.1, hb⟩
    · exact rsubM_bad w1 _ _ hb
theorem b10 : BX 45 31 #[.agg (ivc o.k).toArray, .agg (mvc o.a).toArray] w := by
  by_cases h : Snd o.a
  · obtain ⟨r, c, hs⟩ := h
    exact BX.me (fun w1 hE => mscale_ok w1 _ _ r c 1048576 1048576 (hO.k.1.ext hE) hO.k.2 ((hO.a.gm hs).ext hE) (by omega) (by omega)) (fun w1 hE => rscale_ok w1 _ _ r c 1048576 1048576 (hO.k.1.ext hE) hO.k.2 ((hO.a.gm hs).ext hE) (by omega) (by omega)) (by omega) (by omega)
  · exact BX.mf (fun w1 hE => mscale_bad w1 _ _ hO.ia h) (fun w1 hE => rscale_bad w1 _ _ h)
theorem b11 : BX 9 32 #[.agg (mvc o.a).toArray, .agg (mvc o.b).toArray] w := by
  by_cases h : Snd o.a ∧ Snd o.b
  · obtain ⟨⟨r, c, hs⟩, ⟨r', c', hs'⟩⟩ := h
    have h64 := hs.c64
    by_cases hc : c = r'
    · subst hc
      exact BX.me (fun w1 hE => mmul_ok w1 _ _ r c c' 1048576 1048576 ((hO.a.gm hs).ext hE) ((hO.b.gm hs').ext hE) (by omega) (by omega)) (fun w1 hE => rmul_ok w1 _ _ r c c' 1048576 1048576 ((hO.a.gm hs).ext hE) ((hO.b.gm hs').ext hE) (by omega) (by omega)) (by omega) (by omega)
    · exact BX.mf (fun w1 hE => mmul_unfit w1 _ _ r c r' c' hs hs' hc) (fun w1 hE => rmul_unfit w1 _ _ r c r' c' hs hs' hc)
  · exact BX.mf (fun w1 hE => mmul_bad w1 _ _ hO.ia hO.ib h) (fun w1 hE => rmul_bad w1 _ _ h)
theorem b12 : BV 46 33 #[.slice o.l.A o.l.n o.l.k, .agg (mvc o.a).toArray] w := by
  by_cases h : Snd o.a
  · obtain ⟨r, c, hs⟩ := h
    have h64 := hs.c64
    have h65 := hs.r64
    by_cases hc : o.l.n = r
    · have hl := hO.l
      rw [hc] at hl ⊢
      exact BV.le (by omega) (fun w1 hE => mvec_ok w1 _ _ _ _ r c 1048576 1048576 (hl.ext hE).size (fun y hy => ⟨(hO.lg y hy).1.ext hE, (hO.lg y hy).2⟩) ((hO.a.gm hs).ext hE) (by omega) (by omega)) (fun w1 hE => rvec_ok w1 _ _ _ _ r c 1048576 1048576 (hl.ext hE).size (fun y hy => ⟨(hO.lg y hy).1.ext hE, (hO.lg y hy).2⟩) ((hO.a.gm hs).ext hE) (by omega) (by omega)) (by omega) (by omega)
    · exact BV.lf (fun w1 hE => mvec_unfit w1 _ _ _ _ r c hs hc) (fun w1 hE => rvec_unfit w1 _ _ _ _ r c hs hc)
  · exact BV.lf (fun w1 hE => mvec_bad w1 _ _ _ _ hO.ia h) (fun w1 hE => rvec_bad w1 _ _ _ _ h)
theorem b13 : BX 47 34 #[.agg (mvc o.a).toArray, .int .i64 o.n] w := by
  by_cases h : Snd o.a
  · obtain ⟨r, c, hs⟩ := h
    by_cases hc : r = c ∧ 0 ≤ o.n ∧ o.n ≤ 256
    · obtain ⟨rfl, h0, h1⟩ := hc
      obtain ⟨k, hk⟩ := Int.eq_ofNat_of_zero_le h0
      rw [hk]
      have h64 := hs.r64
      obtain ⟨B, hB, hle⟩ : ∃ B, pb r 1048576 9 = B ∧ B ≤ 1099511627776 := ⟨_, rfl, Nat.le_trans (pb_le (Nat.le_refl _)) (by omega)⟩
      have hk2 : k ≤ 256 := by omega
      have hp := fun w1 (hE : Ext w w1) => mpow_any w1 _ r 1048576 k ((hO.a.gm hs).ext hE) (Nat.le_refl _) hk2
      have hr := fun w1 (hE : Ext w w1) => rpow_ok w1 _ r 1048576 k ((hO.a.gm hs).ext hE) (Nat.le_refl _) hk2
      rw [hB] at hp
      exact BX.me hp hr hle (by decide)
    · exact BX.mf (fun w1 hE => mpow_no w1 _ r c _ hs hc) (fun w1 hE => rpow_no w1 _ r c _ hs hc)
  · exact BX.mf (fun w1 hE => mpow_bad w1 _ _ hO.ia h) (fun w1 hE => rpow_bad w1 _ _ h)
theorem b14 : BX 48 35 #[.agg (mvc o.a).toArray] w := by
  by_cases h : Snd o.a
  · obtain ⟨r, c, hs⟩ := h
    exact BX.me (fun w1 hE => mturn_ok w1 _ r c 1048576 ((hO.a.gm hs).ext hE) (by omega)) (fun w1 hE => rturn_ok w1 _ r c 1048576 ((hO.a.gm hs).ext hE) (by omega)) (by omega) (by omega)
  · exact BX.mf (fun w1 hE => mturn_bad w1 _ hO.ia h) (fun w1 hE => rturn_bad w1 _ (snd_no h))
theorem b15 : BY 49 36 #[.agg (mvc o.a).toArray] w := by
  by_cases h : Snd o.a
  · obtain ⟨r, c, hs⟩ := h
    have h64 := hs.r64
    by_cases hc : r = c
    · subst hc
      exact BY.ze (fun w1 hE => mtrace_ok w1 _ r 1048576 ((hO.a.gm hs).ext hE) (by omega)) (fun w1 hE => rtrace_ok w1 _ r 1048576 ((hO.a.gm hs).ext hE) (by omega)) (by omega) (by omega)
    · exact BY.zf (err := 2) (fun w1 hE => mtrace_unfit w1 _ r c hs hc) (fun w1 hE => rtrace_unfit w1 _ r c hs hc)
  · exact BY.zf (fun w1 hE => mtrace_bad w1 _ hO.ia h) (fun w1 hE => rtrace_bad w1 _ h)
theorem b16 : BX 50 37 #[.agg (mvc o.a).toArray, .slice o.pA o.pn o.pk, .slice o.qA o.qn o.qk] w := by
  by_cases h : Snd o.a
  · obtain ⟨r, c, hs⟩ := h
    have hp := fun w1 (hE : Ext w w1) => mpick_ok w1 _ r c 1048576 ((hO.a.gm hs).ext hE) (by omega) _ _ _ _ _ _ _ _ (hO.p.ext hE).size (hO.q.ext hE).size hO.pn hO.qn
    have hr := fun w1 (hE : Ext w w1) => rpick_ok w1 _ r c 1048576 ((hO.a.gm hs).ext hE) (by omega) _ _ _ _ _ _ _ _ (hO.p.ext hE).size (hO.q.ext hE).size hO.pn hO.qn
    unfold RetPick at hp hr
    by_cases h1 : InL o.p r ∧ InL o.q c
    · by_cases h2 : o.p.length ≤ 64 ∧ o.q.length ≤ 64
      · simp only [if_pos h1, if_pos h2] at hp hr
        exact BX.me hp hr (by omega) (by omega)
      · simp only [if_pos h1, if_neg h2] at hp hr
        exact BX.mf hp hr
    · simp only [if_neg h1] at hp hr
      exact BX.mf hp hr
  · exact BX.mf (fun w1 hE => mpick_bad w1 _ _ _ _ _ _ _ hO.ia h) (fun w1 hE => rpick_bad w1 _ _ _ _ _ _ _ h)
theorem b17 : BX 51 38 #[.slice o.sA o.sn o.sk] w := by
  by_cases h : ∀ y ∈ o.s, Snd y
  · have hg : ∀ w1, Ext w w1 → ∀ y ∈ o.s, GM w1.heap y (nr y) (nc y) 1048576 := fun w1 hE y hy => ((hO.sg y hy).1.gm (h y hy).nat).ext hE
    have hp := fun w1 (hE : Ext w w1) => mstack_ok w1 _ _ _ _ 1048576 (hO.s.ext hE).size (hg w1 hE) hO.sn (by omega)
    have hr := fun w1 (hE : Ext w w1) => rstack_ok w1 _ _ _ _ 1048576 (hO.s.ext hE).size (hg w1 hE) hO.sn (by omega)
    unfold RetStack at hp hr
    by_cases h1 : OneW o.s
    · by_cases h2 : sumR o.s ≤ 64
      · simp only [if_pos h1, if_pos h2] at hp hr
        exact BX.me hp hr (by omega) (by omega)
      · simp only [if_pos h1, if_neg h2] at hp hr
        exact BX.mf hp hr
    · simp only [if_neg h1] at hp hr
      exact BX.mf hp hr
  · have hb : ∃ y ∈ o.s, ¬ Snd y := by simpa using h
    exact BX.mf (fun w1 hE => mstack_bad w1 _ _ _ _ (hO.s.ext hE).size (fun y hy => (hO.sg y hy).2) hb hO.sn) (fun w1 hE => rstack_bad w1 _ _ _ _ (hO.s.ext hE).size hb hO.sn)
theorem b18 : BX 52 39 #[.slice o.sA o.sn o.sk] w := by
  have hr := fun w1 (hE : Ext w w1) => rbeside_any w1 _ _ _ _ 1048576 (hO.s.ext hE).size (fun y hy hS => ((hO.sg y hy).1.gm hS.nat).ext hE) hO.sn (by omega)
  unfold RetBes at hr
  by_cases h : ∀ y ∈ o.s, Snd y
  · have hg : ∀ w1, Ext w w1 → ∀ y ∈ o.s, GM w1.heap y (nr y) (nc y) 1048576 := fun w1 hE y hy => ((hO.sg y hy).1.gm (h y hy).nat).ext hE
    have hp := fun w1 (hE : Ext w w1) => mbeside_ok w1 _ _ _ _ 1048576 (hO.s.ext hE).size (hg w1 hE) hO.sn (by omega)
    simp only [if_pos h] at hr
    unfold RetBeside at hp hr
    by_cases h1 : OneR o.s
    · by_cases h2 : sumC o.s ≤ 64
      · simp only [if_pos h1, if_pos h2] at hp hr
        exact BX.me hp hr (by omega) (by omega)
      · simp only [if_pos h1, if_neg h2] at hp hr
        exact BX.mf hp hr
    · simp only [if_neg h1] at hp hr
      exact BX.mf hp hr
  · have hb : ∃ y ∈ o.s, ¬ Snd y := by simpa using h
    simp only [if_neg h] at hr
    exact BX.mf (fun w1 hE => mbeside_bad w1 _ _ _ _ (hO.s.ext hE).size (fun y hy => (hO.sg y hy).2) hb hO.sn) hr
theorem b19 : BX 53 40 #[.agg (mvc o.a).toArray, .agg (mvc o.b).toArray] w := by
  by_cases h : Snd o.a ∧ Snd o.b
  · obtain ⟨⟨r, c, hs⟩, ⟨p, q, hs'⟩⟩ := h
    by_cases hc : r * p ≤ 64 ∧ c * q ≤ 64
    · exact BX.me (fun w1 hE => mkron_ok w1 _ _ r c p q _ _ 1048576 1048576 ((hO.a.gm hs).ext hE) ((hO.b.gm hs').ext hE) (by omega) (by omega) rfl rfl hc.1 hc.2) (fun w1 hE => rkron_ok w1 _ _ r c p q _ _ 1048576 1048576 ((hO.a.gm hs).ext hE) ((hO.b.gm hs').ext hE) (by omega) (by omega) rfl rfl hc.1 hc.2) (by omega) (by omega)
    · have hne : 64 < r * p ∨ 64 < c * q := by omega
      exact BX.mf (fun w1 hE => mkron_large w1 _ _ r c p q hs hs' hne) (fun w1 hE => rkron_large w1 _ _ r c p q hs hs' hne)
  · exact BX.mf (fun w1 hE => mkron_bad w1 _ _ hO.ia hO.ib h) (fun w1 hE => rkron_bad w1 _ _ h)
end
end Go.Proofs.YtlhmehikajidhaaGreat
