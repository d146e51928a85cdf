/- Layer 9: Stack and Beside. Layer 9: Beside. Layer 9's statements: calls and answers, as values and as what they say. -/
import Derived.Test.YtlhmehikajidhaaGreatPm7
import Derived.Test.YtlhmehikajidhaaGreatPm6
set_option maxHeartbeats 8000000
set_option linter.unusedVariables false
set_option linter.unusedSimpArgs false
namespace Go.Proofs.YtlhmehikajidhaaGreat
open Go Go.Eng Go.Proofs Go.NatM Go.RowKit
def nr (x : MV) : Nat := x.r.toNat
def nc (x : MV) : Nat := x.c.toNat
theorem Snd.nat {x : MV} (h : Snd x) : Sound x (nr x) (nc x) := by
  obtain ⟨r, c, h⟩ := h
  have e1 : nr x = r := by unfold nr; rw [h.er]; rfl
  have e2 : nc x = c := by unfold nc; rw [h.ec]; rfl
  rw [e1, e2]; exact h
def sumR (L : List MV) : Nat := (L.map nr).sum
def fl (L : List MV) : List IV := L.flatMap (·.l)
def c0 (L : List MV) : Nat := match L with
  | [] => 0
  | x :: _ => nc x
theorem sumR_cons (x : MV) (L : List MV) : sumR (x :: L) = nr x + sumR L := by simp [sumR]
theorem sumR_succ {L : List MV} {i : Nat} {y : MV} (h : L[i]? = some y) : sumR (L.take (i + 1)) = sumR (L.take i) + nr y := by
  rw [List.take_add_one, h]
  simp [sumR]
theorem sumR_le (L : List MV) (i : Nat) : sumR (L.take i) ≤ sumR L := by
  have h := congrArg sumR (List.take_append_drop i L)
  simp only [sumR, List.map_append, List.sum_append] at h
  simp only [sumR]
  omega
theorem fl_len {L : List MV} {c : Nat} (h : ∀ y ∈ L, nc y = c ∧ y.l.length = nr y * nc y) : (fl L).length = sumR L * c := by
  induction L with
  | nil => simp [fl, sumR]
  | cons x L ih =>
    have h1 := h x (List.mem_cons_self ..)
    have h2 := ih fun y hy => h y (List.mem_cons_of_mem _ hy)
    unfold fl at h2 ⊢
    rw [List.flatMap_cons, List.length_append, h2, h1.2, h1.1, sumR_cons, Nat.add_mul]
theorem fl_at {L : List MV} {c i q : Nat} {y : MV} (h : ∀ y ∈ L, nc y = c ∧ y.l.length = nr y * nc y) (hy : L[i]? = some y) (hq : q < y.l.length) : (fl L).getD (sumR (L.take i) * c + q) default = y.l.getD q default := by
  have e1 : L = L.take i ++ y :: L.drop (i + 1) := by
    obtain ⟨hi, he⟩ := List.getElem?_eq_some_iff.1 hy
    rw [← he, ← List.drop_eq_getElem_cons hi, List.take_append_drop]
  have e2 : fl L = fl (L.take i) ++ (y.l ++ fl (L.drop (i + 1))) := by
    conv => lhs; rw [e1]
    simp [fl]
  have e3 : (fl (L.take i)).length = sumR (L.take i) * c := fl_len fun y hy => h y (List.mem_of_mem_take hy)
  rw [e2]
  simp only [List.getD]
  rw [List.getElem?_append_right (by omega), e3, Nat.add_sub_cancel_left, List.getElem?_append_left hq]
def OneW (L : List MV) : Prop := ∀ y ∈ L, nc y = c0 L
theorem c0_head {L : List MV} {y : MV} (h : L[0]? = some y) : c0 L = nc y := by
  cases L with
  | nil => simp at h
  | cons x L => simp at h; subst h; rfl
open Classical in
noncomputable def RetStack (w : World) (L : List MV) (K : Nat) (e : Ending) (w' : World) : Prop :=
  if OneW L then (if sumR L ≤ 64 then RetME w (sumR L) (c0 L) (fun i j => ival ((fl L).getD (i * c0 L + j) default)) K e w' else RetMF w 5 e w') else RetMF w 2 e w'
theorem LsK.append {H : Array Obj} {l l' : List IV} {Z Z' : Nat → Int} {n m K : Nat} (h : LsK n l Z K H) (h' : LsK m l' Z' K H) (hn : l.length = n) (e : ∀ q, q < m → Z (n + q) = Z' q) : LsK (n + m) (l ++ l') Z K H := by
  intro q hq
  rcases Nat.lt_or_ge q n with h1 | h1
  · have e1 : (l ++ l').getD q default = l.getD q default := by simp only [List.getD]; rw [List.getElem?_append_left (by omega)]
    rw [e1]; exact h q h1
  · have e1 : (l ++ l').getD q default = l'.getD (q - n) default := by simp only [List.getD]; rw [List.getElem?_append_right (by omega), hn]
    have h2 := h' (q - n) (by omega)
    rw [← e (q - n) (by omega), show n + (q - n) = q by omega] at h2
    rw [e1]; exact h2
theorem GM.len {H : Array Obj} {x : MV} {r c K : Nat} (h : GM H x r c K) : x.l.length = r * c := by rw [h.s.len, h.sh.n]
def StM (w w' : World) (b5 b2 : Nat) (S c K : Nat) (Z : Nat → Int) : Prop := ∃ l : List IV, l.length = S * c ∧
  ((S * c = 0 ∧ Fr w w' [⟨b5, 27, [.int .i64 (S : Int), .int .i64 (c : Int), .slice none 0 0]⟩, ⟨b2, 27, [.int .i64 0, .int .i64 0, .slice none 0 0]⟩] []) ∨
   ∃ g k zs, S * c ≤ k ∧ zs.length = (k - S * c) * 2 ∧ zs.all noU64 = true ∧ w.heap.size ≤ g ∧ Fr w w' [⟨g, 30, l.flatMap ivc ++ zs⟩, ⟨b5, 27, [.int .i64 (S : Int), .int .i64 (c : Int), .slice (some ⟨g, 0, none⟩) (S * c) k]⟩, ⟨b2, 27, [.int .i64 0, .int .i64 0, .slice none 0 0]⟩] [dpLK (S * c) l Z K])
set_option maxRecDepth 100000 in
theorem mstack_ok (w : World) (A : Option Addr) (n k : Nat) (L : List MV) (K : Nat) (hs : Sm 3 mvc w.heap w.heap.size A n k L) (hG : ∀ y ∈ L, GM w.heap y (nr y) (nc y) K) (hn : n ≤ 1048576) (hK : K ≤ 35184372088832) :
    Cl Tryz.prog 51 #[.slice A n k] w (RetStack w L K) := by
  have hlen := hs.len
  refine enter Tryz.func51 rfl rfl rfl ?_
  have hF := Fr.refl w
  repeat' (first | (refine TL.isOp ?_; first | (refine TL.isCall ?_; refine TL.call rfl rfl ?_; first | (refine (check_ok _ _ _ _ _ (hs.ext hF.ext).size (fun y hy => ⟨_, _, (hG y hy).sh⟩) hn).mono ?_; rintro _ wc ⟨rfl, hE⟩; replace hF := hF.exts hE; clear hE; refine Back.mk ?_)) | (refine TL.isBin ?_; refine TL.cmpG rfl rfl rfl rfl (fun hc => ?_) (fun hc => ?_) <;> (try (first | (exfalso; omega) | exact absurd rfl hc))) | (apply TL.ev; (case hd => rfl); (case h => (first | exact ev_simple rfl | exact ev_len rfl))) | (refine TL.allocFr hF (d := 2) rfl rfl ?_; clear hF; intro w2 b2 hF) | (refine TL.allocFr hF (d := 5) rfl rfl ?_; clear hF; intro w5 b5 hF)) | (refine T.is ?_; first | refine T.seq ?_ | refine T.region ?_ | refine T.block ?_ | refine T.cond_f rfl ?_ | refine T.skip ?_) | (refine G.is ?_; first | refine G.next ?_) | refine TL.nil ?_)
  refine T.loop (α := Nat) (fun i => [(0, .slice A n k), (2, .pointer (some ⟨b2, 0, none⟩)), (3, .int .i64 0), (5, .pointer (some ⟨b5, 0, none⟩)), (16, .slice A n k), (17, .int .i64 (n : Int)), (18, .int .i64 (i : Int))])
    (fun i w' => i ≤ n ∧ (∀ j y, j < i → L[j]? = some y → nc y = c0 L) ∧ Fr w w' [⟨b5, 27, [.int .i64 0, .int .i64 (((if i = 0 then 0 else c0 L) : Nat) : Int), .slice none 0 0]⟩, ⟨b2, 27, [.int .i64 0, .int .i64 0, .slice none 0 0]⟩] [])
    (fun i => n - i) 0 (by repeat (first | exact Sub.nil _ | refine Sub.cons rfl ?_ | refine Sub.cons' rfl (int_congr (by omega)) ?_)) ⟨Nat.zero_le _, fun j y hj => absurd hj (Nat.not_lt_zero _), hF⟩ ?_
  clear hF
  rintro i w2 ⟨hi, hq, hF⟩
  rcases Nat.lt_or_ge i n with hin | hin
  · have hy : L[i]? = some (L.getD i default) := by simp [List.getD, show i < L.length by omega]
    have gy := (hG _ (List.mem_of_getElem? hy)).sh
    have hmem := List.mem_of_getElem? hy
    generalize L.getD i default = y at *
    have hnc : nc y = y.c.toNat := rfl
    obtain ⟨yr, yc, A2, n2, k2, l2⟩ := y
    obtain ⟨h1, h2, h3, h4, h5⟩ := gy
    dsimp only at h1 h2 h5 hnc
    generalize hr' : nr (⟨yr, yc, A2, n2, k2, l2⟩ : MV) = r' at *
    generalize hc' : nc (⟨yr, yc, A2, n2, k2, l2⟩ : MV) = c' at *
    subst h1 h2 h5
    rcases Nat.eq_zero_or_pos i with h0 | h0
    · subst h0
      have hc0 : c0 L = c' := (c0_head hy).trans hc'
      rw [if_pos rfl] at hF
      repeat' (first | (refine TL.isOp ?_; first | (refine TL.isBin ?_; refine TL.cmpG rfl rfl rfl rfl (fun hc => ?_) (fun hc => ?_) <;> (try (first | (exfalso; omega) | exact absurd rfl hc))) | (apply TL.ev; (case hd => rfl); (case h => (first | exact ev_simple rfl | (apply Ev.isBin; first | exact ev_arN rfl rfl rfl (by omega)) | (apply Ev.isLoad; first | exact ev_loadFr hF rfl (by refine ⟨?_, ?_⟩; (focus (repeat (first | exact InV.head | apply InV.tail))); rfl) | exact ev_loadMc [.int .i64 (r' : Int), .int .i64 (c' : Int), .slice A2 (r' * c') k2] rfl (hs.ext hF.ext) hy rfl) | exact ev_fieldAddr rfl | exact ev_indexM rfl rfl hin (hs.ext hF.ext).some))) | (refine TL.storeAFr hF rfl rfl rfl rfl (by refine ⟨?_, ?_⟩; (focus (repeat (first | apply SetV.head | apply SetV.tail))); rfl) rfl ?_; clear hF; intro ws hF) | (refine TL.storeFr hF rfl rfl rfl rfl (by refine ⟨?_, ?_⟩; (focus (repeat (first | apply SetV.head | apply SetV.tail))); rfl) rfl ?_; clear hF; intro ws hF) | (refine TL.allocFr hF (d := 7) rfl rfl ?_; clear hF; intro w7 b7 hF)) | (refine T.is ?_; first | refine T.seq ?_ | refine T.region ?_ | refine T.block ?_ | refine T.cond_t rfl ?_ | refine T.cond_f rfl ?_ | refine T.skip ?_) | (refine G.is ?_; first | refine G.next ?_ | refine G.blockN ?_) | refine TL.nil ?_)
      refine G.again 1 (by repeat (first | exact Sub.nil _ | refine Sub.cons rfl ?_ | refine Sub.cons' rfl (int_congr (by omega)) ?_)) ⟨by omega, fun j z hj hz => ?_, ?_⟩ (by omega)
      · obtain rfl : j = 0 := by omega
        rw [hy] at hz; cases hz
        rw [hc', hc0]
      · rw [if_neg (by omega), hc0]
        exact hF.weak (List.Sublist.cons _ (List.Sublist.refl _)) allN
    · rw [if_neg (by omega)] at hF
      by_cases hcc : c' = c0 L
      · repeat' (first | (refine TL.isOp ?_; first | (refine TL.isBin ?_; refine TL.cmpG rfl rfl rfl rfl (fun hc => ?_) (fun hc => ?_) <;> (try (first | (exfalso; omega) | exact absurd rfl hc))) | (apply TL.ev; (case hd => rfl); (case h => (first | exact ev_simple rfl | (apply Ev.isBin; first | exact ev_arN rfl rfl rfl (by omega)) | (apply Ev.isLoad; first | exact ev_loadFr hF rfl (by refine ⟨?_, ?_⟩; (focus (repeat (first | exact InV.head | apply InV.tail))); rfl) | exact ev_loadMc [.int .i64 (r' : Int), .int .i64 (c' : Int), .slice A2 (r' * c') k2] rfl (hs.ext hF.ext) hy rfl) | exact ev_fieldAddr rfl | exact ev_indexM rfl rfl hin (hs.ext hF.ext).some))) | (refine TL.storeAFr hF rfl rfl rfl rfl (by refine ⟨?_, ?_⟩; (focus (repeat (first | apply SetV.head | apply SetV.tail))); rfl) rfl ?_; clear hF; intro ws hF) | (refine TL.allocFr hF (d := 7) rfl rfl ?_; clear hF; intro w7 b7 hF)) | (refine T.is ?_; first | refine T.seq ?_ | refine T.region ?_ | refine T.block ?_ | refine T.cond_t rfl ?_ | refine T.cond_f rfl ?_ | refine T.skip ?_) | (refine G.is ?_; first | refine G.next ?_ | refine G.blockN ?_) | refine TL.nil ?_)
        refine G.again (i + 1) (by repeat (first | exact Sub.nil _ | refine Sub.cons rfl ?_ | refine Sub.cons' rfl (int_congr (by omega)) ?_)) ⟨by omega, fun j z hj hz => ?_, ?_⟩ (by omega)
        · rcases Nat.lt_or_ge j i with h | h
          · exact hq j z h hz
          · obtain rfl : j = i := by omega
            rw [hy] at hz; cases hz
            exact hc'.trans hcc
        · rw [if_neg (by omega)]
          exact hF.weak (List.Sublist.cons _ (List.Sublist.refl _)) allN
      · have hno : ¬ OneW L := fun h => hcc (hc'.symm.trans (h _ hmem))
        repeat' (first | (refine TL.isOp ?_; first | (refine TL.isBin ?_; refine TL.cmpG rfl rfl rfl rfl (fun hc => ?_) (fun hc => ?_) <;> (try (first | (exfalso; omega) | exact absurd rfl hc))) | (apply TL.ev; (case hd => rfl); (case h => (first | exact ev_simple rfl | (apply Ev.isLoad; first | exact ev_loadFr hF rfl (by refine ⟨?_, ?_⟩; (focus (repeat (first | exact InV.head | apply InV.tail))); rfl) | exact ev_loadMc [.int .i64 (r' : Int), .int .i64 (c' : Int), .slice A2 (r' * c') k2] rfl (hs.ext hF.ext) hy rfl) | exact ev_fieldAddr rfl | exact ev_buildX rfl rfl | exact ev_indexM rfl rfl hin (hs.ext hF.ext).some))) | (refine TL.storeAFr hF rfl rfl rfl rfl (by refine ⟨?_, ?_⟩; (focus (repeat (first | apply SetV.head | apply SetV.tail))); rfl) rfl ?_; clear hF; intro ws hF) | (refine TL.allocFr hF (d := 7) rfl rfl ?_; clear hF; intro w7 b7 hF)) | (refine T.is ?_; first | refine T.seq ?_ | refine T.region ?_ | refine T.block ?_ | refine T.cond_t rfl ?_ | refine T.cond_f rfl ?_ | refine T.ret ?_ | refine T.skip ?_) | (refine G.is ?_; first | refine G.next ?_ | refine G.blockR ?_ | refine G.thenR ?_) | refine TL.nil ?_)
        all_goals first | exact G.retC2 rfl rfl rfl (held_agg (hF.var (by repeat (first | exact InV.head | apply InV.tail))) rfl) (by unfold RetStack; rw [if_neg hno]; exact ⟨rfl, hF.ext⟩) | (exfalso; omega)
  obtain rfl : i = n := by omega
  have hW : OneW L := fun y hy => by
    obtain ⟨j, hj⟩ := List.getElem?_of_mem hy
    exact hq j y (by have := (List.getElem?_eq_some_iff.1 hj).1; omega) hj
  have hci : ((if i = 0 then 0 else c0 L) : Nat) = c0 L := by
    split
    · rename_i h0
      rw [h0] at hlen
      rw [List.eq_nil_of_length_eq_zero hlen]; rfl
    · rfl
  rw [hci] at hF
  have hall : ∀ y ∈ L, nc y = c0 L ∧ y.l.length = nr y * nc y := fun y hy => ⟨hW y hy, (hG y hy).len⟩
  have hc64 : c0 L ≤ 64 := by
    cases hL : L with
    | nil => simp [c0]
    | cons x L' => subst hL; exact (hG x (List.mem_cons_self ..)).sh.c64
  clear hq hi hin hci
  repeat' (first | (refine TL.isOp ?_; first | (refine TL.isBin ?_; refine TL.cmpG rfl rfl rfl rfl (fun hc => ?_) (fun hc => ?_) <;> (try (first | (exfalso; omega) | exact absurd rfl hc))) | (apply TL.ev; (case hd => rfl); (case h => (first | exact ev_simple rfl | exact ev_len rfl)))) | (refine T.is ?_; first | refine T.seq ?_ | refine T.region ?_ | refine T.block ?_ | refine T.cond_f rfl ?_ | refine T.exit ?_) | (refine G.is ?_; first | refine G.next ?_ | refine G.blockE ?_ | refine G.thenE ?_) | refine TL.nil ?_)
  refine T.loop (α := Nat) (fun j => [(2, .pointer (some ⟨b2, 0, none⟩)), (3, .int .i64 0), (5, .pointer (some ⟨b5, 0, none⟩)), (35, .slice A i k), (36, .int .i64 (i : Int)), (37, .int .i64 (j : Int))])
    (fun j w' => j ≤ i ∧ sumR (L.take j) ≤ 64 ∧ StM w w' b5 b2 (sumR (L.take j)) (c0 L) K (fun q => ival ((fl L).getD q default))) (fun j => i - j) 0 (by repeat (first | exact Sub.nil _ | refine Sub.cons rfl ?_ | refine Sub.cons' rfl (int_congr (by omega)) ?_)) ⟨Nat.zero_le _, by simp [sumR], [], by simp [sumR], .inl ⟨by simp [sumR], hF.weak (by repeat (first | exact List.Sublist.refl _ | apply List.Sublist.cons)) allN⟩⟩ ?_
  clear hF
  rintro j w3 ⟨hj, hS, l, hl, hst⟩
  rcases Nat.lt_or_ge j i with hjn | hjn
  · have hy : L[j]? = some (L.getD j default) := by simp [List.getD, show j < L.length by omega]
    have hmem := List.mem_of_getElem? hy
    have gy := hG _ hmem
    generalize L.getD j default = y at *
    have hsucc := sumR_succ hy
    have hle := sumR_le L (j + 1)
    rw [hsucc] at hle
    have hlq := fun (q : Nat) (hq : q < y.l.length) => fl_at hall hy hq
    have hyc := hW y hmem
    have hsy := gy.s
    have hgy := gy.g
    have hys := gy.sh
    obtain ⟨yr, yc, A2, n2, k2, l2⟩ := y
    obtain ⟨h1, h2, h3, h4, h5⟩ := hys
    dsimp only at h1 h2 h5 hsy hgy hlq
    generalize hr' : nr (⟨yr, yc, A2, n2, k2, l2⟩ : MV) = r' at *
    rw [hyc] at h2 h5 h4
    clear hyc gy
    subst h1 h2 h5
    have hm := mul64 h3 h4
    have hl2 := hsy.len
    have he := each_ok (n := r' * c0 L) (K := K) (g := 91) (cap := []) (A := A2) (k := k2) (l := l2)
    generalize hSe : sumR (L.take j) = S at *
    rcases Nat.lt_or_ge 64 (S + r') with hbig | hsml
    · have hno : ¬ sumR L ≤ 64 := by omega
      rcases hst with ⟨h0, hF⟩ | ⟨g, kg, zs, hkg, hzs, hzn, hg, hF⟩
      · repeat' (first | (refine TL.isOp ?_; first | (refine TL.isBin ?_; refine TL.cmpG rfl rfl rfl rfl (fun hc => ?_) (fun hc => ?_) <;> (try (first | (exfalso; omega) | exact absurd rfl hc))) | (apply TL.ev; (case hd => rfl); (case h => (first | exact ev_simple rfl | (apply Ev.isBin; first | exact ev_arN rfl rfl rfl (by omega)) | (apply Ev.isLoad; first | exact ev_loadFr hF rfl (by refine ⟨?_, ?_⟩; (focus (repeat (first | exact InV.head | apply InV.tail))); rfl) | exact ev_loadMc [.int .i64 (r' : Int), .int .i64 (c0 L : Int), .slice A2 (r' * c0 L) k2] rfl (hs.ext hF.ext) hy rfl) | exact ev_fieldAddr rfl | exact ev_buildX rfl rfl | exact ev_indexM rfl rfl hjn (hs.ext hF.ext).some))) | (refine TL.storeAFr hF rfl rfl rfl rfl (by refine ⟨?_, ?_⟩; (focus (repeat (first | apply SetV.head | apply SetV.tail))); rfl) rfl ?_; clear hF; intro ws hF) | (refine TL.storeFr hF rfl rfl rfl rfl (by refine ⟨?_, ?_⟩; (focus (repeat (first | apply SetV.head | apply SetV.tail))); rfl) rfl ?_; clear hF; intro ws hF) | (refine TL.allocFr hF (d := 9) rfl rfl ?_; clear hF; intro w9 b9 hF)) | (refine T.is ?_; first | refine T.seq ?_ | refine T.region ?_ | refine T.block ?_ | refine T.cond_t rfl ?_ | refine T.ret ?_ | refine T.skip ?_) | (refine G.is ?_; first | refine G.next ?_ | refine G.blockR ?_ | refine G.thenR ?_) | refine TL.nil ?_)
        all_goals first | exact G.retC2 rfl rfl rfl (held_agg (hF.var (by repeat (first | exact InV.head | apply InV.tail))) rfl) (by unfold RetStack; rw [if_pos hW, if_neg hno]; exact ⟨rfl, hF.ext⟩) | (exfalso; omega)
      · repeat' (first | (refine TL.isOp ?_; first | (refine TL.isBin ?_; refine TL.cmpG rfl rfl rfl rfl (fun hc => ?_) (fun hc => ?_) <;> (try (first | (exfalso; omega) | exact absurd rfl hc))) | (apply TL.ev; (case hd => rfl); (case h => (first | exact ev_simple rfl | (apply Ev.isBin; first | exact ev_arN rfl rfl rfl (by omega)) | (apply Ev.isLoad; first | exact ev_loadFr hF rfl (by refine ⟨?_, ?_⟩; (focus (repeat (first | exact InV.head | apply InV.tail))); rfl) | exact ev_loadMc [.int .i64 (r' : Int), .int .i64 (c0 L : Int), .slice A2 (r' * c0 L) k2] rfl (hs.ext hF.ext) hy rfl) | exact ev_fieldAddr rfl | exact ev_buildX rfl rfl | exact ev_indexM rfl rfl hjn (hs.ext hF.ext).some))) | (refine TL.storeAFr hF rfl rfl rfl rfl (by refine ⟨?_, ?_⟩; (focus (repeat (first | apply SetV.head | apply SetV.tail))); rfl) rfl ?_; clear hF; intro ws hF) | (refine TL.storeFr hF rfl rfl rfl rfl (by refine ⟨?_, ?_⟩; (focus (repeat (first | apply SetV.head | apply SetV.tail))); rfl) rfl ?_; clear hF; intro ws hF) | (refine TL.allocFr hF (d := 9) rfl rfl ?_; clear hF; intro w9 b9 hF)) | (refine T.is ?_; first | refine T.seq ?_ | refine T.region ?_ | refine T.block ?_ | refine T.cond_t rfl ?_ | refine T.ret ?_ | refine T.skip ?_) | (refine G.is ?_; first | refine G.next ?_ | refine G.blockR ?_ | refine G.thenR ?_) | refine TL.nil ?_)
        all_goals first | exact G.retC2 rfl rfl rfl (held_agg (hF.var (by repeat (first | exact InV.head | apply InV.tail))) rfl) (by unfold RetStack; rw [if_pos hW, if_neg hno]; exact ⟨rfl, hF.ext⟩) | (exfalso; omega)
    · have hmul : (S + r') * c0 L = S * c0 L + r' * c0 L := Nat.add_mul ..
      have hcap : (S + r') * c0 L ≤ 4096 := mul64 hsml hc64
      rcases Nat.eq_zero_or_pos (r' * c0 L) with hz | hz
      · have hl20 : l2 = [] := List.eq_nil_of_length_eq_zero (by rw [hl2]; exact hz)
        rw [hz] at hmul
        rcases hst with ⟨h0, hF⟩ | ⟨g, kg, zs, hkg, hzs, hzn, hg, hF⟩
        · repeat' (first | (refine TL.isOp ?_; first | (refine TL.isCall ?_; refine TL.call rfl rfl ?_; first | (refine (each_ok _ A2 (r' * c0 L) k2 l2 (hsy.ext hF.ext).size (by omega) 91 [] inferInstance _ K (least_each _ l2 K (fun y hy => ⟨(hgy y hy).1.ext hF.ext, (hgy y hy).2⟩) hK)).mono ?_; rintro _ wl ⟨Al, kl, ll, rfl, hLL, hE, hf⟩; replace hF := hF.exts hE; clear hE hf hLL; refine Back.mk ?_)) | (refine TL.isBin ?_; refine TL.cmpG rfl rfl rfl rfl (fun hc => ?_) (fun hc => ?_) <;> (try (first | (exfalso; omega) | exact absurd rfl hc))) | (apply TL.ev; (case hd => rfl); (case h => (first | exact ev_simple rfl | (apply Ev.isBin; first | exact ev_arN rfl rfl rfl (by omega)) | (apply Ev.isLoad; first | exact ev_loadFr hF rfl (by refine ⟨?_, ?_⟩; (focus (repeat (first | exact InV.head | apply InV.tail))); rfl) | exact ev_loadMc [.int .i64 (r' : Int), .int .i64 (c0 L : Int), .slice A2 (r' * c0 L) k2] rfl (hs.ext hF.ext) hy rfl) | exact ev_fieldAddr rfl | exact ev_indexM rfl rfl hjn (hs.ext hF.ext).some))) | (refine TL.storeAFr hF rfl rfl rfl rfl (by refine ⟨?_, ?_⟩; (focus (repeat (first | apply SetV.head | apply SetV.tail))); rfl) rfl ?_; clear hF; intro ws hF) | (refine TL.storeFr hF rfl rfl rfl rfl (by refine ⟨?_, ?_⟩; (focus (repeat (first | apply SetV.head | apply SetV.tail))); rfl) rfl ?_; clear hF; intro ws hF) | (refine TL.allocFr hF (d := 9) rfl rfl ?_; clear hF; intro w9 b9 hF) | (refine TL.appendZero rfl (by rw [hz]; rfl) rfl (Nat.le_refl _) ?_)) | (refine TF.is ?_; first | refine TF.nil ?_ | refine TF.e rfl ?_ | (refine TF.pick rfl ?_; first | (apply TFo.ev; (case hd => rfl); (case h => (intro wh hF; first | (apply Ev.isLoad; first | exact ev_loadFr hF rfl (by refine ⟨?_, ?_⟩; (focus (repeat (first | exact InV.head | apply InV.tail))); rfl)) | exact ev_fieldAddr rfl))))) | (refine T.is ?_; first | refine T.seq ?_ | refine T.region ?_ | refine T.block ?_ | refine T.cond_t rfl ?_ | refine T.cond_f rfl ?_ | refine T.skip ?_ | (refine T.regionFr hF 19 7 (.s 0 (.s 1 (.s 2 (.s 3 (.e 4 (.e 5 (.s 6 (.e 7 .nil)))))))) mixed (by kernel_rfl) ?_; clear hF; intro wr hF)) | (refine G.is ?_; first | refine G.next ?_ | refine G.blockN ?_ | refine G.only ?_ | refine G.treeEnd rfl ?_ | refine G.tree rfl (by first | exact hF | exact hF.weak (by repeat (first | exact List.Sublist.refl _ | apply List.Sublist.cons)) (by repeat (first | exact allR | apply allT)) | exact hF.weak (by repeat (first | exact List.Sublist.refl _ | apply List.Sublist.cons)) (by repeat (first | exact allN | refine allH (by repeat (first | exact memH | apply memT)) ?_))) ?_) | refine TL.nil ?_)
          refine G.again (j + 1) (by repeat (first | exact Sub.nil _ | refine Sub.cons rfl ?_ | refine Sub.cons' rfl (int_congr (by omega)) ?_)) ⟨by omega, by rw [hsucc]; exact hsml, [], ?_⟩ (by omega)
          rw [hsucc]
          exact ⟨by simp; omega, .inl ⟨by omega, by rw [Nat.add_mul] at *; exact hF.weak (by repeat (first | exact List.Sublist.refl _ | apply List.Sublist.cons)) allN⟩⟩
        · repeat' (first | (refine TL.isOp ?_; first | (refine TL.isCall ?_; refine TL.call rfl rfl ?_; first | (refine (each_ok _ A2 (r' * c0 L) k2 l2 (hsy.ext hF.ext).size (by omega) 91 [] inferInstance _ K (least_each _ l2 K (fun y hy => ⟨(hgy y hy).1.ext hF.ext, (hgy y hy).2⟩) hK)).mono ?_; rintro _ wl ⟨Al, kl, ll, rfl, hLL, hE, hf⟩; replace hF := hF.exts hE; clear hE hf hLL; refine Back.mk ?_)) | (refine TL.isBin ?_; refine TL.cmpG rfl rfl rfl rfl (fun hc => ?_) (fun hc => ?_) <;> (try (first | (exfalso; omega) | exact absurd rfl hc))) | (apply TL.ev; (case hd => rfl); (case h => (first | exact ev_simple rfl | (apply Ev.isBin; first | exact ev_arN rfl rfl rfl (by omega)) | (apply Ev.isLoad; first | exact ev_loadFr hF rfl (by refine ⟨?_, ?_⟩; (focus (repeat (first | exact InV.head | apply InV.tail))); rfl) | exact ev_loadMc [.int .i64 (r' : Int), .int .i64 (c0 L : Int), .slice A2 (r' * c0 L) k2] rfl (hs.ext hF.ext) hy rfl) | exact ev_fieldAddr rfl | exact ev_indexM rfl rfl hjn (hs.ext hF.ext).some))) | (refine TL.storeAFr hF rfl rfl rfl rfl (by refine ⟨?_, ?_⟩; (focus (repeat (first | apply SetV.head | apply SetV.tail))); rfl) rfl ?_; clear hF; intro ws hF) | (refine TL.storeFr hF rfl rfl rfl rfl (by refine ⟨?_, ?_⟩; (focus (repeat (first | apply SetV.head | apply SetV.tail))); rfl) rfl ?_; clear hF; intro ws hF) | (refine TL.allocFr hF (d := 9) rfl rfl ?_; clear hF; intro w9 b9 hF) | (refine TL.appendZero rfl (by rw [hz]; rfl) rfl hkg ?_)) | (refine TF.is ?_; first | refine TF.nil ?_ | refine TF.e rfl ?_ | (refine TF.pick rfl ?_; first | (apply TFo.ev; (case hd => rfl); (case h => (intro wh hF; first | (apply Ev.isLoad; first | exact ev_loadFr hF rfl (by refine ⟨?_, ?_⟩; (focus (repeat (first | exact InV.head | apply InV.tail))); rfl)) | exact ev_fieldAddr rfl))))) | (refine T.is ?_; first | refine T.seq ?_ | refine T.region ?_ | refine T.block ?_ | refine T.cond_t rfl ?_ | refine T.cond_f rfl ?_ | refine T.skip ?_ | (refine T.regionFr hF 19 7 (.s 0 (.s 1 (.s 2 (.s 3 (.e 4 (.e 5 (.s 6 (.e 7 .nil)))))))) mixed (by kernel_rfl) ?_; clear hF; intro wr hF)) | (refine G.is ?_; first | refine G.next ?_ | refine G.blockN ?_ | refine G.only ?_ | refine G.treeEnd rfl ?_ | refine G.tree rfl (by first | exact hF | exact hF.weak (by repeat (first | exact List.Sublist.refl _ | apply List.Sublist.cons)) (by repeat (first | exact allR | apply allT)) | exact hF.weak (by repeat (first | exact List.Sublist.refl _ | apply List.Sublist.cons)) (by repeat (first | exact allN | refine allH (by repeat (first | exact memH | apply memT)) ?_))) ?_) | refine TL.nil ?_)
          refine G.again (j + 1) (by repeat (first | exact Sub.nil _ | refine Sub.cons rfl ?_ | refine Sub.cons' rfl (int_congr (by omega)) ?_)) ⟨by omega, by rw [hsucc]; exact hsml, l, ?_⟩ (by omega)
          have e0 : (S + r') * c0 L = S * c0 L := by omega
          rw [hsucc, e0]
          exact ⟨hl, .inr ⟨g, kg, zs, hkg, hzs, hzn, hg, hF.weak (by repeat (first | exact List.Sublist.refl _ | apply List.Sublist.cons)) allR⟩⟩
      · rcases hst with ⟨h0, hF⟩ | ⟨g, kg, zs, hkg, hzs, hzn, hg, hF⟩
        · repeat' (first | (refine TL.isOp ?_; first | (refine TL.isCall ?_; refine TL.call rfl rfl ?_; first | (refine (each_ok _ A2 (r' * c0 L) k2 l2 (hsy.ext hF.ext).size (by omega) 91 [] inferInstance _ K (least_each _ l2 K (fun y hy => ⟨(hgy y hy).1.ext hF.ext, (hgy y hy).2⟩) hK)).mono ?_; rintro _ wl ⟨Al, kl, ll, rfl, hLL, hE, hf⟩; obtain ⟨bl, rfl, hbl⟩ := hf.resolve_left (by omega); replace hF := Fr.addLK (hF.exts hE) hLL.g; clear hE hf; refine Back.mk ?_)) | (refine TL.isBin ?_; refine TL.cmpG rfl rfl rfl rfl (fun hc => ?_) (fun hc => ?_) <;> (try (first | (exfalso; omega) | exact absurd rfl hc))) | (apply TL.ev; (case hd => rfl); (case h => (first | exact ev_simple rfl | (apply Ev.isBin; first | exact ev_arN rfl rfl rfl (by omega)) | (apply Ev.isLoad; first | exact ev_loadFr hF rfl (by refine ⟨?_, ?_⟩; (focus (repeat (first | exact InV.head | apply InV.tail))); rfl) | exact ev_loadMc [.int .i64 (r' : Int), .int .i64 (c0 L : Int), .slice A2 (r' * c0 L) k2] rfl (hs.ext hF.ext) hy rfl) | exact ev_fieldAddr rfl | exact ev_indexM rfl rfl hjn (hs.ext hF.ext).some))) | (refine TL.storeAFr hF rfl rfl rfl rfl (by refine ⟨?_, ?_⟩; (focus (repeat (first | apply SetV.head | apply SetV.tail))); rfl) rfl ?_; clear hF; intro ws hF) | (refine TL.storeFr hF rfl rfl rfl rfl (by refine ⟨?_, ?_⟩; (focus (repeat (first | apply SetV.head | apply SetV.tail))); rfl) rfl ?_; clear hF; intro ws hF) | (refine TL.allocFr hF (d := 9) rfl rfl ?_; clear hF; intro w9 b9 hF) | (refine TL.appendNilFr hF ivc rfl rfl rfl hLL.s (fun _ => rfl) rfl rfl (by omega) (fun h0 => absurd h0 (by omega)) ?_; clear hF; intro _ wn bn cn zn hcn hzl hznn hF)) | (refine TF.is ?_; first | refine TF.nil ?_ | refine TF.e rfl ?_ | (refine TF.pick rfl ?_; first | (apply TFo.ev; (case hd => rfl); (case h => (intro wh hF; first | (apply Ev.isLoad; first | exact ev_loadFr hF rfl (by refine ⟨?_, ?_⟩; (focus (repeat (first | exact InV.head | apply InV.tail))); rfl)) | exact ev_fieldAddr rfl))))) | (refine T.is ?_; first | refine T.seq ?_ | refine T.region ?_ | refine T.block ?_ | refine T.cond_t rfl ?_ | refine T.cond_f rfl ?_ | refine T.skip ?_ | (refine T.regionFr hF 19 7 (.s 0 (.s 1 (.s 2 (.s 3 (.e 4 (.e 5 (.s 6 (.e 7 .nil)))))))) mixed (by kernel_rfl) ?_; clear hF; intro wr hF)) | (refine G.is ?_; first | refine G.next ?_ | refine G.blockN ?_ | refine G.only ?_ | refine G.treeEnd rfl ?_ | refine G.tree rfl (by first | exact hF | exact hF.weak (by repeat (first | exact List.Sublist.refl _ | apply List.Sublist.cons)) (by repeat (first | exact allR | apply allT)) | exact hF.weak (by repeat (first | exact List.Sublist.refl _ | apply List.Sublist.cons)) (by repeat (first | exact allN | refine allH (by repeat (first | exact memH | apply memT)) ?_))) ?_) | refine TL.nil ?_)
          have hlo := (hF.lo (b := bn) (by repeat (first | exact InV.head | apply InV.tail))).resolve_right id
          have hll := hLL.s.len
          have hS0 : S * c0 L = 0 := h0
          have e0 : (S + r') * c0 L = r' * c0 L := by omega
          have hk : LsK (r' * c0 L) ll (fun q => ival ((fl L).getD q default)) K ws.heap := fun q hq => by
            have h1 := Fr.lk hF (i := r' * c0 L) (l := ll) (Z := fun q => ival (l2.getD q default)) (K := K) (by repeat (first | exact memH | apply memT)) q hq
            have h2 := hlq q (by rw [hl2]; exact hq)
            rw [hS0, Nat.zero_add] at h2
            dsimp only at h1 ⊢
            rw [h2]; exact h1
          refine G.again (j + 1) (by repeat (first | exact Sub.nil _ | refine Sub.cons rfl ?_ | refine Sub.cons' rfl (int_congr (by omega)) ?_)) ⟨by omega, by rw [hsucc]; exact hsml, ll, ?_⟩ (by omega)
          rw [hsucc, e0]
          exact ⟨hll, .inr ⟨bn, cn, zn, hcn, hzl, hznn, hlo, Fr.addLK (hF.weak (D := []) (by repeat (first | exact List.Sublist.refl _ | apply List.Sublist.cons_cons | apply List.Sublist.cons)) allN) hk⟩⟩
        · repeat' (first | (refine TL.isOp ?_; first | (refine TL.isCall ?_; refine TL.call rfl rfl ?_; first | (refine (each_ok _ A2 (r' * c0 L) k2 l2 (hsy.ext hF.ext).size (by omega) 91 [] inferInstance _ K (least_each _ l2 K (fun y hy => ⟨(hgy y hy).1.ext hF.ext, (hgy y hy).2⟩) hK)).mono ?_; rintro _ wl ⟨Al, kl, ll, rfl, hLL, hE, hf⟩; obtain ⟨bl, rfl, hbl⟩ := hf.resolve_left (by omega); replace hF := Fr.addLK (hF.exts hE) hLL.g; clear hE hf; refine Back.mk ?_)) | (refine TL.isBin ?_; refine TL.cmpG rfl rfl rfl rfl (fun hc => ?_) (fun hc => ?_) <;> (try (first | (exfalso; omega) | exact absurd rfl hc))) | (apply TL.ev; (case hd => rfl); (case h => (first | exact ev_simple rfl | (apply Ev.isBin; first | exact ev_arN rfl rfl rfl (by omega)) | (apply Ev.isLoad; first | exact ev_loadFr hF rfl (by refine ⟨?_, ?_⟩; (focus (repeat (first | exact InV.head | apply InV.tail))); rfl) | exact ev_loadMc [.int .i64 (r' : Int), .int .i64 (c0 L : Int), .slice A2 (r' * c0 L) k2] rfl (hs.ext hF.ext) hy rfl) | exact ev_fieldAddr rfl | exact ev_indexM rfl rfl hjn (hs.ext hF.ext).some))) | (refine TL.storeAFr hF rfl rfl rfl rfl (by refine ⟨?_, ?_⟩; (focus (repeat (first | apply SetV.head | apply SetV.tail))); rfl) rfl ?_; clear hF; intro ws hF) | (refine TL.storeFr hF rfl rfl rfl rfl (by refine ⟨?_, ?_⟩; (focus (repeat (first | apply SetV.head | apply SetV.tail))); rfl) rfl ?_; clear hF; intro ws hF) | (refine TL.allocFr hF (d := 9) rfl rfl ?_; clear hF; intro w9 b9 hF) | (refine TL.appendVFr hF rfl rfl rfl hLL.s (fun _ => rfl) (fun _ => rfl) rfl rfl hl hzs hkg (ivc_all l zs hzn) (by omega) (fun hle1 wn hF => ?_) (fun hgr wn bn cn zn hcn hzl hznn hF => ?_))) | (refine TF.is ?_; first | refine TF.nil ?_ | refine TF.e rfl ?_ | (refine TF.pick rfl ?_; first | (apply TFo.ev; (case hd => rfl); (case h => (intro wh hF; first | (apply Ev.isLoad; first | exact ev_loadFr hF rfl (by refine ⟨?_, ?_⟩; (focus (repeat (first | exact InV.head | apply InV.tail))); rfl)) | exact ev_fieldAddr rfl))))) | (refine T.is ?_; first | refine T.seq ?_ | refine T.region ?_ | refine T.block ?_ | refine T.cond_t rfl ?_ | refine T.cond_f rfl ?_ | refine T.skip ?_ | (refine T.regionFt hF.swap 19 7 (.s 0 (.s 1 (.s 2 (.s 3 (.e 4 (.e 5 (.s 6 (.e 7 .nil)))))))) mixed (by kernel_rfl) ?_; clear hF; intro wr hF)) | (refine G.is ?_; first | refine G.next ?_ | refine G.blockN ?_ | refine G.only ?_ | refine G.treeEnd rfl ?_ | refine G.tree rfl (by first | exact hF | exact hF.weak (by repeat (first | exact List.Sublist.refl _ | apply List.Sublist.cons)) (by repeat (first | exact allR | apply allT)) | exact hF.weak (by repeat (first | exact List.Sublist.refl _ | apply List.Sublist.cons)) (by repeat (first | exact allN | refine allH (by repeat (first | exact memH | apply memT)) ?_))) ?_) | refine TL.nil ?_)
          all_goals
            have hll := hLL.s.len
            have hk : LsK ((S + r') * c0 L) (l ++ ll) (fun q => ival ((fl L).getD q default)) K ws.heap := by
              rw [hmul]
              refine LsK.append (Fr.lk hF (i := S * c0 L) (l := l) (Z := fun q => ival ((fl L).getD q default)) (K := K) (by repeat (first | exact memH | apply memT))) (Fr.lk hF (i := r' * c0 L) (l := ll) (Z := fun q => ival (l2.getD q default)) (K := K) (by repeat (first | exact memH | apply memT))) hl fun q hq => ?_
              rw [hlq q (by rw [hl2]; exact hq)]
          · refine G.again (j + 1) (by repeat (first | exact Sub.nil _ | refine Sub.cons rfl ?_ | refine Sub.cons' rfl (int_congr (by omega)) ?_)) ⟨by omega, by rw [hsucc]; exact hsml, l ++ ll, ?_⟩ (by omega)
            rw [hsucc]
            refine ⟨by rw [List.length_append, hl, hll]; omega, .inr ⟨g, kg, zs.drop (r' * c0 L * 2), by omega, by rw [List.length_drop]; omega, List.all_eq_true.2 fun v hv => List.all_eq_true.1 hzn v (List.mem_of_mem_drop hv), hg, ?_⟩⟩
            have hF2 := Fr.addLK (hF.weak (D := []) (L := [⟨g, 30, (l ++ ll).flatMap ivc ++ zs.drop (r' * c0 L * 2)⟩, ⟨b5, 27, [.int .i64 ((S + r' : Nat) : Int), .int .i64 (c0 L : Int), .slice (some ⟨g, 0, none⟩) (S * c0 L + r' * c0 L) kg]⟩, ⟨b2, 27, [.int .i64 0, .int .i64 0, .slice none 0 0]⟩]) (by repeat (first | exact List.Sublist.refl _ | apply List.Sublist.cons_cons | apply List.Sublist.cons)) allN) hk
            rw [← hmul] at hF2
            exact hF2
          · have hlo := (hF.lo (b := bn) (by repeat (first | exact InV.head | apply InV.tail))).resolve_right id
            refine G.again (j + 1) (by repeat (first | exact Sub.nil _ | refine Sub.cons rfl ?_ | refine Sub.cons' rfl (int_congr (by omega)) ?_)) ⟨by omega, by rw [hsucc]; exact hsml, l ++ ll, ?_⟩ (by omega)
            rw [hsucc]
            refine ⟨by rw [List.length_append, hl, hll]; omega, .inr ⟨bn, cn, zn, by omega, by rw [hmul]; exact hzl, hznn, hlo, ?_⟩⟩
            have hF2 := Fr.addLK (hF.weak (D := []) (L := [⟨bn, 30, (l ++ ll).flatMap ivc ++ zn⟩, ⟨b5, 27, [.int .i64 ((S + r' : Nat) : Int), .int .i64 (c0 L : Int), .slice (some ⟨bn, 0, none⟩) (S * c0 L + r' * c0 L) cn]⟩, ⟨b2, 27, [.int .i64 0, .int .i64 0, .slice none 0 0]⟩]) (by repeat (first | exact List.Sublist.refl _ | apply List.Sublist.cons_cons | apply List.Sublist.cons)) allN) hk
            rw [← hmul] at hF2
            exact hF2
  · obtain rfl : j = i := by omega
    have htk : L.take j = L := List.take_of_length_le (by omega)
    rw [htk] at hS hl hst
    have hRs : ∀ (e : Ending) (w' : World), RetME w (sumR L) (c0 L) (fun i j => ival ((fl L).getD (i * c0 L + j) default)) K e w' → RetStack w L K e w' := fun e w' h => by unfold RetStack; rw [if_pos hW, if_pos hS]; exact h
    generalize hSe : sumR L = S at *
    rcases hst with ⟨h0, hF⟩ | ⟨g, kg, zs, hkg, hzs, hzn, hg, hF⟩
    · repeat' (first | (refine TL.isOp ?_; first | (refine TL.isBin ?_; refine TL.cmpG rfl rfl rfl rfl (fun hc => ?_) (fun hc => ?_) <;> (try (first | (exfalso; omega) | exact absurd rfl hc))) | (apply TL.ev; (case hd => rfl); (case h => (first | exact ev_simple rfl | (apply Ev.isLoad; first | exact ev_loadAFr hF rfl (by refine ⟨?_, ?_⟩; (focus (repeat (first | exact InV.head | apply InV.tail))); rfl))))) | (refine TL.storeAFr hF rfl rfl rfl rfl (by refine ⟨?_, ?_⟩; (focus (repeat (first | apply SetV.head | apply SetV.tail))); rfl) rfl ?_; clear hF; intro ws hF)) | (refine T.is ?_; first | refine T.seq ?_ | refine T.region ?_ | refine T.cond_f rfl ?_ | refine T.exit ?_ | refine T.ret ?_) | (refine G.is ?_; first | refine G.next ?_ | refine G.blockE ?_ | refine G.thenE ?_) | refine TL.nil ?_)
      refine G.retC2 rfl rfl rfl (held_agg (hF.var (by repeat (first | exact InV.head | apply InV.tail))) rfl) (hRs _ _ ⟨⟨(S : Int), (c0 L : Int), none, 0, 0, []⟩, rfl, ⟨⟨rfl, rfl, hS, hc64, h0.symm⟩, ⟨rfl, Nat.le_refl _, by omega, fun x hx => (by cases hx), .inl rfl⟩, fun a b ha hb => ?_⟩, hF.ext, .inl rfl⟩)
      have := place_lt ha hb
      omega
    · repeat' (first | (refine TL.isOp ?_; first | (refine TL.isBin ?_; refine TL.cmpG rfl rfl rfl rfl (fun hc => ?_) (fun hc => ?_) <;> (try (first | (exfalso; omega) | exact absurd rfl hc))) | (apply TL.ev; (case hd => rfl); (case h => (first | exact ev_simple rfl | (apply Ev.isLoad; first | exact ev_loadAFr hF rfl (by refine ⟨?_, ?_⟩; (focus (repeat (first | exact InV.head | apply InV.tail))); rfl))))) | (refine TL.storeAFr hF rfl rfl rfl rfl (by refine ⟨?_, ?_⟩; (focus (repeat (first | apply SetV.head | apply SetV.tail))); rfl) rfl ?_; clear hF; intro ws hF)) | (refine T.is ?_; first | refine T.seq ?_ | refine T.region ?_ | refine T.cond_f rfl ?_ | refine T.exit ?_ | refine T.ret ?_) | (refine G.is ?_; first | refine G.next ?_ | refine G.blockE ?_ | refine G.thenE ?_) | refine TL.nil ?_)
      refine G.retC2 rfl rfl rfl (held_agg (hF.var (by repeat (first | exact InV.head | apply InV.tail))) rfl) (hRs _ _ ⟨⟨(S : Int), (c0 L : Int), some ⟨g, 0, none⟩, S * c0 L, kg, l⟩, rfl, ⟨⟨rfl, rfl, hS, hc64, rfl⟩, vr_sm (by omega) (fun _ _ => rfl) (hF.var (.head)) hl hkg (hF.var (.head)).lt, fun a b ha hb => ?_⟩, hF.ext, .inr ⟨g, rfl, hg⟩⟩)
      exact Fr.lk hF (i := S * c0 L) (l := l) (by repeat (first | exact memH | apply memT)) (a * c0 L + b) (place_lt ha hb)
end Go.Proofs.YtlhmehikajidhaaGreat
namespace Go.Proofs.YtlhmehikajidhaaGreat
open Go Go.Eng Go.Proofs Go.NatM Go.RowKit
theorem mvc_noV (l : List MV) : (l.flatMap mvc).all noU64 = true := by
  rw [List.all_eq_true]
  intro v hv
  obtain ⟨x, _, hx⟩ := List.mem_flatMap.1 hv
  simp only [mvc, List.mem_cons, List.not_mem_nil, or_false] at hx
  rcases hx with rfl | rfl | rfl <;> rfl
def MsK (i : Nat) (l : List MV) (R C : Nat → Nat) (F : Nat → Nat → Nat → Int) (K : Nat) (H : Array Obj) : Prop := ∀ q, q < i → LM H (l.getD q default) (R q) (C q) (F q) K
def dpMs (i : Nat) (l : List MV) (R C : Nat → Nat) (F : Nat → Nat → Nat → Int) (K : Nat) : DP := ⟨MsK i l R C F K, fun k => ∃ q, q < i ∧ fpA (l.getD q default).A (l.getD q default).n k,
  fun _ _ h ⟨q, hq, hk⟩ => (h q hq).s.fp_lt hk, fun _ _ hd h q hq => (h q hq).de (hd.mono fun k hk => ⟨q, hq, hk⟩)⟩
section
variable {S : Nat → Prop} {w0 w w' : World} {L : List VB} {D : List DP}
theorem Fr.ms0 (h : Fr w0 w L D S) (l : List MV) (R C : Nat → Nat) (F : Nat → Nat → Nat → Int) (K : Nat) : Fr w0 w L (dpMs 0 l R C F K :: D) S := h.add _ (fun q hq => absurd hq (Nat.not_lt_zero _)) fun _ _ ⟨q, hq, _⟩ => absurd hq (Nat.not_lt_zero _)
theorem Fr.ms (h : Fr w0 w L D S) {i : Nat} {l : List MV} {R C : Nat → Nat} {F : Nat → Nat → Nat → Int} {K : Nat} (hm : dpMs i l R C F K ∈ D) : MsK i l R C F K w.heap := h.data _ hm
theorem getD_set_eq {α : Type} [Inhabited α] {l : List α} {i : Nat} {x : α} (hi : i < l.length) : (l.set i x).getD i default = x := by simp [List.getD, hi]
theorem getD_set_ne {α : Type} [Inhabited α] {l : List α} {i q : Nat} {x : α} (h : q ≠ i) : (l.set i x).getD q default = l.getD q default := by simp [List.getD, List.getElem?_set_ne (Ne.symm h)]
theorem Fr.msSet (h : Fr w0 w L D S) {i : Nat} {l : List MV} {R C : Nat → Nat} {F : Nat → Nat → Nat → Int} {K : Nat} {x : MV} (hi : i < l.length) (hm : dpMs i l R C F K ∈ D) (hx : dpLM x (R i) (C i) (F i) K ∈ D) : Fr w0 w L (dpMs (i + 1) (l.set i x) R C F K :: D) S := by
  have e1 : ∀ q, q < i + 1 → q ≠ i → (l.set i x).getD q default = l.getD q default := fun q _ hne => getD_set_ne hne
  have e2 : (l.set i x).getD i default = x := getD_set_eq hi
  refine h.add _ (fun q hq => ?_) fun v hv hfp => ?_
  · by_cases e : q = i
    · subst e
      rw [e2]; exact Fr.lm h hx
    · rw [e1 q hq e]; exact Fr.ms h hm q (by omega)
  · obtain ⟨q, hq, hk⟩ := hfp
    by_cases e : q = i
    · subst e
      rw [e2] at hk
      refine h.apart v hv _ hx ?_
      unfold dpLM; exact hk
    · rw [e1 q hq e] at hk
      exact h.apart v hv _ hm ⟨q, by omega, hk⟩
end
attribute [irreducible] dpMs
def sumC (L : List MV) : Nat := (L.map nc).sum
def r0 (L : List MV) : Nat := match L with
  | [] => 0
  | x :: _ => nr x
def OneR (L : List MV) : Prop := ∀ y ∈ L, nr y = r0 L
def tz (y : MV) : List Int := (List.range (nc y * nr y)).map fun q => ent y (nc y) (q % nr y) (q / nr y)
def tl (L : List MV) : List Int := L.flatMap tz
open Classical in
noncomputable def RetBeside (w : World) (L : List MV) (K : Nat) (e : Ending) (w' : World) : Prop :=
  if OneR L then (if sumC L ≤ 64 then RetME w (r0 L) (sumC L) (fun i j => (tl L).getD (j * r0 L + i) 0) K e w' else RetMF w 5 e w') else RetMF w 2 e w'
structure Tns (L T : List MV) : Prop where
  len : T.length = L.length
  r : ∀ q, q < L.length → nr (T.getD q default) = nc (L.getD q default)
  c : ∀ q, q < L.length → nc (T.getD q default) = nr (L.getD q default)
  e : ∀ q, q < L.length → (T.getD q default).l.map ival = tz (L.getD q default)
theorem Tns.cons {x y : MV} {L T : List MV} (h : Tns (x :: L) (y :: T)) : (nr y = nc x ∧ nc y = nr x ∧ y.l.map ival = tz x) ∧ Tns L T :=
  ⟨⟨h.r 0 (by simp), h.c 0 (by simp), h.e 0 (by simp)⟩, by have := h.len; simpa using this, fun q hq => h.r (q + 1) (by simp; omega), fun q hq => h.c (q + 1) (by simp; omega), fun q hq => h.e (q + 1) (by simp; omega)⟩
theorem Tns.sums : ∀ {L T : List MV}, Tns L T → sumR T = sumC L ∧ (fl T).map ival = tl L
  | [], [], _ => ⟨rfl, rfl⟩
  | [], _ :: _, h => by have := h.len; simp at this
  | _ :: _, [], h => by have := h.len; simp at this
  | x :: L, y :: T, h => by
    obtain ⟨⟨h1, h2, h3⟩, ht⟩ := h.cons
    obtain ⟨i1, i2⟩ := ht.sums
    constructor
    · rw [sumR_cons, i1, h1]; simp [sumC]
    · unfold fl tl at *
      rw [List.flatMap_cons, List.map_append, i2, h3, List.flatMap_cons]
theorem Tns.c0 : ∀ {L T : List MV}, Tns L T → Go.Proofs.YtlhmehikajidhaaGreat.c0 T = r0 L
  | [], [], _ => rfl
  | [], _ :: _, h => by have := h.len; simp at this
  | _ :: _, [], h => by have := h.len; simp at this
  | x :: L, y :: T, h => h.cons.1.2.1
theorem Tns.one {L T : List MV} (h : Tns L T) : OneW T ↔ OneR L := by
  unfold OneW OneR
  rw [h.c0]
  constructor
  · intro hT y hy
    obtain ⟨q, hq⟩ := List.getElem?_of_mem hy
    have hlt := (List.getElem?_eq_some_iff.1 hq).1
    have e1 : L.getD q default = y := by simp [List.getD, hq]
    have e2 : T[q]? = some (T.getD q default) := by simp [List.getD, show q < T.length by rw [h.len]; exact hlt]
    rw [← e1, ← h.c q hlt]
    exact hT _ (List.mem_of_getElem? e2)
  · intro hL y hy
    obtain ⟨q, hq⟩ := List.getElem?_of_mem hy
    have hlt := (List.getElem?_eq_some_iff.1 hq).1
    have e1 : T.getD q default = y := by simp [List.getD, hq]
    rw [h.len] at hlt
    have e2 : L[q]? = some (L.getD q default) := by simp [List.getD, hlt]
    rw [← e1, h.c q hlt]
    exact hL _ (List.mem_of_getElem? e2)
theorem tz_of {H : Array Obj} {x y : MV} {K : Nat} (h : LM H y (nc x) (nr x) (fun i j => ent x (nc x) j i) K) : y.l.map ival = tz x := by
  have hlen := h.s.len
  rw [h.sh.n] at hlen
  unfold tz
  apply List.ext_getElem?
  intro q
  rcases Nat.lt_or_ge q (nc x * nr x) with hq | hq
  · have hr : 0 < nr x := by
      rcases Nat.eq_zero_or_pos (nr x) with h0 | h0
      · rw [h0, Nat.mul_zero] at hq; omega
      · exact h0
    have h1 : q / nr x < nc x := Nat.div_lt_of_lt_mul (by rw [Nat.mul_comm]; exact hq)
    have h2 := h.ent h1 (Nat.mod_lt q hr)
    unfold ent at h2
    rw [Nat.div_add_mod'] at h2
    have h3 : y.l[q]? = some (y.l.getD q default) := by simp [List.getD, show q < y.l.length by omega]
    rw [List.getElem?_map, h3, List.getElem?_map, List.getElem?_range hq]
    simp only [Option.map_some]
    rw [h2]
    unfold ent
    rfl
  · rw [List.getElem?_eq_none (by simp; omega), List.getElem?_eq_none (by simp; omega)]
theorem map_getD {α β : Type} [Inhabited α] (f : α → β) (l : List α) (q : Nat) : f (l.getD q default) = (l.map f).getD q (f default) := by
  simp only [List.getD, List.getElem?_map]
  cases l[q]? <;> rfl
theorem ival_def : ival (default : IV) = 0 := rfl
set_option maxRecDepth 100000 in
theorem mbeside_ok (w : World) (A : Option Addr) (n k : Nat) (L : List MV) (K : Nat) (hs : Sm 3 mvc w.heap w.heap.size A n k L) (hG : ∀ y ∈ L, GM w.heap y (nr y) (nc y) K) (hn : n ≤ 1048576) (hK : K ≤ 35184372088832) :
    Cl Tryz.prog 52 #[.slice A n k] w (RetBeside w L K) := by
  have hlen := hs.len
  refine enter Tryz.func52 rfl rfl rfl ?_
  have hF := Fr.refl w
  repeat' (first | (refine TL.isOp ?_; first | (refine TL.isCall ?_; refine TL.call rfl rfl ?_; first | (refine (check_ok _ _ _ _ _ (hs.ext hF.ext).size (fun y hy => ⟨_, _, (hG y hy).sh⟩) hn).mono ?_; rintro _ wc ⟨rfl, hE⟩; replace hF := hF.exts hE; clear hE; refine Back.mk ?_)) | (refine TL.isBin ?_; refine TL.cmpG rfl rfl rfl rfl (fun hc => ?_) (fun hc => ?_) <;> (try (first | (exfalso; omega) | exact absurd rfl hc))) | (apply TL.ev; (case hd => rfl); (case h => (first | exact ev_simple rfl | exact ev_len rfl))) | (refine TL.allocFr hF (d := 2) rfl rfl ?_; clear hF; intro w2 b2 hF) | (refine TL.makeFr hF mvc ⟨0, 0, none, 0, 0, []⟩ (d := 18) rfl rfl rfl (Nat.le_refl _) (by omega) rfl rfl rfl ?_; clear hF; intro w18 b18 hF)) | (refine T.is ?_; first | refine T.seq ?_ | refine T.region ?_ | refine T.block ?_ | refine T.cond_f rfl ?_ | refine T.skip ?_) | (refine G.is ?_; first | refine G.next ?_) | refine TL.nil ?_)
  refine T.loop (α := Nat × List MV) (fun x => [(2, .pointer (some ⟨b2, 0, none⟩)), (3, .int .i64 0), (5, .slice (some ⟨b18, 0, none⟩) n n), (19, .slice A n k), (20, .int .i64 (n : Int)), (21, .int .i64 (x.1 : Int))])
    (fun x w' => x.1 ≤ n ∧ x.2.length = n ∧ Fr w w' [⟨b18, 27, x.2.flatMap mvc⟩, ⟨b2, 27, [.int .i64 0, .int .i64 0, .slice none 0 0]⟩] [dpMs x.1 x.2 (fun q => nc (L.getD q default)) (fun q => nr (L.getD q default)) (fun q i j => ent (L.getD q default) (nc (L.getD q default)) j i) K])
    (fun x => n - x.1) (0, List.replicate n ⟨0, 0, none, 0, 0, []⟩) (by repeat (first | exact Sub.nil _ | refine Sub.cons rfl ?_ | refine Sub.cons' rfl (int_congr (by omega)) ?_)) ⟨Nat.zero_le _, List.length_replicate .., Fr.ms0 hF _ _ _ _ _⟩ ?_
  clear hF
  rintro ⟨i, zl⟩ w2 ⟨hi, hzl, hF⟩
  dsimp only at hi hzl hF ⊢
  rcases Nat.lt_or_ge i n with hin | hin
  · have hy : L[i]? = some (L.getD i default) := by simp [List.getD, show i < L.length by omega]
    have gy := hG _ (List.mem_of_getElem? hy)
    obtain ⟨y, ey⟩ : ∃ y, L.getD i default = y := ⟨_, rfl⟩
    rw [ey] at hy gy
    have ht := fun w1 (hE : Ext w w1) => mturn_ok w1 y _ _ K (gy.ext hE) hK
    obtain ⟨yr, yc, A2, n2, k2, l2⟩ := y
    repeat' (first | (refine TL.isOp ?_; first | (refine TL.isCall ?_; refine TL.call rfl rfl ?_; first | (refine (ht _ hF.ext).mono ?_; rintro _ wt ⟨zt, rfl, hLt, hE, hf⟩; replace hF := Fr.addLM hF hE hLt hf; clear hE hf hLt; refine Back.mk ?_)) | (refine TL.isBin ?_; refine TL.cmpG rfl rfl rfl rfl (fun hc => ?_) (fun hc => ?_) <;> (try (first | (exfalso; omega) | exact absurd rfl hc))) | (apply TL.ev; (case hd => rfl); (case h => (first | exact ev_simple rfl | (apply Ev.isBin; first | exact ev_arN rfl rfl rfl (by omega)) | (apply Ev.isLoad; first | exact ev_loadAFr hF rfl (by refine ⟨?_, ?_⟩; (focus (repeat (first | exact InV.head | apply InV.tail))); rfl) | exact ev_loadM rfl (hs.ext hF.ext) hy) | exact ev_indexM rfl rfl hin (hs.ext hF.ext).some | exact ev_indexM rfl rfl hin (.inr rfl)))) | (refine TL.storeAFr hF rfl rfl rfl rfl (by refine ⟨?_, ?_⟩; (focus (repeat (first | apply SetV.head | apply SetV.tail))); rfl) rfl ?_; clear hF; intro ws hF) | (refine TL.allocFr hF (d := 7) rfl rfl ?_; clear hF; intro w7 b7 hF) | (refine TL.storeAtFr hF (f := mvc) zt rfl rfl rfl rfl (fun _ => rfl) (by rw [hzl]; exact hin) (mvc_noV zl) (by repeat (first | apply SetV.head | apply SetV.tail)) ?_; clear hF; intro ws hF)) | (refine T.is ?_; first | refine T.seq ?_ | refine T.region ?_ | refine T.block ?_ | refine T.cond_t rfl ?_ | refine T.skip ?_) | (refine G.is ?_; first | refine G.next ?_ | refine G.blockN ?_) | refine TL.nil ?_)
    have hF2 := Fr.msSet hF (x := zt) (i := i) (l := zl) (R := fun q => nc (L.getD q default)) (C := fun q => nr (L.getD q default)) (F := fun q i j => ent (L.getD q default) (nc (L.getD q default)) j i) (K := K) (by omega) (by repeat (first | exact memH | apply memT)) (by rw [ey]; exact memH)
    exact G.again (i + 1, zl.set i zt) (by repeat (first | exact Sub.nil _ | refine Sub.cons rfl ?_ | refine Sub.cons' rfl (int_congr (by omega)) ?_)) ⟨by dsimp only; omega, by rw [List.length_set]; exact hzl, hF2.weak (by repeat (first | exact List.Sublist.refl _ | apply List.Sublist.cons_cons | apply List.Sublist.cons)) (by repeat (first | exact allN | refine allH (by repeat (first | exact memH | apply memT)) ?_))⟩ (by dsimp only; omega)
  obtain rfl : i = n := by omega
  clear hin hi
  have hms := fun w' (hE : Ext w2 w') (q : Nat) (hq : q < i) => ((Fr.ms hF (by repeat (first | exact memH | apply memT)) : MsK i zl _ _ _ K _) q hq).ext hE
  have hz0 : ∀ q, q < i → nr (zl.getD q default) = nc (L.getD q default) ∧ nc (zl.getD q default) = nr (L.getD q default) := fun q hq => by
    have h := (hms w2 (Ext.refl _) q hq).sh
    constructor
    · unfold nr; rw [h.er]; rfl
    · unfold nc; rw [h.ec]; rfl
  have hT : Tns L zl := ⟨by omega, fun q hq => (hz0 q (by omega)).1, fun q hq => (hz0 q (by omega)).2, fun q hq => tz_of (hms w2 (Ext.refl _) q (by omega))⟩
  have hG2 : ∀ w', Ext w2 w' → ∀ y ∈ zl, GM w'.heap y (nr y) (nc y) K := fun w' hE y hy => by
    obtain ⟨q, hq⟩ := List.getElem?_of_mem hy
    have hlt := (List.getElem?_eq_some_iff.1 hq).1
    have e1 : zl.getD q default = y := by simp [List.getD, hq]
    have h := (hms w' hE q (by omega)).gm
    rw [← e1, (hz0 q (by omega)).1, (hz0 q (by omega)).2]; exact h
  have hzs : ∀ w', Ext w2 w' → Sm 3 mvc w'.heap w'.heap.size (some ⟨b18, 0, none⟩) i i zl := fun w' hE => ((vr_sm (k := 3) (f := mvc) (zs := []) (by omega) (fun _ _ => rfl) (by rw [List.append_nil]; exact hF.var .head) hzl (Nat.le_refl _) (hF.var .head).lt).ext hE).size
  have hst := fun w' hE => mstack_ok w' (some ⟨b18, 0, none⟩) i i zl K (hzs w' hE) (hG2 w' hE) hn hK
  replace hF := hF.weak (L := [⟨b2, 27, [.int .i64 0, .int .i64 0, .slice none 0 0]⟩]) (D := []) (by repeat (first | exact List.Sublist.refl _ | apply List.Sublist.cons_cons | apply List.Sublist.cons)) allN
  have hE2 := Ext.refl w2
  obtain ⟨s1, s2⟩ := hT.sums
  by_cases hW : OneR L
  · have hR : ∀ (e : Ending) (w' : World), RetBeside w L K e w' ↔ (if sumC L ≤ 64 then RetME w (r0 L) (sumC L) (fun i j => (tl L).getD (j * r0 L + i) 0) K e w' else RetMF w 5 e w') := fun e w' => by unfold RetBeside; rw [if_pos hW]
    have hS : ∀ (w1 : World) (e : Ending) (w' : World), RetStack w1 zl K e w' → (if sumC L ≤ 64 then RetME w1 (sumC L) (r0 L) (fun i j => (tl L).getD (i * r0 L + j) 0) K e w' else RetMF w1 5 e w') := fun w1 e w' h => by
      unfold RetStack at h
      rw [if_pos (hT.one.2 hW), s1, hT.c0] at h
      simp only [map_getD ival, s2, ival_def] at h
      exact h
    by_cases h64 : sumC L ≤ 64
    · simp only [if_pos h64] at hR hS
      repeat' (first | (refine TL.isOp ?_; first | (refine TL.isCall ?_; refine TL.call rfl rfl ?_; first | (refine (hst _ hE2).mono ?_; intro es wm hm; obtain ⟨zm, rfl, hLm, hE, hf⟩ := hS _ _ _ hm; clear hm; obtain ⟨Am, km, lm, rfl⟩ := lm_mk hLm; rw [mvc_mk _ _ Am]; replace hF := Fr.addLM hF hE hLm hf; clear hE hf; refine Back.mk ?_) | (refine (mturn_ok _ ⟨_, _, Am, sumC L * r0 L, km, lm⟩ (sumC L) (r0 L) K (Fr.lm hF (by repeat (first | exact memH | apply memT))).gm hK).mono ?_; rintro _ wt ⟨zt, rfl, hLt, hE, hf⟩; obtain ⟨At, kt, lt, rfl⟩ := lm_mk hLt; rw [mvc_mk _ _ At]; have hft := hf.mono hF.ext.size; replace hF := Fr.addLM hF hE hLt hf; clear hE hf hLt; refine Back.mk ?_)) | (refine TL.isBin ?_; refine TL.cmpG rfl rfl rfl rfl (fun hc => ?_) (fun hc => ?_) <;> (try (first | (exfalso; omega) | exact absurd rfl hc))) | (apply TL.ev; (case hd => rfl); (case h => (first | exact ev_simple rfl | (apply Ev.isLoad; first | exact ev_loadAFr hF rfl (by refine ⟨?_, ?_⟩; (focus (repeat (first | exact InV.head | apply InV.tail))); rfl))))) | (refine TL.storeAFr hF rfl rfl rfl rfl (by refine ⟨?_, ?_⟩; (focus (repeat (first | apply SetV.head | apply SetV.tail))); rfl) rfl ?_; clear hF; intro ws hF) | (refine TL.allocFr hF (d := 8) rfl rfl ?_; clear hF; intro w8 b8 hF)) | (refine T.is ?_; first | refine T.seq ?_ | refine T.region ?_ | refine T.cond_f rfl ?_ | refine T.exit ?_ | refine T.ret ?_ | refine T.skip ?_) | (refine G.is ?_; first | refine G.next ?_ | refine G.blockE ?_ | refine G.thenE ?_) | refine TL.nil ?_)
      refine G.retC2 rfl rfl rfl (held_agg (hF.var (by repeat (first | exact InV.head | apply InV.tail))) rfl) ((hR _ _).2 ⟨⟨r0 L, sumC L, At, r0 L * sumC L, kt, lt⟩, rfl, (Fr.lm hF (by repeat (first | exact memH | apply memT))).congr fun i j hi hj => ?_, hF.ext, hft⟩)
      exact (hLm.ent hj hi)
    · simp only [if_neg h64] at hR hS
      repeat' (first | (refine TL.isOp ?_; first | (refine TL.isCall ?_; refine TL.call rfl rfl ?_; first | (refine (hst _ hE2).mono ?_; intro es wm hm; obtain ⟨rfl, hE⟩ := hS _ _ _ hm; clear hm; replace hF := hF.exts hE; clear hE; refine Back.mk ?_)) | (refine TL.isBin ?_; refine TL.cmpG rfl rfl rfl rfl (fun hc => ?_) (fun hc => ?_) <;> (try (first | (exfalso; omega) | exact absurd rfl hc))) | (apply TL.ev; (case hd => rfl); (case h => (first | exact ev_simple rfl | exact ev_buildX rfl rfl))) | (refine TL.storeAFr hF rfl rfl rfl rfl (by refine ⟨?_, ?_⟩; (focus (repeat (first | apply SetV.head | apply SetV.tail))); rfl) rfl ?_; clear hF; intro ws hF) | (refine TL.allocFr hF (d := 8) rfl rfl ?_; clear hF; intro w8 b8 hF)) | (refine T.is ?_; first | refine T.seq ?_ | refine T.region ?_ | refine T.cond_t rfl ?_ | refine T.cond_f rfl ?_ | refine T.exit ?_ | refine T.ret ?_) | (refine G.is ?_; first | refine G.next ?_ | refine G.blockE ?_ | refine G.thenE ?_ | refine G.thenR ?_) | refine TL.nil ?_)
      exact G.retC2 rfl rfl rfl (held_agg (hF.var (by repeat (first | exact InV.head | apply InV.tail))) rfl) ((hR _ _).2 ⟨rfl, hF.ext⟩)
  · have hR : ∀ (e : Ending) (w' : World), RetBeside w L K e w' ↔ RetMF w 2 e w' := fun e w' => by unfold RetBeside; rw [if_neg hW]
    have hS : ∀ (w1 : World) (e : Ending) (w' : World), RetStack w1 zl K e w' → RetMF w1 2 e w' := fun w1 e w' h => by
      unfold RetStack at h
      rwa [if_neg (fun h => hW (hT.one.1 h))] at h
    repeat' (first | (refine TL.isOp ?_; first | (refine TL.isCall ?_; refine TL.call rfl rfl ?_; first | (refine (hst _ hE2).mono ?_; intro es wm hm; obtain ⟨rfl, hE⟩ := hS _ _ _ hm; clear hm; replace hF := hF.exts hE; clear hE; refine Back.mk ?_)) | (refine TL.isBin ?_; refine TL.cmpG rfl rfl rfl rfl (fun hc => ?_) (fun hc => ?_) <;> (try (first | (exfalso; omega) | exact absurd rfl hc))) | (apply TL.ev; (case hd => rfl); (case h => (first | exact ev_simple rfl | exact ev_buildX rfl rfl))) | (refine TL.storeAFr hF rfl rfl rfl rfl (by refine ⟨?_, ?_⟩; (focus (repeat (first | apply SetV.head | apply SetV.tail))); rfl) rfl ?_; clear hF; intro ws hF) | (refine TL.allocFr hF (d := 8) rfl rfl ?_; clear hF; intro w8 b8 hF)) | (refine T.is ?_; first | refine T.seq ?_ | refine T.region ?_ | refine T.cond_t rfl ?_ | refine T.cond_f rfl ?_ | refine T.exit ?_ | refine T.ret ?_) | (refine G.is ?_; first | refine G.next ?_ | refine G.blockE ?_ | refine G.thenE ?_ | refine G.thenR ?_) | refine TL.nil ?_)
    exact G.retC2 rfl rfl rfl (held_agg (hF.var (by repeat (first | exact InV.head | apply InV.tail))) rfl) ((hR _ _).2 ⟨rfl, hF.ext⟩)
end Go.Proofs.YtlhmehikajidhaaGreat
namespace Go.Proofs.YtlhmehikajidhaaGreat
open Go Go.Eng Go.Proofs Go.NatM Go.RowKit
structure LV where
  A : Option Addr
  n : Nat
  k : Nat
  l : List IV
instance : Inhabited LV := ⟨⟨none, 0, 0, []⟩⟩
def lvc (x : LV) : List Value := [.slice x.A x.n x.k]
structure AV where
  x : MV
  y : IV
  l : LV
  rA : Option Addr
  rn : Nat
  rk : Nat
  r : List LV
  nA : Option Addr
  nn : Nat
  nk : Nat
  ns : List Int
  ok : Bool
  e : Int
def avc (a : AV) : List Value := [.int .i64 a.x.r, .int .i64 a.x.c, .slice a.x.A a.x.n a.x.k, .bool a.y.neg, .slice a.y.m.A a.y.m.n a.y.m.c, .slice a.l.A a.l.n a.l.k, .slice a.rA a.rn a.rk, .slice a.nA a.nn a.nk, .bool a.ok, .int .i64 a.e]
structure AS where
  r : Nat
  c : Nat
  F : Nat → Nat → Int
  y : Int
  n : Nat
  Z : Nat → Int
  rn : Nat
  rc : Nat
  R : Nat → Nat → Int
  ok : Bool
  e : Int
structure AOK (H : Array Obj) (a : AV) (s : AS) (K : Nat) : Prop where
  x : LM H a.x s.r s.c s.F K
  y : LI H s.y a.y ∧ a.y.m.n ≤ K
  l : LL H a.l.A s.n a.l.k a.l.l s.Z K ∧ a.l.n = s.n
  r : Sm 1 lvc H H.size a.rA s.rn a.rk a.r ∧ a.rn = s.rn ∧ ∀ q, q < s.rn → (a.r.getD q default).n = s.rc ∧ LL H (a.r.getD q default).A s.rc (a.r.getD q default).k (a.r.getD q default).l (s.R q) K
  n : Sl i64v H H.size a.nA s.rn a.nk a.ns ∧ a.nn = s.rn ∧ ∀ q, q < s.rn → a.ns.getD q 0 = (q : Int)
  ok : a.ok = s.ok
  e : a.e = s.e
theorem AOK.ext {w w' : World} {a : AV} {s : AS} {K : Nat} (hE : Ext w w') (h : AOK w.heap a s K) : AOK w'.heap a s K :=
  ⟨h.x.ext hE, ⟨h.y.1.ext hE, h.y.2⟩, ⟨h.l.1.ext hE, h.l.2⟩, ⟨(h.r.1.ext hE).size, h.r.2.1, fun q hq => ⟨(h.r.2.2 q hq).1, (h.r.2.2 q hq).2.ext hE⟩⟩, ⟨(h.n.1.ext hE).size, h.n.2⟩, h.ok, h.e⟩
theorem Sl.deF {α : Type} {f : α → Value} {F : Nat → Prop} {H H' : Array Obj} {B n c : Nat} {A : Option Addr} {l : List α} (hF : ∀ b, fpA A n b → F b) (hd : DE F H H') (h : Sl f H B A n c l) : Sl f H' B A n c l := by
  refine ⟨h.len, h.cap, ?_⟩
  rcases h.mem with h0 | ⟨b, o, e, hlt, hm⟩
  · exact .inl h0
  · rcases Nat.eq_zero_or_pos n with h0 | h0
    · exact .inl h0
    · have hl : 0 < l.length := by have := h.len; omega
      have h1 := hm 0 l[0] (List.getElem?_eq_getElem hl)
      obtain ⟨cs, t, x, hb, hv⟩ := hcell_obj h1
      have hq := hd.block b cs t x hb (.inl (hF b ⟨h0, o, e⟩))
      exact .inr ⟨b, o, e, hlt, fun j x hx => hcell_eq hq (hm j x hx)⟩
theorem Sl.fp_lt {α : Type} {f : α → Value} {H : Array Obj} {n c : Nat} {A : Option Addr} {l : List α} (h : Sl f H H.size A n c l) {b : Nat} (hb : fpA A n b) : b < H.size := by
  obtain ⟨h0, o, e⟩ := hb
  rcases h.mem with h1 | ⟨b', o', e', hlt, _⟩
  · omega
  · rw [e] at e'; cases e'; exact hlt
def fpV (a : AV) (k : Nat) : Prop := fpA a.x.A a.x.n k ∨ fpA a.l.A a.l.n k ∨ fpA a.rA a.rn k ∨ fpA a.nA a.nn k ∨ ∃ q, q < a.rn ∧ fpA (a.r.getD q default).A (a.r.getD q default).n k
theorem AOK.de {H H' : Array Obj} {a : AV} {s : AS} {K : Nat} (hd : DE (fpV a) H H') (h : AOK H a s K) : AOK H' a s K := by
  refine ⟨h.x.de (hd.mono fun k hk => .inl hk), ⟨h.y.1.de hd, h.y.2⟩, ⟨?_, h.l.2⟩, ⟨?_, h.r.2.1, fun q hq => ⟨(h.r.2.2 q hq).1, ?_⟩⟩, ⟨?_, h.n.2⟩, h.ok, h.e⟩
  · exact h.l.1.de (hd.mono fun k hk => .inr (.inl (by rw [h.l.2]; exact hk)))
  · exact (Sm.de (fun b hb => .inr (.inr (.inl (by rw [h.r.2.1]; exact hb)))) hd h.r.1).size
  · exact (h.r.2.2 q hq).2.de (hd.mono fun k hk => .inr (.inr (.inr (.inr ⟨q, by rw [h.r.2.1]; exact hq, by rw [(h.r.2.2 q hq).1]; exact hk⟩))))
  · exact (Sl.deF (fun b hb => .inr (.inr (.inr (.inl (by rw [h.n.2.1]; exact hb))))) hd h.n.1).size
theorem AOK.fp_lt {H : Array Obj} {a : AV} {s : AS} {K k : Nat} (h : AOK H a s K) (hk : fpV a k) : k < H.size := by
  rcases hk with hk | hk | hk | hk | ⟨q, hq, hk⟩
  · exact h.x.s.fp_lt hk
  · rw [h.l.2] at hk; exact h.l.1.s.fp_lt hk
  · rw [h.r.2.1] at hk; exact h.r.1.fp_lt hk
  · rw [h.n.2.1] at hk; exact Sl.fp_lt h.n.1 hk
  · rw [h.r.2.1] at hq
    rw [(h.r.2.2 q hq).1] at hk
    exact (h.r.2.2 q hq).2.s.fp_lt hk
def AF (w : World) (a : AV) : Prop := ∀ k, fpV a k → w.heap.size ≤ k
theorem AF.mono {w w1 : World} {a : AV} (h : AF w1 a) (hs : w.heap.size ≤ w1.heap.size) : AF w a := fun k hk => Nat.le_trans hs (h k hk)
theorem fpA_none {k : Nat} {n : Nat} : ¬ fpA none n k := fun ⟨_, o, e⟩ => (by cases e)
theorem fpA_zero {k : Nat} {A : Option Addr} : ¬ fpA A 0 k := fun ⟨h, _⟩ => absurd h (Nat.lt_irrefl _)
def dpA (a : AV) (s : AS) (K : Nat) : DP := ⟨fun H => AOK H a s K, fpV a, fun _ _ h hk => h.fp_lt hk, fun _ _ hd h => h.de hd⟩
section
variable {S : Nat → Prop} {w0 w w' : World} {L : List VB} {D : List DP}
theorem Fr.addA (h : Fr w0 w L D S) (hE : Ext w w') {a : AV} {s : AS} {K : Nat} (g : AOK w'.heap a s K) (hf : AF w a) : Fr w0 w' L (dpA a s K :: D) S := h.addNew hE _ g hf
theorem Fr.aok (h : Fr w0 w L D S) {a : AV} {s : AS} {K : Nat} (hm : dpA a s K ∈ D) : AOK w.heap a s K := h.data _ hm
end
attribute [irreducible] dpA
def RetA (w : World) (s : AS) (K : Nat) (e : Ending) (w' : World) : Prop := ∃ a : AV, e = .returned (.agg (avc a).toArray) ∧ AOK w'.heap a s K ∧ Ext w w' ∧ AF w a
def sE (err : Int) : AS := ⟨0, 0, fun _ _ => 0, 0, 0, fun _ => 0, 0, 0, fun _ _ => 0, false, err⟩
def sX (r c : Nat) (F : Nat → Nat → Int) (err : Int) : AS := { sE err with r := r, c := c, F := F }
def sY (z : Int) (err : Int) : AS := { sE err with y := z }
def sL (n : Nat) (Z : Nat → Int) (err : Int) : AS := { sE err with n := n, Z := Z }
def sB (b : Bool) (err : Int) : AS := { sE err with ok := b }
def sR (rn rc : Nat) (R : Nat → Nat → Int) : AS := { sE 0 with rn := rn, rc := rc, R := R }
theorem af_x {w : World} {x : MV} {y : IV} {ok : Bool} {e : Int} (h : MF w x) : AF w ⟨x, y, ⟨none, 0, 0, []⟩, none, 0, 0, [], none, 0, 0, [], ok, e⟩ := fun k hk => by
  rcases hk with hk | hk | hk | hk | ⟨q, hq, hk⟩
  · exact mf_fp h k hk
  · exact absurd hk fpA_none
  · exact absurd hk fpA_none
  · exact absurd hk fpA_none
  · exact absurd hq (Nat.not_lt_zero _)
theorem li_nought (H : Array Obj) : LI H 0 ⟨false, ⟨none, 0, 0, []⟩⟩ := ⟨⟨⟨rfl, Nat.le_refl _, .inl rfl⟩, fun x hx => (by cases hx)⟩, by simp [dig], by decide⟩
theorem ll_zero (H : Array Obj) (Z : Nat → Int) (K : Nat) : LL H none 0 0 [] Z K := ⟨⟨rfl, Nat.le_refl _, by omega, fun x hx => (by cases hx), .inl rfl⟩, fun q hq => absurd hq (Nat.not_lt_zero _)⟩
theorem lm_none (H : Array Obj) (F : Nat → Nat → Int) (K : Nat) : LM H ⟨0, 0, none, 0, 0, []⟩ 0 0 F K := lm_zero H F K
theorem rows_zero (H : Array Obj) : Sm 1 lvc H H.size none 0 0 [] := ⟨rfl, Nat.le_refl _, by omega, fun x hx => (by cases hx), .inl rfl⟩
theorem aok_x {H : Array Obj} {x : MV} {r c K : Nat} {F : Nat → Nat → Int} {err : Int} (h : LM H x r c F K) : AOK H ⟨x, ⟨false, ⟨none, 0, 0, []⟩⟩, ⟨none, 0, 0, []⟩, none, 0, 0, [], none, 0, 0, [], false, err⟩ (sX r c F err) K :=
  ⟨h, ⟨li_nought H, Nat.zero_le _⟩, ⟨ll_zero H _ _, rfl⟩, ⟨rows_zero H, rfl, fun q hq => absurd hq (Nat.not_lt_zero _)⟩, ⟨Sl.nil _ _ _ _ _, rfl, fun q hq => absurd hq (Nat.not_lt_zero _)⟩, rfl, rfl⟩
theorem aok_y {H : Array Obj} {y : IV} {z : Int} {K : Nat} {err : Int} (h : LI H z y) (hK : y.m.n ≤ K) : AOK H ⟨⟨0, 0, none, 0, 0, []⟩, y, ⟨none, 0, 0, []⟩, none, 0, 0, [], none, 0, 0, [], false, err⟩ (sY z err) K :=
  ⟨lm_none H _ _, ⟨h, hK⟩, ⟨ll_zero H _ _, rfl⟩, ⟨rows_zero H, rfl, fun q hq => absurd hq (Nat.not_lt_zero _)⟩, ⟨Sl.nil _ _ _ _ _, rfl, fun q hq => absurd hq (Nat.not_lt_zero _)⟩, rfl, rfl⟩
theorem aok_l {H : Array Obj} {A : Option Addr} {n k K : Nat} {l : List IV} {Z : Nat → Int} {err : Int} (h : LL H A n k l Z K) : AOK H ⟨⟨0, 0, none, 0, 0, []⟩, ⟨false, ⟨none, 0, 0, []⟩⟩, ⟨A, n, k, l⟩, none, 0, 0, [], none, 0, 0, [], false, err⟩ (sL n Z err) K :=
  ⟨lm_none H _ _, ⟨li_nought H, Nat.zero_le _⟩, ⟨h, rfl⟩, ⟨rows_zero H, rfl, fun q hq => absurd hq (Nat.not_lt_zero _)⟩, ⟨Sl.nil _ _ _ _ _, rfl, fun q hq => absurd hq (Nat.not_lt_zero _)⟩, rfl, rfl⟩
theorem aok_b (H : Array Obj) (b : Bool) (err : Int) (K : Nat) : AOK H ⟨⟨0, 0, none, 0, 0, []⟩, ⟨false, ⟨none, 0, 0, []⟩⟩, ⟨none, 0, 0, []⟩, none, 0, 0, [], none, 0, 0, [], b, err⟩ (sB b err) K :=
  ⟨lm_none H _ _, ⟨li_nought H, Nat.zero_le _⟩, ⟨ll_zero H _ _, rfl⟩, ⟨rows_zero H, rfl, fun q hq => absurd hq (Nat.not_lt_zero _)⟩, ⟨Sl.nil _ _ _ _ _, rfl, fun q hq => absurd hq (Nat.not_lt_zero _)⟩, rfl, rfl⟩
structure OV where
  kind : Int
  a : MV
  b : MV
  l : LV
  k : IV
  n : Int
  m : Int
  pA : Option Addr
  pn : Nat
  pk : Nat
  p : List Int
  qA : Option Addr
  qn : Nat
  qk : Nat
  q : List Int
  sA : Option Addr
  sn : Nat
  sk : Nat
  s : List MV
def ovc (o : OV) : List Value := [.int .i64 o.kind, .int .i64 o.a.r, .int .i64 o.a.c, .slice o.a.A o.a.n o.a.k, .int .i64 o.b.r, .int .i64 o.b.c, .slice o.b.A o.b.n o.b.k, .slice o.l.A o.l.n o.l.k, .bool o.k.neg, .slice o.k.m.A o.k.m.n o.k.m.c, .int .i64 o.n, .int .i64 o.m, .slice o.pA o.pn o.pk, .slice o.qA o.qn o.qk, .slice o.sA o.sn o.sk]
def RetX (w : World) (r c : Nat) (F : Nat → Nat → Int) (err : Int) (K : Nat) (e : Ending) (w' : World) : Prop := ∃ x : MV, e = .returned (.tuple #[.agg (mvc x).toArray, .int .i64 err]) ∧ LM w'.heap x r c F K ∧ Ext w w' ∧ MF w x
def RetY (w : World) (z : Int) (err : Int) (K : Nat) (e : Ending) (w' : World) : Prop := ∃ x : IV, e = .returned (.tuple #[.agg (ivc x).toArray, .int .i64 err]) ∧ LI w'.heap z x ∧ Ext w w' ∧ x.m.n ≤ K
def RetV (w : World) (n : Nat) (Z : Nat → Int) (err : Int) (K : Nat) (e : Ending) (w' : World) : Prop := ∃ A k l, e = .returned (.tuple #[.slice A n k, .int .i64 err]) ∧ LL w'.heap A n k l Z K ∧ Ext w w' ∧ LF w A n
def RetBE (w : World) (b : Bool) (err : Int) (e : Ending) (w' : World) : Prop := e = .returned (.tuple #[.bool b, .int .i64 err]) ∧ Ext w w'
def RetC (w : World) (err : Int) (e : Ending) (w' : World) : Prop := e = .returned (.int .i64 err) ∧ Ext w w'
theorem RetME.x {w w' : World} {r c K : Nat} {F : Nat → Nat → Int} {e : Ending} (h : RetME w r c F K e w') : RetX w r c F 0 K e w' := h
theorem RetMF.x {w w' : World} {err : Int} {e : Ending} (F : Nat → Nat → Int) (K : Nat) (h : RetMF w err e w') : RetX w 0 0 F err K e w' := ⟨⟨0, 0, none, 0, 0, []⟩, h.1, lm_none _ _ _, h.2, .inl rfl⟩
theorem RetZE.y {w w' : World} {z : Int} {K : Nat} {e : Ending} (h : RetZE w z K e w') : RetY w z 0 K e w' := h
theorem RetZF.y {w w' : World} {err : Int} {e : Ending} (K : Nat) (h : RetZF w err e w') : RetY w 0 err K e w' := ⟨⟨false, ⟨none, 0, 0, []⟩⟩, h.1, li_nought _, h.2, Nat.zero_le _⟩
theorem RetLE.v {w w' : World} {n : Nat} {Z : Nat → Int} {K : Nat} {e : Ending} (h : RetLE w n Z K e w') : RetV w n Z 0 K e w' := h
theorem RetLF.v {w w' : World} {err : Int} {e : Ending} (Z : Nat → Int) (K : Nat) (h : RetLF w err e w') : RetV w 0 Z err K e w' := ⟨none, 0, [], h.1, ll_zero _ _ _, h.2, .inl rfl⟩
def dpLL (A : Option Addr) (n k : Nat) (l : List IV) (Z : Nat → Int) (K : Nat) : DP := ⟨fun H => LL H A n k l Z K, fpA A n, fun _ _ h hk => h.s.fp_lt hk, fun _ _ hd h => h.de hd⟩
section
variable {S : Nat → Prop} {w0 w w' : World} {L : List VB} {D : List DP}
theorem lf_fp {A : Option Addr} {n : Nat} (h : LF w A n) (k : Nat) (hk : fpA A n k) : w.heap.size ≤ k := by
  obtain ⟨h0, o, e⟩ := hk
  rcases h with h | ⟨b, e', hb⟩
  · omega
  · rw [e] at e'; cases e'; exact hb
theorem Fr.addLL (h : Fr w0 w L D S) (hE : Ext w w') {A : Option Addr} {n k K : Nat} {l : List IV} {Z : Nat → Int} (g : LL w'.heap A n k l Z K) (hf : LF w A n) : Fr w0 w' L (dpLL A n k l Z K :: D) S := h.addNew hE _ g (lf_fp hf)
theorem Fr.ll (h : Fr w0 w L D S) {A : Option Addr} {n k K : Nat} {l : List IV} {Z : Nat → Int} (hm : dpLL A n k l Z K ∈ D) : LL w.heap A n k l Z K := h.data _ hm
end
attribute [irreducible] dpLL
theorem af_l {w : World} {A : Option Addr} {n k : Nat} {l : List IV} {e : Int} (h : LF w A n) : AF w ⟨⟨0, 0, none, 0, 0, []⟩, ⟨false, ⟨none, 0, 0, []⟩⟩, ⟨A, n, k, l⟩, none, 0, 0, [], none, 0, 0, [], false, e⟩ := fun k hk => by
  rcases hk with hk | hk | hk | hk | ⟨q, hq, hk⟩
  · exact absurd hk fpA_none
  · exact lf_fp h k hk
  · exact absurd hk fpA_none
  · exact absurd hk fpA_none
  · exact absurd hq (Nat.not_lt_zero _)
theorem LF.mono {w w1 : World} {A : Option Addr} {n : Nat} (h : LF w1 A n) (hs : w.heap.size ≤ w1.heap.size) : LF w A n := h.imp id fun ⟨b, e, hb⟩ => ⟨b, e, Nat.le_trans hs hb⟩
theorem mf_none {w : World} : MF w ⟨0, 0, none, 0, 0, []⟩ := .inl rfl
end Go.Proofs.YtlhmehikajidhaaGreat
