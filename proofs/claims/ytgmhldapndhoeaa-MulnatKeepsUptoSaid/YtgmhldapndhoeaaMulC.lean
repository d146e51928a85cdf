/- Layer 2: contracts of mulnat.product and halves. -/
import Derived.Test.YtgmhldapndhoeaaMulB
set_option linter.unusedVariables false
set_option linter.unusedSimpArgs false
namespace Go.Proofs.Ytgmhldapndhoeaa
open Go Go.Eng Go.Proofs Go.NatM

/-- block g has turned; there may be new blocks -/
structure Turn (g : Nat) (w w' : World) : Prop where
  os : w'.os = w.os
  tape : w'.tape = w.tape
  output : w'.output = w.output
  size : w.heap.size ≤ w'.heap.size
  block : ∀ k, k < w.heap.size → k ≠ g → w'.heap[k]? = w.heap[k]?
theorem Turn.refl (g : Nat) (w : World) : Turn g w w := ⟨rfl, rfl, rfl, Nat.le_refl _, fun _ _ _ => rfl⟩
theorem Turn.ext {g : Nat} {a b c : World} (h : Turn g a b) (k : Ext b c) : Turn g a c :=
  ⟨k.os.trans h.os, k.tape.trans h.tape, k.output.trans h.output, Nat.le_trans h.size k.size, fun i hi hg => (k.block i (Nat.lt_of_lt_of_le hi h.size)).trans (h.block i hi hg)⟩
theorem Turn.drewN {g : Nat} {a b : World} (h : Turn g a b) (n : Nat) : Turn g a (b.drewN n) := h.ext (ext_drewN b n)
theorem Turn.upd {g : Nat} {a b c : World} (h : Turn g a b) (k : Upd g b c) : Turn g a c :=
  ⟨k.os.trans h.os, k.tape.trans h.tape, k.output.trans h.output, by rw [k.size]; exact h.size, fun i hi hg => (k.block i hg).trans (h.block i hi hg)⟩
theorem Turn.updNew {g q : Nat} {a b c : World} (h : Turn g a b) (k : Upd q b c) (hq : a.heap.size ≤ q) : Turn g a c :=
  ⟨k.os.trans h.os, k.tape.trans h.tape, k.output.trans h.output, by rw [k.size]; exact h.size, fun i hi hg => (k.block i (by omega)).trans (h.block i hi hg)⟩
theorem Turn.trans {g : Nat} {a b c : World} (h : Turn g a b) (k : Turn g b c) : Turn g a c :=
  ⟨k.os.trans h.os, k.tape.trans h.tape, k.output.trans h.output, Nat.le_trans h.size k.size, fun i hi hg => (k.block i (Nat.lt_of_lt_of_le hi h.size) hg).trans (h.block i hi hg)⟩
theorem Ext.turn {g : Nat} {w a b : World} (h : Ext w a) (k : Turn g a b) (hg : w.heap.size ≤ g) : Ext w b :=
  ⟨k.os.trans h.os, k.tape.trans h.tape, k.output.trans h.output, Nat.le_trans h.size k.size, fun i hi => (k.block i (Nat.lt_of_lt_of_le hi h.size) (by omega)).trans (h.block i hi)⟩
theorem Upd.turn {g : Nat} {a b : World} (h : Upd g a b) : Turn g a b := (Turn.refl g a).upd h
theorem Ext.toTurn {a b : World} (g : Nat) (h : Ext a b) : Turn g a b := (Turn.refl g a).ext h
theorem sl_turn {α : Type} {f : α → Value} {w w' : World} {g B n c : Nat} {A : Option Addr} {l : List α} (hu : Turn g w w') (h : Sl f w.heap B A n c l) (ho : Off g n A) : Sl f w'.heap B A n c l :=
  ⟨h.len, h.cap, by
    rcases Nat.eq_zero_or_pos n with h0 | h0
    · exact .inl h0
    rcases ho with h0 | ho
    · exact .inl h0
    rcases h.mem with h1 | ⟨b, o, e, hlt, hc⟩
    · exact .inl h1
    · refine .inr ⟨b, o, e, hlt, fun j x hx => ?_⟩
      have hne : b ≠ g := ho ⟨b, o, none⟩ e
      have := hc j x hx
      have hl : b < w.heap.size := hcell_lt this
      unfold hcell at this ⊢
      rwa [hu.block b hl hne]⟩
theorem bk_turn {α : Type} {f : α → Value} {w w' : World} {g b : Nat} {t : TypeId} {l : List α} (hu : Turn g w w') (h : Bk f w.heap b t l) (hne : b ≠ g) : Bk f w'.heap b t l := by
  have hl := h.lt
  unfold Bk at h ⊢
  rw [hu.block b hl hne, h]
theorem off_take {g n k : Nat} {A : Option Addr} (h : Off g n A) (hk : k ≤ n) : Off g k A := h.imp (fun h => by omega) id
theorem off_cut {g n k m : Nat} {A : Option Addr} (h : Off g n A) (hk : m ≤ n) : Off g m (cutA A n k) := by
  rcases h with h | h
  · exact .inl (by omega)
  · refine .inr fun a ha => ?_
    unfold cutA at ha
    split at ha
    · exact h a ha
    · cases A with
      | none => cases ha
      | some b =>
        have := h b rfl
        simp [elemA] at ha
        subst ha
        unfold Addr.add
        split <;> exact this
theorem off_ne {g b o n : Nat} (h : b ≠ g) : Off g n (some ⟨b, o, none⟩) := .inr fun a ha => by cases ha; exact h
theorem cutA_some {g o m k : Nat} (h : k ≠ m) : cutA (some ⟨g, o, none⟩) m k = some ⟨g, o + k, none⟩ := by
  unfold cutA; rw [if_neg (fun e => h e.symm)]; simp [elemA, add_mk]
theorem cutA_zero (A : Option Addr) (m : Nat) : cutA A m 0 = A := by
  unfold cutA
  split
  · rfl
  · cases A <;> simp [elemA, Addr.add]
theorem bk_trim {H : Array Obj} {b B n : Nat} {t : TypeId} {D : List Nat} (h : Bk u64v H b t D) (hD : D.length = n) (hb : b < B) : Sl u64v H B (some ⟨b, 0, none⟩) (sz D) (sz D) (D.take (sz D)) :=
  h.sl (sz_le D) (Nat.le_refl _) hb
/-- nothing is answered; block g turns, and there may be new ones -/
def RetT (w : World) (g : Nat) (K : World → Prop) (e : Ending) (w' : World) : Prop := e = .returned (.tuple #[]) ∧ K w' ∧ Turn g w w'

theorem kara {a0 a1 b0 b1 W : Nat} : (a0 + a1) * (b0 + b1) - a0 * b0 - a1 * b1 = a0 * b1 + a1 * b0 := by
  rw [Nat.add_mul, Nat.mul_add, Nat.mul_add]; omega
theorem kara_le {a0 a1 b0 b1 : Nat} : a0 * b0 + a1 * b1 ≤ (a0 + a1) * (b0 + b1) := by
  rw [Nat.add_mul, Nat.mul_add, Nat.mul_add]; omega
theorem kara_all {a0 a1 b0 b1 p : Nat} : (a0 + p * a1) * (b0 + p * b1) = a0 * b0 + p * (a0 * b1 + a1 * b0) + p * p * (a1 * b1) := by
  rw [Nat.add_mul, Nat.mul_add, Nat.mul_add, Nat.mul_add p, Nat.mul_assoc p a1 b0, Nat.mul_left_comm a0 p b1, Nat.mul_mul_mul_comm p a1 p b1]
  omega
theorem sz_le_of {l : List Nat} (h : U64 l) {k : Nat} (hk : val l < 18446744073709551616 ^ k) : sz l ≤ k := by
  rw [← dig_length h]; exact dig_length_le hk

def ProdSpec (k : Nat) : Prop := ∀ (w : World) (B B' : Nat) (A A' : Option Addr) (n c n' c' : Nat) (l l' : List Nat), Sl u64v w.heap B A n c l → Sl u64v w.heap B' A' n' c' l' → U64 l → U64 l' → n + n' ≤ 35184372088832 → n + n' < k →
  Cl Try.prog 44 #[.slice A n c, .slice A' n' c'] w (RetB w (sz l + sz l') (val l * val l'))

set_option maxHeartbeats 2000000 in
theorem halves_ok (w : World) (B B' g : Nat) (A A' : Option Addr) (n m : Nat) (l l' : List Nat) (IH : ProdSpec (n + m)) (hs : Sl u64v w.heap B A n n l) (hs' : Sl u64v w.heap B' A' m m l') (hoff : Off g n A) (hoff' : Off g m A') (hu : U64 l) (hu' : U64 l')
    (hnm : n + m ≤ 35184372088832) (h24 : 24 ≤ m) (hmn : m ≤ n) (hn2 : n < 2 * m) (hB : Bk u64v w.heap g 25 (List.replicate (n + m) 0)) :
    Cl Try.prog 61 #[.slice (some ⟨g, 0, none⟩) (n + m) (n + m), .slice A n n, .slice A' m m] w (RetT w g fun w' => ∃ D, Bk u64v w'.heap g 25 D ∧ D.length = n + m ∧ U64 D ∧ val D = val l * val l') := by
  have hlen := hs.len
  have hlen' := hs'.len
  replace hs := hs.size
  replace hs' := hs'.size
  have hg := hB.lt
  refine enter Try.func61 rfl rfl rfl ?_
  repeat' (first | refine TL.ev (ev_simple rfl) rfl ?_ | refine TL.grun rfl rfl rfl ?_ | refine TL.gskip rfl rfl rfl rfl ?_ | refine TL.gskipU rfl rfl rfl ?_ | refine TL.ev (ev_len rfl) rfl ?_ | (refine TL.cmpG rfl rfl rfl rfl (fun hc => ?_) (fun hc => ?_) <;> try (exfalso; omega)) | refine TL.ev (ev_arN rfl rfl rfl (by omega)) rfl ?_ | refine TL.ev (ev_arI rfl rfl rfl (by omega)) rfl ?_ | refine TL.ev (ev_neg rfl (by omega)) rfl ?_ | refine TL.ev (ev_sl_h rfl rfl (by omega)) rfl ?_ | refine TL.ev (ev_sl_l rfl rfl (by omega) (by omega)) rfl ?_ | refine TL.ev (ev_sl_lh rfl rfl rfl (by omega) (by omega)) rfl ?_ | refine TL.ev (ev_sl_hm rfl rfl rfl (by omega) (by omega)) rfl ?_ | refine TL.ev (ev_sl_lhm rfl rfl rfl rfl (by omega) (by omega) (by omega)) rfl ?_ | refine T.seq ?_ | refine T.region ?_ | refine TL.nil ?_ | refine T.block ?_ | refine T.cond_t rfl ?_ | refine T.cond_f rfl ?_ | refine T.exit ?_ | refine T.ret ?_ | refine T.skip ?_ | refine G.next ?_ | refine G.blockN ?_ | refine G.blockE ?_ | refine G.blockE' rfl ?_ | refine G.blockR ?_ | refine G.thenE ?_ | refine G.thenR ?_ | refine T.regionQ mixed (by kernel_rfl) ?_ | refine TL.nilQ (fun _ => ?_) | refine G.only ?_ | refine G.mixed ?_ | refine TM.nil ?_ | refine TM.e rfl ?_)
  have hh1 : n ≤ 2 * ((n + 1) / 2) := by omega
  have hh2 : 2 * ((n + 1) / 2) ≤ n + 1 := by omega
  generalize (n + 1) / 2 = h at *
  have ha0 := hs.take (k := h) (m := h) (by omega) (Nat.le_refl _)
  have ha1 := hs.dropC (k := h) (m := n) (m' := n - h) (by omega) (Nat.le_refl _) (Nat.le_refl _)
  have hb0 := hs'.take (k := h) (m := h) (by omega) (Nat.le_refl _)
  have hb1 := hs'.dropC (k := h) (m := m) (m' := m - h) (by omega) (Nat.le_refl _) (Nat.le_refl _)
  have va := val_split l h
  have vb := val_split l' h
  have ua0 := hu.take h
  have ua1 := hu.drop h
  have ub0 := hu'.take h
  have ub1 := hu'.drop h
  have za0 := sz_le (l.take h)
  have za1 := sz_le (l.drop h)
  have zb0 := sz_le (l'.take h)
  have zb1 := sz_le (l'.drop h)
  rw [ha0.len] at za0
  rw [ha1.len] at za1
  rw [hb0.len] at zb0
  rw [hb1.len] at zb1
  -- low
  refine TL.call rfl rfl ((IH _ _ _ _ _ _ _ _ _ _ _ (by exact ha0) (by exact hb0) ua0 ub0 (by omega) (by omega)).mono ?_)
  rintro _ w1 ⟨b1, D1, rfl, k1, B1, L1, u1, v1, E1⟩
  refine Back.mk ?_
  simp only [World.heap_drewN] at k1
  have T1 : Ext w w1 := ((ext_drewN _ _).trans (ext_drewN _ _)).trans E1
  have S1 := bk_trim (B := w1.heap.size) B1 L1 B1.lt
  repeat' (first | refine TL.ev (ev_simple rfl) rfl ?_ | refine TL.grun rfl rfl rfl ?_ | refine TL.gskip rfl rfl rfl rfl ?_ | refine TL.gskipU rfl rfl rfl ?_ | refine TL.ev (ev_len rfl) rfl ?_ | (refine TL.cmpG rfl rfl rfl rfl (fun hc => ?_) (fun hc => ?_) <;> try (exfalso; omega)) | refine TL.ev (ev_arN rfl rfl rfl (by omega)) rfl ?_ | refine TL.ev (ev_arI rfl rfl rfl (by omega)) rfl ?_ | refine TL.ev (ev_neg rfl (by omega)) rfl ?_ | refine TL.ev (ev_sl_h rfl rfl (by omega)) rfl ?_ | refine TL.ev (ev_sl_l rfl rfl (by omega) (by omega)) rfl ?_ | refine TL.ev (ev_sl_lh rfl rfl rfl (by omega) (by omega)) rfl ?_ | refine TL.ev (ev_sl_hm rfl rfl rfl (by omega) (by omega)) rfl ?_ | refine TL.ev (ev_sl_lhm rfl rfl rfl rfl (by omega) (by omega) (by omega)) rfl ?_ | (refine TL.callP rfl rfl (trim_ok _ _ _ _ _ _ (B1.slN L1 (Nat.le_refl _) B1.lt) (by omega)) (fun q1 => ?_)) | refine T.seq ?_ | refine T.region ?_ | refine TL.nil ?_ | refine T.block ?_ | refine T.cond_t rfl ?_ | refine T.cond_f rfl ?_ | refine T.exit ?_ | refine T.ret ?_ | refine T.skip ?_ | refine G.next ?_ | refine G.blockN ?_ | refine G.blockE ?_ | refine G.blockE' rfl ?_ | refine G.blockR ?_ | refine G.thenE ?_ | refine G.thenR ?_ | refine T.regionQ mixed (by kernel_rfl) ?_ | refine TL.nilQ (fun _ => ?_) | refine G.only ?_ | refine G.mixed ?_ | refine TM.nil ?_ | refine TM.e rfl ?_)
  replace T1 := T1.drewN q1
  -- high
  refine TL.call rfl rfl ((IH _ _ _ _ _ _ _ _ _ _ _ (by exact Sl.ext T1 ha1) (by exact Sl.ext T1 hb1) ua1 ub1 (by omega) (by omega)).mono ?_)
  rintro _ w2 ⟨b2, D2, rfl, k2, B2, L2, u2, v2, E2⟩
  refine Back.mk ?_
  simp only [World.heap_drewN] at k2
  have E12 : Ext w1 w2 := (ext_drewN _ _).trans E2
  have T2 : Ext w w2 := T1.trans E2
  have S2 := bk_trim (B := w2.heap.size) B2 L2 B2.lt
  replace S1 := S1.ext E12
  repeat' (first | refine TL.ev (ev_simple rfl) rfl ?_ | refine TL.grun rfl rfl rfl ?_ | refine TL.gskip rfl rfl rfl rfl ?_ | refine TL.gskipU rfl rfl rfl ?_ | refine TL.ev (ev_len rfl) rfl ?_ | (refine TL.cmpG rfl rfl rfl rfl (fun hc => ?_) (fun hc => ?_) <;> try (exfalso; omega)) | refine TL.ev (ev_arN rfl rfl rfl (by omega)) rfl ?_ | refine TL.ev (ev_arI rfl rfl rfl (by omega)) rfl ?_ | refine TL.ev (ev_neg rfl (by omega)) rfl ?_ | refine TL.ev (ev_sl_h rfl rfl (by omega)) rfl ?_ | refine TL.ev (ev_sl_l rfl rfl (by omega) (by omega)) rfl ?_ | refine TL.ev (ev_sl_lh rfl rfl rfl (by omega) (by omega)) rfl ?_ | refine TL.ev (ev_sl_hm rfl rfl rfl (by omega) (by omega)) rfl ?_ | refine TL.ev (ev_sl_lhm rfl rfl rfl rfl (by omega) (by omega) (by omega)) rfl ?_ | (refine TL.callP rfl rfl (trim_ok _ _ _ _ _ _ (B2.slN L2 (Nat.le_refl _) B2.lt) (by omega)) (fun q2 => ?_)) | refine T.seq ?_ | refine T.region ?_ | refine TL.nil ?_ | refine T.block ?_ | refine T.cond_t rfl ?_ | refine T.cond_f rfl ?_ | refine T.exit ?_ | refine T.ret ?_ | refine T.skip ?_ | refine G.next ?_ | refine G.blockN ?_ | refine G.blockE ?_ | refine G.blockE' rfl ?_ | refine G.blockR ?_ | refine G.thenE ?_ | refine G.thenR ?_ | refine T.regionQ mixed (by kernel_rfl) ?_ | refine TL.nilQ (fun _ => ?_) | refine G.only ?_ | refine G.mixed ?_ | refine TM.nil ?_ | refine TM.e rfl ?_)
  replace T2 := T2.drewN q2
  -- the sums
  refine TL.call rfl rfl ((sum_ok _ _ _ _ _ _ _ _ _ _ _ (by exact Sl.ext T2 ha0) (by exact Sl.ext T2 ha1) ua0 ua1 (by omega) (by omega)).mono ?_)
  rintro _ w3 ⟨b3, D3, rfl, k3, B3, L3, u3, v3, E3⟩
  refine Back.mk ?_
  simp only [World.heap_drewN] at k3
  have E23 : Ext w2 w3 := (ext_drewN _ _).trans E3
  have T3 : Ext w w3 := T2.trans E3
  repeat' (first | refine TL.ev (ev_simple rfl) rfl ?_ | refine TL.grun rfl rfl rfl ?_ | refine TL.gskip rfl rfl rfl rfl ?_ | refine TL.gskipU rfl rfl rfl ?_ | refine TL.ev (ev_len rfl) rfl ?_ | (refine TL.cmpG rfl rfl rfl rfl (fun hc => ?_) (fun hc => ?_) <;> try (exfalso; omega)) | refine TL.ev (ev_arN rfl rfl rfl (by omega)) rfl ?_ | refine TL.ev (ev_arI rfl rfl rfl (by omega)) rfl ?_ | refine TL.ev (ev_neg rfl (by omega)) rfl ?_ | refine TL.ev (ev_sl_h rfl rfl (by omega)) rfl ?_ | refine TL.ev (ev_sl_l rfl rfl (by omega) (by omega)) rfl ?_ | refine TL.ev (ev_sl_lh rfl rfl rfl (by omega) (by omega)) rfl ?_ | refine TL.ev (ev_sl_hm rfl rfl rfl (by omega) (by omega)) rfl ?_ | refine TL.ev (ev_sl_lhm rfl rfl rfl rfl (by omega) (by omega) (by omega)) rfl ?_ | refine T.seq ?_ | refine T.region ?_ | refine TL.nil ?_ | refine T.block ?_ | refine T.cond_t rfl ?_ | refine T.cond_f rfl ?_ | refine T.exit ?_ | refine T.ret ?_ | refine T.skip ?_ | refine G.next ?_ | refine G.blockN ?_ | refine G.blockE ?_ | refine G.blockE' rfl ?_ | refine G.blockR ?_ | refine G.thenE ?_ | refine G.thenR ?_ | refine T.regionQ mixed (by kernel_rfl) ?_ | refine TL.nilQ (fun _ => ?_) | refine G.only ?_ | refine G.mixed ?_ | refine TM.nil ?_ | refine TM.e rfl ?_)
  refine TL.call rfl rfl ((sum_ok _ _ _ _ _ _ _ _ _ _ _ (Sl.ext T3 hb0) (Sl.ext T3 hb1) ub0 ub1 (by omega) (by omega)).mono ?_)
  rintro _ w4 ⟨b4, D4, rfl, k4, B4, L4, u4, v4, E4⟩
  refine Back.mk ?_
  have T4 : Ext w w4 := T3.trans E4
  replace B3 := B3.ext E4
  have z3 := sz_le D3
  have z4 := sz_le D4
  repeat' (first | refine TL.ev (ev_simple rfl) rfl ?_ | refine TL.grun rfl rfl rfl ?_ | refine TL.gskip rfl rfl rfl rfl ?_ | refine TL.gskipU rfl rfl rfl ?_ | refine TL.ev (ev_len rfl) rfl ?_ | (refine TL.cmpG rfl rfl rfl rfl (fun hc => ?_) (fun hc => ?_) <;> try (exfalso; omega)) | refine TL.ev (ev_arN rfl rfl rfl (by omega)) rfl ?_ | refine TL.ev (ev_arI rfl rfl rfl (by omega)) rfl ?_ | refine TL.ev (ev_neg rfl (by omega)) rfl ?_ | refine TL.ev (ev_sl_h rfl rfl (by omega)) rfl ?_ | refine TL.ev (ev_sl_l rfl rfl (by omega) (by omega)) rfl ?_ | refine TL.ev (ev_sl_lh rfl rfl rfl (by omega) (by omega)) rfl ?_ | refine TL.ev (ev_sl_hm rfl rfl rfl (by omega) (by omega)) rfl ?_ | refine TL.ev (ev_sl_lhm rfl rfl rfl rfl (by omega) (by omega) (by omega)) rfl ?_ | refine T.seq ?_ | refine T.region ?_ | refine TL.nil ?_ | refine T.block ?_ | refine T.cond_t rfl ?_ | refine T.cond_f rfl ?_ | refine T.exit ?_ | refine T.ret ?_ | refine T.skip ?_ | refine G.next ?_ | refine G.blockN ?_ | refine G.blockE ?_ | refine G.blockE' rfl ?_ | refine G.blockR ?_ | refine G.thenE ?_ | refine G.thenR ?_ | refine T.regionQ mixed (by kernel_rfl) ?_ | refine TL.nilQ (fun _ => ?_) | refine G.only ?_ | refine G.mixed ?_ | refine TM.nil ?_ | refine TM.e rfl ?_)
  refine TL.call rfl rfl ((IH _ _ _ _ _ _ _ _ _ _ _ (B3.slN L3 (Nat.le_refl _) B3.lt) (B4.slN L4 (Nat.le_refl _) B4.lt) u3 u4 (by omega) (by omega)).mono ?_)
  rintro _ w5 ⟨b5, D5, rfl, k5, B5, L5, u5, v5, E5⟩
  refine Back.mk ?_
  have T5 : Ext w w5 := T4.trans E5
  have E25 : Ext w2 w5 := (E23.trans E4).trans E5
  replace S1 := S1.ext E25
  replace S2 := S2.ext E25
  have hb1s := B1.lt
  have hb2s := B2.lt
  have z1 := E12.size
  have z2 := E23.size
  have z3' := E4.size
  have z0 := T1.size
  simp only [World.heap_drewN] at z0
  have vl1 := val_sz D1
  have vl2 := val_sz D2
  have ul1 := u1.take (sz D1)
  have ul2 := u2.take (sz D2)
  have s1 := sz_le_of u1 (k := sz (l.take h) + sz (l'.take h)) (by rw [← L1]; exact val_lt u1)
  have s2 := sz_le_of u2 (k := sz (l.drop h) + sz (l'.drop h)) (by rw [← L2]; exact val_lt u2)
  rw [v3, v4] at v5
  have hk := kara_le (a0 := val (l.take h)) (a1 := val (l.drop h)) (b0 := val (l'.take h)) (b1 := val (l'.drop h))
  have le1 : val D1 ≤ val D5 := by rw [v1, v5]; omega
  have hs5 : sz D1 ≤ sz D3 + sz D4 := by
    refine sz_le_of u1 (Nat.lt_of_le_of_lt le1 ?_)
    rw [← L5]; exact val_lt u5
  repeat' (first | refine TL.ev (ev_simple rfl) rfl ?_ | refine TL.grun rfl rfl rfl ?_ | refine TL.gskip rfl rfl rfl rfl ?_ | refine TL.gskipU rfl rfl rfl ?_ | refine TL.ev (ev_len rfl) rfl ?_ | (refine TL.cmpG rfl rfl rfl rfl (fun hc => ?_) (fun hc => ?_) <;> try (exfalso; omega)) | refine TL.ev (ev_arN rfl rfl rfl (by omega)) rfl ?_ | refine TL.ev (ev_arI rfl rfl rfl (by omega)) rfl ?_ | refine TL.ev (ev_neg rfl (by omega)) rfl ?_ | refine TL.ev (ev_sl_h rfl rfl (by omega)) rfl ?_ | refine TL.ev (ev_sl_l rfl rfl (by omega) (by omega)) rfl ?_ | refine TL.ev (ev_sl_lh rfl rfl rfl (by omega) (by omega)) rfl ?_ | refine TL.ev (ev_sl_hm rfl rfl rfl (by omega) (by omega)) rfl ?_ | refine TL.ev (ev_sl_lhm rfl rfl rfl rfl (by omega) (by omega) (by omega)) rfl ?_ | refine T.seq ?_ | refine T.region ?_ | refine TL.nil ?_ | refine T.block ?_ | refine T.cond_t rfl ?_ | refine T.cond_f rfl ?_ | refine T.exit ?_ | refine T.ret ?_ | refine T.skip ?_ | refine G.next ?_ | refine G.blockN ?_ | refine G.blockE ?_ | refine G.blockE' rfl ?_ | refine G.blockR ?_ | refine G.thenE ?_ | refine G.thenR ?_ | refine T.regionQ mixed (by kernel_rfl) ?_ | refine TL.nilQ (fun _ => ?_) | refine G.only ?_ | refine G.mixed ?_ | refine TM.nil ?_ | refine TM.e rfl ?_)
  refine TL.call rfl rfl ((subFrom_ok _ _ b5 _ _ _ _ _ _ _ B5 L5 (Nat.le_refl _) S1 (off_ne (by omega)) u5 ul1 (by omega) (by omega) (by rw [vl1]; exact le1)).mono ?_)
  rintro _ w6 ⟨rfl, ⟨D6, B6, L6, u6, v6⟩, U6⟩
  refine Back.mk ?_
  have T6 : Ext w w6 := T5.upd U6 (by omega)
  replace S1 := sl_off U6 S1 (off_ne (by omega))
  replace S2 := sl_off U6 S2 (off_ne (by omega))
  rw [vl1] at v6
  have le2 : val D2 ≤ val D6 := by rw [v2, v6, v5, v1]; omega
  have hs6 : sz D2 ≤ sz D3 + sz D4 := by
    refine sz_le_of u2 (Nat.lt_of_le_of_lt le2 ?_)
    rw [← L6]; exact val_lt u6
  repeat' (first | refine TL.ev (ev_simple rfl) rfl ?_ | refine TL.grun rfl rfl rfl ?_ | refine TL.gskip rfl rfl rfl rfl ?_ | refine TL.gskipU rfl rfl rfl ?_ | refine TL.ev (ev_len rfl) rfl ?_ | (refine TL.cmpG rfl rfl rfl rfl (fun hc => ?_) (fun hc => ?_) <;> try (exfalso; omega)) | refine TL.ev (ev_arN rfl rfl rfl (by omega)) rfl ?_ | refine TL.ev (ev_arI rfl rfl rfl (by omega)) rfl ?_ | refine TL.ev (ev_neg rfl (by omega)) rfl ?_ | refine TL.ev (ev_sl_h rfl rfl (by omega)) rfl ?_ | refine TL.ev (ev_sl_l rfl rfl (by omega) (by omega)) rfl ?_ | refine TL.ev (ev_sl_lh rfl rfl rfl (by omega) (by omega)) rfl ?_ | refine TL.ev (ev_sl_hm rfl rfl rfl (by omega) (by omega)) rfl ?_ | refine TL.ev (ev_sl_lhm rfl rfl rfl rfl (by omega) (by omega) (by omega)) rfl ?_ | refine T.seq ?_ | refine T.region ?_ | refine TL.nil ?_ | refine T.block ?_ | refine T.cond_t rfl ?_ | refine T.cond_f rfl ?_ | refine T.exit ?_ | refine T.ret ?_ | refine T.skip ?_ | refine G.next ?_ | refine G.blockN ?_ | refine G.blockE ?_ | refine G.blockE' rfl ?_ | refine G.blockR ?_ | refine G.thenE ?_ | refine G.thenR ?_ | refine T.regionQ mixed (by kernel_rfl) ?_ | refine TL.nilQ (fun _ => ?_) | refine G.only ?_ | refine G.mixed ?_ | refine TM.nil ?_ | refine TM.e rfl ?_)
  refine TL.call rfl rfl ((subFrom_ok _ _ b5 _ _ _ _ _ _ _ B6 L6 (Nat.le_refl _) S2 (off_ne (by omega)) u6 ul2 (by omega) (by omega) (by rw [vl2]; exact le2)).mono ?_)
  rintro _ w7 ⟨rfl, ⟨D7, B7, L7, u7, v7⟩, U7⟩
  refine Back.mk ?_
  have T7 : Ext w w7 := T6.upd U7 (by omega)
  have hB7 := hB.ext T7
  replace S1 := sl_off U7 S1 (off_ne (by omega))
  replace S2 := sl_off U7 S2 (off_ne (by omega))
  rw [vl2, v6, v5, v1, v2, kara (W := 0)] at v7
  have hl1 : (List.take (sz D1) D1).length = sz D1 := S1.len
  have hl2 : (List.take (sz D2) D2).length = sz D2 := S2.len
  repeat' (first | refine TL.ev (ev_simple rfl) rfl ?_ | refine TL.grun rfl rfl rfl ?_ | refine TL.gskip rfl rfl rfl rfl ?_ | refine TL.gskipU rfl rfl rfl ?_ | refine TL.ev (ev_len rfl) rfl ?_ | (refine TL.cmpG rfl rfl rfl rfl (fun hc => ?_) (fun hc => ?_) <;> try (exfalso; omega)) | refine TL.ev (ev_arN rfl rfl rfl (by omega)) rfl ?_ | refine TL.ev (ev_arI rfl rfl rfl (by omega)) rfl ?_ | refine TL.ev (ev_neg rfl (by omega)) rfl ?_ | refine TL.ev (ev_sl_h rfl rfl (by omega)) rfl ?_ | refine TL.ev (ev_sl_l rfl rfl (by omega) (by omega)) rfl ?_ | refine TL.ev (ev_sl_lh rfl rfl rfl (by omega) (by omega)) rfl ?_ | refine TL.ev (ev_sl_hm rfl rfl rfl (by omega) (by omega)) rfl ?_ | refine TL.ev (ev_sl_lhm rfl rfl rfl rfl (by omega) (by omega) (by omega)) rfl ?_ | (refine TL.copy (f := u64v) (fun _ => rfl) rfl rfl rfl hB7 S1 (by simp) (fun w8 hB8 U8 => ?_)) | refine T.seq ?_ | refine T.region ?_ | refine TL.nil ?_ | refine T.block ?_ | refine T.cond_t rfl ?_ | refine T.cond_f rfl ?_ | refine T.exit ?_ | refine T.ret ?_ | refine T.skip ?_ | refine G.next ?_ | refine G.blockN ?_ | refine G.blockE ?_ | refine G.blockE' rfl ?_ | refine G.blockR ?_ | refine G.thenE ?_ | refine G.thenR ?_ | refine T.regionQ mixed (by kernel_rfl) ?_ | refine TL.nilQ (fun _ => ?_) | refine G.only ?_ | refine G.mixed ?_ | refine TM.nil ?_ | refine TM.e rfl ?_)
  have hZl : (List.take 0 (List.replicate (n + m) 0) ++ List.take (min (sz D1) (n + m)) (List.take (sz D1) D1) ++ List.drop (0 + min (sz D1) (n + m)) (List.replicate (n + m) 0)).length = n + m := by simp; omega
  have hZv : val (List.take 0 (List.replicate (n + m) 0) ++ List.take (min (sz D1) (n + m)) (List.take (sz D1) D1) ++ List.drop (0 + min (sz D1) (n + m)) (List.replicate (n + m) 0)) = val D1 := by
    rw [Nat.min_eq_left (by omega), List.take_of_length_le (show (List.take (sz D1) D1).length ≤ sz D1 by omega)]
    simp [val_append, val_zeros, List.drop_replicate, vl1]
  have hZu : U64 (List.take 0 (List.replicate (n + m) 0) ++ List.take (min (sz D1) (n + m)) (List.take (sz D1) D1) ++ List.drop (0 + min (sz D1) (n + m)) (List.replicate (n + m) 0)) :=
    (((U64.replicate _).take _).append (ul1.take _)).append ((U64.replicate _).drop _)
  generalize (List.take 0 (List.replicate (n + m) 0) ++ List.take (min (sz D1) (n + m)) (List.take (sz D1) D1) ++ List.drop (0 + min (sz D1) (n + m)) (List.replicate (n + m) 0)) = Z at *
  have T8 : Turn g w w8 := (Ext.toTurn g T7).upd U8
  replace S2 := sl_off U8 S2 (off_ne (by omega))
  have B78 := B7.upd U8 (by omega)
  have d1 := List.take_append_drop (2 * h) Z
  have dv := val_split Z (2 * h)
  have hlo : val Z < 18446744073709551616 ^ (2 * h) := by
    rw [hZv, v1, Nat.two_mul, Nat.pow_add]
    have p1 := hu.take_lt h
    have p2 := hu'.take_lt h
    exact Nat.mul_lt_mul'' p1 p2
  have hz2 : val (Z.drop (2 * h)) = 0 := by
    rcases Nat.eq_zero_or_pos (val (Z.drop (2 * h))) with e | e
    · exact e
    · have := Nat.le_mul_of_pos_right (18446744073709551616 ^ (2 * h)) e
      omega
  have hhi : val D2 < 18446744073709551616 ^ (n + m - 2 * h) := by
    rw [v2, show n + m - 2 * h = (n - h) + (m - h) by omega, Nat.pow_add]
    have p1 := val_lt ua1
    have p2 := val_lt ub1
    rw [ha1.len] at p1
    rw [hb1.len] at p2
    exact Nat.mul_lt_mul'' p1 p2
  have hs2 := sz_le_of u2 hhi
  repeat' (first | refine TL.ev (ev_simple rfl) rfl ?_ | refine TL.grun rfl rfl rfl ?_ | refine TL.gskip rfl rfl rfl rfl ?_ | refine TL.gskipU rfl rfl rfl ?_ | refine TL.ev (ev_len rfl) rfl ?_ | (refine TL.cmpG rfl rfl rfl rfl (fun hc => ?_) (fun hc => ?_) <;> try (exfalso; omega)) | refine TL.ev (ev_arN rfl rfl rfl (by omega)) rfl ?_ | refine TL.ev (ev_arI rfl rfl rfl (by omega)) rfl ?_ | refine TL.ev (ev_neg rfl (by omega)) rfl ?_ | refine TL.ev (ev_sl_h rfl rfl (by omega)) rfl ?_ | refine TL.ev (ev_sl_l rfl rfl (by omega) (by omega)) rfl ?_ | refine TL.ev (ev_sl_lh rfl rfl rfl (by omega) (by omega)) rfl ?_ | refine TL.ev (ev_sl_hm rfl rfl rfl (by omega) (by omega)) rfl ?_ | refine TL.ev (ev_sl_lhm rfl rfl rfl rfl (by omega) (by omega) (by omega)) rfl ?_ | refine T.seq ?_ | refine T.region ?_ | refine TL.nil ?_ | refine T.block ?_ | refine T.cond_t rfl ?_ | refine T.cond_f rfl ?_ | refine T.exit ?_ | refine T.ret ?_ | refine T.skip ?_ | refine G.next ?_ | refine G.blockN ?_ | refine G.blockE ?_ | refine G.blockE' rfl ?_ | refine G.blockR ?_ | refine G.thenE ?_ | refine G.thenR ?_ | refine T.regionQ mixed (by kernel_rfl) ?_ | refine TL.nilQ (fun _ => ?_) | refine G.only ?_ | refine G.mixed ?_ | refine TM.nil ?_ | refine TM.e rfl ?_)
  rw [cutA_some (by omega), Nat.zero_add]
  refine TL.call rfl rfl ((addTo_ok w8 _ g (2 * h) (n + m - 2 * h) (n + m - 2 * h) _ _ _ (Z.take (2 * h)) (Z.drop (2 * h)) _ (by rw [d1]; exact hB8) (by simp; omega) (by simp; omega) (Nat.le_refl _) S2 (off_ne (by omega)) (hZu.drop _) ul2 (by omega) (by omega) (by rw [hz2, vl2]; omega)).mono ?_)
  rintro _ w9 ⟨rfl, ⟨Y, B9, L9, u9, v9⟩, U9⟩
  refine Back.mk ?_
  have T9 : Turn g w w9 := T8.upd U9
  have B79 : Bk u64v w9.heap b5 25 D7 := B78.upd U9 (by omega)
  have lX : (List.take (2 * h) Z ++ Y).length = n + m := by simp; omega
  have vX : val (List.take (2 * h) Z ++ Y) = val D1 + 18446744073709551616 ^ (2 * h) * val D2 := by
    rw [val_append, List.length_take, Nat.min_eq_left (by omega), v9, hz2, vl2, Nat.zero_add, ← hZv, dv, hz2, Nat.mul_zero, Nat.add_zero]
  have uX : U64 (List.take (2 * h) Z ++ Y) := (hZu.take _).append u9
  generalize List.take (2 * h) Z ++ Y = X at *
  have e1 := List.take_append_drop h X
  have ev := val_split X h
  have hall : val X + 18446744073709551616 ^ h * val D7 = val l * val l' := by
    rw [vX, v7, va, vb, kara_all, v1, v2, Nat.two_mul, Nat.pow_add]; omega
  have hlt : val (X.drop h) + val D7 < 18446744073709551616 ^ (n + m - h) := by
    have p1 := val_lt hu
    have p2 := val_lt hu'
    rw [hlen] at p1
    rw [hlen'] at p2
    have p3 := Nat.mul_lt_mul'' p1 p2
    rw [← Nat.pow_add, show n + m = h + (n + m - h) by omega, Nat.pow_add, ← hall, ev] at p3
    refine Nat.lt_of_mul_lt_mul_left (a := 18446744073709551616 ^ h) ?_
    rw [Nat.mul_add]
    omega
  have hs7 := sz_le_of u7 (k := n + m - h) (by omega)
  have S7 := B79.sl (sz_le D7) (Nat.le_refl _) B79.lt
  have vl7 := val_sz D7
  have hne : b5 ≠ g := by omega
  have hn7 : sz D3 + sz D4 < 9223372036854775808 := by omega
  clear ha0 ha1 hb0 hb1 va vb ua0 ua1 ub0 ub1 za0 za1 zb0 zb1 B1 L1 u1 v1 E1 T1 B2 L2 u2 v2 E2 T2 E12 B3 L3 u3 v3 E3 E23 T3 B4 L4 u4 v4 E4 T4 z3 z4 B5 L5 u5 v5 E5 T5 E25 z1 z2 z3' z0 vl1 vl2 ul1 ul2 s1 s2 hk le1 hs5 U6 B6 L6 u6 v6 T6 le2 hs6 U7 B7 v7 T7 hB7 S1 hl1 hl2 U8 hB8 hZl hZv hZu T8 S2 B78 d1 dv hlo hz2 hhi hs2 U9 L9 u9 v9 vX hb1s hb2s IH hs hs' hB hoff hoff' hu hu' hlen hlen'
  repeat' (first | refine TL.ev (ev_simple rfl) rfl ?_ | refine TL.grun rfl rfl rfl ?_ | refine TL.gskip rfl rfl rfl rfl ?_ | refine TL.gskipU rfl rfl rfl ?_ | refine TL.ev (ev_len rfl) rfl ?_ | (refine TL.cmpG rfl rfl rfl rfl (fun hc => ?_) (fun hc => ?_) <;> try (exfalso; omega)) | refine TL.ev (ev_arN rfl rfl rfl (by omega)) rfl ?_ | refine TL.ev (ev_arI rfl rfl rfl (by omega)) rfl ?_ | refine TL.ev (ev_neg rfl (by omega)) rfl ?_ | refine TL.ev (ev_sl_h rfl rfl (by omega)) rfl ?_ | refine TL.ev (ev_sl_l rfl rfl (by omega) (by omega)) rfl ?_ | refine TL.ev (ev_sl_lh rfl rfl rfl (by omega) (by omega)) rfl ?_ | refine TL.ev (ev_sl_hm rfl rfl rfl (by omega) (by omega)) rfl ?_ | refine TL.ev (ev_sl_lhm rfl rfl rfl rfl (by omega) (by omega) (by omega)) rfl ?_ | refine TM.f rfl (fun _ => ev_simple rfl) rfl ?_ | refine TM.s rfl (ev_simple rfl) rfl ?_ | refine TM.f rfl (fun _ => ev_len rfl) rfl ?_ | refine TM.s rfl (ev_len rfl) rfl ?_ | refine TM.f rfl (fun _ => ev_arN rfl rfl rfl (by omega)) rfl ?_ | refine TM.s rfl (ev_arN rfl rfl rfl (by omega)) rfl ?_ | refine TM.f rfl (fun _ => ev_arI rfl rfl rfl (by omega)) rfl ?_ | refine TM.s rfl (ev_arI rfl rfl rfl (by omega)) rfl ?_ | refine TM.f rfl (fun _ => ev_neg rfl (by omega)) rfl ?_ | refine TM.s rfl (ev_neg rfl (by omega)) rfl ?_ | refine TM.f rfl (fun _ => ev_sl_h rfl rfl (by omega)) rfl ?_ | refine TM.s rfl (ev_sl_h rfl rfl (by omega)) rfl ?_ | refine TM.f rfl (fun _ => ev_sl_l rfl rfl (by omega) (by omega)) rfl ?_ | refine TM.s rfl (ev_sl_l rfl rfl (by omega) (by omega)) rfl ?_ | refine TM.f rfl (fun _ => ev_sl_lh rfl rfl rfl (by omega) (by omega)) rfl ?_ | refine TM.s rfl (ev_sl_lh rfl rfl rfl (by omega) (by omega)) rfl ?_ | refine TM.f rfl (fun _ => ev_sl_hm rfl rfl rfl (by omega) (by omega)) rfl ?_ | refine TM.s rfl (ev_sl_hm rfl rfl rfl (by omega) (by omega)) rfl ?_ | refine TM.f rfl (fun _ => ev_sl_lhm rfl rfl rfl rfl (by omega) (by omega) (by omega)) rfl ?_ | refine TM.s rfl (ev_sl_lhm rfl rfl rfl rfl (by omega) (by omega) (by omega)) rfl ?_ | refine T.regionM [(0, 0), (1, 0), (2, 0), (3, 0), (4, 2), (5, 2)] mixed (by kernel_rfl) ?_ | (refine TL.callP rfl rfl (trim_ok _ _ _ _ _ _ (B79.slN L7 (Nat.le_refl _) B79.lt) hn7) (fun q3 => ?_)) | refine T.seq ?_ | refine T.region ?_ | refine TL.nil ?_ | refine T.block ?_ | refine T.cond_t rfl ?_ | refine T.cond_f rfl ?_ | refine T.exit ?_ | refine T.ret ?_ | refine T.skip ?_ | refine G.next ?_ | refine G.blockN ?_ | refine G.blockE ?_ | refine G.blockE' rfl ?_ | refine G.blockR ?_ | refine G.thenE ?_ | refine G.thenR ?_ | refine T.regionQ mixed (by kernel_rfl) ?_ | refine TL.nilQ (fun _ => ?_) | refine G.only ?_ | refine G.mixed ?_ | refine TM.nil ?_ | refine TM.e rfl ?_)
  rw [cutA_some (by omega), Nat.zero_add]
  refine TL.call rfl rfl ((addTo_ok _ _ g h (n + m - h) (n + m - h) _ _ _ (X.take h) (X.drop h) _ (by rw [e1]; exact B9) (by simp; omega) (by simp; omega) (Nat.le_refl _) (by exact S7) (off_ne hne) (uX.drop _) (u7.take _) (by omega) (by omega) (by rw [vl7]; exact hlt)).mono ?_)
  rintro _ w10 ⟨rfl, ⟨F, B10, L10, u10, v10⟩, U10⟩
  refine Back.mk ?_
  repeat' (first | refine TL.ev (ev_simple rfl) rfl ?_ | refine TL.grun rfl rfl rfl ?_ | refine TL.gskip rfl rfl rfl rfl ?_ | refine TL.gskipU rfl rfl rfl ?_ | refine TL.ev (ev_len rfl) rfl ?_ | (refine TL.cmpG rfl rfl rfl rfl (fun hc => ?_) (fun hc => ?_) <;> try (exfalso; omega)) | refine TL.ev (ev_arN rfl rfl rfl (by omega)) rfl ?_ | refine TL.ev (ev_arI rfl rfl rfl (by omega)) rfl ?_ | refine TL.ev (ev_neg rfl (by omega)) rfl ?_ | refine TL.ev (ev_sl_h rfl rfl (by omega)) rfl ?_ | refine TL.ev (ev_sl_l rfl rfl (by omega) (by omega)) rfl ?_ | refine TL.ev (ev_sl_lh rfl rfl rfl (by omega) (by omega)) rfl ?_ | refine TL.ev (ev_sl_hm rfl rfl rfl (by omega) (by omega)) rfl ?_ | refine TL.ev (ev_sl_lhm rfl rfl rfl rfl (by omega) (by omega) (by omega)) rfl ?_ | refine T.seq ?_ | refine T.region ?_ | refine TL.nil ?_ | refine T.block ?_ | refine T.cond_t rfl ?_ | refine T.cond_f rfl ?_ | refine T.exit ?_ | refine T.ret ?_ | refine T.skip ?_ | refine G.next ?_ | refine G.blockN ?_ | refine G.blockE ?_ | refine G.blockE' rfl ?_ | refine G.blockR ?_ | refine G.thenE ?_ | refine G.thenR ?_ | refine T.regionQ mixed (by kernel_rfl) ?_ | refine TL.nilQ (fun _ => ?_) | refine G.only ?_ | refine G.mixed ?_ | refine TM.nil ?_ | refine TM.e rfl ?_)
  refine G.end0 rfl ⟨rfl, ⟨_, B10, ?_, (uX.take _).append u10, ?_⟩, ?_⟩
  · simp; omega
  · rw [val_append, List.length_take, Nat.min_eq_left (by omega), v10, vl7, ← hall, ev, Nat.mul_add]; omega
  · exact ((T9.drewN _).drewN _).upd U10
end Go.Proofs.Ytgmhldapndhoeaa
