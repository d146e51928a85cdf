/- The walk of MulnatPlays. -/
import Derived.Test.YtgmhldapndhoeaaPlayA
set_option linter.unusedVariables false
set_option linter.unusedSimpArgs false
namespace Go.Proofs.Ytgmhldapndhoeaa
open Go Go.Eng Go.Proofs Go.NatM Go.RowKit

theorem off_ow {f : Nat → Value} {H : Array Obj} {lo b n c : Nat} {e : TypeId} {A : Option Addr} {l : List Nat} (h : n = 0 ∨ Ow f H lo e A n c l) (hb : b < lo) : Off b n A := by
  rcases h with h | h
  · exact .inl h
  · unfold Ow at h
    rcases h.2 with ⟨_, h0, _⟩ | ⟨g, cur, rfl, hg, _⟩
    · exact .inl h0
    · refine .inr fun a ha => ?_
      cases ha
      show g ≠ b
      omega
theorem Goodw.upd4 {w w1 w2 : World} {o : OpW} {b : Nat} (h : Goodw w.heap o) (hu : Upd b w1 w2) (hE : Ext w w1) (hb : w.heap.size ≤ b) : Goodw w2.heap o := h.ext (Ext.upd hE hu hb)
theorem tot_same {L R : List (SA Nat)} (h : R.map (fun x => (x.n, x.l)) = L.map (fun x => (x.n, x.l))) : tot R = tot L ∧ prodV R = prodV L := by
  induction L generalizing R with
  | nil => cases R with
    | nil => exact ⟨rfl, rfl⟩
    | cons x R => simp at h
  | cons y L ih => cases R with
    | nil => simp at h
    | cons x R =>
      simp only [List.map_cons, List.cons.injEq, Prod.mk.injEq] at h
      obtain ⟨⟨h1, h2⟩, h3⟩ := h
      obtain ⟨i1, i2⟩ := ih h3
      simp only [tot, prodV, h1, h2, i1, i2, and_self]
theorem set_fill {R : List (SA Nat)} {i n : Nat} {z x : SA Nat} (hR : R.length = i) (hi : i < n) : (R ++ List.replicate (n - i) z).set i x = (R ++ [x]) ++ List.replicate (n - (i + 1)) z := by
  subst hR
  rw [show n - R.length = (n - (R.length + 1)) + 1 by omega, List.replicate_succ, List.set_append_right _ _ (Nat.le_refl _)]
  simp
set_option maxRecDepth 100000 in
set_option maxHeartbeats 16000000 in
theorem copied_ok (w : World) (o : OpW) (g : Goodw w.heap o) : Cl Try.prog 32 #[.agg (opd o).toArray] w (fun e w' => ∃ o', e = .returned (.agg (opd o').toArray) ∧ Goodw w'.heap o' ∧ specO o' = specO o ∧ Ext w w') := by
  have hna := g.na
  have hnb := g.nb
  have hnc := g.nc
  have hnL := g.nL
  have hLl := g.sL.len
  refine enter Try.func32 rfl rfl rfl ?_
  repeat' (first | refine TL.ev (ev_simple rfl) rfl ?_ | refine TL.grun rfl rfl rfl ?_ | refine TL.gskip rfl rfl rfl rfl ?_ | refine TL.gskipU rfl rfl rfl ?_ | refine TL.ev (ev_len rfl) rfl ?_ | (refine TL.cmpG rfl rfl rfl rfl (fun hc => ?_) (fun hc => ?_) <;> try (exfalso; omega)) | refine TL.ev (ev_arN rfl rfl rfl (by omega)) rfl ?_ | refine TL.ev (ev_arI rfl rfl rfl (by omega)) rfl ?_ | refine TL.ev (ev_neg rfl (by omega)) rfl ?_ | (refine TL.boxA (cs := opd o) rfl rfl (fun w0 b0 eb0 hV0 hE0 hz0 => ?_); have g0 := g.ext hE0) | (refine TL.alloc rfl (fun w2 b2 eb2 hV2 hE2 hz2 => ?_); have hV02 := hV0.ext hE2) | (refine TL.ev (ev_fieldAddr rfl) rfl ?_) | (refine TL.ev (ev_loadV rfl hV02 rfl) rfl ?_) | (refine TL.make sav ⟨none, 0, 0, []⟩ rfl rfl rfl rfl rfl (by omega) (by omega) (fun w3 b3 eb3 hB3 hE3 hz3 => ?_)) | refine T.seq ?_ | refine T.region ?_ | refine TL.nil ?_ | refine T.block ?_ | refine T.cond_t rfl ?_ | refine T.cond_f rfl ?_ | refine T.exit ?_ | refine T.ret ?_ | refine T.skip ?_ | refine G.next ?_ | refine G.blockN ?_ | refine G.blockE ?_ | refine G.blockE' rfl ?_ | refine G.blockR ?_ | refine G.thenE ?_ | refine G.thenR ?_ | refine T.regionQ mixed (by kernel_rfl) ?_ | refine TL.nilQ (fun _ => ?_) | refine G.only ?_ | refine G.mixed ?_ | refine TM.nil ?_ | refine TM.e rfl ?_)
  have hE03 := (hE2.trans hE3)
  have hsz0 := hE0.size
  have hsz2 := hE2.size
  have hsz3 := hE3.size
  refine T.loop (α := Nat × List (SA Nat)) (fun x => [(1, .pointer (some ⟨b0, 0, none⟩)), (2, .pointer (some ⟨b2, 0, none⟩)), (3, .slice (some ⟨b3, 0, none⟩) o.Ln o.Ln), (4, .int .i64 (x.1 : Int))])
    (fun x w' => x.1 ≤ o.Ln ∧ x.2.length = x.1 ∧ Ext w2 w' ∧ Bk sav w'.heap b3 23 (x.2 ++ List.replicate (o.Ln - x.1) ⟨none, 0, 0, []⟩) ∧ (∀ y ∈ x.2, Sl u64v w'.heap w'.heap.size y.A y.n y.c y.l ∧ U64 y.l ∧ Off b2 y.n y.A) ∧ x.2.map (fun y => (y.n, y.l)) = (o.L.take x.1).map (fun y => (y.n, y.l)))
    (fun x => o.Ln - x.1) (0, []) (by repeat (first | exact Sub.nil _ | refine Sub.cons rfl ?_ | refine Sub.cons' rfl (int_congr (by omega)) ?_)) ⟨Nat.zero_le _, rfl, hE3, by simpa using hB3, fun y hy => (by cases hy), by simp⟩ ?_
  rintro ⟨i, R⟩ w4 ⟨hi, hR, hE4, hB4, hRS, hRm⟩
  dsimp only at hi hR hE4 hB4 hRS hRm ⊢
  have hV4 := hV02.ext hE4
  have g4 := (g0.ext hE2).ext hE4
  have hsz4 := hE4.size
  have hb34 := hB4.lt
  rcases Nat.lt_or_ge i o.Ln with hin | hin
  · have hm := getD_mem (L := o.L) (i := i) (by omega)
    obtain ⟨hx2, hxu⟩ := g4.gL _ hm
    have hx3 := tot_mem hm
    have sL4 := g4.sL
    have hlB : (R ++ List.replicate (o.Ln - i) (⟨none, 0, 0, []⟩ : SA Nat)).length = o.Ln := by simp; omega
    have hyi : o.L[i]? = some (o.L.getD i default) := by simp [List.getD, show i < o.L.length by omega]
    repeat' (first | refine TL.ev (ev_simple rfl) rfl ?_ | refine TL.grun rfl rfl rfl ?_ | refine TL.gskip rfl rfl rfl rfl ?_ | refine TL.gskipU rfl rfl rfl ?_ | refine TL.ev (ev_len rfl) rfl ?_ | (refine TL.cmpG rfl rfl rfl rfl (fun hc => ?_) (fun hc => ?_) <;> try (exfalso; omega)) | refine TL.ev (ev_arN rfl rfl rfl (by omega)) rfl ?_ | refine TL.ev (ev_arI rfl rfl rfl (by omega)) rfl ?_ | refine TL.ev (ev_neg rfl (by omega)) rfl ?_ | refine TL.ev (ev_indexN rfl rfl (by omega) (by first | exact Or.inr rfl | exact Sl.some (by assumption))) rfl ?_ | refine TL.ev (ev_index rfl rfl (by omega) (by first | exact Or.inr rfl | exact Sl.some (by assumption))) rfl ?_ | refine TL.ev (ev_loadU rfl (by assumption) (by omega)) rfl ?_ | refine TL.ev (ev_loadI rfl (by assumption) (by omega)) rfl ?_ | (refine TL.build0 u64v rfl rfl (fun w5 b5 eb5 hB5 hE5 hz5 => ?_); have hV5 := hV4.ext hE5; have sL5 := sL4.ext hE5; have hx5 := hx2.ext hE5; have hB45 := hB4.ext hE5) | (refine TL.ev (ev_fieldAddr rfl) rfl ?_) | (refine TL.ev (ev_loadV rfl hV5 rfl) rfl ?_) | (refine TL.ev (ev_loadV rfl hV4 rfl) rfl ?_) | (refine TL.ev (ev_loadS rfl sL5 (by omega)) rfl ?_) | (refine TL.appendE (f := u64v) (fun _ => rfl) rfl rfl rfl rfl hx5 (by omega) hB5 (fun w6 A6 c6 hS6 hE6 hQ6 => ?_); have hB46 := hB45.ext hE6) | (refine TL.storeS ⟨A6, (o.L.getD i default).n, c6, (o.L.getD i default).l⟩ ⟨rfl, rfl, rfl⟩ rfl rfl hB46 (by rw [hlB]; omega) (fun w7 hB7 hU7 => ?_)) | refine T.seq ?_ | refine T.region ?_ | refine TL.nil ?_ | refine T.block ?_ | refine T.cond_t rfl ?_ | refine T.cond_f rfl ?_ | refine T.exit ?_ | refine T.ret ?_ | refine T.skip ?_ | refine G.next ?_ | refine G.blockN ?_ | refine G.blockE ?_ | refine G.blockE' rfl ?_ | refine G.blockR ?_ | refine G.thenE ?_ | refine G.thenR ?_ | refine T.regionQ mixed (by kernel_rfl) ?_ | refine TL.nilQ (fun _ => ?_) | refine G.only ?_ | refine G.mixed ?_ | refine TM.nil ?_ | refine TM.e rfl ?_)
    rw [set_fill hR hin] at hB7
    have hE46 := hE5.trans hE6
    have hsz6 := hE46.size
    have hsz56 := hE6.size
    refine G.again (i + 1, R ++ [⟨A6, (o.L.getD i default).n, c6, (o.L.getD i default).l⟩]) (by repeat (first | exact Sub.nil _ | refine Sub.cons rfl ?_ | refine Sub.cons' rfl (int_congr (by omega)) ?_)) ⟨by dsimp only; omega, by simp [hR], (hE4.trans hE46).upd hU7 (by omega), hB7, ?_, ?_⟩ (by dsimp only; omega)
    · have hne : ∀ {y : SA Nat} {c : Nat}, True := trivial
      intro y hy
      have hsz7 := hU7.size
      rcases List.mem_append.1 hy with h | h
      · obtain ⟨y1, y2, y3⟩ := hRS y h
        have hoff3 : Off b3 y.n y.A := by
          rcases Nat.eq_zero_or_pos y.n with h0 | h0
          · exact .inl h0
          · refine .inr fun a ha hab => ?_
            rcases y1.mem with h1 | ⟨b, q, e1, _, hc⟩
            · omega
            · rw [e1] at ha
              cases ha
              simp only at hab
              subst hab
              have hl0 : 0 < y.l.length := by have := y1.len; omega
              have h2 := hc 0 y.l[0] (List.getElem?_eq_getElem hl0)
              rw [hB4.cell] at h2
              simp only [Nat.add_zero] at h2
              obtain ⟨u, _, hu⟩ := Option.map_eq_some_iff.1 h2
              cases hu
        exact ⟨(sl_off hU7 ((y1.ext hE46)) hoff3).size, y2, y3⟩
      · rw [List.mem_singleton] at h
        subst h
        refine ⟨(sl_off hU7 hS6 (off_ow hQ6 (by omega))).size, hxu, off_ow hQ6 (by omega)⟩
    · dsimp only
      rw [List.map_append, hRm, List.take_succ_eq_append_getElem (by omega), List.map_append]
      simp [List.getD, show i < o.L.length by omega]
  · obtain rfl : i = o.Ln := by omega
    rw [List.take_of_length_le (by omega)] at hRm
    rw [Nat.sub_self, List.replicate_zero, List.append_nil] at hB4
    obtain ⟨ht1, ht2⟩ := tot_same hRm
    have sa := g4.sa
    have sb := g4.sb
    have sc := g4.sc
    have hV24 := hV2.ext hE4
    repeat' (first | refine TL.ev (ev_simple rfl) rfl ?_ | refine TL.grun rfl rfl rfl ?_ | refine TL.gskip rfl rfl rfl rfl ?_ | refine TL.gskipU rfl rfl rfl ?_ | refine TL.ev (ev_len rfl) rfl ?_ | (refine TL.cmpG rfl rfl rfl rfl (fun hc => ?_) (fun hc => ?_) <;> try (exfalso; omega)) | refine TL.ev (ev_arN rfl rfl rfl (by omega)) rfl ?_ | refine TL.ev (ev_arI rfl rfl rfl (by omega)) rfl ?_ | refine TL.ev (ev_neg rfl (by omega)) rfl ?_ | refine TF.nil ?_ | refine TF.e rfl ?_ | refine TF.alt ?_ ?_ | refine G.treeEnd rfl ?_ | refine G.tree rfl (by repeat (first | assumption | exact Ext.refl _ | exact RowKit.Below.refl _ _ | refine Ext.drewN ?_ _ | refine below_drewN ?_ _ | refine below_upd ?_ (by assumption) (by omega) | refine below_ext ?_ (by assumption) (by omega) | refine Ext.trans ?_ (by assumption))) ?_ | refine TF.s rfl (fun _ hh => ev_simple rfl) rfl ?_ | refine TF.s rfl (fun _ hh => ev_len rfl) rfl ?_ | refine TF.s rfl (fun _ hh => ev_arN rfl rfl rfl (by omega)) rfl ?_ | refine TF.s rfl (fun _ hh => ev_arI rfl rfl rfl (by omega)) rfl ?_ | refine TF.s rfl (fun _ hh => ev_neg rfl (by omega)) rfl ?_ | refine TF.s rfl (fun _ hh => ev_fieldAddr rfl) rfl ?_ | refine TF.s rfl (fun _ hh => ev_loadV rfl hV4 rfl) rfl ?_ | refine TF.s rfl (fun _ hh => ev_build rfl rfl) rfl ?_ | refine T.regionE 6 18 (.s 0 (.s 1 (.s 2 (.s 3 (.s 5 (.s 6 (.s 9 (.s 10 (.s 13 (.s 14 (.s 16 (.alt (.e 4 (.alt (.e 7 (.alt (.e 8 (.alt (.e 11 (.e 12 (.e 15 (.s 17 (.e 18 .nil))))) (.e 12 (.e 11 (.e 15 (.s 17 (.e 18 .nil))))))) (.e 12 (.e 8 (.e 11 (.e 15 (.s 17 (.e 18 .nil)))))))) (.alt (.e 8 (.alt (.e 7 (.alt (.e 11 (.e 12 (.e 15 (.s 17 (.e 18 .nil))))) (.e 12 (.e 11 (.e 15 (.s 17 (.e 18 .nil))))))) (.e 12 (.e 7 (.e 11 (.e 15 (.s 17 (.e 18 .nil)))))))) (.e 12 (.alt (.e 7 (.e 8 (.e 11 (.e 15 (.s 17 (.e 18 .nil)))))) (.e 8 (.e 7 (.e 11 (.e 15 (.s 17 (.e 18 .nil))))))))))) (.alt (.e 8 (.alt (.e 4 (.alt (.e 7 (.alt (.e 11 (.e 12 (.e 15 (.s 17 (.e 18 .nil))))) (.e 12 (.e 11 (.e 15 (.s 17 (.e 18 .nil))))))) (.e 12 (.e 7 (.e 11 (.e 15 (.s 17 (.e 18 .nil)))))))) (.e 12 (.e 4 (.e 7 (.e 11 (.e 15 (.s 17 (.e 18 .nil))))))))) (.e 12 (.alt (.e 4 (.alt (.e 7 (.e 8 (.e 11 (.e 15 (.s 17 (.e 18 .nil)))))) (.e 8 (.e 7 (.e 11 (.e 15 (.s 17 (.e 18 .nil)))))))) (.e 8 (.e 4 (.e 7 (.e 11 (.e 15 (.s 17 (.e 18 .nil)))))))))))))))))))))) mixed (by kernel_rfl) ?_ | (refine TL.ev (ev_fieldAddr rfl) rfl ?_) | (refine TL.ev (ev_loadV rfl hV4 rfl) rfl ?_) | (refine TF.s rfl (fun _ hh => ev_loadV rfl (hV4.ext hh) rfl) rfl ?_) | (refine TL.ev (ev_build rfl rfl) rfl ?_) | (refine TL.build0 (d := 30) u64v rfl rfl (fun w30 b30 eb30 hB30 hE30 hz30 => ?_)) | (refine TL.build0 (d := 34) u64v rfl rfl (fun w34 b34 eb34 hB34 hE34 hz34 => ?_)) | (refine TL.build0 (d := 38) u64v rfl rfl (fun w38 b38 eb38 hB38 hE38 hz38 => ?_)) | (refine TL.appendE (f := u64v) (d := 33) (fun _ => rfl) rfl rfl rfl rfl (by repeat (first | assumption | (apply Sl.ext; assumption) | with_reducible apply Sl.undrew)) (by omega) (by repeat (first | assumption | (apply Bk.ext; assumption))) (fun w33 A33 c33 hS33 hE33 hQ33 => ?_)) | (refine TL.appendE (f := u64v) (d := 37) (fun _ => rfl) rfl rfl rfl rfl (by repeat (first | assumption | (apply Sl.ext; assumption) | with_reducible apply Sl.undrew)) (by omega) (by repeat (first | assumption | (apply Bk.ext; assumption))) (fun w37 A37 c37 hS37 hE37 hQ37 => ?_)) | (refine TL.appendE (f := u64v) (d := 41) (fun _ => rfl) rfl rfl rfl rfl (by repeat (first | assumption | (apply Sl.ext; assumption) | with_reducible apply Sl.undrew)) (by omega) (by repeat (first | assumption | (apply Bk.ext; assumption))) (fun w41 A41 c41 hS41 hE41 hQ41 => ?_)) | (refine TL.storeVA (vs := [.int .i64 o.k, .slice A33 o.a.n c33, .slice A37 o.b.n c37, .slice A41 o.c.n c41, .int .i64 o.z, .slice (some ⟨b3, 0, none⟩) o.Ln o.Ln]) rfl rfl rfl rfl (by repeat (first | assumption | (apply Vr.ext; assumption) | with_reducible apply Vr.undrew)) rfl (fun w9 hV9 hU9 => ?_)) | refine T.seq ?_ | refine T.region ?_ | refine TL.nil ?_ | refine T.block ?_ | refine T.cond_t rfl ?_ | refine T.cond_f rfl ?_ | refine T.exit ?_ | refine T.ret ?_ | refine T.skip ?_ | refine G.next ?_ | refine G.blockN ?_ | refine G.blockE ?_ | refine G.blockE' rfl ?_ | refine G.blockR ?_ | refine G.thenE ?_ | refine G.thenR ?_ | refine T.regionQ mixed (by kernel_rfl) ?_ | refine TL.nilQ (fun _ => ?_) | refine G.only ?_ | refine G.mixed ?_ | refine TM.nil ?_ | refine TM.e rfl ?_)
    all_goals
      have q33 := off_ow hQ33 (Vr.lt (by repeat (first | assumption | (apply Vr.ext; assumption) | with_reducible apply Vr.undrew)))
      have q37 := off_ow hQ37 (Vr.lt (by repeat (first | assumption | (apply Vr.ext; assumption) | with_reducible apply Vr.undrew)))
      have q41 := off_ow hQ41 (Vr.lt (by repeat (first | assumption | (apply Vr.ext; assumption) | with_reducible apply Vr.undrew)))
      have s1 : Sl u64v w9.heap w9.heap.size A33 o.a.n c33 o.a.l := (sl_off hU9 (B := w33.heap.size) (by repeat (first | assumption | (apply Sl.ext; assumption) | with_reducible apply Sl.undrew)) q33).size
      have s2 : Sl u64v w9.heap w9.heap.size A37 o.b.n c37 o.b.l := (sl_off hU9 (B := w37.heap.size) (by repeat (first | assumption | (apply Sl.ext; assumption) | with_reducible apply Sl.undrew)) q37).size
      have s3 : Sl u64v w9.heap w9.heap.size A41 o.c.n c41 o.c.l := (sl_off hU9 (B := w41.heap.size) (by repeat (first | assumption | (apply Sl.ext; assumption) | with_reducible apply Sl.undrew)) q41).size
      have s4 : ∀ y ∈ R, Sl u64v w9.heap w9.heap.size y.A y.n y.c y.l ∧ U64 y.l := fun y hy => by
        obtain ⟨y1, y2, y3⟩ := hRS y hy
        exact ⟨(sl_off hU9 (B := w4.heap.size) (by repeat (first | assumption | (apply Sl.ext; assumption) | with_reducible apply Sl.undrew)) y3).size, y2⟩
      have s5 := Bk.upd hU9 ((by repeat (first | assumption | (apply Bk.ext; assumption))) : Bk sav _ b3 23 R) (by omega)
      have s6 := s5.slN (n := o.Ln) (c := o.Ln) hR (Nat.le_refl _) s5.lt
      have s7 : Ext w w9 := Ext.upd (by repeat (first | exact Ext.refl _ | refine Ext.trans ?_ (by assumption) | refine Ext.drewN ?_ _)) hU9 (by omega)
      refine G.retC1 rfl rfl (held_agg hV9 rfl) ⟨⟨o.k, ⟨A33, o.a.n, c33, o.a.l⟩, ⟨A37, o.b.n, c37, o.b.l⟩, ⟨A41, o.c.n, c41, o.c.l⟩, o.z, some ⟨b3, 0, none⟩, o.Ln, o.Ln, R⟩, rfl, ⟨s1, s2, s3, g.ua, g.ub, g.uc, hna, hnb, hnc, g.z, s6, s4, by rw [ht1]; exact hnL⟩, ?_, s7⟩
      unfold specO
      rw [ht2]
set_option maxRecDepth 100000 in
set_option maxHeartbeats 8000000 in
theorem plays_walk (w : World) (A : Option Addr) (n c : Nat) (L : List OpW) (hs : Sm 6 opd w.heap w.heap.size A n c L) (hL : ∀ o ∈ L, Goodw w.heap o) (hn : n ≤ 1048576) :
    Cl Try.prog 11 #[.slice A n c] w (Yes w) := by
  have hlen := hs.len
  refine enter Try.func11 rfl rfl rfl ?_
  repeat' (first | refine TL.ev (ev_simple rfl) rfl ?_ | refine TL.grun rfl rfl rfl ?_ | refine TL.gskip rfl rfl rfl rfl ?_ | refine TL.gskipU rfl rfl rfl ?_ | (refine TL.call rfl rfl ?_; first | (refine (awake2_ok _).mono ?_; rintro _ w1 ⟨rfl, hE1⟩; refine Back.mk ?_)) | refine TL.ev (ev_len rfl) rfl ?_ | (refine TL.cmpG rfl rfl rfl rfl (fun hc => ?_) (fun hc => ?_) <;> try (exfalso; omega)) | refine TL.ev (ev_arN rfl rfl rfl (by omega)) rfl ?_ | refine TL.ev (ev_arI rfl rfl rfl (by omega)) rfl ?_ | refine TL.ev (ev_neg rfl (by omega)) rfl ?_ | refine TL.ev (ev_eqlB (r := true) rfl rfl rfl) rfl ?_ | refine TL.ev (ev_eqlB (r := false) rfl rfl rfl) rfl ?_ | refine TL.ev (ev_neqB (r := true) rfl rfl rfl) rfl ?_ | refine TL.ev (ev_neqB (r := false) rfl rfl rfl) rfl ?_ | refine T.seq ?_ | refine T.region ?_ | refine TL.nil ?_ | refine T.block ?_ | refine T.cond_t rfl ?_ | refine T.cond_f rfl ?_ | refine T.exit ?_ | refine T.ret ?_ | refine T.skip ?_ | refine G.next ?_ | refine G.blockN ?_ | refine G.blockE ?_ | refine G.blockE' rfl ?_ | refine G.blockR ?_ | refine G.thenE ?_ | refine G.thenR ?_ | refine T.regionQ mixed (by kernel_rfl) ?_ | refine TL.nilQ (fun _ => ?_) | refine G.only ?_ | refine G.mixed ?_ | refine TM.nil ?_ | refine TM.e rfl ?_)
  refine T.loop (α := Nat) (fun i => [(0, .slice A n c), (3, .int .i64 (i : Int))]) (fun i w' => i ≤ n ∧ Ext w w') (fun i => n - i) 0 (by repeat (first | exact Sub.nil _ | refine Sub.cons rfl ?_ | refine Sub.cons' rfl (int_congr (by omega)) ?_)) ⟨Nat.zero_le _, hE1⟩ ?_
  rintro i w2 ⟨hi', hE2⟩
  have s2 := hs.ext hE2
  rcases Nat.lt_or_ge i n with hin | hin
  · have hy : L[i]? = some (L.getD i default) := by simp [List.getD, show i < L.length by omega]
    have g2 := (hL _ (List.mem_of_getElem? hy)).ext hE2
    generalize L.getD i default = o at *
    repeat' (first | refine TL.ev (ev_simple rfl) rfl ?_ | refine TL.grun rfl rfl rfl ?_ | refine TL.gskip rfl rfl rfl rfl ?_ | refine TL.gskipU rfl rfl rfl ?_ | (refine TL.call rfl rfl ?_; first | (refine (copied_ok _ o g2).mono ?_; rintro _ w3 ⟨o1, rfl, g1, e1, hE3⟩; refine Back.mk ?_) | (refine (copied_ok _ o1 g5).mono ?_; rintro _ w6 ⟨o2, rfl, g6, e2, hE6⟩; refine Back.mk ?_) | (refine (told_ok _ o2 g6).mono ?_; rintro _ w7 ⟨A7, n7, c7, rfl, hO7, hE7, hK7⟩; refine Back.mk ?_; rw [e2] at hO7 ⊢; have hV7 := (hV5.ext hE6).ext hE7; have g7 := (g5.ext hE6).ext hE7; have hS7 := hO7.sl (Nat.le_refl _)) | (refine (asked_ok _ o1 g7).mono ?_; rintro _ w8 ⟨A8, n8, c8, rfl, hO8, hE8, hK8⟩; refine Back.mk ?_; have hS8 := hO8.sl (Nat.le_refl _); have hS78 := hS7.ext hE8) | (refine (same_t _ _ _ _ _ _ _ _ _ _ _ hS8 hS78 (by omega) (by omega) rfl).cl.mono ?_; rintro _ _ ⟨rfl, q1, rfl⟩; refine Back.mk ?_)) | refine TL.ev (ev_len rfl) rfl ?_ | (refine TL.cmpG rfl rfl rfl rfl (fun hc => ?_) (fun hc => ?_) <;> try (exfalso; omega)) | refine TL.ev (ev_arN rfl rfl rfl (by omega)) rfl ?_ | refine TL.ev (ev_arI rfl rfl rfl (by omega)) rfl ?_ | refine TL.ev (ev_neg rfl (by omega)) rfl ?_ | refine TL.ev (ev_eqlB (r := true) rfl rfl rfl) rfl ?_ | refine TL.ev (ev_eqlB (r := false) rfl rfl rfl) rfl ?_ | refine TL.ev (ev_neqB (r := true) rfl rfl rfl) rfl ?_ | refine TL.ev (ev_neqB (r := false) rfl rfl rfl) rfl ?_ | (refine TL.ev (ev_indexM rfl rfl (by omega) s2.some) rfl ?_) | (refine TL.ev (ev_loadM rfl s2 hy) rfl ?_) | (refine TL.alloc rfl (fun w4 b4 eb4 hV4 hE4 hz4 => ?_)) | (refine TL.storeVA (vs := opd o1) rfl rfl rfl rfl hV4 rfl (fun w5 hV5 hU5 => ?_); have g5 := g1.upd4 hU5 (hE4) (by omega); have hE5 : Ext w3 w5 := Ext.upd hE4 hU5 (by omega)) | (refine TL.ev (ev_loadVA (cs' := opd o1) rfl hV7 rfl) rfl ?_) | (refine TL.ev (ev_loadVA (cs' := opd o1) rfl hV5 rfl) rfl ?_) | refine T.seq ?_ | refine T.region ?_ | refine TL.nil ?_ | refine T.block ?_ | refine T.cond_t rfl ?_ | refine T.cond_f rfl ?_ | refine T.exit ?_ | refine T.ret ?_ | refine T.skip ?_ | refine G.next ?_ | refine G.blockN ?_ | refine G.blockE ?_ | refine G.blockE' rfl ?_ | refine G.blockR ?_ | refine G.thenE ?_ | refine G.thenR ?_ | refine T.regionQ mixed (by kernel_rfl) ?_ | refine TL.nilQ (fun _ => ?_) | refine G.only ?_ | refine G.mixed ?_ | refine TM.nil ?_ | refine TM.e rfl ?_)
    all_goals exact G.again (i + 1) (by repeat (first | exact Sub.nil _ | refine Sub.cons rfl ?_ | refine Sub.cons' rfl (int_congr (by omega)) ?_)) ⟨by omega, (by repeat (first | exact Ext.refl _ | refine Ext.trans ?_ (by assumption) | refine Ext.drewN ?_ _))⟩ (by omega)
  · obtain rfl : i = n := by omega
    repeat' (first | refine TL.ev (ev_simple rfl) rfl ?_ | refine TL.grun rfl rfl rfl ?_ | refine TL.gskip rfl rfl rfl rfl ?_ | refine TL.gskipU rfl rfl rfl ?_ | refine TL.ev (ev_len rfl) rfl ?_ | (refine TL.cmpG rfl rfl rfl rfl (fun hc => ?_) (fun hc => ?_) <;> try (exfalso; omega)) | refine TL.ev (ev_arN rfl rfl rfl (by omega)) rfl ?_ | refine TL.ev (ev_arI rfl rfl rfl (by omega)) rfl ?_ | refine TL.ev (ev_neg rfl (by omega)) rfl ?_ | refine TL.ev (ev_eqlB (r := true) rfl rfl rfl) rfl ?_ | refine TL.ev (ev_eqlB (r := false) rfl rfl rfl) rfl ?_ | refine TL.ev (ev_neqB (r := true) rfl rfl rfl) rfl ?_ | refine TL.ev (ev_neqB (r := false) rfl rfl rfl) rfl ?_ | refine T.seq ?_ | refine T.region ?_ | refine TL.nil ?_ | refine T.block ?_ | refine T.cond_t rfl ?_ | refine T.cond_f rfl ?_ | refine T.exit ?_ | refine T.ret ?_ | refine T.skip ?_ | refine G.next ?_ | refine G.blockN ?_ | refine G.blockE ?_ | refine G.blockE' rfl ?_ | refine G.blockR ?_ | refine G.thenE ?_ | refine G.thenR ?_ | refine T.regionQ mixed (by kernel_rfl) ?_ | refine TL.nilQ (fun _ => ?_) | refine G.only ?_ | refine G.mixed ?_ | refine TM.nil ?_ | refine TM.e rfl ?_)
    exact G.ret1 rfl rfl (Yes.mk hE2)
end Go.Proofs.Ytgmhldapndhoeaa
