/- Layer 11: the document's step on a matrix (printed by gendone.py). The document's answers for layer 9: Turn; unsound matrices. -/
import Derived.Test.YtdhmhjbmkimplaaGreatPl12
import Derived.Test.YtdhmhjbmkimplaaGreatPl11
import Derived.Test.YtdhmhjbmkimplaaGreatPl10
set_option linter.unusedVariables false
set_option linter.unusedSimpArgs false
namespace Go.Proofs.YtdhmhjbmkimplaaGreat
open Go Go.Eng Go.Proofs Go.NatM Go.RowKit

theorem divmod_at {i j c : Nat} (hj : j < c) : (i * c + j) / c = i ∧ (i * c + j) % c = j :=
  ⟨by rw [Nat.mul_comm, Nat.mul_add_div (by omega), Nat.div_eq_of_lt hj, Nat.add_zero], by rw [Nat.mul_comm, Nat.mul_add_mod, Nat.mod_eq_of_lt hj]⟩
theorem LM.load {H : Array Obj} {x : MV} {r c : Nat} {F : Nat → Nat → Int} {K : Nat} (h : LM H x r c F K) {i j : Nat} (hi : i < r) (hj : j < c) : ∃ y : IV, x.l[i * c + j]? = some y ∧ GI H y ∧ y.m.n ≤ K ∧ ival y = F i j := by
  obtain ⟨h1, h2⟩ := h.g i j hi hj
  have hlen := h.s.len
  rw [h.sh.n] at hlen
  have hp := place_lt hi hj
  exact ⟨_, by simp [List.getD, show i * c + j < x.l.length by omega], h1.g, h2, h1.val⟩
def zAt (s : SP) (F : Nat → Nat → Int) (c q : Nat) : Int := stepF s F (q / c) (q % c)
set_option maxRecDepth 100000 in
set_option maxHeartbeats 2000000 in
theorem done1 (w : World) (x : MV) (r c K Kk : Nat) (F : Nat → Nat → Int) (s : SP) (hL : LM w.heap x r c F K) (gs : GI w.heap s.k) (hk : s.kind = 1) (hf : fits r s) (hKk : s.k.m.n ≤ Kk) (hKs : Kk ≤ 100000000) (hK : K ≤ 100000000) :
    Cl Tryz.prog 48 #[.agg (mvc x).toArray, .agg (spc s).toArray] w (RetM w r c (stepF s F) (Kk + K + 1)) := by
  obtain ⟨kd, si, sj, ⟨kn, ⟨kA, km, kc, kl⟩⟩⟩ := s
  dsimp only at hk gs hKk
  subst hk
  obtain ⟨xr, xc, A, n, k, l⟩ := x
  obtain ⟨h1, h2, hr, hcc, h5⟩ := id hL.sh
  dsimp only at h1 h2 h5
  subst h1 h2 h5
  have hm := mul64 hr hcc
  obtain ⟨⟨a1, a2⟩, b1, b2⟩ : (0 ≤ si ∧ si < (r : Int)) ∧ (0 ≤ sj ∧ sj < (r : Int)) := by
    rcases hf with ⟨_, h⟩ | ⟨h, _⟩ | ⟨h, _⟩
    · exact h
    · cases h
    · cases h
  obtain ⟨I, rfl⟩ := Int.eq_ofNat_of_zero_le a1
  obtain ⟨J, rfl⟩ := Int.eq_ofNat_of_zero_le b1
  clear hf
  obtain ⟨s, hs⟩ : ∃ s : SP, (⟨1, (I : Int), (J : Int), ⟨kn, ⟨kA, km, kc, kl⟩⟩⟩ : SP) = s := ⟨_, rfl⟩
  have hsF := stepF_1 (s := s) (by rw [← hs]) F
  have hsi : s.i.toNat = I := by rw [← hs]; exact Int.toNat_natCast I
  have hsj : s.j.toNat = J := by rw [← hs]; exact Int.toNat_natCast J
  have hgoal : stepF ⟨1, (I : Int), (J : Int), ⟨kn, ⟨kA, km, kc, kl⟩⟩⟩ F = stepF s F := by rw [hs]
  rw [hgoal]
  clear hgoal hs
  refine enter Tryz.func48 rfl rfl rfl ?_
  have hF := Fr.addGI ((Fr.refl w).add (dpLM ⟨r, c, A, r * c, k, l⟩ r c F K) (by unfold dpLM; exact hL) (fun _ h => (by cases h))) gs
  clear hL gs
  repeat' (first | (refine TL.isOp ?_; first | (apply TL.ev; (case hd => rfl); (case h => (first | exact ev_simple rfl | (apply Ev.isLoad; first | exact ev_loadFr hF rfl (by refine ⟨?_, ?_⟩; (focus (repeat (first | exact InV.head | apply InV.tail))); rfl)) | exact ev_len rfl | exact ev_fieldAddr rfl))) | (refine TL.boxAFr hF (d := 2) (cs := [.int .i64 (r : Int), .int .i64 (c : Int), .slice A (r * c) k]) rfl rfl ?_; clear hF; intro w2 b2 hF) | (refine TL.boxAFr hF (d := 3) (cs := [.int .i64 1, .int .i64 (I : Int), .int .i64 (J : Int), .bool kn, .slice kA km kc]) rfl rfl ?_; clear hF; intro w3 b3 hF) | (refine TL.allocFr hF (d := 4) rfl rfl ?_; clear hF; intro w4 b4 hF) | (refine TL.makeFr hF ivc nought (d := 13) rfl rfl rfl (Nat.le_refl _) (by omega) rfl rfl rfl ?_; clear hF; intro w13 b13 hF)) | (refine T.is ?_; first | refine T.seq ?_ | refine T.region ?_ | refine T.block ?_) | (refine G.is ?_; first | refine G.next ?_) | refine TL.nil ?_)
  refine T.loop (α := Nat × List IV) (fun x => [(2, .pointer (some ⟨b2, 0, none⟩)), (3, .pointer (some ⟨b3, 0, none⟩)), (4, .pointer (some ⟨b4, 0, none⟩)), (5, .slice (some ⟨b13, 0, none⟩) (r * c) (r * c)), (6, .int .i64 (x.1 : Int))])
    (fun x w' => x.1 ≤ r ∧ x.2.length = r * c ∧ Fr w w' [⟨b13, 51, x.2.flatMap ivc⟩, ⟨b4, 24, [.int .i64 0, .int .i64 0, .slice none 0 0]⟩, ⟨b3, 53, [.int .i64 1, .int .i64 (I : Int), .int .i64 (J : Int), .bool kn, .slice kA km kc]⟩, ⟨b2, 24, [.int .i64 (r : Int), .int .i64 (c : Int), .slice A (r * c) k]⟩] [dpLK (r * c) x.2 (upZ (x.1 * c) (zAt s F c)) (Kk + K + 1), dpLM ⟨r, c, A, r * c, k, l⟩ r c F K, dpGI ⟨kn, ⟨kA, km, kc, kl⟩⟩])
    (fun x => r - x.1) (0, List.replicate (r * c) nought) (by repeat (first | exact Sub.nil _ | refine Sub.cons rfl ?_ | refine Sub.cons' rfl (int_congr (by omega)) ?_)) ⟨Nat.zero_le _, List.length_replicate .., (Fr.addLK hF ((lk_zeros _ (r * c) (Kk + K + 1)).congr (Z' := upZ (0 * c) (zAt s F c)) fun q _ => by unfold upZ; rw [Nat.zero_mul, if_neg (Nat.not_lt_zero _)])).weak (.refl _) (allH (by repeat (first | exact memH | apply memT)) (allH (by repeat (first | exact memH | apply memT)) (allH (by repeat (first | exact memH | apply memT)) allN)))⟩ ?_
  clear hF
  rintro ⟨i, zl⟩ w2 ⟨hi, hzl, hF⟩
  dsimp only at hi hzl hF ⊢
  rcases Nat.lt_or_ge i r with hin | hin
  · repeat' (first | (refine TL.isOp ?_; first | (refine TL.isBin ?_; refine TL.cmpG rfl rfl rfl rfl (fun hc => ?_) (fun hc => ?_) <;> (try (first | (exfalso; omega) | exact absurd rfl hc))) | (apply TL.ev; (case hd => rfl); (case h => (first | exact ev_simple rfl | (apply Ev.isLoad; first | exact ev_loadFr hF rfl (by refine ⟨?_, ?_⟩; (focus (repeat (first | exact InV.head | apply InV.tail))); rfl)) | exact ev_fieldAddr rfl)))) | (refine T.is ?_; first | refine T.seq ?_ | refine T.region ?_ | refine T.block ?_ | refine T.cond_t rfl ?_ | refine T.skip ?_) | (refine G.is ?_; first | refine G.next ?_) | refine TL.nil ?_)
    refine T.loop (α := Nat × List IV) (fun x => [(2, .pointer (some ⟨b2, 0, none⟩)), (3, .pointer (some ⟨b3, 0, none⟩)), (4, .pointer (some ⟨b4, 0, none⟩)), (5, .slice (some ⟨b13, 0, none⟩) (r * c) (r * c)), (6, .int .i64 (i : Int)), (7, .int .i64 (x.1 : Int))])
      (fun x w' => x.1 ≤ c ∧ x.2.length = r * c ∧ Fr w w' [⟨b13, 51, x.2.flatMap ivc⟩, ⟨b4, 24, [.int .i64 0, .int .i64 0, .slice none 0 0]⟩, ⟨b3, 53, [.int .i64 1, .int .i64 (I : Int), .int .i64 (J : Int), .bool kn, .slice kA km kc]⟩, ⟨b2, 24, [.int .i64 (r : Int), .int .i64 (c : Int), .slice A (r * c) k]⟩] [dpLK (r * c) x.2 (upZ (i * c + x.1) (zAt s F c)) (Kk + K + 1), dpLM ⟨r, c, A, r * c, k, l⟩ r c F K, dpGI ⟨kn, ⟨kA, km, kc, kl⟩⟩])
      (fun x => c - x.1) (0, zl) (by repeat (first | exact Sub.nil _ | refine Sub.cons rfl ?_ | refine Sub.cons' rfl (int_congr (by omega)) ?_)) ⟨Nat.zero_le _, hzl, hF⟩ ?_
    clear hF hzl
    clear zl
    rintro ⟨j, zl⟩ w3 ⟨hj, hzl, hF⟩
    dsimp only at hj hzl hF ⊢
    rcases Nat.lt_or_ge j c with hjn | hjn
    · have hpl := place_lt hin hjn
      by_cases hI : i = I
      · subst hI
        obtain ⟨⟨yneg, ⟨yA, yn, yc, yl⟩⟩, hy, gy, hyn, hyv⟩ := (Fr.lm hF (x := ⟨r, c, A, r * c, k, l⟩) (by repeat (first | exact memH | apply memT))).load (i := J) (j := j) (by omega) hjn
        dsimp only at hy hyn
        have hpf := place_lt (i := J) (j := j) (r := r) (c := c) (by omega) hjn
        replace hF := Fr.addGI hF gy
        clear gy
        repeat' (first | (refine TL.isOp ?_; first | (refine TL.isG ?_; first | refine TL.grun rfl rfl rfl ?_ | refine TL.gskip rfl rfl rfl rfl ?_) | (refine TL.isCall ?_; refine TL.call rfl rfl ?_; first | (refine (r5least_t _ ⟨yneg, ⟨yA, yn, yc, yl⟩⟩ (Fr.gi hF (by repeat (first | exact memH | apply memT))) (by dsimp only; omega)).mono ?_; rintro _ wl ⟨u, rfl, hLu, hE, hKu⟩; dsimp only at hKu; replace hF := Fr.addLI (hF.exts hE) hLu; clear hE hLu; refine Back.mk ?_)) | (refine TL.isBin ?_; refine TL.cmpG rfl rfl rfl rfl (fun hc => ?_) (fun hc => ?_) <;> (try (first | (exfalso; omega) | exact absurd rfl hc))) | (apply TL.ev; (case hd => rfl); (case h => (first | exact ev_simple rfl | (apply Ev.isBin; first | exact ev_arN rfl rfl rfl (by omega)) | (apply Ev.isLoad; first | exact ev_loadFr hF rfl (by refine ⟨?_, ?_⟩; (focus (repeat (first | exact InV.head | apply InV.tail))); rfl) | exact ev_loadM rfl (Fr.lm hF (x := ⟨r, c, A, r * c, k, l⟩) (by repeat (first | exact memH | apply memT))).s hy) | exact ev_fieldAddr rfl | exact ev_indexM rfl rfl hpf ((Fr.lm hF (x := ⟨r, c, A, r * c, k, l⟩) (by repeat (first | exact memH | apply memT))).s.some)))) | (refine TL.storeAFr hF rfl rfl rfl rfl (by refine ⟨?_, ?_⟩; (focus (repeat (first | apply SetV.head | apply SetV.tail))); rfl) rfl ?_; clear hF; intro ws hF) | (refine TL.allocFr hF (d := 9) rfl rfl ?_; clear hF; intro w9 b9 hF) | (refine TL.storeAtFr hF (f := ivc) (i := i * c + j) u rfl rfl rfl rfl (fun _ => rfl) (by rw [hzl]; exact hpl) (ivc_noV zl) (by repeat (first | apply SetV.head | apply SetV.tail)) ?_; clear hF; intro ws hF)) | (refine TF.is ?_; first | refine TF.nil ?_ | refine TF.e rfl ?_ | (refine TF.pick rfl ?_; first | (apply TFo.ev; (case hd => rfl); (case h => (intro wh hF; first | exact ev_simple rfl | (apply Ev.isBin; first | exact ev_arN rfl rfl rfl (by omega)) | (apply Ev.isLoad; first | exact ev_loadFr hF rfl (by refine ⟨?_, ?_⟩; (focus (repeat (first | exact InV.head | apply InV.tail))); rfl) | exact ev_loadAFr hF rfl (by refine ⟨?_, ?_⟩; (focus (repeat (first | exact InV.head | apply InV.tail))); rfl)) | exact ev_fieldAddr rfl | exact ev_indexM rfl rfl hpl (.inr rfl)))))) | (refine T.is ?_; first | refine T.seq ?_ | refine T.region ?_ | refine T.block ?_ | refine T.cond_t rfl ?_ | refine T.cond_f rfl ?_ | refine T.skip ?_ | (refine T.regionFr hF 18 10 (.s 0 (.s 1 (.s 2 (.s 3 (.s 4 (.s 5 (.s 6 (.s 7 (.e 8 (.s 9 (.e 10 .nil))))))))))) mixed (by kernel_rfl) ?_; clear hF; intro wr hF)) | (refine G.is ?_; first | refine G.next ?_ | refine G.blockN ?_ | refine G.only ?_ | refine G.treeEnd rfl ?_ | refine G.tree rfl (by first | exact hF | exact hF.weak (by repeat (first | exact List.Sublist.refl _ | apply List.Sublist.cons)) (by repeat (first | exact allR | apply allT)) | exact hF.weak (by repeat (first | exact List.Sublist.refl _ | apply List.Sublist.cons)) (by repeat (first | exact allN | refine allH (by repeat (first | exact memH | apply memT)) ?_))) ?_) | refine TL.nil ?_)
        have hval : zAt s F c (i * c + j) = ival ⟨yneg, ⟨yA, yn, yc, yl⟩⟩ := by
          unfold zAt; rw [(divmod_at hjn).1, (divmod_at hjn).2, hsF]
          rw [hyv]; simp only [hsi, hsj]; (by_cases h : i = J <;> simp [h])
        have hk := (Fr.lk hF (i := r * c) (l := zl) (by repeat (first | exact memH | apply memT))).setAt (Z' := upZ (i * c + j + 1) (zAt s F c)) (u := u) (q := i * c + j) (by omega) (by rw [upZ_succ, hval]; exact Fr.li hF (by repeat (first | exact memH | apply memT))) (by omega) (fun p hp => upZ_ne hp)
        exact G.again (j + 1, zl.set (i * c + j) u) (by repeat (first | exact Sub.nil _ | refine Sub.cons rfl ?_ | refine Sub.cons' rfl (int_congr (by omega)) ?_)) ⟨by dsimp only; omega, by rw [List.length_set]; exact hzl, (Fr.addLK hF hk).weak (.cons _ (.refl _)) (allH (by repeat (first | exact memH | apply memT)) (allH (by repeat (first | exact memH | apply memT)) (allH (by repeat (first | exact memH | apply memT)) allN)))⟩ (by dsimp only; omega)
      · by_cases hJ : i = J
        · subst hJ
          obtain ⟨⟨yneg, ⟨yA, yn, yc, yl⟩⟩, hy, gy, hyn, hyv⟩ := (Fr.lm hF (x := ⟨r, c, A, r * c, k, l⟩) (by repeat (first | exact memH | apply memT))).load (i := I) (j := j) (by omega) hjn
          dsimp only at hy hyn
          have hpf := place_lt (i := I) (j := j) (r := r) (c := c) (by omega) hjn
          replace hF := Fr.addGI hF gy
          clear gy
          repeat' (first | (refine TL.isOp ?_; first | (refine TL.isG ?_; first | refine TL.grun rfl rfl rfl ?_ | refine TL.gskip rfl rfl rfl rfl ?_) | (refine TL.isCall ?_; refine TL.call rfl rfl ?_; first | (refine (r5least_t _ ⟨yneg, ⟨yA, yn, yc, yl⟩⟩ (Fr.gi hF (by repeat (first | exact memH | apply memT))) (by dsimp only; omega)).mono ?_; rintro _ wl ⟨u, rfl, hLu, hE, hKu⟩; dsimp only at hKu; replace hF := Fr.addLI (hF.exts hE) hLu; clear hE hLu; refine Back.mk ?_)) | (refine TL.isBin ?_; refine TL.cmpG rfl rfl rfl rfl (fun hc => ?_) (fun hc => ?_) <;> (try (first | (exfalso; omega) | exact absurd rfl hc))) | (apply TL.ev; (case hd => rfl); (case h => (first | exact ev_simple rfl | (apply Ev.isBin; first | exact ev_arN rfl rfl rfl (by omega)) | (apply Ev.isLoad; first | exact ev_loadFr hF rfl (by refine ⟨?_, ?_⟩; (focus (repeat (first | exact InV.head | apply InV.tail))); rfl) | exact ev_loadM rfl (Fr.lm hF (x := ⟨r, c, A, r * c, k, l⟩) (by repeat (first | exact memH | apply memT))).s hy) | exact ev_fieldAddr rfl | exact ev_indexM rfl rfl hpf ((Fr.lm hF (x := ⟨r, c, A, r * c, k, l⟩) (by repeat (first | exact memH | apply memT))).s.some)))) | (refine TL.storeAFr hF rfl rfl rfl rfl (by refine ⟨?_, ?_⟩; (focus (repeat (first | apply SetV.head | apply SetV.tail))); rfl) rfl ?_; clear hF; intro ws hF) | (refine TL.allocFr hF (d := 9) rfl rfl ?_; clear hF; intro w9 b9 hF) | (refine TL.storeAtFr hF (f := ivc) (i := i * c + j) u rfl rfl rfl rfl (fun _ => rfl) (by rw [hzl]; exact hpl) (ivc_noV zl) (by repeat (first | apply SetV.head | apply SetV.tail)) ?_; clear hF; intro ws hF)) | (refine TF.is ?_; first | refine TF.nil ?_ | refine TF.e rfl ?_ | (refine TF.pick rfl ?_; first | (apply TFo.ev; (case hd => rfl); (case h => (intro wh hF; first | exact ev_simple rfl | (apply Ev.isBin; first | exact ev_arN rfl rfl rfl (by omega)) | (apply Ev.isLoad; first | exact ev_loadFr hF rfl (by refine ⟨?_, ?_⟩; (focus (repeat (first | exact InV.head | apply InV.tail))); rfl) | exact ev_loadAFr hF rfl (by refine ⟨?_, ?_⟩; (focus (repeat (first | exact InV.head | apply InV.tail))); rfl)) | exact ev_fieldAddr rfl | exact ev_indexM rfl rfl hpl (.inr rfl)))))) | (refine T.is ?_; first | refine T.seq ?_ | refine T.region ?_ | refine T.block ?_ | refine T.cond_t rfl ?_ | refine T.cond_f rfl ?_ | refine T.skip ?_ | (refine T.regionFr hF 18 10 (.s 0 (.s 1 (.s 2 (.s 3 (.s 4 (.s 5 (.s 6 (.s 7 (.e 8 (.s 9 (.e 10 .nil))))))))))) mixed (by kernel_rfl) ?_; clear hF; intro wr hF)) | (refine G.is ?_; first | refine G.next ?_ | refine G.blockN ?_ | refine G.only ?_ | refine G.treeEnd rfl ?_ | refine G.tree rfl (by first | exact hF | exact hF.weak (by repeat (first | exact List.Sublist.refl _ | apply List.Sublist.cons)) (by repeat (first | exact allR | apply allT)) | exact hF.weak (by repeat (first | exact List.Sublist.refl _ | apply List.Sublist.cons)) (by repeat (first | exact allN | refine allH (by repeat (first | exact memH | apply memT)) ?_))) ?_) | refine TL.nil ?_)
          have hval : zAt s F c (i * c + j) = ival ⟨yneg, ⟨yA, yn, yc, yl⟩⟩ := by
            unfold zAt; rw [(divmod_at hjn).1, (divmod_at hjn).2, hsF]
            rw [hyv]; simp [hsi, hsj]
          have hk := (Fr.lk hF (i := r * c) (l := zl) (by repeat (first | exact memH | apply memT))).setAt (Z' := upZ (i * c + j + 1) (zAt s F c)) (u := u) (q := i * c + j) (by omega) (by rw [upZ_succ, hval]; exact Fr.li hF (by repeat (first | exact memH | apply memT))) (by omega) (fun p hp => upZ_ne hp)
          exact G.again (j + 1, zl.set (i * c + j) u) (by repeat (first | exact Sub.nil _ | refine Sub.cons rfl ?_ | refine Sub.cons' rfl (int_congr (by omega)) ?_)) ⟨by dsimp only; omega, by rw [List.length_set]; exact hzl, (Fr.addLK hF hk).weak (.cons _ (.refl _)) (allH (by repeat (first | exact memH | apply memT)) (allH (by repeat (first | exact memH | apply memT)) (allH (by repeat (first | exact memH | apply memT)) allN)))⟩ (by dsimp only; omega)
        · skip
          obtain ⟨⟨yneg, ⟨yA, yn, yc, yl⟩⟩, hy, gy, hyn, hyv⟩ := (Fr.lm hF (x := ⟨r, c, A, r * c, k, l⟩) (by repeat (first | exact memH | apply memT))).load (i := i) (j := j) (by omega) hjn
          dsimp only at hy hyn
          have hpf := place_lt (i := i) (j := j) (r := r) (c := c) (by omega) hjn
          replace hF := Fr.addGI hF gy
          clear gy
          repeat' (first | (refine TL.isOp ?_; first | (refine TL.isG ?_; first | refine TL.grun rfl rfl rfl ?_ | refine TL.gskip rfl rfl rfl rfl ?_) | (refine TL.isCall ?_; refine TL.call rfl rfl ?_; first | (refine (r5least_t _ ⟨yneg, ⟨yA, yn, yc, yl⟩⟩ (Fr.gi hF (by repeat (first | exact memH | apply memT))) (by dsimp only; omega)).mono ?_; rintro _ wl ⟨u, rfl, hLu, hE, hKu⟩; dsimp only at hKu; replace hF := Fr.addLI (hF.exts hE) hLu; clear hE hLu; refine Back.mk ?_)) | (refine TL.isBin ?_; refine TL.cmpG rfl rfl rfl rfl (fun hc => ?_) (fun hc => ?_) <;> (try (first | (exfalso; omega) | exact absurd rfl hc))) | (apply TL.ev; (case hd => rfl); (case h => (first | exact ev_simple rfl | (apply Ev.isBin; first | exact ev_arN rfl rfl rfl (by omega)) | (apply Ev.isLoad; first | exact ev_loadFr hF rfl (by refine ⟨?_, ?_⟩; (focus (repeat (first | exact InV.head | apply InV.tail))); rfl) | exact ev_loadM rfl (Fr.lm hF (x := ⟨r, c, A, r * c, k, l⟩) (by repeat (first | exact memH | apply memT))).s hy) | exact ev_fieldAddr rfl | exact ev_indexM rfl rfl hpf ((Fr.lm hF (x := ⟨r, c, A, r * c, k, l⟩) (by repeat (first | exact memH | apply memT))).s.some)))) | (refine TL.storeAFr hF rfl rfl rfl rfl (by refine ⟨?_, ?_⟩; (focus (repeat (first | apply SetV.head | apply SetV.tail))); rfl) rfl ?_; clear hF; intro ws hF) | (refine TL.allocFr hF (d := 9) rfl rfl ?_; clear hF; intro w9 b9 hF) | (refine TL.storeAtFr hF (f := ivc) (i := i * c + j) u rfl rfl rfl rfl (fun _ => rfl) (by rw [hzl]; exact hpl) (ivc_noV zl) (by repeat (first | apply SetV.head | apply SetV.tail)) ?_; clear hF; intro ws hF)) | (refine TF.is ?_; first | refine TF.nil ?_ | refine TF.e rfl ?_ | (refine TF.pick rfl ?_; first | (apply TFo.ev; (case hd => rfl); (case h => (intro wh hF; first | exact ev_simple rfl | (apply Ev.isBin; first | exact ev_arN rfl rfl rfl (by omega)) | (apply Ev.isLoad; first | exact ev_loadFr hF rfl (by refine ⟨?_, ?_⟩; (focus (repeat (first | exact InV.head | apply InV.tail))); rfl) | exact ev_loadAFr hF rfl (by refine ⟨?_, ?_⟩; (focus (repeat (first | exact InV.head | apply InV.tail))); rfl)) | exact ev_fieldAddr rfl | exact ev_indexM rfl rfl hpl (.inr rfl)))))) | (refine T.is ?_; first | refine T.seq ?_ | refine T.region ?_ | refine T.block ?_ | refine T.cond_t rfl ?_ | refine T.cond_f rfl ?_ | refine T.skip ?_ | (refine T.regionFr hF 18 10 (.s 0 (.s 1 (.s 2 (.s 3 (.s 4 (.s 5 (.s 6 (.s 7 (.e 8 (.s 9 (.e 10 .nil))))))))))) mixed (by kernel_rfl) ?_; clear hF; intro wr hF)) | (refine G.is ?_; first | refine G.next ?_ | refine G.blockN ?_ | refine G.only ?_ | refine G.treeEnd rfl ?_ | refine G.tree rfl (by first | exact hF | exact hF.weak (by repeat (first | exact List.Sublist.refl _ | apply List.Sublist.cons)) (by repeat (first | exact allR | apply allT)) | exact hF.weak (by repeat (first | exact List.Sublist.refl _ | apply List.Sublist.cons)) (by repeat (first | exact allN | refine allH (by repeat (first | exact memH | apply memT)) ?_))) ?_) | refine TL.nil ?_)
          have hval : zAt s F c (i * c + j) = ival ⟨yneg, ⟨yA, yn, yc, yl⟩⟩ := by
            unfold zAt; rw [(divmod_at hjn).1, (divmod_at hjn).2, hsF]
            rw [hyv]; simp [hsi, hsj, hI, hJ]
          have hk := (Fr.lk hF (i := r * c) (l := zl) (by repeat (first | exact memH | apply memT))).setAt (Z' := upZ (i * c + j + 1) (zAt s F c)) (u := u) (q := i * c + j) (by omega) (by rw [upZ_succ, hval]; exact Fr.li hF (by repeat (first | exact memH | apply memT))) (by omega) (fun p hp => upZ_ne hp)
          exact G.again (j + 1, zl.set (i * c + j) u) (by repeat (first | exact Sub.nil _ | refine Sub.cons rfl ?_ | refine Sub.cons' rfl (int_congr (by omega)) ?_)) ⟨by dsimp only; omega, by rw [List.length_set]; exact hzl, (Fr.addLK hF hk).weak (.cons _ (.refl _)) (allH (by repeat (first | exact memH | apply memT)) (allH (by repeat (first | exact memH | apply memT)) (allH (by repeat (first | exact memH | apply memT)) allN)))⟩ (by dsimp only; omega)
    · obtain rfl : j = c := by omega
      repeat' (first | (refine TL.isOp ?_; first | (refine TL.isBin ?_; refine TL.cmpG rfl rfl rfl rfl (fun hc => ?_) (fun hc => ?_) <;> (try (first | (exfalso; omega) | exact absurd rfl hc))) | (apply TL.ev; (case hd => rfl); (case h => (first | exact ev_simple rfl | (apply Ev.isBin; first | exact ev_arN rfl rfl rfl (by omega)) | (apply Ev.isLoad; first | exact ev_loadFr hF rfl (by refine ⟨?_, ?_⟩; (focus (repeat (first | exact InV.head | apply InV.tail))); rfl)) | exact ev_fieldAddr rfl)))) | (refine T.is ?_; first | refine T.seq ?_ | refine T.region ?_ | refine T.cond_f rfl ?_ | refine T.exit ?_) | (refine G.is ?_; first | refine G.next ?_ | refine G.blockN ?_ | refine G.blockE ?_ | refine G.thenE ?_) | refine TL.nil ?_)
      exact G.again (i + 1, zl) (by repeat (first | exact Sub.nil _ | refine Sub.cons rfl ?_ | refine Sub.cons' rfl (int_congr (by omega)) ?_)) ⟨by dsimp only; omega, hzl, by dsimp only; rw [Nat.add_mul, Nat.one_mul]; exact hF⟩ (by dsimp only; omega)
  · obtain rfl : i = r := by omega
    repeat' (first | (refine TL.isOp ?_; first | (refine TL.isBin ?_; refine TL.cmpG rfl rfl rfl rfl (fun hc => ?_) (fun hc => ?_) <;> (try (first | (exfalso; omega) | exact absurd rfl hc))) | (apply TL.ev; (case hd => rfl); (case h => (first | exact ev_simple rfl | (apply Ev.isLoad; first | exact ev_loadFr hF rfl (by refine ⟨?_, ?_⟩; (focus (repeat (first | exact InV.head | apply InV.tail))); rfl)) | exact ev_fieldAddr rfl | exact ev_buildX rfl rfl))) | (refine TL.storeAFr hF rfl rfl rfl rfl (by refine ⟨?_, ?_⟩; (focus (repeat (first | apply SetV.head | apply SetV.tail))); rfl) rfl ?_; clear hF; intro ws hF)) | (refine T.is ?_; first | refine T.seq ?_ | refine T.region ?_ | refine T.cond_f rfl ?_ | refine T.exit ?_ | refine T.ret ?_) | (refine G.is ?_; first | refine G.next ?_ | refine G.blockE ?_ | refine G.thenE ?_) | refine TL.nil ?_)
    have hb := (hF.lo (b := b13) (by repeat (first | exact InV.head | apply InV.tail))).resolve_right id
    exact G.retC1 rfl rfl (held_agg (hF.var (by repeat (first | exact InV.head | apply InV.tail))) rfl) ⟨⟨i, c, some ⟨b13, 0, none⟩, i * c, i * c, zl⟩, rfl, lm_of (hF.var (by repeat (first | exact InV.head | apply InV.tail))) hzl hr hcc (Fr.lk hF (by repeat (first | exact memH | apply memT))) (fun a q ha hq => by rw [upZ_end (place_lt ha hq)]; unfold zAt; rw [(divmod_at hq).1, (divmod_at hq).2]), hF.ext, .inr ⟨b13, rfl, hb⟩⟩
set_option maxRecDepth 100000 in
set_option maxHeartbeats 2000000 in
theorem done2 (w : World) (x : MV) (r c K Kk : Nat) (F : Nat → Nat → Int) (s : SP) (hL : LM w.heap x r c F K) (gs : GI w.heap s.k) (hk : s.kind = 2) (hf : fits r s) (hKk : s.k.m.n ≤ Kk) (hKs : Kk ≤ 100000000) (hK : K ≤ 100000000) :
    Cl Tryz.prog 48 #[.agg (mvc x).toArray, .agg (spc s).toArray] w (RetM w r c (stepF s F) (Kk + K + 1)) := by
  obtain ⟨kd, si, sj, ⟨kn, ⟨kA, km, kc, kl⟩⟩⟩ := s
  dsimp only at hk gs hKk
  subst hk
  obtain ⟨xr, xc, A, n, k, l⟩ := x
  obtain ⟨h1, h2, hr, hcc, h5⟩ := id hL.sh
  dsimp only at h1 h2 h5
  subst h1 h2 h5
  have hm := mul64 hr hcc
  obtain ⟨a1, a2⟩ : 0 ≤ si ∧ si < (r : Int) := by
    rcases hf with ⟨h, _⟩ | ⟨_, h⟩ | ⟨h, _⟩
    · cases h
    · exact h
    · cases h
  obtain ⟨I, rfl⟩ := Int.eq_ofNat_of_zero_le a1
  clear hf
  obtain ⟨s, hs⟩ : ∃ s : SP, (⟨2, (I : Int), sj, ⟨kn, ⟨kA, km, kc, kl⟩⟩⟩ : SP) = s := ⟨_, rfl⟩
  have hsF := stepF_2 (s := s) (by rw [← hs]) F
  have hsi : s.i.toNat = I := by rw [← hs]; exact Int.toNat_natCast I
  have hgoal : stepF ⟨2, (I : Int), sj, ⟨kn, ⟨kA, km, kc, kl⟩⟩⟩ F = stepF s F := by rw [hs]
  rw [hgoal]
  clear hgoal hs
  refine enter Tryz.func48 rfl rfl rfl ?_
  have hF := Fr.addGI ((Fr.refl w).add (dpLM ⟨r, c, A, r * c, k, l⟩ r c F K) (by unfold dpLM; exact hL) (fun _ h => (by cases h))) gs
  clear hL gs
  repeat' (first | (refine TL.isOp ?_; first | (apply TL.ev; (case hd => rfl); (case h => (first | exact ev_simple rfl | (apply Ev.isLoad; first | exact ev_loadFr hF rfl (by refine ⟨?_, ?_⟩; (focus (repeat (first | exact InV.head | apply InV.tail))); rfl)) | exact ev_len rfl | exact ev_fieldAddr rfl))) | (refine TL.boxAFr hF (d := 2) (cs := [.int .i64 (r : Int), .int .i64 (c : Int), .slice A (r * c) k]) rfl rfl ?_; clear hF; intro w2 b2 hF) | (refine TL.boxAFr hF (d := 3) (cs := [.int .i64 2, .int .i64 (I : Int), .int .i64 sj, .bool kn, .slice kA km kc]) rfl rfl ?_; clear hF; intro w3 b3 hF) | (refine TL.allocFr hF (d := 4) rfl rfl ?_; clear hF; intro w4 b4 hF) | (refine TL.makeFr hF ivc nought (d := 13) rfl rfl rfl (Nat.le_refl _) (by omega) rfl rfl rfl ?_; clear hF; intro w13 b13 hF)) | (refine T.is ?_; first | refine T.seq ?_ | refine T.region ?_ | refine T.block ?_) | (refine G.is ?_; first | refine G.next ?_) | refine TL.nil ?_)
  refine T.loop (α := Nat × List IV) (fun x => [(2, .pointer (some ⟨b2, 0, none⟩)), (3, .pointer (some ⟨b3, 0, none⟩)), (4, .pointer (some ⟨b4, 0, none⟩)), (5, .slice (some ⟨b13, 0, none⟩) (r * c) (r * c)), (6, .int .i64 (x.1 : Int))])
    (fun x w' => x.1 ≤ r ∧ x.2.length = r * c ∧ Fr w w' [⟨b13, 51, x.2.flatMap ivc⟩, ⟨b4, 24, [.int .i64 0, .int .i64 0, .slice none 0 0]⟩, ⟨b3, 53, [.int .i64 2, .int .i64 (I : Int), .int .i64 sj, .bool kn, .slice kA km kc]⟩, ⟨b2, 24, [.int .i64 (r : Int), .int .i64 (c : Int), .slice A (r * c) k]⟩] [dpLK (r * c) x.2 (upZ (x.1 * c) (zAt s F c)) (Kk + K + 1), dpLM ⟨r, c, A, r * c, k, l⟩ r c F K, dpGI ⟨kn, ⟨kA, km, kc, kl⟩⟩])
    (fun x => r - x.1) (0, List.replicate (r * c) nought) (by repeat (first | exact Sub.nil _ | refine Sub.cons rfl ?_ | refine Sub.cons' rfl (int_congr (by omega)) ?_)) ⟨Nat.zero_le _, List.length_replicate .., (Fr.addLK hF ((lk_zeros _ (r * c) (Kk + K + 1)).congr (Z' := upZ (0 * c) (zAt s F c)) fun q _ => by unfold upZ; rw [Nat.zero_mul, if_neg (Nat.not_lt_zero _)])).weak (.refl _) (allH (by repeat (first | exact memH | apply memT)) (allH (by repeat (first | exact memH | apply memT)) (allH (by repeat (first | exact memH | apply memT)) allN)))⟩ ?_
  clear hF
  rintro ⟨i, zl⟩ w2 ⟨hi, hzl, hF⟩
  dsimp only at hi hzl hF ⊢
  rcases Nat.lt_or_ge i r with hin | hin
  · repeat' (first | (refine TL.isOp ?_; first | (refine TL.isBin ?_; refine TL.cmpG rfl rfl rfl rfl (fun hc => ?_) (fun hc => ?_) <;> (try (first | (exfalso; omega) | exact absurd rfl hc))) | (apply TL.ev; (case hd => rfl); (case h => (first | exact ev_simple rfl | (apply Ev.isLoad; first | exact ev_loadFr hF rfl (by refine ⟨?_, ?_⟩; (focus (repeat (first | exact InV.head | apply InV.tail))); rfl)) | exact ev_fieldAddr rfl)))) | (refine T.is ?_; first | refine T.seq ?_ | refine T.region ?_ | refine T.block ?_ | refine T.cond_t rfl ?_ | refine T.skip ?_) | (refine G.is ?_; first | refine G.next ?_) | refine TL.nil ?_)
    refine T.loop (α := Nat × List IV) (fun x => [(2, .pointer (some ⟨b2, 0, none⟩)), (3, .pointer (some ⟨b3, 0, none⟩)), (4, .pointer (some ⟨b4, 0, none⟩)), (5, .slice (some ⟨b13, 0, none⟩) (r * c) (r * c)), (6, .int .i64 (i : Int)), (7, .int .i64 (x.1 : Int))])
      (fun x w' => x.1 ≤ c ∧ x.2.length = r * c ∧ Fr w w' [⟨b13, 51, x.2.flatMap ivc⟩, ⟨b4, 24, [.int .i64 0, .int .i64 0, .slice none 0 0]⟩, ⟨b3, 53, [.int .i64 2, .int .i64 (I : Int), .int .i64 sj, .bool kn, .slice kA km kc]⟩, ⟨b2, 24, [.int .i64 (r : Int), .int .i64 (c : Int), .slice A (r * c) k]⟩] [dpLK (r * c) x.2 (upZ (i * c + x.1) (zAt s F c)) (Kk + K + 1), dpLM ⟨r, c, A, r * c, k, l⟩ r c F K, dpGI ⟨kn, ⟨kA, km, kc, kl⟩⟩])
      (fun x => c - x.1) (0, zl) (by repeat (first | exact Sub.nil _ | refine Sub.cons rfl ?_ | refine Sub.cons' rfl (int_congr (by omega)) ?_)) ⟨Nat.zero_le _, hzl, hF⟩ ?_
    clear hF hzl
    clear zl
    rintro ⟨j, zl⟩ w3 ⟨hj, hzl, hF⟩
    dsimp only at hj hzl hF ⊢
    rcases Nat.lt_or_ge j c with hjn | hjn
    · have hpl := place_lt hin hjn
      by_cases hI : i = I
      · subst hI
        obtain ⟨⟨yneg, ⟨yA, yn, yc, yl⟩⟩, hy, gy, hyn, hyv⟩ := (Fr.lm hF (x := ⟨r, c, A, r * c, k, l⟩) (by repeat (first | exact memH | apply memT))).load (i := i) (j := j) (by omega) hjn
        dsimp only at hy hyn
        have hpf := place_lt (i := i) (j := j) (r := r) (c := c) (by omega) hjn
        replace hF := Fr.addGI hF gy
        clear gy
        repeat' (first | (refine TL.isOp ?_; first | (refine TL.isG ?_; first | refine TL.grun rfl rfl rfl ?_ | refine TL.gskip rfl rfl rfl rfl ?_) | (refine TL.isCall ?_; refine TL.call rfl rfl ?_; first | (refine (r5neg_ok _ ⟨yneg, ⟨yA, yn, yc, yl⟩⟩ (Fr.gi hF (by repeat (first | exact memH | apply memT))) (by dsimp only; omega)).mono ?_; rintro _ wn ⟨⟨vneg, ⟨vA, vn, vc, vl⟩⟩, rfl, hLv, hE, hKv⟩; dsimp only at hKv; have hvv := hLv.val; replace hF := Fr.addGI (hF.exts hE) hLv.g; clear hE hLv; refine Back.mk ?_) | (refine (r5least_t _ ⟨vneg, ⟨vA, vn, vc, vl⟩⟩ (Fr.gi hF (by repeat (first | exact memH | apply memT))) (by dsimp only; omega)).mono ?_; rintro _ wl ⟨u, rfl, hLu, hE, hKu⟩; dsimp only at hKu; replace hF := Fr.addLI (hF.exts hE) hLu; clear hE hLu; refine Back.mk ?_)) | (refine TL.isBin ?_; refine TL.cmpG rfl rfl rfl rfl (fun hc => ?_) (fun hc => ?_) <;> (try (first | (exfalso; omega) | exact absurd rfl hc))) | (apply TL.ev; (case hd => rfl); (case h => (first | exact ev_simple rfl | (apply Ev.isBin; first | exact ev_arN rfl rfl rfl (by omega)) | (apply Ev.isLoad; first | exact ev_loadFr hF rfl (by refine ⟨?_, ?_⟩; (focus (repeat (first | exact InV.head | apply InV.tail))); rfl) | exact ev_loadAFr hF rfl (by refine ⟨?_, ?_⟩; (focus (repeat (first | exact InV.head | apply InV.tail))); rfl) | exact ev_loadM rfl (Fr.lm hF (x := ⟨r, c, A, r * c, k, l⟩) (by repeat (first | exact memH | apply memT))).s hy) | exact ev_fieldAddr rfl | exact ev_indexM rfl rfl hpf ((Fr.lm hF (x := ⟨r, c, A, r * c, k, l⟩) (by repeat (first | exact memH | apply memT))).s.some)))) | (refine TL.storeAFr hF rfl rfl rfl rfl (by refine ⟨?_, ?_⟩; (focus (repeat (first | apply SetV.head | apply SetV.tail))); rfl) rfl ?_; clear hF; intro ws hF) | (refine TL.allocFr hF (d := 9) rfl rfl ?_; clear hF; intro w9 b9 hF) | (refine TL.storeAtFr hF (f := ivc) (i := i * c + j) u rfl rfl rfl rfl (fun _ => rfl) (by rw [hzl]; exact hpl) (ivc_noV zl) (by repeat (first | apply SetV.head | apply SetV.tail)) ?_; clear hF; intro ws hF)) | (refine TF.is ?_; first | refine TF.nil ?_ | refine TF.e rfl ?_ | (refine TF.pick rfl ?_; first | (apply TFo.ev; (case hd => rfl); (case h => (intro wh hF; first | exact ev_simple rfl | (apply Ev.isBin; first | exact ev_arN rfl rfl rfl (by omega)) | (apply Ev.isLoad; first | exact ev_loadFr hF rfl (by refine ⟨?_, ?_⟩; (focus (repeat (first | exact InV.head | apply InV.tail))); rfl) | exact ev_loadAFr hF rfl (by refine ⟨?_, ?_⟩; (focus (repeat (first | exact InV.head | apply InV.tail))); rfl)) | exact ev_fieldAddr rfl | exact ev_indexM rfl rfl hpl (.inr rfl)))))) | (refine T.is ?_; first | refine T.seq ?_ | refine T.region ?_ | refine T.block ?_ | refine T.cond_t rfl ?_ | refine T.cond_f rfl ?_ | refine T.skip ?_ | (refine T.regionFr hF 18 10 (.s 0 (.s 1 (.s 2 (.s 3 (.s 4 (.s 5 (.s 6 (.s 7 (.e 8 (.s 9 (.e 10 .nil))))))))))) mixed (by kernel_rfl) ?_; clear hF; intro wr hF)) | (refine G.is ?_; first | refine G.next ?_ | refine G.blockN ?_ | refine G.only ?_ | refine G.treeEnd rfl ?_ | refine G.tree rfl (by first | exact hF | exact hF.weak (by repeat (first | exact List.Sublist.refl _ | apply List.Sublist.cons)) (by repeat (first | exact allR | apply allT)) | exact hF.weak (by repeat (first | exact List.Sublist.refl _ | apply List.Sublist.cons)) (by repeat (first | exact allN | refine allH (by repeat (first | exact memH | apply memT)) ?_))) ?_) | refine TL.nil ?_)
        have hval : zAt s F c (i * c + j) = ival ⟨vneg, ⟨vA, vn, vc, vl⟩⟩ := by
          unfold zAt; rw [(divmod_at hjn).1, (divmod_at hjn).2, hsF]
          rw [hvv, hyv]; simp [hsi]
        have hk := (Fr.lk hF (i := r * c) (l := zl) (by repeat (first | exact memH | apply memT))).setAt (Z' := upZ (i * c + j + 1) (zAt s F c)) (u := u) (q := i * c + j) (by omega) (by rw [upZ_succ, hval]; exact Fr.li hF (by repeat (first | exact memH | apply memT))) (by omega) (fun p hp => upZ_ne hp)
        exact G.again (j + 1, zl.set (i * c + j) u) (by repeat (first | exact Sub.nil _ | refine Sub.cons rfl ?_ | refine Sub.cons' rfl (int_congr (by omega)) ?_)) ⟨by dsimp only; omega, by rw [List.length_set]; exact hzl, (Fr.addLK hF hk).weak (.cons _ (.refl _)) (allH (by repeat (first | exact memH | apply memT)) (allH (by repeat (first | exact memH | apply memT)) (allH (by repeat (first | exact memH | apply memT)) allN)))⟩ (by dsimp only; omega)
      · skip
        obtain ⟨⟨yneg, ⟨yA, yn, yc, yl⟩⟩, hy, gy, hyn, hyv⟩ := (Fr.lm hF (x := ⟨r, c, A, r * c, k, l⟩) (by repeat (first | exact memH | apply memT))).load (i := i) (j := j) (by omega) hjn
        dsimp only at hy hyn
        have hpf := place_lt (i := i) (j := j) (r := r) (c := c) (by omega) hjn
        replace hF := Fr.addGI hF gy
        clear gy
        repeat' (first | (refine TL.isOp ?_; first | (refine TL.isG ?_; first | refine TL.grun rfl rfl rfl ?_ | refine TL.gskip rfl rfl rfl rfl ?_) | (refine TL.isCall ?_; refine TL.call rfl rfl ?_; first | (refine (r5least_t _ ⟨yneg, ⟨yA, yn, yc, yl⟩⟩ (Fr.gi hF (by repeat (first | exact memH | apply memT))) (by dsimp only; omega)).mono ?_; rintro _ wl ⟨u, rfl, hLu, hE, hKu⟩; dsimp only at hKu; replace hF := Fr.addLI (hF.exts hE) hLu; clear hE hLu; refine Back.mk ?_)) | (refine TL.isBin ?_; refine TL.cmpG rfl rfl rfl rfl (fun hc => ?_) (fun hc => ?_) <;> (try (first | (exfalso; omega) | exact absurd rfl hc))) | (apply TL.ev; (case hd => rfl); (case h => (first | exact ev_simple rfl | (apply Ev.isBin; first | exact ev_arN rfl rfl rfl (by omega)) | (apply Ev.isLoad; first | exact ev_loadFr hF rfl (by refine ⟨?_, ?_⟩; (focus (repeat (first | exact InV.head | apply InV.tail))); rfl) | exact ev_loadM rfl (Fr.lm hF (x := ⟨r, c, A, r * c, k, l⟩) (by repeat (first | exact memH | apply memT))).s hy) | exact ev_fieldAddr rfl | exact ev_indexM rfl rfl hpf ((Fr.lm hF (x := ⟨r, c, A, r * c, k, l⟩) (by repeat (first | exact memH | apply memT))).s.some)))) | (refine TL.storeAFr hF rfl rfl rfl rfl (by refine ⟨?_, ?_⟩; (focus (repeat (first | apply SetV.head | apply SetV.tail))); rfl) rfl ?_; clear hF; intro ws hF) | (refine TL.allocFr hF (d := 9) rfl rfl ?_; clear hF; intro w9 b9 hF) | (refine TL.storeAtFr hF (f := ivc) (i := i * c + j) u rfl rfl rfl rfl (fun _ => rfl) (by rw [hzl]; exact hpl) (ivc_noV zl) (by repeat (first | apply SetV.head | apply SetV.tail)) ?_; clear hF; intro ws hF)) | (refine TF.is ?_; first | refine TF.nil ?_ | refine TF.e rfl ?_ | (refine TF.pick rfl ?_; first | (apply TFo.ev; (case hd => rfl); (case h => (intro wh hF; first | exact ev_simple rfl | (apply Ev.isBin; first | exact ev_arN rfl rfl rfl (by omega)) | (apply Ev.isLoad; first | exact ev_loadFr hF rfl (by refine ⟨?_, ?_⟩; (focus (repeat (first | exact InV.head | apply InV.tail))); rfl) | exact ev_loadAFr hF rfl (by refine ⟨?_, ?_⟩; (focus (repeat (first | exact InV.head | apply InV.tail))); rfl)) | exact ev_fieldAddr rfl | exact ev_indexM rfl rfl hpl (.inr rfl)))))) | (refine T.is ?_; first | refine T.seq ?_ | refine T.region ?_ | refine T.block ?_ | refine T.cond_t rfl ?_ | refine T.cond_f rfl ?_ | refine T.skip ?_ | (refine T.regionFr hF 18 10 (.s 0 (.s 1 (.s 2 (.s 3 (.s 4 (.s 5 (.s 6 (.s 7 (.e 8 (.s 9 (.e 10 .nil))))))))))) mixed (by kernel_rfl) ?_; clear hF; intro wr hF)) | (refine G.is ?_; first | refine G.next ?_ | refine G.blockN ?_ | refine G.only ?_ | refine G.treeEnd rfl ?_ | refine G.tree rfl (by first | exact hF | exact hF.weak (by repeat (first | exact List.Sublist.refl _ | apply List.Sublist.cons)) (by repeat (first | exact allR | apply allT)) | exact hF.weak (by repeat (first | exact List.Sublist.refl _ | apply List.Sublist.cons)) (by repeat (first | exact allN | refine allH (by repeat (first | exact memH | apply memT)) ?_))) ?_) | refine TL.nil ?_)
        have hval : zAt s F c (i * c + j) = ival ⟨yneg, ⟨yA, yn, yc, yl⟩⟩ := by
          unfold zAt; rw [(divmod_at hjn).1, (divmod_at hjn).2, hsF]
          rw [hyv]; simp [hsi, hI]
        have hk := (Fr.lk hF (i := r * c) (l := zl) (by repeat (first | exact memH | apply memT))).setAt (Z' := upZ (i * c + j + 1) (zAt s F c)) (u := u) (q := i * c + j) (by omega) (by rw [upZ_succ, hval]; exact Fr.li hF (by repeat (first | exact memH | apply memT))) (by omega) (fun p hp => upZ_ne hp)
        exact G.again (j + 1, zl.set (i * c + j) u) (by repeat (first | exact Sub.nil _ | refine Sub.cons rfl ?_ | refine Sub.cons' rfl (int_congr (by omega)) ?_)) ⟨by dsimp only; omega, by rw [List.length_set]; exact hzl, (Fr.addLK hF hk).weak (.cons _ (.refl _)) (allH (by repeat (first | exact memH | apply memT)) (allH (by repeat (first | exact memH | apply memT)) (allH (by repeat (first | exact memH | apply memT)) allN)))⟩ (by dsimp only; omega)
    · obtain rfl : j = c := by omega
      repeat' (first | (refine TL.isOp ?_; first | (refine TL.isBin ?_; refine TL.cmpG rfl rfl rfl rfl (fun hc => ?_) (fun hc => ?_) <;> (try (first | (exfalso; omega) | exact absurd rfl hc))) | (apply TL.ev; (case hd => rfl); (case h => (first | exact ev_simple rfl | (apply Ev.isBin; first | exact ev_arN rfl rfl rfl (by omega)) | (apply Ev.isLoad; first | exact ev_loadFr hF rfl (by refine ⟨?_, ?_⟩; (focus (repeat (first | exact InV.head | apply InV.tail))); rfl)) | exact ev_fieldAddr rfl)))) | (refine T.is ?_; first | refine T.seq ?_ | refine T.region ?_ | refine T.cond_f rfl ?_ | refine T.exit ?_) | (refine G.is ?_; first | refine G.next ?_ | refine G.blockN ?_ | refine G.blockE ?_ | refine G.thenE ?_) | refine TL.nil ?_)
      exact G.again (i + 1, zl) (by repeat (first | exact Sub.nil _ | refine Sub.cons rfl ?_ | refine Sub.cons' rfl (int_congr (by omega)) ?_)) ⟨by dsimp only; omega, hzl, by dsimp only; rw [Nat.add_mul, Nat.one_mul]; exact hF⟩ (by dsimp only; omega)
  · obtain rfl : i = r := by omega
    repeat' (first | (refine TL.isOp ?_; first | (refine TL.isBin ?_; refine TL.cmpG rfl rfl rfl rfl (fun hc => ?_) (fun hc => ?_) <;> (try (first | (exfalso; omega) | exact absurd rfl hc))) | (apply TL.ev; (case hd => rfl); (case h => (first | exact ev_simple rfl | (apply Ev.isLoad; first | exact ev_loadFr hF rfl (by refine ⟨?_, ?_⟩; (focus (repeat (first | exact InV.head | apply InV.tail))); rfl)) | exact ev_fieldAddr rfl | exact ev_buildX rfl rfl))) | (refine TL.storeAFr hF rfl rfl rfl rfl (by refine ⟨?_, ?_⟩; (focus (repeat (first | apply SetV.head | apply SetV.tail))); rfl) rfl ?_; clear hF; intro ws hF)) | (refine T.is ?_; first | refine T.seq ?_ | refine T.region ?_ | refine T.cond_f rfl ?_ | refine T.exit ?_ | refine T.ret ?_) | (refine G.is ?_; first | refine G.next ?_ | refine G.blockE ?_ | refine G.thenE ?_) | refine TL.nil ?_)
    have hb := (hF.lo (b := b13) (by repeat (first | exact InV.head | apply InV.tail))).resolve_right id
    exact G.retC1 rfl rfl (held_agg (hF.var (by repeat (first | exact InV.head | apply InV.tail))) rfl) ⟨⟨i, c, some ⟨b13, 0, none⟩, i * c, i * c, zl⟩, rfl, lm_of (hF.var (by repeat (first | exact InV.head | apply InV.tail))) hzl hr hcc (Fr.lk hF (by repeat (first | exact memH | apply memT))) (fun a q ha hq => by rw [upZ_end (place_lt ha hq)]; unfold zAt; rw [(divmod_at hq).1, (divmod_at hq).2]), hF.ext, .inr ⟨b13, rfl, hb⟩⟩
set_option maxRecDepth 100000 in
set_option maxHeartbeats 2000000 in
theorem done3 (w : World) (x : MV) (r c K Kk : Nat) (F : Nat → Nat → Int) (s : SP) (hL : LM w.heap x r c F K) (gs : GI w.heap s.k) (hk : s.kind = 3) (hf : fits r s) (hKk : s.k.m.n ≤ Kk) (hKs : Kk ≤ 100000000) (hK : K ≤ 100000000) :
    Cl Tryz.prog 48 #[.agg (mvc x).toArray, .agg (spc s).toArray] w (RetM w r c (stepF s F) (Kk + K + 1)) := by
  obtain ⟨kd, si, sj, ⟨kn, ⟨kA, km, kc, kl⟩⟩⟩ := s
  dsimp only at hk gs hKk
  subst hk
  obtain ⟨xr, xc, A, n, k, l⟩ := x
  obtain ⟨h1, h2, hr, hcc, h5⟩ := id hL.sh
  dsimp only at h1 h2 h5
  subst h1 h2 h5
  have hm := mul64 hr hcc
  obtain ⟨⟨a1, a2⟩, ⟨b1, b2⟩, hne⟩ : (0 ≤ si ∧ si < (r : Int)) ∧ (0 ≤ sj ∧ sj < (r : Int)) ∧ si ≠ sj := by
    rcases hf with ⟨h, _⟩ | ⟨h, _⟩ | ⟨_, h⟩
    · cases h
    · cases h
    · exact h
  obtain ⟨I, rfl⟩ := Int.eq_ofNat_of_zero_le a1
  obtain ⟨J, rfl⟩ := Int.eq_ofNat_of_zero_le b1
  clear hf
  obtain ⟨s, hs⟩ : ∃ s : SP, (⟨3, (I : Int), (J : Int), ⟨kn, ⟨kA, km, kc, kl⟩⟩⟩ : SP) = s := ⟨_, rfl⟩
  have hsF := stepF_3 (s := s) (by rw [← hs]) F
  have hsi : s.i.toNat = I := by rw [← hs]; exact Int.toNat_natCast I
  have hsj : s.j.toNat = J := by rw [← hs]; exact Int.toNat_natCast J
  have hsk : ival s.k = ival ⟨kn, ⟨kA, km, kc, kl⟩⟩ := by rw [← hs]
  have hgoal : stepF ⟨3, (I : Int), (J : Int), ⟨kn, ⟨kA, km, kc, kl⟩⟩⟩ F = stepF s F := by rw [hs]
  rw [hgoal]
  clear hgoal hs
  refine enter Tryz.func48 rfl rfl rfl ?_
  have hF := Fr.addGI ((Fr.refl w).add (dpLM ⟨r, c, A, r * c, k, l⟩ r c F K) (by unfold dpLM; exact hL) (fun _ h => (by cases h))) gs
  clear hL gs
  repeat' (first | (refine TL.isOp ?_; first | (apply TL.ev; (case hd => rfl); (case h => (first | exact ev_simple rfl | (apply Ev.isLoad; first | exact ev_loadFr hF rfl (by refine ⟨?_, ?_⟩; (focus (repeat (first | exact InV.head | apply InV.tail))); rfl)) | exact ev_len rfl | exact ev_fieldAddr rfl))) | (refine TL.boxAFr hF (d := 2) (cs := [.int .i64 (r : Int), .int .i64 (c : Int), .slice A (r * c) k]) rfl rfl ?_; clear hF; intro w2 b2 hF) | (refine TL.boxAFr hF (d := 3) (cs := [.int .i64 3, .int .i64 (I : Int), .int .i64 (J : Int), .bool kn, .slice kA km kc]) rfl rfl ?_; clear hF; intro w3 b3 hF) | (refine TL.allocFr hF (d := 4) rfl rfl ?_; clear hF; intro w4 b4 hF) | (refine TL.makeFr hF ivc nought (d := 13) rfl rfl rfl (Nat.le_refl _) (by omega) rfl rfl rfl ?_; clear hF; intro w13 b13 hF)) | (refine T.is ?_; first | refine T.seq ?_ | refine T.region ?_ | refine T.block ?_) | (refine G.is ?_; first | refine G.next ?_) | refine TL.nil ?_)
  refine T.loop (α := Nat × List IV) (fun x => [(2, .pointer (some ⟨b2, 0, none⟩)), (3, .pointer (some ⟨b3, 0, none⟩)), (4, .pointer (some ⟨b4, 0, none⟩)), (5, .slice (some ⟨b13, 0, none⟩) (r * c) (r * c)), (6, .int .i64 (x.1 : Int))])
    (fun x w' => x.1 ≤ r ∧ x.2.length = r * c ∧ Fr w w' [⟨b13, 51, x.2.flatMap ivc⟩, ⟨b4, 24, [.int .i64 0, .int .i64 0, .slice none 0 0]⟩, ⟨b3, 53, [.int .i64 3, .int .i64 (I : Int), .int .i64 (J : Int), .bool kn, .slice kA km kc]⟩, ⟨b2, 24, [.int .i64 (r : Int), .int .i64 (c : Int), .slice A (r * c) k]⟩] [dpLK (r * c) x.2 (upZ (x.1 * c) (zAt s F c)) (Kk + K + 1), dpLM ⟨r, c, A, r * c, k, l⟩ r c F K, dpGI ⟨kn, ⟨kA, km, kc, kl⟩⟩])
    (fun x => r - x.1) (0, List.replicate (r * c) nought) (by repeat (first | exact Sub.nil _ | refine Sub.cons rfl ?_ | refine Sub.cons' rfl (int_congr (by omega)) ?_)) ⟨Nat.zero_le _, List.length_replicate .., (Fr.addLK hF ((lk_zeros _ (r * c) (Kk + K + 1)).congr (Z' := upZ (0 * c) (zAt s F c)) fun q _ => by unfold upZ; rw [Nat.zero_mul, if_neg (Nat.not_lt_zero _)])).weak (.refl _) (allH (by repeat (first | exact memH | apply memT)) (allH (by repeat (first | exact memH | apply memT)) (allH (by repeat (first | exact memH | apply memT)) allN)))⟩ ?_
  clear hF
  rintro ⟨i, zl⟩ w2 ⟨hi, hzl, hF⟩
  dsimp only at hi hzl hF ⊢
  rcases Nat.lt_or_ge i r with hin | hin
  · repeat' (first | (refine TL.isOp ?_; first | (refine TL.isBin ?_; refine TL.cmpG rfl rfl rfl rfl (fun hc => ?_) (fun hc => ?_) <;> (try (first | (exfalso; omega) | exact absurd rfl hc))) | (apply TL.ev; (case hd => rfl); (case h => (first | exact ev_simple rfl | (apply Ev.isLoad; first | exact ev_loadFr hF rfl (by refine ⟨?_, ?_⟩; (focus (repeat (first | exact InV.head | apply InV.tail))); rfl)) | exact ev_fieldAddr rfl)))) | (refine T.is ?_; first | refine T.seq ?_ | refine T.region ?_ | refine T.block ?_ | refine T.cond_t rfl ?_ | refine T.skip ?_) | (refine G.is ?_; first | refine G.next ?_) | refine TL.nil ?_)
    refine T.loop (α := Nat × List IV) (fun x => [(2, .pointer (some ⟨b2, 0, none⟩)), (3, .pointer (some ⟨b3, 0, none⟩)), (4, .pointer (some ⟨b4, 0, none⟩)), (5, .slice (some ⟨b13, 0, none⟩) (r * c) (r * c)), (6, .int .i64 (i : Int)), (7, .int .i64 (x.1 : Int))])
      (fun x w' => x.1 ≤ c ∧ x.2.length = r * c ∧ Fr w w' [⟨b13, 51, x.2.flatMap ivc⟩, ⟨b4, 24, [.int .i64 0, .int .i64 0, .slice none 0 0]⟩, ⟨b3, 53, [.int .i64 3, .int .i64 (I : Int), .int .i64 (J : Int), .bool kn, .slice kA km kc]⟩, ⟨b2, 24, [.int .i64 (r : Int), .int .i64 (c : Int), .slice A (r * c) k]⟩] [dpLK (r * c) x.2 (upZ (i * c + x.1) (zAt s F c)) (Kk + K + 1), dpLM ⟨r, c, A, r * c, k, l⟩ r c F K, dpGI ⟨kn, ⟨kA, km, kc, kl⟩⟩])
      (fun x => c - x.1) (0, zl) (by repeat (first | exact Sub.nil _ | refine Sub.cons rfl ?_ | refine Sub.cons' rfl (int_congr (by omega)) ?_)) ⟨Nat.zero_le _, hzl, hF⟩ ?_
    clear hF hzl
    clear zl
    rintro ⟨j, zl⟩ w3 ⟨hj, hzl, hF⟩
    dsimp only at hj hzl hF ⊢
    rcases Nat.lt_or_ge j c with hjn | hjn
    · have hpl := place_lt hin hjn
      by_cases hI : i = I
      · subst hI
        obtain ⟨⟨yneg, ⟨yA, yn, yc, yl⟩⟩, hy, gy, hyn, hyv⟩ := (Fr.lm hF (x := ⟨r, c, A, r * c, k, l⟩) (by repeat (first | exact memH | apply memT))).load (i := i) (j := j) (by omega) hjn
        dsimp only at hy hyn
        have hpf := place_lt (i := i) (j := j) (r := r) (c := c) (by omega) hjn
        replace hF := Fr.addGI hF gy
        clear gy
        obtain ⟨⟨zneg, ⟨zA, zn, zc, zl2⟩⟩, hz, gz, hzn, hzv⟩ := (Fr.lm hF (x := ⟨r, c, A, r * c, k, l⟩) (by repeat (first | exact memH | apply memT))).load (i := J) (j := j) (by omega) hjn
        dsimp only at hz hzn
        have hpj := place_lt (i := J) (j := j) (r := r) (c := c) (by omega) hjn
        replace hF := Fr.addGI hF gz
        clear gz
        repeat' (first | (refine TL.isOp ?_; first | (refine TL.isG ?_; first | refine TL.grun rfl rfl rfl ?_ | refine TL.gskip rfl rfl rfl rfl ?_) | (refine TL.isCall ?_; refine TL.call rfl rfl ?_; first | (refine (r5mulAdd_ok _ ⟨kn, ⟨kA, km, kc, kl⟩⟩ ⟨zneg, ⟨zA, zn, zc, zl2⟩⟩ ⟨yneg, ⟨yA, yn, yc, yl⟩⟩ (Fr.gi hF (by repeat (first | exact memH | apply memT))) (Fr.gi hF (by repeat (first | exact memH | apply memT))) (Fr.gi hF (by repeat (first | exact memH | apply memT))) (by dsimp only; omega) (by dsimp only; omega) (by dsimp only; omega)).mono ?_; rintro _ wn ⟨⟨vneg, ⟨vA, vn, vc, vl⟩⟩, rfl, hLv, hE, hKv⟩; dsimp only at hKv; have hvv := hLv.val; replace hF := Fr.addGI (hF.exts hE) hLv.g; clear hE hLv; refine Back.mk ?_) | (refine (r5least_t _ ⟨vneg, ⟨vA, vn, vc, vl⟩⟩ (Fr.gi hF (by repeat (first | exact memH | apply memT))) (by dsimp only; omega)).mono ?_; rintro _ wl ⟨u, rfl, hLu, hE, hKu⟩; dsimp only at hKu; replace hF := Fr.addLI (hF.exts hE) hLu; clear hE hLu; refine Back.mk ?_)) | (refine TL.isBin ?_; refine TL.cmpG rfl rfl rfl rfl (fun hc => ?_) (fun hc => ?_) <;> (try (first | (exfalso; omega) | exact absurd rfl hc))) | (apply TL.ev; (case hd => rfl); (case h => (first | exact ev_simple rfl | (apply Ev.isBin; first | exact ev_arN rfl rfl rfl (by omega)) | (apply Ev.isLoad; first | exact ev_loadFr hF rfl (by refine ⟨?_, ?_⟩; (focus (repeat (first | exact InV.head | apply InV.tail))); rfl) | exact ev_loadM rfl (Fr.lm hF (x := ⟨r, c, A, r * c, k, l⟩) (by repeat (first | exact memH | apply memT))).s hy) | exact ev_fieldAddr rfl | exact ev_indexM rfl rfl hpf ((Fr.lm hF (x := ⟨r, c, A, r * c, k, l⟩) (by repeat (first | exact memH | apply memT))).s.some)))) | (refine TL.storeAFr hF rfl rfl rfl rfl (by refine ⟨?_, ?_⟩; (focus (repeat (first | apply SetV.head | apply SetV.tail))); rfl) rfl ?_; clear hF; intro ws hF) | (refine TL.allocFr hF (d := 9) rfl rfl ?_; clear hF; intro w9 b9 hF) | (refine TL.storeAtFr hF (f := ivc) (i := i * c + j) u rfl rfl rfl rfl (fun _ => rfl) (by rw [hzl]; exact hpl) (ivc_noV zl) (by repeat (first | apply SetV.head | apply SetV.tail)) ?_; clear hF; intro ws hF)) | (refine TF.is ?_; first | refine TF.nil ?_ | refine TF.e rfl ?_ | (refine TF.pick rfl ?_; first | (apply TFo.ev; (case hd => rfl); (case h => (intro wh hF; first | exact ev_simple rfl | (apply Ev.isBin; first | exact ev_arN rfl rfl rfl (by omega)) | (apply Ev.isLoad; first | exact ev_loadFr hF rfl (by refine ⟨?_, ?_⟩; (focus (repeat (first | exact InV.head | apply InV.tail))); rfl) | exact ev_loadAFr hF rfl (by refine ⟨?_, ?_⟩; (focus (repeat (first | exact InV.head | apply InV.tail))); rfl) | exact ev_loadM rfl (Fr.lm hF (x := ⟨r, c, A, r * c, k, l⟩) (by repeat (first | exact memH | apply memT))).s hz) | exact ev_fieldAddr rfl | exact ev_indexM rfl rfl hpl (.inr rfl) | exact ev_indexM rfl rfl hpj ((Fr.lm hF (x := ⟨r, c, A, r * c, k, l⟩) (by repeat (first | exact memH | apply memT))).s.some)))))) | (refine T.is ?_; first | refine T.seq ?_ | refine T.region ?_ | refine T.block ?_ | refine T.cond_t rfl ?_ | refine T.cond_f rfl ?_ | refine T.skip ?_ | (refine T.regionFr hF 17 15 (.s 0 (.s 1 (.s 2 (.s 3 (.s 4 (.s 5 (.s 6 (.s 7 (.s 8 (.s 9 (.s 10 (.s 11 (.s 12 (.s 13 (.e 14 (.e 15 .nil)))))))))))))))) mixed (by kernel_rfl) ?_; clear hF; intro wr hF) | (refine T.regionFr hF 18 10 (.s 0 (.s 1 (.s 2 (.s 3 (.s 4 (.s 5 (.s 6 (.s 7 (.e 8 (.s 9 (.e 10 .nil))))))))))) mixed (by kernel_rfl) ?_; clear hF; intro wr hF)) | (refine G.is ?_; first | refine G.next ?_ | refine G.blockN ?_ | refine G.only ?_ | refine G.treeEnd rfl ?_ | refine G.tree rfl (by first | exact hF | exact hF.weak (by repeat (first | exact List.Sublist.refl _ | apply List.Sublist.cons)) (by repeat (first | exact allR | apply allT)) | exact hF.weak (by repeat (first | exact List.Sublist.refl _ | apply List.Sublist.cons)) (by repeat (first | exact allN | refine allH (by repeat (first | exact memH | apply memT)) ?_))) ?_) | refine TL.nil ?_)
        have hval : zAt s F c (i * c + j) = ival ⟨vneg, ⟨vA, vn, vc, vl⟩⟩ := by
          unfold zAt; rw [(divmod_at hjn).1, (divmod_at hjn).2, hsF]
          rw [hvv, hyv, hzv]; simp [hsi, hsj, hsk]
        have hk := (Fr.lk hF (i := r * c) (l := zl) (by repeat (first | exact memH | apply memT))).setAt (Z' := upZ (i * c + j + 1) (zAt s F c)) (u := u) (q := i * c + j) (by omega) (by rw [upZ_succ, hval]; exact Fr.li hF (by repeat (first | exact memH | apply memT))) (by omega) (fun p hp => upZ_ne hp)
        exact G.again (j + 1, zl.set (i * c + j) u) (by repeat (first | exact Sub.nil _ | refine Sub.cons rfl ?_ | refine Sub.cons' rfl (int_congr (by omega)) ?_)) ⟨by dsimp only; omega, by rw [List.length_set]; exact hzl, (Fr.addLK hF hk).weak (.cons _ (.refl _)) (allH (by repeat (first | exact memH | apply memT)) (allH (by repeat (first | exact memH | apply memT)) (allH (by repeat (first | exact memH | apply memT)) allN)))⟩ (by dsimp only; omega)
      · skip
        obtain ⟨⟨yneg, ⟨yA, yn, yc, yl⟩⟩, hy, gy, hyn, hyv⟩ := (Fr.lm hF (x := ⟨r, c, A, r * c, k, l⟩) (by repeat (first | exact memH | apply memT))).load (i := i) (j := j) (by omega) hjn
        dsimp only at hy hyn
        have hpf := place_lt (i := i) (j := j) (r := r) (c := c) (by omega) hjn
        replace hF := Fr.addGI hF gy
        clear gy
        repeat' (first | (refine TL.isOp ?_; first | (refine TL.isG ?_; first | refine TL.grun rfl rfl rfl ?_ | refine TL.gskip rfl rfl rfl rfl ?_) | (refine TL.isCall ?_; refine TL.call rfl rfl ?_; first | (refine (r5least_t _ ⟨yneg, ⟨yA, yn, yc, yl⟩⟩ (Fr.gi hF (by repeat (first | exact memH | apply memT))) (by dsimp only; omega)).mono ?_; rintro _ wl ⟨u, rfl, hLu, hE, hKu⟩; dsimp only at hKu; replace hF := Fr.addLI (hF.exts hE) hLu; clear hE hLu; refine Back.mk ?_)) | (refine TL.isBin ?_; refine TL.cmpG rfl rfl rfl rfl (fun hc => ?_) (fun hc => ?_) <;> (try (first | (exfalso; omega) | exact absurd rfl hc))) | (apply TL.ev; (case hd => rfl); (case h => (first | exact ev_simple rfl | (apply Ev.isBin; first | exact ev_arN rfl rfl rfl (by omega)) | (apply Ev.isLoad; first | exact ev_loadFr hF rfl (by refine ⟨?_, ?_⟩; (focus (repeat (first | exact InV.head | apply InV.tail))); rfl) | exact ev_loadM rfl (Fr.lm hF (x := ⟨r, c, A, r * c, k, l⟩) (by repeat (first | exact memH | apply memT))).s hy) | exact ev_fieldAddr rfl | exact ev_indexM rfl rfl hpf ((Fr.lm hF (x := ⟨r, c, A, r * c, k, l⟩) (by repeat (first | exact memH | apply memT))).s.some)))) | (refine TL.storeAFr hF rfl rfl rfl rfl (by refine ⟨?_, ?_⟩; (focus (repeat (first | apply SetV.head | apply SetV.tail))); rfl) rfl ?_; clear hF; intro ws hF) | (refine TL.allocFr hF (d := 9) rfl rfl ?_; clear hF; intro w9 b9 hF) | (refine TL.storeAtFr hF (f := ivc) (i := i * c + j) u rfl rfl rfl rfl (fun _ => rfl) (by rw [hzl]; exact hpl) (ivc_noV zl) (by repeat (first | apply SetV.head | apply SetV.tail)) ?_; clear hF; intro ws hF)) | (refine TF.is ?_; first | refine TF.nil ?_ | refine TF.e rfl ?_ | (refine TF.pick rfl ?_; first | (apply TFo.ev; (case hd => rfl); (case h => (intro wh hF; first | exact ev_simple rfl | (apply Ev.isBin; first | exact ev_arN rfl rfl rfl (by omega)) | (apply Ev.isLoad; first | exact ev_loadFr hF rfl (by refine ⟨?_, ?_⟩; (focus (repeat (first | exact InV.head | apply InV.tail))); rfl) | exact ev_loadAFr hF rfl (by refine ⟨?_, ?_⟩; (focus (repeat (first | exact InV.head | apply InV.tail))); rfl)) | exact ev_fieldAddr rfl | exact ev_indexM rfl rfl hpl (.inr rfl)))))) | (refine T.is ?_; first | refine T.seq ?_ | refine T.region ?_ | refine T.block ?_ | refine T.cond_t rfl ?_ | refine T.cond_f rfl ?_ | refine T.skip ?_ | (refine T.regionFr hF 18 10 (.s 0 (.s 1 (.s 2 (.s 3 (.s 4 (.s 5 (.s 6 (.s 7 (.e 8 (.s 9 (.e 10 .nil))))))))))) mixed (by kernel_rfl) ?_; clear hF; intro wr hF)) | (refine G.is ?_; first | refine G.next ?_ | refine G.blockN ?_ | refine G.only ?_ | refine G.treeEnd rfl ?_ | refine G.tree rfl (by first | exact hF | exact hF.weak (by repeat (first | exact List.Sublist.refl _ | apply List.Sublist.cons)) (by repeat (first | exact allR | apply allT)) | exact hF.weak (by repeat (first | exact List.Sublist.refl _ | apply List.Sublist.cons)) (by repeat (first | exact allN | refine allH (by repeat (first | exact memH | apply memT)) ?_))) ?_) | refine TL.nil ?_)
        have hval : zAt s F c (i * c + j) = ival ⟨yneg, ⟨yA, yn, yc, yl⟩⟩ := by
          unfold zAt; rw [(divmod_at hjn).1, (divmod_at hjn).2, hsF]
          rw [hyv]; simp [hsi, hI]
        have hk := (Fr.lk hF (i := r * c) (l := zl) (by repeat (first | exact memH | apply memT))).setAt (Z' := upZ (i * c + j + 1) (zAt s F c)) (u := u) (q := i * c + j) (by omega) (by rw [upZ_succ, hval]; exact Fr.li hF (by repeat (first | exact memH | apply memT))) (by omega) (fun p hp => upZ_ne hp)
        exact G.again (j + 1, zl.set (i * c + j) u) (by repeat (first | exact Sub.nil _ | refine Sub.cons rfl ?_ | refine Sub.cons' rfl (int_congr (by omega)) ?_)) ⟨by dsimp only; omega, by rw [List.length_set]; exact hzl, (Fr.addLK hF hk).weak (.cons _ (.refl _)) (allH (by repeat (first | exact memH | apply memT)) (allH (by repeat (first | exact memH | apply memT)) (allH (by repeat (first | exact memH | apply memT)) allN)))⟩ (by dsimp only; omega)
    · obtain rfl : j = c := by omega
      repeat' (first | (refine TL.isOp ?_; first | (refine TL.isBin ?_; refine TL.cmpG rfl rfl rfl rfl (fun hc => ?_) (fun hc => ?_) <;> (try (first | (exfalso; omega) | exact absurd rfl hc))) | (apply TL.ev; (case hd => rfl); (case h => (first | exact ev_simple rfl | (apply Ev.isBin; first | exact ev_arN rfl rfl rfl (by omega)) | (apply Ev.isLoad; first | exact ev_loadFr hF rfl (by refine ⟨?_, ?_⟩; (focus (repeat (first | exact InV.head | apply InV.tail))); rfl)) | exact ev_fieldAddr rfl)))) | (refine T.is ?_; first | refine T.seq ?_ | refine T.region ?_ | refine T.cond_f rfl ?_ | refine T.exit ?_) | (refine G.is ?_; first | refine G.next ?_ | refine G.blockN ?_ | refine G.blockE ?_ | refine G.thenE ?_) | refine TL.nil ?_)
      exact G.again (i + 1, zl) (by repeat (first | exact Sub.nil _ | refine Sub.cons rfl ?_ | refine Sub.cons' rfl (int_congr (by omega)) ?_)) ⟨by dsimp only; omega, hzl, by dsimp only; rw [Nat.add_mul, Nat.one_mul]; exact hF⟩ (by dsimp only; omega)
  · obtain rfl : i = r := by omega
    repeat' (first | (refine TL.isOp ?_; first | (refine TL.isBin ?_; refine TL.cmpG rfl rfl rfl rfl (fun hc => ?_) (fun hc => ?_) <;> (try (first | (exfalso; omega) | exact absurd rfl hc))) | (apply TL.ev; (case hd => rfl); (case h => (first | exact ev_simple rfl | (apply Ev.isLoad; first | exact ev_loadFr hF rfl (by refine ⟨?_, ?_⟩; (focus (repeat (first | exact InV.head | apply InV.tail))); rfl)) | exact ev_fieldAddr rfl | exact ev_buildX rfl rfl))) | (refine TL.storeAFr hF rfl rfl rfl rfl (by refine ⟨?_, ?_⟩; (focus (repeat (first | apply SetV.head | apply SetV.tail))); rfl) rfl ?_; clear hF; intro ws hF)) | (refine T.is ?_; first | refine T.seq ?_ | refine T.region ?_ | refine T.cond_f rfl ?_ | refine T.exit ?_ | refine T.ret ?_) | (refine G.is ?_; first | refine G.next ?_ | refine G.blockE ?_ | refine G.thenE ?_) | refine TL.nil ?_)
    have hb := (hF.lo (b := b13) (by repeat (first | exact InV.head | apply InV.tail))).resolve_right id
    exact G.retC1 rfl rfl (held_agg (hF.var (by repeat (first | exact InV.head | apply InV.tail))) rfl) ⟨⟨i, c, some ⟨b13, 0, none⟩, i * c, i * c, zl⟩, rfl, lm_of (hF.var (by repeat (first | exact InV.head | apply InV.tail))) hzl hr hcc (Fr.lk hF (by repeat (first | exact memH | apply memT))) (fun a q ha hq => by rw [upZ_end (place_lt ha hq)]; unfold zAt; rw [(divmod_at hq).1, (divmod_at hq).2]), hF.ext, .inr ⟨b13, rfl, hb⟩⟩
theorem done_ok (w : World) (x : MV) (r c K Kk : Nat) (F : Nat → Nat → Int) (s : SP) (hL : LM w.heap x r c F K) (gs : GI w.heap s.k) (hf : fits r s) (hKk : s.k.m.n ≤ Kk) (hKs : Kk ≤ 100000000) (hK : K ≤ 100000000) :
    Cl Tryz.prog 48 #[.agg (mvc x).toArray, .agg (spc s).toArray] w (RetM w r c (stepF s F) (Kk + K + 1)) := by
  rcases id hf with ⟨h, _⟩ | ⟨h, _⟩ | ⟨h, _⟩
  · exact done1 w x r c K Kk F s hL gs h hf hKk hKs hK
  · exact done2 w x r c K Kk F s hL gs h hf hKk hKs hK
  · exact done3 w x r c K Kk F s hL gs h hf hKk hKs hK
end Go.Proofs.YtdhmhjbmkimplaaGreat

namespace Go.Proofs.YtdhmhjbmkimplaaGreat
open Go Go.Eng Go.Proofs Go.NatM Go.RowKit

theorem divmod2 {i j c : Nat} (hj : j < c) : (i * c + j) / c = i ∧ (i * c + j) % c = j :=
  ⟨by rw [Nat.mul_comm, Nat.mul_add_div (by omega), Nat.div_eq_of_lt hj, Nat.add_zero], by rw [Nat.mul_comm, Nat.mul_add_mod, Nat.mod_eq_of_lt hj]⟩
theorem GM.load {H : Array Obj} {x : MV} {r c K : Nat} (h : GM H x r c K) {i j : Nat} (hi : i < r) (hj : j < c) : ∃ y : IV, x.l[i * c + j]? = some y ∧ GI H y ∧ y.m.n ≤ K ∧ ival y = ent x c i j := by
  have hlen := h.s.len
  rw [h.sh.n] at hlen
  have hp := place_lt hi hj
  have e : x.l[i * c + j]? = some (x.l.getD (i * c + j) default) := by simp [List.getD, show i * c + j < x.l.length by omega]
  have hg := h.g _ (List.mem_of_getElem? e)
  exact ⟨_, e, hg.1, hg.2, rfl⟩
/-- the transpose, as far as it has been laid -/
def tuZ (r : Nat) (F : Nat → Nat → Int) (i j p : Nat) : Int := if p % r < i ∨ (p % r = i ∧ p / r < j) then F (p % r) (p / r) else 0
theorem tuZ_at {r i j : Nat} {F : Nat → Nat → Int} (hi : i < r) : tuZ r F i (j + 1) (j * r + i) = F i j := by
  unfold tuZ
  rw [(divmod2 hi).1, (divmod2 hi).2, if_pos (.inr ⟨rfl, Nat.lt_succ_self j⟩)]
theorem tuZ_ne {r i j p : Nat} {F : Nat → Nat → Int} (h : p ≠ j * r + i) : tuZ r F i (j + 1) p = tuZ r F i j p := by
  unfold tuZ
  have h0 : p / r * r + p % r = p := Nat.div_add_mod' p r
  have : ¬ (p % r = i ∧ p / r = j) := fun ⟨h1, h2⟩ => h (by rw [h1, h2] at h0; exact h0.symm)
  have e : (p % r < i ∨ (p % r = i ∧ p / r < j + 1)) ↔ (p % r < i ∨ (p % r = i ∧ p / r < j)) := by omega
  simp only [e]
theorem tuZ_row {r c i p : Nat} {F : Nat → Nat → Int} (hp : p < c * r) : tuZ r F i c p = tuZ r F (i + 1) 0 p := by
  unfold tuZ
  have h1 : p / r < c := Nat.div_lt_of_lt_mul (by rw [Nat.mul_comm]; exact hp)
  generalize p / r = a at *
  generalize p % r = b at *
  have e : (b < i ∨ (b = i ∧ a < c)) ↔ (b < i + 1 ∨ (b = i + 1 ∧ a < 0)) := by omega
  simp only [e]
set_option maxRecDepth 100000 in
set_option maxHeartbeats 2000000 in
theorem rturn_ok (w : World) (x : MV) (r c K : Nat) (gx : GM w.heap x r c K) (hK : K ≤ 1099511627776) : Cl Tryz.prog 50 #[.agg (mvc x).toArray] w (RetME w c r (fun i j => ent x c j i) K) := by
  have hck := fun w => rchkE_ok w x r c gx.sh
  have hld := fun i j (hi : i < r) (hj : j < c) => gx.load hi hj
  obtain ⟨F, hFe⟩ : ∃ F, F = ent x c := ⟨_, rfl⟩
  rw [← hFe]
  simp only [← hFe] at hld
  clear hFe
  have hs0 := gx.sh
  have hs := gx.s
  clear gx
  obtain ⟨xr, xc, A, n, k, l⟩ := x
  obtain ⟨hr1, hc1, hr, hcc, hn1⟩ := hs0
  dsimp only at hr1 hc1 hn1 hs hld
  subst hr1 hc1 hn1
  have hm := mul64 hr hcc
  have hm2 := mul64 hcc hr
  refine enter Tryz.func50 rfl rfl rfl ?_
  have hF := Fr.refl w
  repeat' (first | (refine TL.isOp ?_; first | (refine TL.isCall ?_; refine TL.call rfl rfl ?_; first | (refine (hck _).mono ?_; rintro _ wy ⟨rfl, hE⟩; replace hF := hF.exts hE; clear hE; refine Back.mk ?_) | (refine (blank_ok _ c r hcc hr).mono ?_; rintro _ wb ⟨b, rfl, hB⟩; replace hF := Fr.blank hF hB; clear hB; refine Back.mk ?_)) | (refine TL.isBin ?_; refine TL.cmpG rfl rfl rfl rfl (fun hc => ?_) (fun hc => ?_) <;> (try (first | (exfalso; omega) | exact absurd rfl hc))) | (apply TL.ev; (case hd => rfl); (case h => (first | exact ev_simple rfl | (apply Ev.isLoad; first | exact ev_loadFr hF rfl (by refine ⟨?_, ?_⟩; (focus (repeat (first | exact InV.head | apply InV.tail))); rfl) | exact ev_loadAFr hF rfl (by refine ⟨?_, ?_⟩; (focus (repeat (first | exact InV.head | apply InV.tail))); rfl)) | exact ev_fieldAddr rfl))) | (refine TL.storeAFr hF rfl rfl rfl rfl (by refine ⟨?_, ?_⟩; (focus (repeat (first | apply SetV.head | apply SetV.tail))); rfl) rfl ?_; clear hF; intro ws hF) | (refine TL.boxAFr hF (d := 1) (cs := [.int .i64 (r : Int), .int .i64 (c : Int), .slice A (r * c) k]) rfl rfl ?_; clear hF; intro w1 b1 hF) | (refine TL.allocFr hF (d := 2) rfl rfl ?_; clear hF; intro w2 b2 hF) | (refine TL.allocFr hF (d := 5) rfl rfl ?_; clear hF; intro w5 b5 hF)) | (refine T.is ?_; first | refine T.seq ?_ | refine T.region ?_ | refine T.block ?_ | refine T.cond_f rfl ?_ | refine T.skip ?_) | (refine G.is ?_; first | refine G.next ?_) | refine TL.nil ?_)
  refine T.loop (α := Nat × List IV) (fun x => [(1, .pointer (some ⟨b1, 0, none⟩)), (2, .pointer (some ⟨b2, 0, none⟩)), (5, .pointer (some ⟨b5, 0, none⟩)), (6, .int .i64 (x.1 : Int))])
    (fun x w' => x.1 ≤ r ∧ x.2.length = c * r ∧ Fr w w' [⟨b, 51, x.2.flatMap ivc⟩, ⟨b5, 24, [.int .i64 (c : Int), .int .i64 (r : Int), .slice (some ⟨b, 0, none⟩) (c * r) (c * r)]⟩, ⟨b2, 24, [.int .i64 0, .int .i64 0, .slice none 0 0]⟩, ⟨b1, 24, [.int .i64 (r : Int), .int .i64 (c : Int), .slice A (r * c) k]⟩] [dpLK (c * r) x.2 (tuZ r F x.1 0) K])
    (fun x => r - x.1) (0, List.replicate (c * r) nought) (by repeat (first | exact Sub.nil _ | refine Sub.cons rfl ?_ | refine Sub.cons' rfl (int_congr (by omega)) ?_)) ⟨Nat.zero_le _, List.length_replicate .., Fr.addLK (Fr.perm hF (List.Perm.swap _ _ _)) ((lk_zeros _ _ _).congr fun q _ => by simp [tuZ])⟩ ?_
  clear hF
  rintro ⟨i, zl⟩ w2 ⟨hi, hzl, hF⟩
  dsimp only at hi hzl hF ⊢
  rcases Nat.lt_or_ge i r with hin | hin
  · repeat' (first | (refine TL.isOp ?_; first | (refine TL.isBin ?_; refine TL.cmpG rfl rfl rfl rfl (fun hc => ?_) (fun hc => ?_) <;> (try (first | (exfalso; omega) | exact absurd rfl hc))) | (apply TL.ev; (case hd => rfl); (case h => (first | exact ev_simple rfl | (apply Ev.isLoad; first | exact ev_loadFr hF rfl (by refine ⟨?_, ?_⟩; (focus (repeat (first | exact InV.head | apply InV.tail))); rfl)) | exact ev_fieldAddr rfl)))) | (refine T.is ?_; first | refine T.seq ?_ | refine T.region ?_ | refine T.block ?_ | refine T.cond_t rfl ?_ | refine T.skip ?_) | (refine G.is ?_; first | refine G.next ?_) | refine TL.nil ?_)
    refine T.loop (α := Nat × List IV) (fun x => [(1, .pointer (some ⟨b1, 0, none⟩)), (2, .pointer (some ⟨b2, 0, none⟩)), (5, .pointer (some ⟨b5, 0, none⟩)), (6, .int .i64 (i : Int)), (7, .int .i64 (x.1 : Int))])
      (fun x w' => x.1 ≤ c ∧ x.2.length = c * r ∧ Fr w w' [⟨b, 51, x.2.flatMap ivc⟩, ⟨b5, 24, [.int .i64 (c : Int), .int .i64 (r : Int), .slice (some ⟨b, 0, none⟩) (c * r) (c * r)]⟩, ⟨b2, 24, [.int .i64 0, .int .i64 0, .slice none 0 0]⟩, ⟨b1, 24, [.int .i64 (r : Int), .int .i64 (c : Int), .slice A (r * c) k]⟩] [dpLK (c * r) x.2 (tuZ r F i x.1) K])
      (fun x => c - x.1) (0, zl) (by repeat (first | exact Sub.nil _ | refine Sub.cons rfl ?_ | refine Sub.cons' rfl (int_congr (by omega)) ?_)) ⟨Nat.zero_le _, hzl, hF⟩ ?_
    clear hF hzl
    clear zl
    rintro ⟨j, zl⟩ w3 ⟨hj, hzl, hF⟩
    dsimp only at hj hzl hF ⊢
    rcases Nat.lt_or_ge j c with hjn | hjn
    · have hpl := place_lt (i := j) (j := i) (r := c) (c := r) hjn hin
      have hpf := place_lt (i := i) (j := j) (r := r) (c := c) hin hjn
      obtain ⟨y, hy, gy, hyn, hyv⟩ := hld i j hin hjn
      repeat' (first | (refine TL.isOp ?_; first | (refine TL.isCall ?_; refine TL.call rfl rfl ?_; first | (refine (r5least_t _ y (gy.ext hF.ext) (by omega)).mono ?_; rintro _ wl ⟨u, rfl, hLu, hE, hKu⟩; replace hF := Fr.addLI (hF.exts hE) hLu; clear hE hLu; refine Back.mk ?_)) | (refine TL.isBin ?_; refine TL.cmpG rfl rfl rfl rfl (fun hc => ?_) (fun hc => ?_) <;> (try (first | (exfalso; omega) | exact absurd rfl hc))) | (apply TL.ev; (case hd => rfl); (case h => (first | exact ev_simple rfl | (apply Ev.isBin; first | exact ev_arN rfl rfl rfl (by omega)) | (apply Ev.isLoad; first | exact ev_loadFr hF rfl (by refine ⟨?_, ?_⟩; (focus (repeat (first | exact InV.head | apply InV.tail))); rfl)) | exact ev_fieldAddr rfl))) | (refine TL.storeAtFr hF (f := ivc) (i := j * r + i) u rfl rfl rfl rfl (fun _ => rfl) (by rw [hzl]; exact hpl) (ivc_noV zl) (by repeat (first | apply SetV.head | apply SetV.tail)) ?_; clear hF; intro ws hF)) | (refine TF.is ?_; first | refine TF.nil ?_ | refine TF.e rfl ?_ | (refine TF.pick rfl ?_; first | (apply TFo.ev; (case hd => rfl); (case h => (intro wh hF; first | exact ev_simple rfl | (apply Ev.isBin; first | exact ev_arN rfl rfl rfl (by omega)) | (apply Ev.isLoad; first | exact ev_loadFr hF rfl (by refine ⟨?_, ?_⟩; (focus (repeat (first | exact InV.head | apply InV.tail))); rfl) | exact ev_loadM rfl (hs.ext hF.ext) hy) | exact ev_fieldAddr rfl | exact ev_indexM rfl rfl hpf (hs.ext hF.ext).some | exact ev_indexM rfl rfl hpl (.inr rfl)))))) | (refine T.is ?_; first | refine T.seq ?_ | refine T.region ?_ | refine T.block ?_ | refine T.cond_t rfl ?_ | refine T.skip ?_ | (refine T.regionFr hF 11 20 (.s 0 (.s 1 (.s 2 (.s 3 (.s 4 (.s 5 (.s 6 (.s 7 (.s 8 (.s 9 (.s 10 (.s 11 (.s 12 (.s 13 (.s 14 (.s 15 (.s 16 (.s 17 (.e 18 (.s 19 (.e 20 .nil))))))))))))))))))))) mixed (by kernel_rfl) ?_; clear hF; intro wr hF)) | (refine G.is ?_; first | refine G.next ?_ | refine G.blockN ?_ | refine G.only ?_ | refine G.treeEnd rfl ?_ | refine G.tree rfl (by first | exact hF | exact hF.weak (by repeat (first | exact List.Sublist.refl _ | apply List.Sublist.cons)) (by repeat (first | exact allR | apply allT)) | exact hF.weak (by repeat (first | exact List.Sublist.refl _ | apply List.Sublist.cons)) (by repeat (first | exact allN | refine allH (by repeat (first | exact memH | apply memT)) ?_))) ?_) | refine TL.nil ?_)
      have hk := (Fr.lk hF (i := c * r) (l := zl) (by repeat (first | exact memH | apply memT))).setAt (Z' := tuZ r F i (j + 1)) (u := u) (q := j * r + i) (by omega) (by rw [tuZ_at hin, ← hyv]; exact Fr.li hF (by repeat (first | exact memH | apply memT))) (by omega) (fun p hp => tuZ_ne hp)
      exact G.again (j + 1, zl.set (j * r + i) u) (by repeat (first | exact Sub.nil _ | refine Sub.cons rfl ?_ | refine Sub.cons' rfl (int_congr (by omega)) ?_)) ⟨by dsimp only; omega, by rw [List.length_set]; exact hzl, Fr.addLK (hF.weak (List.Sublist.refl _) allN) hk⟩ (by dsimp only; omega)
    · obtain rfl : j = c := by omega
      repeat' (first | (refine TL.isOp ?_; first | (refine TL.isBin ?_; refine TL.cmpG rfl rfl rfl rfl (fun hc => ?_) (fun hc => ?_) <;> (try (first | (exfalso; omega) | exact absurd rfl hc))) | (apply TL.ev; (case hd => rfl); (case h => (first | exact ev_simple rfl | (apply Ev.isBin; first | exact ev_arN rfl rfl rfl (by omega)) | (apply Ev.isLoad; first | exact ev_loadFr hF rfl (by refine ⟨?_, ?_⟩; (focus (repeat (first | exact InV.head | apply InV.tail))); rfl)) | exact ev_fieldAddr rfl)))) | (refine T.is ?_; first | refine T.seq ?_ | refine T.region ?_ | refine T.cond_f rfl ?_ | refine T.exit ?_) | (refine G.is ?_; first | refine G.next ?_ | refine G.blockN ?_ | refine G.blockE ?_ | refine G.thenE ?_) | refine TL.nil ?_)
      exact G.again (i + 1, zl) (by repeat (first | exact Sub.nil _ | refine Sub.cons rfl ?_ | refine Sub.cons' rfl (int_congr (by omega)) ?_)) ⟨by dsimp only; omega, hzl, Fr.addLK (hF.weak (List.Sublist.refl _) allN) ((Fr.lk hF (i := j * r) (l := zl) (by repeat (first | exact memH | apply memT))).congr fun p hp => tuZ_row hp)⟩ (by dsimp only; omega)
  · obtain rfl : i = r := by omega
    repeat' (first | (refine TL.isOp ?_; first | (refine TL.isBin ?_; refine TL.cmpG rfl rfl rfl rfl (fun hc => ?_) (fun hc => ?_) <;> (try (first | (exfalso; omega) | exact absurd rfl hc))) | (apply TL.ev; (case hd => rfl); (case h => (first | exact ev_simple rfl | (apply Ev.isLoad; first | exact ev_loadFr hF rfl (by refine ⟨?_, ?_⟩; (focus (repeat (first | exact InV.head | apply InV.tail))); rfl) | exact ev_loadAFr hF rfl (by refine ⟨?_, ?_⟩; (focus (repeat (first | exact InV.head | apply InV.tail))); rfl)) | exact ev_fieldAddr rfl))) | (refine TL.storeAFr hF rfl rfl rfl rfl (by refine ⟨?_, ?_⟩; (focus (repeat (first | apply SetV.head | apply SetV.tail))); rfl) rfl ?_; clear hF; intro ws hF)) | (refine T.is ?_; first | refine T.seq ?_ | refine T.region ?_ | refine T.cond_f rfl ?_ | refine T.exit ?_ | refine T.ret ?_) | (refine G.is ?_; first | refine G.next ?_ | refine G.blockE ?_ | refine G.thenE ?_) | refine TL.nil ?_)
    have hb := (hF.lo (b := b) (by repeat (first | exact InV.head | apply InV.tail))).resolve_right id
    refine G.retC2 rfl rfl rfl (held_agg (hF.var (by repeat (first | exact InV.head | apply InV.tail))) rfl) ⟨⟨c, i, some ⟨b, 0, none⟩, c * i, c * i, zl⟩, rfl, lm_of (hF.var (by repeat (first | exact InV.head | apply InV.tail))) hzl hcc hr (Fr.lk hF (by repeat (first | exact memH | apply memT))) (fun a q ha hq => ?_), hF.ext, .inr ⟨b, rfl, hb⟩⟩
    unfold tuZ
    rw [(divmod2 hq).1, (divmod2 hq).2, if_pos (.inl hq)]
theorem rleastM_bad (w : World) (x : MV) (h : ∀ r c, ¬ Sound x r c) : Cl Tryz.prog 47 #[.agg (mvc x).toArray] w (RetMF w 1) := by
  have hck := fun w => rchk_bad w x h
  clear h
  obtain ⟨xr, xc, A, n, k, l⟩ := x
  refine enter Tryz.func47 rfl rfl rfl ?_
  have hF := Fr.refl w
  repeat' (first | (refine TL.isOp ?_; first | (refine TL.isCall ?_; refine TL.call rfl rfl ?_; first | (refine (hck _).mono ?_; rintro _ wy ⟨rfl, hE⟩; replace hF := hF.exts hE; clear hE; refine Back.mk ?_)) | (refine TL.isBin ?_; refine TL.cmpG rfl rfl rfl rfl (fun hc => ?_) (fun hc => ?_) <;> (try (first | (exfalso; omega) | exact absurd rfl hc))) | (apply TL.ev; (case hd => rfl); (case h => (first | exact ev_simple rfl | (apply Ev.isLoad; first | exact ev_loadAFr hF rfl (by refine ⟨?_, ?_⟩; (focus (repeat (first | exact InV.head | apply InV.tail))); rfl)) | exact ev_buildX rfl rfl))) | (refine TL.storeAFr hF rfl rfl rfl rfl (by refine ⟨?_, ?_⟩; (focus (repeat (first | apply SetV.head | apply SetV.tail))); rfl) rfl ?_; clear hF; intro ws hF) | (refine TL.boxAFr hF (d := 1) (cs := [.int .i64 xr, .int .i64 xc, .slice A n k]) rfl rfl ?_; clear hF; intro w1 b1 hF) | (refine TL.allocFr hF (d := 2) rfl rfl ?_; clear hF; intro w2 b2 hF)) | (refine T.is ?_; first | refine T.seq ?_ | refine T.region ?_ | refine T.cond_t rfl ?_ | refine T.ret ?_) | (refine G.is ?_; first | refine G.next ?_ | refine G.thenR ?_) | refine TL.nil ?_)
  exact G.retC2 rfl rfl rfl (held_agg (hF.var (by repeat (first | exact InV.head | apply InV.tail))) rfl) ⟨rfl, hF.ext⟩
theorem rturn_bad (w : World) (x : MV) (h : ∀ r c, ¬ Sound x r c) : Cl Tryz.prog 50 #[.agg (mvc x).toArray] w (RetMF w 1) := by
  have hck := fun w => rchk_bad w x h
  clear h
  obtain ⟨xr, xc, A, n, k, l⟩ := x
  refine enter Tryz.func50 rfl rfl rfl ?_
  have hF := Fr.refl w
  repeat' (first | (refine TL.isOp ?_; first | (refine TL.isCall ?_; refine TL.call rfl rfl ?_; first | (refine (hck _).mono ?_; rintro _ wy ⟨rfl, hE⟩; replace hF := hF.exts hE; clear hE; refine Back.mk ?_)) | (refine TL.isBin ?_; refine TL.cmpG rfl rfl rfl rfl (fun hc => ?_) (fun hc => ?_) <;> (try (first | (exfalso; omega) | exact absurd rfl hc))) | (apply TL.ev; (case hd => rfl); (case h => (first | exact ev_simple rfl | (apply Ev.isLoad; first | exact ev_loadAFr hF rfl (by refine ⟨?_, ?_⟩; (focus (repeat (first | exact InV.head | apply InV.tail))); rfl)) | exact ev_buildX rfl rfl))) | (refine TL.storeAFr hF rfl rfl rfl rfl (by refine ⟨?_, ?_⟩; (focus (repeat (first | apply SetV.head | apply SetV.tail))); rfl) rfl ?_; clear hF; intro ws hF) | (refine TL.boxAFr hF (d := 1) (cs := [.int .i64 xr, .int .i64 xc, .slice A n k]) rfl rfl ?_; clear hF; intro w1 b1 hF) | (refine TL.allocFr hF (d := 2) rfl rfl ?_; clear hF; intro w2 b2 hF)) | (refine T.is ?_; first | refine T.seq ?_ | refine T.region ?_ | refine T.cond_t rfl ?_ | refine T.ret ?_) | (refine G.is ?_; first | refine G.next ?_ | refine G.thenR ?_) | refine TL.nil ?_)
  exact G.retC2 rfl rfl rfl (held_agg (hF.var (by repeat (first | exact InV.head | apply InV.tail))) rfl) ⟨rfl, hF.ext⟩
end Go.Proofs.YtdhmhjbmkimplaaGreat
