/- Layer 9: contracts of mat: side, Check, check, build. Layer 9: contracts of mat: product, Mul. Layer 9: contracts of mat: place, Add. ref01.Same: have two lists the same words? Layer 9: the law's own functions: alike, alikeRows, alikeMats, sound, none, of, wakes. -/
import Derived.Test.YtlhmehikajidhaaPk6
import Derived.Test.YtlhmehikajidhaaPk4
set_option linter.unusedVariables false
set_option linter.unusedSimpArgs false
namespace Go.Proofs.Ytlhmehikajidhaa
open Go Go.Eng Go.Proofs Go.NatM Go.RowKit

theorem side_ok (H : Array Obj) (n : Int) (b : Bool) (h : decide (0 ≤ n ∧ n ≤ 64) = b) : Pure Try.prog 33 #[.int .i64 n] H (.bool b) := by
  refine Pure.of fun w hw => ?_
  subst hw h
  refine enter Try.func33 rfl rfl rfl ?_
  repeat' (first | refine TL.ev (ev_simple rfl) rfl ?_ | refine TL.grun rfl rfl rfl ?_ | refine TL.gskip rfl rfl rfl rfl ?_ | refine TL.gskipU rfl rfl rfl ?_ | refine TL.ev (ev_len rfl) rfl ?_ | (refine TL.cmpG rfl rfl rfl rfl (fun hc => ?_) (fun hc => ?_) <;> try (exfalso; omega)) | refine TL.ev (ev_arN rfl rfl rfl (by omega)) rfl ?_ | refine TL.ev (ev_arI rfl rfl rfl (by omega)) rfl ?_ | refine TL.ev (ev_neg rfl (by omega)) rfl ?_ | refine TF.nil ?_ | refine TF.e rfl ?_ | refine TF.alt ?_ ?_ | refine G.treeEnd rfl ?_ | refine G.tree rfl (by repeat (first | exact Ext.refl _ | (refine Ext.trans ?_ (by assumption)) | (apply ext_upd; assumption; rotate_left; omega))) ?_ | refine TL.nilX (fun wq hzq hEq => ?_) | refine T.seq ?_ | refine T.region ?_ | refine TL.nil ?_ | refine T.block ?_ | refine T.cond_t rfl ?_ | refine T.cond_f rfl ?_ | refine T.exit ?_ | refine T.ret ?_ | refine T.skip ?_ | refine G.next ?_ | refine G.blockN ?_ | refine G.blockE ?_ | refine G.blockE' rfl ?_ | refine G.blockR ?_ | refine G.thenE ?_ | refine G.thenR ?_ | refine T.regionQ mixed (by kernel_rfl) ?_ | refine TL.nilQ (fun _ => ?_) | refine G.only ?_ | refine G.mixed ?_ | refine TM.nil ?_ | refine TM.e rfl ?_)
  · exact G.ret1 rfl rfl ⟨by rw [decide_eq_true (by omega)], Qt.refl _⟩
  · exact G.ret1 rfl rfl ⟨by rw [decide_eq_false (by omega)], Qt.refl _⟩
  · exact G.ret1 rfl rfl ⟨by rw [decide_eq_false (by omega)], Qt.refl _⟩
/-- the shape of a matrix -/
structure Sound (x : MV) (r c : Nat) : Prop where
  er : x.r = r
  ec : x.c = c
  r64 : r ≤ 64
  c64 : c ≤ 64
  n : x.n = r * c
theorem mul64 {r c : Nat} (hr : r ≤ 64) (hc : c ≤ 64) : r * c ≤ 4096 := Nat.mul_le_mul hr hc
theorem chk_ok (w : World) (x : MV) (r c : Nat) (hS : Sound x r c) : Cl Try.prog 29 #[.agg (mvc x).toArray] w (fun e w' => e = .returned (.int .i64 0) ∧ Ext w w') := by
  obtain ⟨xr, xc, A, n, k, l⟩ := x
  obtain ⟨h1, h2, h3, h4, h5⟩ := hS
  dsimp only at h1 h2 h5
  subst h1 h2 h5
  have hm := mul64 h3 h4
  have hs1 : decide ((0 : Int) ≤ (r : Int) ∧ (r : Int) ≤ 64) = true := decide_eq_true (by omega)
  have hs2 : decide ((0 : Int) ≤ (c : Int) ∧ (c : Int) ≤ 64) = true := decide_eq_true (by omega)
  refine enter Try.func29 rfl rfl rfl ?_
  repeat' (first | refine TL.ev (ev_simple rfl) rfl ?_ | refine TL.grun rfl rfl rfl ?_ | (refine TL.call rfl rfl ?_; first | (refine (side_ok _ _ _ hs1).clX.mono ?_; rintro _ wc ⟨rfl, hzc, hEc⟩; refine Back.mk ?_) | (refine (side_ok _ _ _ hs2).clX.mono ?_; rintro _ wc ⟨rfl, hzc, hEc⟩; refine Back.mk ?_)) | refine TL.ev (ev_len rfl) rfl ?_ | (refine TL.cmpG rfl rfl rfl rfl (fun hc => ?_) (fun hc => ?_) <;> try first | (exfalso; omega) | exact absurd rfl hc) | refine TL.ev (ev_arN rfl rfl rfl (by omega)) rfl ?_ | (refine TL.boxA (cs := mvc ⟨r, c, A, r * c, k, l⟩) rfl rfl (fun wb bb ebb hVb hEb hzb => ?_)) | (refine TL.ev (ev_fieldAddr rfl) rfl ?_) | (refine TL.ev (ev_loadVX rfl (by refine ⟨?_, ?_⟩; (focus (repeat (first | assumption | (apply Vr.ext; assumption) | (apply Vr.updX; assumption; rotate_left; omega)))); rfl)) rfl ?_) | refine T.seq ?_ | refine T.region ?_ | refine TL.nil ?_ | refine T.cond_f rfl ?_ | refine T.ret ?_ | refine T.skip ?_ | refine G.next ?_)
  exact G.ret1 rfl rfl ⟨rfl, (by repeat (first | exact Ext.refl _ | (refine Ext.trans ?_ (by assumption)) | (apply ext_upd; assumption; rotate_left; omega)))⟩
theorem check_ok (w : World) (A : Option Addr) (n k : Nat) (L : List MV) (hs : Sm 3 mvc w.heap w.heap.size A n k L) (hL : ∀ y ∈ L, ∃ r c, Sound y r c) (hn : n ≤ 1048576) : Cl Try.prog 32 #[.slice A n k] w (fun e w' => e = .returned (.int .i64 0) ∧ Ext w w') := by
  have hlen := hs.len
  refine enter Try.func32 rfl rfl rfl ?_
  repeat' (first | refine TL.ev (ev_simple rfl) rfl ?_ | refine TL.grun rfl rfl rfl ?_ | refine TL.gskip rfl rfl rfl rfl ?_ | refine TL.gskipU rfl rfl rfl ?_ | refine TL.ev (ev_len rfl) rfl ?_ | (refine TL.cmpG rfl rfl rfl rfl (fun hc => ?_) (fun hc => ?_) <;> try (exfalso; omega)) | refine TL.ev (ev_arN rfl rfl rfl (by omega)) rfl ?_ | refine TL.ev (ev_arI rfl rfl rfl (by omega)) rfl ?_ | refine TL.ev (ev_neg rfl (by omega)) rfl ?_ | refine TF.nil ?_ | refine TF.e rfl ?_ | refine TF.alt ?_ ?_ | refine G.treeEnd rfl ?_ | refine G.tree rfl (by repeat (first | exact Ext.refl _ | (refine Ext.trans ?_ (by assumption)) | (apply ext_upd; assumption; rotate_left; omega))) ?_ | refine TL.nilX (fun wq hzq hEq => ?_) | refine T.seq ?_ | refine T.region ?_ | refine TL.nil ?_ | refine T.block ?_ | refine T.cond_t rfl ?_ | refine T.cond_f rfl ?_ | refine T.exit ?_ | refine T.ret ?_ | refine T.skip ?_ | refine G.next ?_ | refine G.blockN ?_ | refine G.blockE ?_ | refine G.blockE' rfl ?_ | refine G.blockR ?_ | refine G.thenE ?_ | refine G.thenR ?_ | refine T.regionQ mixed (by kernel_rfl) ?_ | refine TL.nilQ (fun _ => ?_) | refine G.only ?_ | refine G.mixed ?_ | refine TM.nil ?_ | refine TM.e rfl ?_)
  refine T.loop (α := Nat) (fun i => [(5, .slice A n k), (6, .int .i64 (n : Int)), (7, .int .i64 (i : Int))]) (fun i w' => i ≤ n ∧ Ext w w') (fun i => n - i) 0 (by repeat (first | exact Sub.nil _ | refine Sub.cons rfl ?_ | refine Sub.cons' rfl (int_congr (by omega)) ?_)) ⟨Nat.zero_le _, Ext.refl _⟩ ?_
  rintro i w2 ⟨hi, hE2⟩
  have s2 := hs.ext hE2
  rcases Nat.lt_or_ge i n with hin | hin
  · have hy : L[i]? = some (L.getD i default) := by simp [List.getD, show i < L.length by omega]
    obtain ⟨r, c, hS⟩ := hL _ (List.mem_of_getElem? hy)
    generalize L.getD i default = y at *
    repeat' (first | refine TL.ev (ev_simple rfl) rfl ?_ | refine TL.grun rfl rfl rfl ?_ | refine TL.gskip rfl rfl rfl rfl ?_ | refine TL.gskipU rfl rfl rfl ?_ | (refine TL.call rfl rfl ?_; first | (refine (chk_ok _ y r c hS).mono ?_; rintro _ wc ⟨rfl, hEc⟩; refine Back.mk ?_)) | refine TL.ev (ev_len rfl) rfl ?_ | (refine TL.cmpG rfl rfl rfl rfl (fun hc => ?_) (fun hc => ?_) <;> try (exfalso; omega)) | refine TL.ev (ev_arN rfl rfl rfl (by omega)) rfl ?_ | refine TL.ev (ev_arI rfl rfl rfl (by omega)) rfl ?_ | refine TL.ev (ev_neg rfl (by omega)) rfl ?_ | (refine TL.ev (ev_indexM rfl rfl (by omega) s2.some) rfl ?_) | (refine TL.ev (ev_loadM rfl s2 hy) rfl ?_) | (refine TL.storeVX (vs := mvc y) rfl rfl rfl rfl (by refine ⟨?_, ?_⟩; (focus (repeat (first | assumption | (apply Vr.ext; assumption)))); rfl) (fun ws hVs hUs hzs => ?_)) | (refine TL.ev (ev_loadVAX (cs' := mvc y) rfl (by refine ⟨?_, ?_⟩; (focus (repeat (first | assumption | (apply Vr.ext; assumption)))); rfl)) rfl ?_) | (refine TL.boxA rfl rfl (fun wb bb ebb hVb hEb hzb => ?_); have hlb := box_lo (w0 := w) (by repeat (first | exact Ext.refl _ | (refine Ext.trans ?_ (by assumption)) | (apply ext_upd; assumption; rotate_left; omega))) ebb) | (refine TL.alloc rfl (fun wa ba eba hVa hEa hza => ?_); have hla := box_lo (w0 := w) (by repeat (first | exact Ext.refl _ | (refine Ext.trans ?_ (by assumption)) | (apply ext_upd; assumption; rotate_left; omega))) eba) | (refine TL.ev (ev_fieldAddr rfl) rfl ?_) | (refine TF.s rfl (fun _ _ => ev_fieldAddr rfl) rfl ?_) | (refine TL.ev (ev_loadVX rfl (by refine ⟨?_, ?_⟩; (focus (repeat (first | assumption | (apply Vr.ext; assumption) | (apply Vr.updX; assumption; rotate_left; omega)))); rfl)) rfl ?_) | (refine TF.s rfl (fun _ hh => ev_loadVX rfl (by refine ⟨Vr.ext hh ?_, ?_⟩; (focus (repeat (first | assumption | (apply Vr.ext; assumption) | (apply Vr.updX; assumption; rotate_left; omega)))); rfl)) rfl ?_) | (refine TL.ev (ev_loadVAX rfl (by refine ⟨?_, ?_⟩; (focus (repeat (first | assumption | (apply Vr.ext; assumption) | (apply Vr.updX; assumption; rotate_left; omega)))); rfl)) rfl ?_) | (refine TF.s rfl (fun _ hh => ev_loadVAX rfl (by refine ⟨Vr.ext hh ?_, ?_⟩; (focus (repeat (first | assumption | (apply Vr.ext; assumption) | (apply Vr.updX; assumption; rotate_left; omega)))); rfl)) rfl ?_) | (refine TL.storeVX rfl rfl rfl rfl (by refine ⟨?_, ?_⟩; (focus (repeat (first | assumption | (apply Vr.ext; assumption) | (apply Vr.updX; assumption; rotate_left; omega)))); rfl) (fun ws hVs hUs hzs => ?_)) | (refine TL.storeX rfl rfl rfl rfl (by refine ⟨?_, ?_⟩; (focus (repeat (first | assumption | (apply Vr.ext; assumption) | (apply Vr.updX; assumption; rotate_left; omega)))); rfl) (fun ws hVs hUs hzs => ?_)) | (refine TL.ev (ev_buildX rfl rfl) rfl ?_) | (refine TF.s rfl (fun _ _ => ev_buildX rfl rfl) rfl ?_) | (refine TL.ev (ev_field rfl rfl) rfl ?_) | (refine TL.ev (ev_makeFunc rfl) rfl ?_) | (refine TF.s rfl (fun _ _ => ev_makeFunc rfl) rfl ?_) | refine TF.nil ?_ | refine TF.e rfl ?_ | refine TF.alt ?_ ?_ | refine G.treeEnd rfl ?_ | refine G.tree rfl (by repeat (first | exact Ext.refl _ | (refine Ext.trans ?_ (by assumption)) | (apply ext_upd; assumption; rotate_left; omega))) ?_ | refine TL.nilX (fun wq hzq hEq => ?_) | refine T.seq ?_ | refine T.region ?_ | refine TL.nil ?_ | refine T.block ?_ | refine T.cond_t rfl ?_ | refine T.cond_f rfl ?_ | refine T.exit ?_ | refine T.ret ?_ | refine T.skip ?_ | refine G.next ?_ | refine G.blockN ?_ | refine G.blockE ?_ | refine G.blockE' rfl ?_ | refine G.blockR ?_ | refine G.thenE ?_ | refine G.thenR ?_ | refine T.regionQ mixed (by kernel_rfl) ?_ | refine TL.nilQ (fun _ => ?_) | refine G.only ?_ | refine G.mixed ?_ | refine TM.nil ?_ | refine TM.e rfl ?_)
    exact G.again (i + 1) (by repeat (first | exact Sub.nil _ | refine Sub.cons rfl ?_ | refine Sub.cons' rfl (int_congr (by omega)) ?_)) ⟨by omega, (by repeat (first | exact Ext.refl _ | (refine Ext.trans ?_ (by assumption)) | (apply ext_upd; assumption; rotate_left; omega)))⟩ (by omega)
  · obtain rfl : i = n := by omega
    repeat' (first | refine TL.ev (ev_simple rfl) rfl ?_ | refine TL.grun rfl rfl rfl ?_ | refine TL.gskip rfl rfl rfl rfl ?_ | refine TL.gskipU rfl rfl rfl ?_ | refine TL.ev (ev_len rfl) rfl ?_ | (refine TL.cmpG rfl rfl rfl rfl (fun hc => ?_) (fun hc => ?_) <;> try (exfalso; omega)) | refine TL.ev (ev_arN rfl rfl rfl (by omega)) rfl ?_ | refine TL.ev (ev_arI rfl rfl rfl (by omega)) rfl ?_ | refine TL.ev (ev_neg rfl (by omega)) rfl ?_ | refine TF.nil ?_ | refine TF.e rfl ?_ | refine TF.alt ?_ ?_ | refine G.treeEnd rfl ?_ | refine G.tree rfl (by repeat (first | exact Ext.refl _ | (refine Ext.trans ?_ (by assumption)) | (apply ext_upd; assumption; rotate_left; omega))) ?_ | refine TL.nilX (fun wq hzq hEq => ?_) | refine T.seq ?_ | refine T.region ?_ | refine TL.nil ?_ | refine T.block ?_ | refine T.cond_t rfl ?_ | refine T.cond_f rfl ?_ | refine T.exit ?_ | refine T.ret ?_ | refine T.skip ?_ | refine G.next ?_ | refine G.blockN ?_ | refine G.blockE ?_ | refine G.blockE' rfl ?_ | refine G.blockR ?_ | refine G.thenE ?_ | refine G.thenR ?_ | refine T.regionQ mixed (by kernel_rfl) ?_ | refine TL.nilQ (fun _ => ?_) | refine G.only ?_ | refine G.mixed ?_ | refine TM.nil ?_ | refine TM.e rfl ?_)
    exact G.ret1 rfl rfl ⟨rfl, hE2⟩
/-- a matrix that reads; entries of at most K words -/
structure GM (H : Array Obj) (x : MV) (r c : Nat) (K : Nat) : Prop where
  sh : Sound x r c
  s : Sm 2 ivc H H.size x.A x.n x.k x.l
  g : ∀ y ∈ x.l, GI H y ∧ y.m.n ≤ K
/-- a matrix whose entries are F, in least form -/
structure LM (H : Array Obj) (x : MV) (r c : Nat) (F : Nat → Nat → Int) (K : Nat) : Prop where
  sh : Sound x r c
  s : Sm 2 ivc H H.size x.A x.n x.k x.l
  g : ∀ i j, i < r → j < c → LI H (F i j) (x.l.getD (i * c + j) default) ∧ (x.l.getD (i * c + j) default).m.n ≤ K
def ent (x : MV) (c i j : Nat) : Int := ival (x.l.getD (i * c + j) default)
theorem place_lt {i j r c : Nat} (hi : i < r) (hj : j < c) : i * c + j < r * c := by
  have h1 : (i + 1) * c ≤ r * c := Nat.mul_le_mul_right c hi
  rw [Nat.add_mul] at h1
  omega
theorem LM.gm {H : Array Obj} {x : MV} {r c : Nat} {F : Nat → Nat → Int} {K : Nat} (h : LM H x r c F K) : GM H x r c K := by
  refine ⟨h.sh, h.s, fun y hy => ?_⟩
  obtain ⟨q, hq⟩ := List.getElem?_of_mem hy
  have hlt := (List.getElem?_eq_some_iff.1 hq).1
  have hlen := h.s.len
  rw [h.sh.n] at hlen
  have hc : 0 < c := by rcases Nat.eq_zero_or_pos c with h0 | h0
                        · rw [h0, Nat.mul_zero] at hlen; omega
                        · exact h0
  have h1 : q / c < r := Nat.div_lt_of_lt_mul (by rw [Nat.mul_comm]; omega)
  have h2 := h.g (q / c) (q % c) h1 (Nat.mod_lt _ hc)
  rw [Nat.div_add_mod'] at h2
  have e : x.l.getD q default = y := by simp [List.getD, hq]
  rw [e] at h2
  exact ⟨h2.1.g, h2.2⟩
theorem LM.ent {H : Array Obj} {x : MV} {r c : Nat} {F : Nat → Nat → Int} {K : Nat} (h : LM H x r c F K) {i j : Nat} (hi : i < r) (hj : j < c) : ent x c i j = F i j := (h.g i j hi hj).1.val
theorem GM.ext {w w' : World} {x : MV} {r c K : Nat} (hE : Ext w w') (h : GM w.heap x r c K) : GM w'.heap x r c K := ⟨h.sh, (h.s.ext hE).size, fun y hy => ⟨(h.g y hy).1.ext hE, (h.g y hy).2⟩⟩
theorem LM.ext {w w' : World} {x : MV} {r c K : Nat} {F : Nat → Nat → Int} (hE : Ext w w') (h : LM w.heap x r c F K) : LM w'.heap x r c F K := ⟨h.sh, (h.s.ext hE).size, fun i j hi hj => ⟨(h.g i j hi hj).1.ext hE, (h.g i j hi hj).2⟩⟩
/-- the list lies in a block that is not older than w -/
def MF (w : World) (x : MV) : Prop := x.n = 0 ∨ ∃ b, x.A = some ⟨b, 0, none⟩ ∧ w.heap.size ≤ b
theorem MF.mono {w w1 : World} {x : MV} (h : MF w1 x) (hs : w.heap.size ≤ w1.heap.size) : MF w x := h.imp id fun ⟨b, e, hb⟩ => ⟨b, e, Nat.le_trans hs hb⟩
def RetM (w : World) (r c : Nat) (F : Nat → Nat → Int) (K : Nat) (e : Ending) (w' : World) : Prop := ∃ x : MV, e = .returned (.agg (mvc x).toArray) ∧ LM w'.heap x r c F K ∧ Ext w w' ∧ MF w x
theorem ivc_all (l : List IV) (zs : List Value) (hz : zs.all noU64 = true) : (l.flatMap ivc ++ zs).all noU64 = true := by
  rw [List.all_append, hz, Bool.and_true]
  rw [List.all_eq_true]
  intro v hv
  obtain ⟨x, _, hx⟩ := List.mem_flatMap.1 hv
  simp only [ivc, List.mem_cons, List.not_mem_nil, or_false] at hx
  rcases hx with rfl | rfl <;> rfl
theorem getD_snoc {l : List IV} {x : IV} {q : Nat} (h : q < (l ++ [x]).length) : (l ++ [x]).getD q default = if q < l.length then l.getD q default else x := by
  simp only [List.length_append, List.length_singleton] at h
  split
  · rename_i h1
    simp [List.getD, List.getElem?_append_left h1]
  · rename_i h1
    obtain rfl : q = l.length := by omega
    simp [List.getD]
set_option maxRecDepth 100000 in
set_option maxHeartbeats 8000000 in
theorem build_ok (w : World) (r c : Nat) (hr : r ≤ 64) (hc : c ≤ 64) (g : FuncId) (cap : List Value) (hg : IsFn Try.prog g) (F : Nat → Nat → Int) (K : Nat)
    (hF : ∀ (i j : Nat) (w1 : World), i < r → j < c → Ext w w1 → Cl Try.prog g ([Value.int .i64 (i : Int), Value.int .i64 (j : Int)] ++ cap).toArray w1 (RetZ w1 (F i j) K)) :
    Cl Try.prog 34 #[.int .i64 (r : Int), .int .i64 (c : Int), .func (.func g) #[] cap.toArray] w (RetM w r c F K) := by
  have hm := mul64 hr hc
  refine enter Try.func34 rfl rfl rfl ?_
  repeat' (first | refine TL.ev (ev_simple rfl) rfl ?_ | refine TL.ev (ev_arN rfl rfl rfl (by omega)) rfl ?_ | (refine TL.makeX (z := [.bool false, .slice none 0 0]) rfl rfl rfl (by omega) (by omega) rfl rfl rfl (fun w3 b3 zs eb3 hzl hzn hV3 hE3 hz3 => ?_)) | (refine TL.alloc rfl (fun wa ba eba hVa hEa hza => ?_); have hla := box_lo (w0 := w) (by repeat (first | exact Ext.refl _ | (refine Ext.trans ?_ (by assumption)) | (apply ext_upd; assumption; rotate_left; omega))) eba) | (refine TL.storeVX rfl rfl rfl rfl (by refine ⟨?_, ?_⟩; (focus (repeat (first | assumption | (apply Vr.ext; assumption) | (apply Vr.updX; assumption; rotate_left; omega)))); rfl) (fun ws hVs hUs hzs => ?_)) | (refine TL.ev (ev_buildX rfl rfl) rfl ?_) | refine T.seq ?_ | refine T.region ?_ | refine TL.nil ?_ | refine T.block ?_ | refine G.next ?_)
  rename_i w6 b6 eb6 hV6 hE6 hz6 hl6
  have hne : b3 ≠ ba := by omega
  have hl3 : w.heap.size ≤ b3 := by omega
  have hV3s : Vr ws.heap b3 37 zs := (by repeat (first | assumption | (apply Vr.ext; assumption) | (apply Vr.updX; assumption; rotate_left; omega)))
  have hV6s : Vr ws.heap b6 24 (Value.agg #[.int .i64 0, .int .i64 0, .slice none 0 0]).cells.toList := (by repeat (first | assumption | (apply Vr.ext; assumption) | (apply Vr.updX; assumption; rotate_left; omega)))
  have hEs : Ext w ws := (by repeat (first | exact Ext.refl _ | (refine Ext.trans ?_ (by assumption)) | (apply ext_upd; assumption; rotate_left; omega)))
  have hne6 : b6 ≠ ba := by omega
  have hne63 : b6 ≠ b3 := by omega
  clear hV3 hVa hzs hEa
  have hgone : True := trivial
  refine T.loop (α := Nat × List IV × List Value) (fun x => [(1, .int .i64 (c : Int)), (2, .func (.func g) #[] cap.toArray), (6, .pointer (some ⟨b6, 0, none⟩)), (7, .pointer (some ⟨ba, 0, none⟩)), (17, .int .i64 (r : Int)), (18, .int .i64 (x.1 : Int))])
    (fun x w' => x.1 ≤ r ∧ x.2.1.length = x.1 * c ∧ x.2.2.length = (r * c - x.1 * c) * 2 ∧ x.2.2.all noU64 = true ∧ Ext w w' ∧ Vr w'.heap b3 37 (x.2.1.flatMap ivc ++ x.2.2) ∧ Vr w'.heap ba 24 [.int .i64 (r : Int), .int .i64 (c : Int), .slice (some ⟨b3, 0, none⟩) (x.1 * c) (r * c)] ∧
      (∃ cs6, Vr w'.heap b6 24 cs6 ∧ cs6.length = 3 ∧ cs6.all noU64 = true) ∧ ∀ q, q < x.2.1.length → LI w'.heap (F (q / c) (q % c)) (x.2.1.getD q default) ∧ (x.2.1.getD q default).m.n ≤ K)
    (fun x => r - x.1) (0, [], zs) (by repeat (first | exact Sub.nil _ | refine Sub.cons rfl ?_ | refine Sub.cons' rfl (int_congr (by omega)) ?_)) ⟨Nat.zero_le _, by simp, by simp; omega, hzn, hEs, by simpa using hV3s, by simpa using hVs, ⟨_, hV6s, rfl, rfl⟩, fun q hq => by simp at hq⟩ ?_
  rintro ⟨i, l, zz⟩ w2 ⟨hi, hl, hzzl, hzz, hE2, hV32, hV72, ⟨cs6, hV62, hl6', hn6⟩, hg2⟩
  dsimp only at hi hl hzzl hzz hE2 hV32 hV72 hV62 hg2 ⊢
  rcases Nat.lt_or_ge i r with hin | hin
  · repeat' (first | refine TL.ev (ev_simple rfl) rfl ?_ | refine TL.grun rfl rfl rfl ?_ | refine TL.gskip rfl rfl rfl rfl ?_ | refine TL.gskipU rfl rfl rfl ?_ | refine TL.ev (ev_len rfl) rfl ?_ | (refine TL.cmpG rfl rfl rfl rfl (fun hc => ?_) (fun hc => ?_) <;> try (exfalso; omega)) | refine TL.ev (ev_arN rfl rfl rfl (by omega)) rfl ?_ | refine TL.ev (ev_arI rfl rfl rfl (by omega)) rfl ?_ | refine TL.ev (ev_neg rfl (by omega)) rfl ?_ | refine TF.nil ?_ | refine TF.e rfl ?_ | refine TF.alt ?_ ?_ | refine G.treeEnd rfl ?_ | refine G.tree rfl (by repeat (first | exact Ext.refl _ | (refine Ext.trans ?_ (by assumption)) | (apply ext_upd; assumption; rotate_left; omega))) ?_ | refine TL.nilX (fun wq hzq hEq => ?_) | refine T.seq ?_ | refine T.region ?_ | refine TL.nil ?_ | refine T.block ?_ | refine T.cond_t rfl ?_ | refine T.cond_f rfl ?_ | refine T.exit ?_ | refine T.ret ?_ | refine T.skip ?_ | refine G.next ?_ | refine G.blockN ?_ | refine G.blockE ?_ | refine G.blockE' rfl ?_ | refine G.blockR ?_ | refine G.thenE ?_ | refine G.thenR ?_ | refine T.regionQ mixed (by kernel_rfl) ?_ | refine TL.nilQ (fun _ => ?_) | refine G.only ?_ | refine G.mixed ?_ | refine TM.nil ?_ | refine TM.e rfl ?_)
    refine T.loop (α := Nat × List IV × List Value) (fun x => [(1, .int .i64 (c : Int)), (2, .func (.func g) #[] cap.toArray), (6, .pointer (some ⟨b6, 0, none⟩)), (7, .pointer (some ⟨ba, 0, none⟩)), (8, .int .i64 (i : Int)), (17, .int .i64 (r : Int)), (18, .int .i64 (i : Int)), (21, .int .i64 (c : Int)), (22, .int .i64 (x.1 : Int))])
      (fun x w' => x.1 ≤ c ∧ x.2.1.length = i * c + x.1 ∧ x.2.2.length = (r * c - (i * c + x.1)) * 2 ∧ x.2.2.all noU64 = true ∧ Ext w w' ∧ Vr w'.heap b3 37 (x.2.1.flatMap ivc ++ x.2.2) ∧ Vr w'.heap ba 24 [.int .i64 (r : Int), .int .i64 (c : Int), .slice (some ⟨b3, 0, none⟩) (i * c + x.1) (r * c)] ∧
        (∃ cs6, Vr w'.heap b6 24 cs6 ∧ cs6.length = 3 ∧ cs6.all noU64 = true) ∧ ∀ q, q < x.2.1.length → LI w'.heap (F (q / c) (q % c)) (x.2.1.getD q default) ∧ (x.2.1.getD q default).m.n ≤ K)
      (fun x => c - x.1) (0, l, zz) (by repeat (first | exact Sub.nil _ | refine Sub.cons rfl ?_ | refine Sub.cons' rfl (int_congr (by omega)) ?_)) ⟨Nat.zero_le _, hl, hzzl, hzz, hE2, hV32, hV72, ⟨cs6, hV62, hl6', hn6⟩, hg2⟩ ?_
    clear hV32 hV72 hV62 hg2 hE2 hl hzzl hzz
    rintro ⟨j, l, zz⟩ w2 ⟨hj, hl, hzzl, hzz, hE2, hV32, hV72, ⟨cs6, hV62, hl6', hn6⟩, hg2⟩
    dsimp only at hj hl hzzl hzz hE2 hV32 hV72 hV62 hg2 ⊢
    rcases Nat.lt_or_ge j c with hjn | hjn
    · have hpl := place_lt hin hjn
      have hc0 : 0 < c := by omega
      repeat' (first | refine TL.ev (ev_simple rfl) rfl ?_ | (refine TL.cmpG rfl rfl rfl rfl (fun hc => ?_) (fun hc => ?_) <;> try (exfalso; omega)) | refine TL.ev (ev_arN rfl rfl rfl (by omega)) rfl ?_ | refine TF.nil ?_ | refine TF.e rfl ?_ | refine G.treeEnd rfl ?_ | refine TF.s rfl (fun _ hh => ev_simple rfl) rfl ?_ | refine TF.s rfl (fun _ hh => ev_fieldAddr rfl) rfl ?_ | refine T.regionXb b3 8 9 (.s 0 (.s 1 (.s 2 (.s 3 (.s 4 (.e 5 (.e 6 (.e 7 (.s 8 (.e 9 .nil)))))))))) mixed (by kernel_rfl) (fun wr hzr hEr => ?_) | (refine G.tree rfl (by repeat (first | exact Exb.refl _ _ | (refine Exb.ext ?_ (by assumption)) | (refine Exb.upd ?_ (by assumption)))) ?_) | (refine TF.s rfl (fun _ hh => ev_loadVX rfl ⟨Vr.exb hh hV72 (Ne.symm hne), rfl⟩) rfl ?_) | (refine TL.callV (vs := [.int .i64 (i : Int), .int .i64 (j : Int)]) (cap := cap) hg rfl rfl rfl ?_; refine (hF i j _ hin hjn (by repeat (first | exact Ext.refl _ | (refine Ext.trans ?_ (by assumption)) | (apply ext_upd; assumption; rotate_left; omega)))).mono ?_; rintro _ wf ⟨x, rfl, hLx, hEf, hKx⟩; refine Back.mk ?_; have hzf := hEf.size) | (refine TL.buildX1 (f := ivc) (u := x) rfl rfl rfl rfl rfl rfl rfl (fun wn bn ebn hVn hSn hEn hzn' => ?_)) | (refine TL.appendX (f := ivc) (u := x) (l := l) (zs := zz) (fun _ => rfl) rfl rfl rfl hSn (by repeat (first | assumption | (apply Vr.ext; assumption) | (apply Vr.updX; assumption; rotate_left; omega))) (fun _ _ => rfl) hl (by omega) (by omega) (fun wp hVp hUp hzp => ?_)) | (refine TL.storeX rfl rfl rfl rfl (by refine ⟨?_, ?_⟩; (focus (repeat (first | assumption | (apply Vr.ext; assumption) | (apply Vr.updX; assumption; rotate_left; omega)))); rfl) (fun ws hVs hUs hzs => ?_)) | refine T.seq ?_ | refine T.region ?_ | refine TL.nil ?_ | refine T.block ?_ | refine T.cond_t rfl ?_ | refine T.skip ?_ | refine G.next ?_ | refine G.blockN ?_ | refine G.only ?_)
      have hEn' : ∀ z y, LI w2.heap z y → LI wn.heap z y := fun z y h => by repeat (first | assumption | (apply LI.ext; assumption))
      have hV3n : Vr wn.heap b3 37 (l.flatMap ivc ++ zz) := (by repeat (first | assumption | (apply Vr.ext; assumption) | (apply Vr.updX; assumption; rotate_left; omega)))
      have hV7p : Vr wp.heap ba 24 [.int .i64 (r : Int), .int .i64 (c : Int), .slice (some ⟨b3, 0, none⟩) (i * c + j) (r * c)] := (by repeat (first | assumption | (apply Vr.ext; assumption) | (apply Vr.updX; assumption; rotate_left; omega)))
      have keep : ∀ z y, LI wn.heap z y → LI ws.heap z y := fun z y h => LI.updV hUs hV7p rfl (LI.updV hUp hV3n (ivc_all _ _ hzz) h)
      have hV6e : Vr ws.heap b6 24 cs6 := (by repeat (first | assumption | (apply Vr.ext; assumption) | (apply Vr.updX; assumption; rotate_left; omega)))
      have hV3e := Vr.updX hUs hVp hne
      have hlq : (l ++ [x]).length = i * c + (j + 1) := by simp; omega
      have hqd : (i * c + j) / c = i := by rw [Nat.mul_comm, Nat.mul_add_div hc0, Nat.div_eq_of_lt hjn, Nat.add_zero]
      have hqm : (i * c + j) % c = j := by rw [Nat.mul_comm, Nat.mul_add_mod, Nat.mod_eq_of_lt hjn]
      refine G.again (j + 1, l ++ [x], zz.drop 2) (by repeat (first | exact Sub.nil _ | refine Sub.cons rfl ?_ | refine Sub.cons' rfl (int_congr (by omega)) ?_)) ⟨by dsimp only; omega, hlq, by simp; omega, ?_, (by repeat (first | exact Ext.refl _ | (refine Ext.trans ?_ (by assumption)) | (apply ext_upd; assumption; rotate_left; omega))), hV3e, hVs, ⟨cs6, hV6e, hl6', hn6⟩, fun q hq => ?_⟩ (by dsimp only; omega)
      · rw [List.all_eq_true] at hzz ⊢
        exact fun v hv => hzz v (List.mem_of_mem_drop hv)
      · dsimp only at hq ⊢
        rw [getD_snoc hq]
        split
        · rename_i h1
          exact ⟨keep _ _ (hEn' _ _ (hg2 q h1).1), (hg2 q h1).2⟩
        · rename_i h1
          obtain rfl : q = i * c + j := by rw [hlq] at hq; omega
          rw [hqd, hqm]
          exact ⟨keep _ _ (hLx.ext hEn), hKx⟩
    · obtain rfl : j = c := by omega
      repeat' (first | refine TL.ev (ev_simple rfl) rfl ?_ | refine TL.grun rfl rfl rfl ?_ | refine TL.gskip rfl rfl rfl rfl ?_ | refine TL.gskipU rfl rfl rfl ?_ | refine TL.ev (ev_len rfl) rfl ?_ | (refine TL.cmpG rfl rfl rfl rfl (fun hc => ?_) (fun hc => ?_) <;> try (exfalso; omega)) | refine TL.ev (ev_arN rfl rfl rfl (by omega)) rfl ?_ | refine TL.ev (ev_arI rfl rfl rfl (by omega)) rfl ?_ | refine TL.ev (ev_neg rfl (by omega)) rfl ?_ | refine TF.nil ?_ | refine TF.e rfl ?_ | refine TF.alt ?_ ?_ | refine G.treeEnd rfl ?_ | refine G.tree rfl (by repeat (first | exact Ext.refl _ | (refine Ext.trans ?_ (by assumption)) | (apply ext_upd; assumption; rotate_left; omega))) ?_ | refine TL.nilX (fun wq hzq hEq => ?_) | refine T.seq ?_ | refine T.region ?_ | refine TL.nil ?_ | refine T.block ?_ | refine T.cond_t rfl ?_ | refine T.cond_f rfl ?_ | refine T.exit ?_ | refine T.ret ?_ | refine T.skip ?_ | refine G.next ?_ | refine G.blockN ?_ | refine G.blockE ?_ | refine G.blockE' rfl ?_ | refine G.blockR ?_ | refine G.thenE ?_ | refine G.thenR ?_ | refine T.regionQ mixed (by kernel_rfl) ?_ | refine TL.nilQ (fun _ => ?_) | refine G.only ?_ | refine G.mixed ?_ | refine TM.nil ?_ | refine TM.e rfl ?_)
      refine G.again (i + 1, l, zz) (by repeat (first | exact Sub.nil _ | refine Sub.cons rfl ?_ | refine Sub.cons' rfl (int_congr (by omega)) ?_)) ⟨by dsimp only; omega, by dsimp only; rw [hl, Nat.add_mul, Nat.one_mul], by dsimp only; rw [hzzl, Nat.add_mul, Nat.one_mul], hzz, hE2, hV32, by dsimp only; rw [Nat.add_mul, Nat.one_mul]; exact hV72, ⟨cs6, hV62, hl6', hn6⟩, hg2⟩ (by dsimp only; omega)
  · obtain rfl : i = r := by omega
    have hzz0 : zz = [] := List.eq_nil_of_length_eq_zero (by rw [hzzl, Nat.sub_self, Nat.zero_mul])
    subst hzz0
    match cs6, hl6', hV62, hn6 with
    | [y0, y1, y2], _, hV62, hn6 =>
      repeat' (first | (refine TL.cmpG rfl rfl rfl rfl (fun hc => ?_) (fun hc => ?_) <;> try (exfalso; omega)) | (refine TL.ev (ev_loadVAX rfl (by refine ⟨?_, ?_⟩; (focus (repeat (first | assumption | (apply Vr.ext; assumption) | (apply Vr.updX; assumption; rotate_left; omega)))); rfl)) rfl ?_) | (refine TL.storeVX rfl rfl rfl rfl (by refine ⟨?_, ?_⟩; (focus (repeat (first | assumption | (apply Vr.ext; assumption) | (apply Vr.updX; assumption; rotate_left; omega)))); rfl) (fun ws hVs hUs hzs => ?_)) | refine T.seq ?_ | refine T.region ?_ | refine TL.nil ?_ | refine T.cond_f rfl ?_ | refine T.exit ?_ | refine T.ret ?_ | refine G.next ?_ | refine G.blockE ?_ | refine G.thenE ?_)
      have hV3e : Vr ws.heap b3 37 (l.flatMap ivc ++ []) := Vr.updX hUs hV32 (Ne.symm hne63)
      have hs := vr_sm (n := i * c) (c := i * c) (B := ws.heap.size) (show 0 < 2 by omega) (fun _ _ => rfl) hV3e hl (Nat.le_refl _) hV3e.lt
      refine G.retC1 rfl rfl (held_agg hVs rfl) ⟨⟨(i : Int), (c : Int), some ⟨b3, 0, none⟩, i * c, i * c, l⟩, rfl, ⟨⟨rfl, rfl, hr, by assumption, rfl⟩, hs, fun a b ha hb => ?_⟩, (by repeat (first | exact Ext.refl _ | (refine Ext.trans ?_ (by assumption)) | (apply ext_upd; assumption; rotate_left; omega))), .inr ⟨b3, rfl, hl3⟩⟩
      have hq := place_lt ha hb
      obtain ⟨g1, g2⟩ := hg2 (a * c + b) (by omega)
      rw [show (a * c + b) / c = a by rw [Nat.mul_comm, Nat.mul_add_div (by omega), Nat.div_eq_of_lt hb, Nat.add_zero], show (a * c + b) % c = b by rw [Nat.mul_comm, Nat.mul_add_mod, Nat.mod_eq_of_lt hb]] at g1
      exact ⟨LI.updV hUs hV62 hn6 g1, g2⟩
end Go.Proofs.Ytlhmehikajidhaa

namespace Go.Proofs.Ytlhmehikajidhaa
open Go Go.Eng Go.Proofs Go.NatM Go.RowKit

def noBool : Value → Bool
  | .bool _ => false
  | _ => true
theorem sm_updV {w w' : World} {B n k b : Nat} {A : Option Addr} {l : List IV} {t : TypeId} {cs : List Value} (hu : Upd b w w') (hV : Vr w.heap b t cs) (hc : cs.all noBool = true) (h : Sm 2 ivc w.heap B A n k l) : Sm 2 ivc w'.heap B A n k l := by
  refine ⟨h.len, h.cap, h.pos, h.wid, ?_⟩
  rcases h.mem with h0 | ⟨b', o, e, hlt, hm⟩
  · exact .inl h0
  · rcases Nat.eq_zero_or_pos n with h0 | h0
    · exact .inl h0
    · have hl : 0 < l.length := by have := h.len; omega
      have hne : b' ≠ b := by
        intro hb
        subst hb
        have h1 := hm 0 l[0] (List.getElem?_eq_getElem hl) 0 (.bool l[0].neg) rfl
        rw [hV.cell] at h1
        have h2 := List.all_eq_true.1 hc _ (List.mem_of_getElem? h1)
        cases h2
      refine .inr ⟨b', o, e, hlt, fun j x hx q v hv => ?_⟩
      have := hm j x hx q v hv
      unfold hcell at this ⊢
      rw [hu.block b' hne]
      exact this
theorem LM.updV {w w' : World} {x : MV} {r c K b : Nat} {F : Nat → Nat → Int} {t : TypeId} {cs : List Value} (hu : Upd b w w') (hV : Vr w.heap b t cs) (h1 : cs.all noU64 = true) (h2 : cs.all noBool = true) (h : LM w.heap x r c F K) : LM w'.heap x r c F K :=
  ⟨h.sh, (sm_updV hu hV h2 h.s).size, fun i j hi hj => ⟨LI.updV hu hV h1 (h.g i j hi hj).1, (h.g i j hi hj).2⟩⟩
theorem LI.zero (H : Array Obj) : LI H 0 ⟨false, ⟨none, 0, 0, []⟩⟩ := ⟨⟨Sl.nil _ _ _ _ _, U64.nil⟩, by simp [dig_zero], rfl⟩
/-- f 0 + .. + f (m - 1) -/
def psum (f : Nat → Int) : Nat → Int
  | 0 => 0
  | k + 1 => f k + psum f k
set_option maxRecDepth 100000 in
set_option maxHeartbeats 8000000 in
theorem prod1_ok (w : World) (r m c i j Kx Ky : Nat) (A A' : Option Addr) (k k' : Nat) (l l' : List IV) (pa pb : Nat) (gx : GM w.heap ⟨r, m, A, r * m, k, l⟩ r m Kx) (gy : GM w.heap ⟨m, c, A', m * c, k', l'⟩ m c Ky) (hx : Kx ≤ 8796093022000) (hy : Ky ≤ 8796093022000)
    (hpa : Vr w.heap pa 24 (mvc ⟨r, m, A, r * m, k, l⟩)) (hpb : Vr w.heap pb 24 (mvc ⟨m, c, A', m * c, k', l'⟩)) (hi : i < r) (hj : j < c) :
    Cl Try.prog 61 #[.int .i64 (i : Int), .int .i64 (j : Int), .pointer (some ⟨pa, 0, none⟩), .pointer (some ⟨pb, 0, none⟩)] w (RetZ w (psum (fun q => ival (l.getD (i * m + q) default) * ival (l'.getD (q * c + j) default)) m) (Kx + Ky + m)) := by
  have hr64 := gx.sh.r64
  have hm64 := gx.sh.c64
  have hc64 := gy.sh.c64
  have hmul1 := mul64 hr64 hm64
  have hmul2 := mul64 hm64 hc64
  have hs := gx.s
  have hs' := gy.s
  have hlen := hs.len
  have hlen' := hs'.len
  dsimp only at hs hs' hlen hlen'
  refine enter Try.func61 rfl rfl rfl ?_
  repeat' (first | refine TL.ev (ev_simple rfl) rfl ?_ | (refine TL.alloc rfl (fun wa ba eba hVa hEa hza => ?_); have hla := box_lo (w0 := w) (by repeat (first | exact Ext.refl _ | (refine Ext.trans ?_ (by assumption)) | (apply ext_upd; assumption; rotate_left; omega))) eba) | (refine TL.ev (ev_fieldAddr rfl) rfl ?_) | (refine TL.ev (ev_loadVX rfl (by refine ⟨?_, ?_⟩; (focus (repeat (first | assumption | (apply Vr.ext; assumption) | (apply Vr.updX; assumption; rotate_left; omega)))); rfl)) rfl ?_) | refine T.seq ?_ | refine T.region ?_ | refine TL.nil ?_ | refine T.block ?_ | refine G.next ?_)
  rename_i w6 b6 eb6 hV6 hE6 hz6 hl6
  have hV6a : Vr wa.heap b6 37 (Value.agg #[.bool false, .slice none 0 0]).cells.toList := hV6.ext hEa
  have hEw : Ext w wa := (by repeat (first | exact Ext.refl _ | (refine Ext.trans ?_ (by assumption)) | (apply ext_upd; assumption; rotate_left; omega)))
  have hne : b6 ≠ ba := by omega
  refine T.loop (α := Nat × IV) (fun x => [(0, .int .i64 (i : Int)), (1, .int .i64 (j : Int)), (2, .pointer (some ⟨pa, 0, none⟩)), (3, .pointer (some ⟨pb, 0, none⟩)), (6, .pointer (some ⟨b6, 0, none⟩)), (7, .pointer (some ⟨ba, 0, none⟩)), (10, .int .i64 (m : Int)), (11, .int .i64 (x.1 : Int))])
    (fun x w' => x.1 ≤ m ∧ Ext w w' ∧ Vr w'.heap ba 37 (ivc x.2) ∧ Vr w'.heap b6 37 [.bool false, .slice none 0 0] ∧ LI w'.heap (psum (fun q => ival (l.getD (i * m + q) default) * ival (l'.getD (q * c + j) default)) x.1) x.2 ∧ x.2.m.n ≤ Kx + Ky + x.1)
    (fun x => m - x.1) (0, ⟨false, ⟨none, 0, 0, []⟩⟩) (by repeat (first | exact Sub.nil _ | refine Sub.cons rfl ?_ | refine Sub.cons' rfl (int_congr (by omega)) ?_)) ⟨Nat.zero_le _, hEw, hVa, hV6a, LI.zero _, Nat.zero_le _⟩ ?_
  rintro ⟨q, s⟩ w2 ⟨hq, hE2, hV72, hV62, hL2, hK2⟩
  dsimp only at hq hE2 hV72 hV62 hL2 hK2 ⊢
  rcases Nat.lt_or_ge q m with hqm | hqm
  · have hp1 := place_lt hi hqm
    have hp2 := place_lt hqm hj
    have s1 := hs.ext hE2
    have s2 := hs'.ext hE2
    have hpa2 := hpa.ext hE2
    have hpb2 := hpb.ext hE2
    have y1 : l[i * m + q]? = some (l.getD (i * m + q) default) := by simp [List.getD, show i * m + q < l.length by omega]
    have y2 : l'[q * c + j]? = some (l'.getD (q * c + j) default) := by simp [List.getD, show q * c + j < l'.length by omega]
    obtain ⟨g1, n1⟩ := (gx.ext hE2).g _ (List.mem_of_getElem? y1)
    obtain ⟨g2, n2⟩ := (gy.ext hE2).g _ (List.mem_of_getElem? y2)
    have g3 := hL2.g
    have hstep : psum (fun q => ival (l.getD (i * m + q) default) * ival (l'.getD (q * c + j) default)) (q + 1) = ival (l.getD (i * m + q) default) * ival (l'.getD (q * c + j) default) + ival s := by rw [hL2.val]; rfl
    obtain ⟨x1, hx1⟩ : ∃ x1, l.getD (i * m + q) default = x1 := ⟨_, rfl⟩
    obtain ⟨x2, hx2⟩ : ∃ x2, l'.getD (q * c + j) default = x2 := ⟨_, rfl⟩
    rw [hx1] at y1 g1 n1 hstep
    rw [hx2] at y2 g2 n2 hstep
    repeat' (first | refine TL.ev (ev_simple rfl) rfl ?_ | (refine TL.call rfl rfl ?_; first | (refine (zmulAdd_ok _ x1 x2 s (by repeat (first | assumption | (apply GI.ext; assumption))) (by repeat (first | assumption | (apply GI.ext; assumption))) (by repeat (first | assumption | (apply GI.ext; assumption))) (by omega) (by omega) (by omega)).mono ?_; rintro _ wm ⟨s', rfl, hLm, hEm, hKm⟩; refine Back.mk ?_; have hzm := hEm.size; rw [← hstep] at hLm)) | (refine TL.cmpG rfl rfl rfl rfl (fun hc => ?_) (fun hc => ?_) <;> try (exfalso; omega)) | refine TL.ev (ev_arN rfl rfl rfl (by omega)) rfl ?_ | refine TF.nil ?_ | refine TF.e rfl ?_ | refine G.treeEnd rfl ?_ | refine TF.s rfl (fun _ hh => ev_simple rfl) rfl ?_ | refine TF.s rfl (fun _ hh => ev_arN rfl rfl rfl (by omega)) rfl ?_ | refine TF.s rfl (fun _ hh => ev_fieldAddr rfl) rfl ?_ | refine TF.s rfl (fun _ hh => ev_loadVX rfl (by refine ⟨?_, ?_⟩; (focus (repeat (first | assumption | (apply Vr.ext; assumption) | (apply Vr.updX; assumption; rotate_left; omega)))); rfl)) rfl ?_ | refine TF.s rfl (fun _ hh => ev_loadVAX rfl (by refine ⟨?_, ?_⟩; (focus (repeat (first | assumption | (apply Vr.ext; assumption) | (apply Vr.updX; assumption; rotate_left; omega)))); rfl)) rfl ?_ | refine T.regionX 5 22 (.s 0 (.s 1 (.s 2 (.s 3 (.s 4 (.s 5 (.s 6 (.s 7 (.s 8 (.s 9 (.s 10 (.s 11 (.s 12 (.s 13 (.s 14 (.s 15 (.s 16 (.s 17 (.s 18 (.s 19 (.s 20 (.e 21 (.e 22 .nil))))))))))))))))))))))) mixed (by kernel_rfl) (fun wr hzr hEr => ?_) | (refine TF.s rfl (fun _ _ => ev_indexM rfl rfl hp1 s1.some) rfl ?_) | (refine TF.s rfl (fun _ _ => ev_indexM rfl rfl hp2 s2.some) rfl ?_) | (refine TF.s rfl (fun _ hh => ev_loadM rfl (s1.ext hh) y1) rfl ?_) | (refine TF.s rfl (fun _ hh => ev_loadM rfl (s2.ext hh) y2) rfl ?_) | (refine TL.storeVX rfl rfl rfl rfl (by refine ⟨?_, ?_⟩; (focus (repeat (first | assumption | (apply Vr.ext; assumption) | (apply Vr.updX; assumption; rotate_left; omega)))); rfl) (fun ws hVs hUs hzs => ?_)) | refine G.tree rfl (by repeat (first | exact Ext.refl _ | (refine Ext.trans ?_ (by assumption)) | (apply ext_upd; assumption; rotate_left; omega))) ?_ | refine T.seq ?_ | refine T.region ?_ | refine TL.nil ?_ | refine T.block ?_ | refine T.cond_t rfl ?_ | refine T.skip ?_ | refine G.next ?_ | refine G.blockN ?_ | refine G.only ?_)
    have hV7m : Vr wm.heap ba 37 (ivc s) := (by repeat (first | assumption | (apply Vr.ext; assumption) | (apply Vr.updX; assumption; rotate_left; omega)))
    have hV6e : Vr ws.heap b6 37 [.bool false, .slice none 0 0] := (by repeat (first | assumption | (apply Vr.ext; assumption) | (apply Vr.updX; assumption; rotate_left; omega)))
    exact G.again (q + 1, s') (by repeat (first | exact Sub.nil _ | refine Sub.cons rfl ?_ | refine Sub.cons' rfl (int_congr (by omega)) ?_)) ⟨by dsimp only; omega, (by repeat (first | exact Ext.refl _ | (refine Ext.trans ?_ (by assumption)) | (apply ext_upd; assumption; rotate_left; omega))), hVs, hV6e, LI.updV hUs hV7m rfl hLm, by dsimp only; omega⟩ (by dsimp only; omega)
  · obtain rfl : q = m := by omega
    repeat' (first | (refine TL.cmpG rfl rfl rfl rfl (fun hc => ?_) (fun hc => ?_) <;> try (exfalso; omega)) | (refine TL.ev (ev_loadVAX rfl (by refine ⟨?_, ?_⟩; (focus (repeat (first | assumption | (apply Vr.ext; assumption) | (apply Vr.updX; assumption; rotate_left; omega)))); rfl)) rfl ?_) | (refine TL.storeVX rfl rfl rfl rfl (by refine ⟨?_, ?_⟩; (focus (repeat (first | assumption | (apply Vr.ext; assumption) | (apply Vr.updX; assumption; rotate_left; omega)))); rfl) (fun ws hVs hUs hzs => ?_)) | refine T.seq ?_ | refine T.region ?_ | refine TL.nil ?_ | refine T.cond_f rfl ?_ | refine T.exit ?_ | refine T.ret ?_ | refine G.next ?_ | refine G.blockE ?_ | refine G.thenE ?_)
    exact G.retC1 rfl rfl (held_agg hVs rfl) ⟨s, rfl, LI.updV hUs hV62 rfl hL2, (by repeat (first | exact Ext.refl _ | (refine Ext.trans ?_ (by assumption)) | (apply ext_upd; assumption; rotate_left; omega))), hK2⟩
theorem mprod_ok (w : World) (x y : MV) (r m c Kx Ky : Nat) (gx : GM w.heap x r m Kx) (gy : GM w.heap y m c Ky) (hx : Kx ≤ 8796093022000) (hy : Ky ≤ 8796093022000) :
    Cl Try.prog 37 #[.agg (mvc x).toArray, .agg (mvc y).toArray] w (RetM w r c (fun i j => psum (fun q => ent x m i q * ent y c q j) m) (Kx + Ky + m)) := by
  obtain ⟨xr, xc, A, n, k, l⟩ := x
  obtain ⟨yr, yc, A', n', k', l'⟩ := y
  obtain ⟨h1, h2, h3, h4, h5⟩ := id gx.sh
  obtain ⟨h1', h2', h3', h4', h5'⟩ := id gy.sh
  dsimp only at h1 h2 h5 h1' h2' h5'
  subst h1 h2 h5 h1' h2' h5'
  refine enter Try.func37 rfl rfl rfl ?_
  repeat' (first | (refine TL.call rfl rfl ?_; first | (refine (build_ok _ r c h3 h4' 61 [.pointer (some ⟨bb, 0, none⟩), .pointer (some ⟨bd, 0, none⟩)] inferInstance (fun i j => psum (fun q => ival (l.getD (i * m + q) default) * ival (l'.getD (q * c + j) default)) m) (Kx + Ky + m) (fun i j w1 hi hj hE1 => prod1_ok w1 r m c i j Kx Ky A A' k k' l l' bb bd ((by repeat (first | assumption | (apply GM.ext; assumption)))) ((by repeat (first | assumption | (apply GM.ext; assumption)))) hx hy ((by repeat (first | assumption | (apply Vr.ext; assumption)))) ((by repeat (first | assumption | (apply Vr.ext; assumption)))) hi hj)).mono ?_; rintro _ wp ⟨z, rfl, hLp, hEp, hfp⟩; refine Back.mk ?_; have hzp := hEp.size)) | (refine TL.boxA (cs := mvc ⟨r, m, A, r * m, k, l⟩) rfl rfl (fun wb bb ebb hVb hEb hzb => ?_)) | (refine TL.boxA (cs := mvc ⟨m, c, A', m * c, k', l'⟩) rfl rfl (fun wd bd ebd hVd hEd hzd => ?_)) | (refine TL.alloc rfl (fun wa ba eba hVa hEa hza => ?_); have hla := box_lo (w0 := w) (by repeat (first | exact Ext.refl _ | (refine Ext.trans ?_ (by assumption)) | (apply ext_upd; assumption; rotate_left; omega))) eba) | (refine TL.ev (ev_fieldAddr rfl) rfl ?_) | (refine TL.ev (ev_loadVX rfl (by refine ⟨?_, ?_⟩; (focus (repeat (first | assumption | (apply Vr.ext; assumption) | (apply Vr.updX; assumption; rotate_left; omega)))); rfl)) rfl ?_) | (refine TL.storeVX rfl rfl rfl rfl (by refine ⟨?_, ?_⟩; (focus (repeat (first | assumption | (apply Vr.ext; assumption) | (apply Vr.updX; assumption; rotate_left; omega)))); rfl) (fun ws hVs hUs hzs => ?_)) | (refine TL.ev (ev_makeFunc rfl) rfl ?_) | refine T.seq ?_ | refine T.region ?_ | refine TL.nil ?_ | refine T.ret ?_ | refine G.next ?_)
  exact G.retC1 rfl rfl (held_agg hVs rfl) ⟨z, rfl, LM.updV hUs (by repeat (first | assumption | (apply Vr.ext; assumption) | (apply Vr.updX; assumption; rotate_left; omega))) rfl rfl hLp, (by repeat (first | exact Ext.refl _ | (refine Ext.trans ?_ (by assumption)) | (apply ext_upd; assumption; rotate_left; omega))), hfp.mono (by omega)⟩
/-- a new matrix and an error's number 0 -/
def RetME (w : World) (r c : Nat) (F : Nat → Nat → Int) (K : Nat) (e : Ending) (w' : World) : Prop := ∃ x : MV, e = .returned (.tuple #[.agg (mvc x).toArray, .int .i64 0]) ∧ LM w'.heap x r c F K ∧ Ext w w' ∧ MF w x
/-- no matrix, and an error's number -/
def RetMF (w : World) (err : Int) (e : Ending) (w' : World) : Prop := e = .returned (.tuple #[.agg #[.int .i64 0, .int .i64 0, .slice none 0 0], .int .i64 err]) ∧ Ext w w'
theorem sound_two {x y : MV} {r m m' c : Nat} (h : Sound x r m) (h' : Sound y m' c) : ∀ z ∈ [x, y], ∃ r c, Sound z r c := by
  intro z hz
  simp only [List.mem_cons, List.not_mem_nil, or_false] at hz
  rcases hz with rfl | rfl
  · exact ⟨_, _, h⟩
  · exact ⟨_, _, h'⟩
theorem mmul_ok (w : World) (x y : MV) (r m c Kx Ky : Nat) (gx : GM w.heap x r m Kx) (gy : GM w.heap y m c Ky) (hx : Kx ≤ 8796093022000) (hy : Ky ≤ 8796093022000) :
    Cl Try.prog 13 #[.agg (mvc x).toArray, .agg (mvc y).toArray] w (RetME w r c (fun i j => psum (fun q => ent x m i q * ent y c q j) m) (Kx + Ky + m)) := by
  have e1 := gx.sh.ec
  have e2 := gy.sh.er
  have h2 := sound_two gx.sh gy.sh
  refine enter Try.func13 rfl rfl rfl ?_
  repeat' (first | refine TL.ev (ev_simple rfl) rfl ?_ | (refine TL.call rfl rfl ?_; first | (refine (check_ok _ _ _ _ _ hSn h2 (by omega)).mono ?_; rintro _ wc ⟨rfl, hEc⟩; refine Back.mk ?_; have hzc := hEc.size) | (refine (mprod_ok _ x y r m c Kx Ky (by repeat (first | assumption | (apply GM.ext; assumption))) (by repeat (first | assumption | (apply GM.ext; assumption))) hx hy).mono ?_; rintro _ wp ⟨z, rfl, hLp, hEp, hfp⟩; refine Back.mk ?_; have hzp := hEp.size)) | (refine TL.cmpG rfl rfl rfl rfl (fun hc => ?_) (fun hc => ?_) <;> try first | (exfalso; omega) | exact absurd rfl hc) | (refine TL.buildX2 (f := mvc) (u := x) (v := y) rfl rfl rfl rfl rfl rfl rfl rfl rfl rfl (fun wn bn ebn hSn hEn hzn => ?_)) | (refine TL.boxA rfl rfl (fun wb bb ebb hVb hEb hzb => ?_); have hlb := box_lo (w0 := w) (by repeat (first | exact Ext.refl _ | (refine Ext.trans ?_ (by assumption)) | (apply ext_upd; assumption; rotate_left; omega))) ebb) | (refine TL.alloc rfl (fun wa ba eba hVa hEa hza => ?_); have hla := box_lo (w0 := w) (by repeat (first | exact Ext.refl _ | (refine Ext.trans ?_ (by assumption)) | (apply ext_upd; assumption; rotate_left; omega))) eba) | (refine TL.ev (ev_fieldAddr rfl) rfl ?_) | (refine TL.ev (ev_loadVX rfl (by refine ⟨?_, ?_⟩; (focus (repeat (first | assumption | (apply Vr.ext; assumption) | (apply Vr.updX; assumption; rotate_left; omega)))); rfl)) rfl ?_) | (refine TL.ev (ev_loadVAX rfl (by refine ⟨?_, ?_⟩; (focus (repeat (first | assumption | (apply Vr.ext; assumption) | (apply Vr.updX; assumption; rotate_left; omega)))); rfl)) rfl ?_) | (refine TL.storeVX rfl rfl rfl rfl (by refine ⟨?_, ?_⟩; (focus (repeat (first | assumption | (apply Vr.ext; assumption) | (apply Vr.updX; assumption; rotate_left; omega)))); rfl) (fun ws hVs hUs hzs => ?_)) | refine T.seq ?_ | refine T.region ?_ | refine TL.nil ?_ | refine T.cond_f rfl ?_ | refine T.ret ?_ | refine T.skip ?_ | refine G.next ?_)
  exact G.retC2 rfl rfl rfl (held_agg hVs rfl) ⟨z, rfl, LM.updV hUs (by repeat (first | assumption | (apply Vr.ext; assumption) | (apply Vr.updX; assumption; rotate_left; omega))) rfl rfl hLp, (by repeat (first | exact Ext.refl _ | (refine Ext.trans ?_ (by assumption)) | (apply ext_upd; assumption; rotate_left; omega))), hfp.mono (by omega)⟩
end Go.Proofs.Ytlhmehikajidhaa

namespace Go.Proofs.Ytlhmehikajidhaa
open Go Go.Eng Go.Proofs Go.NatM Go.RowKit

end Go.Proofs.Ytlhmehikajidhaa

namespace Go.Proofs.Ytlhmehikajidhaa
open Go Go.Eng Go.Proofs Go.NatM

theorem list_eq_of {l l' : List Nat} (h1 : l.length = l'.length) (h2 : ∀ j, j < l.length → l.getD j 0 = l'.getD j 0) : l = l' := by
  refine List.ext_getElem h1 fun j h h' => ?_
  have := h2 j h
  simpa [List.getD, h, h'] using this
theorem same_ok (H : Array Obj) (B B' : Nat) (A A' : Option Addr) (n c n' c' : Nat) (l l' : List Nat) (hs : Sl u64v H B A n c l) (hs' : Sl u64v H B' A' n' c' l') (hn : n ≤ 1152921504606846976) (hn' : n' ≤ 1152921504606846976) :
    Pure Try.prog 43 #[.slice A n c, .slice A' n' c'] H (.bool (decide (l = l'))) := by
  refine Pure.of fun w hw => ?_
  subst hw
  have hlen := hs.len
  have hlen' := hs'.len
  refine enter Try.func43 rfl rfl rfl ?_
  repeat' (first | refine TL.ev (ev_simple rfl) rfl ?_ | refine TL.ev (ev_len rfl) rfl ?_ | (refine TL.cmpG rfl rfl rfl rfl (fun hc => ?_) (fun hc => ?_) <;> try (exfalso; omega)) | refine T.seq ?_ | refine T.region ?_ | refine TL.nil ?_ | refine T.block ?_ | refine T.cond_t rfl ?_ | refine T.cond_f rfl ?_ | refine T.ret ?_ | refine T.skip ?_ | refine G.next ?_ | refine G.thenR ?_)
  · refine G.ret1 rfl rfl ⟨?_, Qt.refl _⟩
    rw [decide_eq_false (fun h => hc (by subst h; omega))]
  · refine T.loop (fun k : Nat => [(0, .slice A n c), (1, .slice A' n' c'), (5, .int .i64 (k : Int))]) (fun k w' => Qt w w' ∧ k ≤ n ∧ ∀ j, j < k → l.getD j 0 = l'.getD j 0) (fun k => n - k) 0 (by repeat (first | exact Sub.nil _ | refine Sub.cons rfl ?_ | refine Sub.cons' rfl (int_congr (by omega)) ?_)) ⟨Qt.refl w, Nat.zero_le _, fun j hj => by omega⟩ ?_
    rintro k w' ⟨⟨q, rfl⟩, hk, hz⟩
    have hq : Qt w (w.drewN q) := ⟨q, rfl⟩
    repeat' (first | refine TL.ev (ev_simple rfl) rfl ?_ | refine TL.ev (ev_len rfl) rfl ?_ | (refine TL.cmpG rfl rfl rfl rfl (fun hc => ?_) (fun hc => ?_) <;> try (exfalso; omega)) | refine TL.ev (ev_arN rfl rfl rfl (by omega)) rfl ?_ | refine TL.ev (ev_indexN rfl rfl (by omega) (by first | exact Or.inr rfl | exact Sl.some (by assumption))) rfl ?_ | refine TL.ev (ev_loadU rfl (by assumption) (by omega)) rfl ?_ | refine T.seq ?_ | refine T.region ?_ | refine TL.nil ?_ | refine T.block ?_ | refine T.cond_t rfl ?_ | refine T.cond_f rfl ?_ | refine T.exit ?_ | refine T.ret ?_ | refine T.skip ?_ | refine G.next ?_ | refine G.blockN ?_ | refine G.blockE ?_ | refine G.blockR ?_ | refine G.thenE ?_ | refine G.thenR ?_ | refine T.regionQ mixed (by kernel_rfl) ?_ | refine TL.nilQ (fun _ => ?_))
    · refine G.ret1 rfl rfl ⟨?_, hq.drewN _⟩
      rw [decide_eq_false (fun h => hc (by subst h; rfl))]
    · refine G.again (k + 1) (by repeat (first | exact Sub.nil _ | refine Sub.cons rfl ?_ | refine Sub.cons' rfl (int_congr (by omega)) ?_)) ⟨hq.drewN _, by omega, fun j hj => ?_⟩ (by omega)
      rcases Nat.lt_or_ge j k with h | h
      · exact hz j h
      · obtain rfl : j = k := by omega
        omega
    · refine G.ret1 rfl rfl ⟨?_, hq⟩
      rw [decide_eq_true (list_eq_of (by omega) (fun j hj => hz j (by omega)))]
theorem same_t (H : Array Obj) (B B' : Nat) (A A' : Option Addr) (n c n' c' : Nat) (l l' : List Nat) (hs : Sl u64v H B A n c l) (hs' : Sl u64v H B' A' n' c' l') (hn : n ≤ 1152921504606846976) (hn' : n' ≤ 1152921504606846976) (h : l = l') :
    Pure Try.prog 43 #[.slice A n c, .slice A' n' c'] H (.bool true) := by
  have := same_ok H B B' A A' n c n' c' l l' hs hs' hn hn'
  rwa [decide_eq_true h] at this
end Go.Proofs.Ytlhmehikajidhaa

namespace Go.Proofs.Ytlhmehikajidhaa
open Go Go.Eng Go.Proofs Go.NatM Go.RowKit

def YesM (w : World) (e : Ending) (w' : World) : Prop := e = .returned (.bool true) ∧ Ext w w'
def NoM (w : World) (e : Ending) (w' : World) : Prop := e = .returned (.bool false) ∧ Ext w w'
theorem alike_t (w : World) (x y : IV) (gx : GI w.heap x) (gy : GI w.heap y) (hl : x.m.l = y.m.l) (hn : x.neg = y.neg) (hx : x.m.n ≤ 1099511627776) (hy : y.m.n ≤ 1099511627776) : Cl Try.prog 19 #[.agg (ivc x).toArray, .agg (ivc y).toArray] w (YesM w) := by
  have hs := gx.s
  have hs' := gy.s
  refine enter Try.func19 rfl rfl rfl ?_
  repeat' (first | refine TL.ev (ev_simple rfl) rfl ?_ | refine TL.grun rfl rfl rfl ?_ | (refine TL.call rfl rfl ?_; first | (refine (same_t _ _ _ _ _ _ _ _ _ _ _ (by first | ((repeat (first | assumption | (apply Sl.ext; assumption) | (apply Sm.ext; assumption) | (apply Sl.upd; assumption) | (apply Sm.upd; assumption) | omega)); done) | ((repeat (first | assumption | (apply Sl.ext; assumption) | (apply Sm.ext; assumption) | (apply sl_updV; assumption; (focus (repeat (first | assumption | (apply Vr.ext; assumption) | (apply Vr.updX; assumption; rotate_left; omega)))); rfl))); done)) (by first | ((repeat (first | assumption | (apply Sl.ext; assumption) | (apply Sm.ext; assumption) | (apply Sl.upd; assumption) | (apply Sm.upd; assumption) | omega)); done) | ((repeat (first | assumption | (apply Sl.ext; assumption) | (apply Sm.ext; assumption) | (apply sl_updV; assumption; (focus (repeat (first | assumption | (apply Vr.ext; assumption) | (apply Vr.updX; assumption; rotate_left; omega)))); rfl))); done)) (by omega) (by omega) hl).clX.mono ?_; rintro _ wc ⟨rfl, hzc, hEc⟩; refine Back.mk ?_)) | (refine TL.boxA rfl rfl (fun wb bb ebb hVb hEb hzb => ?_); have hlb := box_lo (w0 := w) (by repeat (first | exact Ext.refl _ | (refine Ext.trans ?_ (by assumption)) | (apply ext_upd; assumption; rotate_left; omega))) ebb) | (refine TL.ev (ev_fieldAddr rfl) rfl ?_) | (refine TL.ev (ev_loadVX rfl (by refine ⟨?_, ?_⟩; (focus (repeat (first | assumption | (apply Vr.ext; assumption) | (apply Vr.updX; assumption; rotate_left; omega)))); rfl)) rfl ?_) | (refine TL.ev (ev_eqlB (r := true) rfl rfl (by rw [hn]; exact beq_self_eq_true _)) rfl ?_) | refine T.seq ?_ | refine T.region ?_ | refine TL.nil ?_ | refine T.ret ?_ | refine G.next ?_)
  exact G.ret1 rfl rfl ⟨rfl, (by repeat (first | exact Ext.refl _ | (refine Ext.trans ?_ (by assumption)) | (apply ext_upd; assumption; rotate_left; omega)))⟩
theorem alikeRows_t (w : World) (n : Nat) (A A' : Option Addr) (k k' : Nat) (l l' : List IV) (hs : Sm 2 ivc w.heap w.heap.size A n k l) (hs' : Sm 2 ivc w.heap w.heap.size A' n k' l') (hn : n ≤ 4096)
    (hq : ∀ q, q < n → GI w.heap (l.getD q default) ∧ GI w.heap (l'.getD q default) ∧ (l.getD q default).m.l = (l'.getD q default).m.l ∧ (l.getD q default).neg = (l'.getD q default).neg ∧ (l.getD q default).m.n ≤ 1099511627776 ∧ (l'.getD q default).m.n ≤ 1099511627776) :
    Cl Try.prog 23 #[.slice A n k, .slice A' n k'] w (YesM w) := by
  have hlen := hs.len
  have hlen' := hs'.len
  refine enter Try.func23 rfl rfl rfl ?_
  repeat' (first | refine TL.ev (ev_simple rfl) rfl ?_ | refine TL.grun rfl rfl rfl ?_ | refine TL.gskip rfl rfl rfl rfl ?_ | refine TL.gskipU rfl rfl rfl ?_ | refine TL.ev (ev_len rfl) rfl ?_ | (refine TL.cmpG rfl rfl rfl rfl (fun hc => ?_) (fun hc => ?_) <;> try first | (exfalso; omega) | exact absurd rfl hc) | refine TL.ev (ev_arN rfl rfl rfl (by omega)) rfl ?_ | refine TL.ev (ev_arI rfl rfl rfl (by omega)) rfl ?_ | refine TL.ev (ev_neg rfl (by omega)) rfl ?_ | refine TF.nil ?_ | refine TF.e rfl ?_ | refine TF.alt ?_ ?_ | refine G.treeEnd rfl ?_ | refine G.tree rfl (by repeat (first | exact Ext.refl _ | (refine Ext.trans ?_ (by assumption)) | (apply ext_upd; assumption; rotate_left; omega))) ?_ | refine TL.nilX (fun wq hzq hEq => ?_) | refine T.seq ?_ | refine T.region ?_ | refine TL.nil ?_ | refine T.block ?_ | refine T.cond_t rfl ?_ | refine T.cond_f rfl ?_ | refine T.exit ?_ | refine T.ret ?_ | refine T.skip ?_ | refine G.next ?_ | refine G.blockN ?_ | refine G.blockE ?_ | refine G.blockE' rfl ?_ | refine G.blockR ?_ | refine G.thenE ?_ | refine G.thenR ?_ | refine T.regionQ mixed (by kernel_rfl) ?_ | refine TL.nilQ (fun _ => ?_) | refine G.only ?_ | refine G.mixed ?_ | refine TM.nil ?_ | refine TM.e rfl ?_)
  refine T.loop (α := Nat) (fun i => [(0, .slice A n k), (1, .slice A' n k'), (5, .int .i64 (i : Int))]) (fun i w' => i ≤ n ∧ Ext w w') (fun i => n - i) 0 (by repeat (first | exact Sub.nil _ | refine Sub.cons rfl ?_ | refine Sub.cons' rfl (int_congr (by omega)) ?_)) ⟨Nat.zero_le _, Ext.refl _⟩ ?_
  rintro i w2 ⟨hi, hE2⟩
  have s1 := hs.ext hE2
  have s2 := hs'.ext hE2
  rcases Nat.lt_or_ge i n with hin | hin
  · have y1 : l[i]? = some (l.getD i default) := by simp [List.getD, show i < l.length by omega]
    have y2 : l'[i]? = some (l'.getD i default) := by simp [List.getD, show i < l'.length by omega]
    obtain ⟨q1, q2, q3, q4, q5, q6⟩ := hq i hin
    replace q1 := q1.ext hE2
    replace q2 := q2.ext hE2
    generalize l.getD i default = x1 at *
    generalize l'.getD i default = x2 at *
    repeat' (first | refine TL.ev (ev_simple rfl) rfl ?_ | (refine TL.call rfl rfl ?_; first | (refine (alike_t _ x1 x2 (by repeat (first | assumption | (apply GI.ext; assumption))) (by repeat (first | assumption | (apply GI.ext; assumption))) q3 q4 q5 q6).mono ?_; rintro _ wa ⟨rfl, hEa⟩; refine Back.mk ?_; have hza := hEa.size)) | refine TL.ev (ev_len rfl) rfl ?_ | (refine TL.cmpG rfl rfl rfl rfl (fun hc => ?_) (fun hc => ?_) <;> try (exfalso; omega)) | refine TL.ev (ev_arN rfl rfl rfl (by omega)) rfl ?_ | refine TF.nil ?_ | refine TF.e rfl ?_ | refine TF.s rfl (fun _ hh => ev_simple rfl) rfl ?_ | refine T.regionX 6 10 (.s 0 (.s 1 (.s 2 (.s 3 (.s 4 (.s 5 (.s 6 (.s 7 (.e 8 (.s 9 .nil)))))))))) mixed (by kernel_rfl) (fun wr hzr hEr => ?_) | (refine TF.s rfl (fun _ _ => ev_indexM rfl rfl hin s1.some) rfl ?_) | (refine TF.s rfl (fun _ _ => ev_indexM rfl rfl hin s2.some) rfl ?_) | (refine TF.s rfl (fun _ hh => ev_loadM rfl (s1.ext hh) y1) rfl ?_) | (refine TF.s rfl (fun _ hh => ev_loadM rfl (s2.ext hh) y2) rfl ?_) | refine G.tree rfl (by repeat (first | exact Ext.refl _ | (refine Ext.trans ?_ (by assumption)) | (apply ext_upd; assumption; rotate_left; omega))) ?_ | refine T.seq ?_ | refine T.region ?_ | refine TL.nil ?_ | refine T.block ?_ | refine T.cond_t rfl ?_ | refine T.cond_f rfl ?_ | refine T.skip ?_ | refine G.next ?_ | refine G.blockN ?_ | refine G.only ?_)
    exact G.again (i + 1) (by repeat (first | exact Sub.nil _ | refine Sub.cons rfl ?_ | refine Sub.cons' rfl (int_congr (by omega)) ?_)) ⟨by omega, (by repeat (first | exact Ext.refl _ | (refine Ext.trans ?_ (by assumption)) | (apply ext_upd; assumption; rotate_left; omega)))⟩ (by omega)
  · obtain rfl : i = n := by omega
    repeat' (first | refine TL.ev (ev_simple rfl) rfl ?_ | refine TL.grun rfl rfl rfl ?_ | refine TL.gskip rfl rfl rfl rfl ?_ | refine TL.gskipU rfl rfl rfl ?_ | refine TL.ev (ev_len rfl) rfl ?_ | (refine TL.cmpG rfl rfl rfl rfl (fun hc => ?_) (fun hc => ?_) <;> try (exfalso; omega)) | refine TL.ev (ev_arN rfl rfl rfl (by omega)) rfl ?_ | refine TL.ev (ev_arI rfl rfl rfl (by omega)) rfl ?_ | refine TL.ev (ev_neg rfl (by omega)) rfl ?_ | refine TF.nil ?_ | refine TF.e rfl ?_ | refine TF.alt ?_ ?_ | refine G.treeEnd rfl ?_ | refine G.tree rfl (by repeat (first | exact Ext.refl _ | (refine Ext.trans ?_ (by assumption)) | (apply ext_upd; assumption; rotate_left; omega))) ?_ | refine TL.nilX (fun wq hzq hEq => ?_) | refine T.seq ?_ | refine T.region ?_ | refine TL.nil ?_ | refine T.block ?_ | refine T.cond_t rfl ?_ | refine T.cond_f rfl ?_ | refine T.exit ?_ | refine T.ret ?_ | refine T.skip ?_ | refine G.next ?_ | refine G.blockN ?_ | refine G.blockE ?_ | refine G.blockE' rfl ?_ | refine G.blockR ?_ | refine G.thenE ?_ | refine G.thenR ?_ | refine T.regionQ mixed (by kernel_rfl) ?_ | refine TL.nilQ (fun _ => ?_) | refine G.only ?_ | refine G.mixed ?_ | refine TM.nil ?_ | refine TM.e rfl ?_)
    exact G.ret1 rfl rfl ⟨rfl, hE2⟩
theorem sound_t (w : World) (x : MV) (r c : Nat) (hS : Sound x r c) : Cl Try.prog 10 #[.agg (mvc x).toArray] w (YesM w) := by
  obtain ⟨xr, xc, A, n, k, l⟩ := x
  obtain ⟨h1, h2, h3, h4, h5⟩ := hS
  dsimp only at h1 h2 h5
  subst h1 h2 h5
  have hm := mul64 h3 h4
  refine enter Try.func10 rfl rfl rfl ?_
  repeat' (first | refine TL.ev (ev_simple rfl) rfl ?_ | refine TL.grun rfl rfl rfl ?_ | refine TL.gskip rfl rfl rfl rfl ?_ | refine TL.gskipU rfl rfl rfl ?_ | refine TL.ev (ev_len rfl) rfl ?_ | (refine TL.cmpG rfl rfl rfl rfl (fun hc => ?_) (fun hc => ?_) <;> try first | (exfalso; omega) | exact absurd rfl hc) | refine TL.ev (ev_arN rfl rfl rfl (by omega)) rfl ?_ | refine TL.ev (ev_arI rfl rfl rfl (by omega)) rfl ?_ | refine TL.ev (ev_neg rfl (by omega)) rfl ?_ | (refine TL.boxA (cs := [.int .i64 (r : Int), .int .i64 (c : Int), .slice A (r * c) k]) rfl rfl (fun wb bb ebb hVb hEb hzb => ?_)) | (refine TL.boxA rfl rfl (fun wb bb ebb hVb hEb hzb => ?_); have hlb := box_lo (w0 := w) (by repeat (first | exact Ext.refl _ | (refine Ext.trans ?_ (by assumption)) | (apply ext_upd; assumption; rotate_left; omega))) ebb) | (refine TL.alloc rfl (fun wa ba eba hVa hEa hza => ?_); have hla := box_lo (w0 := w) (by repeat (first | exact Ext.refl _ | (refine Ext.trans ?_ (by assumption)) | (apply ext_upd; assumption; rotate_left; omega))) eba) | (refine TL.ev (ev_fieldAddr rfl) rfl ?_) | (refine TF.s rfl (fun _ _ => ev_fieldAddr rfl) rfl ?_) | (refine TL.ev (ev_loadVX rfl (by refine ⟨?_, ?_⟩; (focus (repeat (first | assumption | (apply Vr.ext; assumption) | (apply Vr.updX; assumption; rotate_left; omega)))); rfl)) rfl ?_) | (refine TF.s rfl (fun _ hh => ev_loadVX rfl (by refine ⟨Vr.ext hh ?_, ?_⟩; (focus (repeat (first | assumption | (apply Vr.ext; assumption) | (apply Vr.updX; assumption; rotate_left; omega)))); rfl)) rfl ?_) | (refine TL.ev (ev_loadVAX rfl (by refine ⟨?_, ?_⟩; (focus (repeat (first | assumption | (apply Vr.ext; assumption) | (apply Vr.updX; assumption; rotate_left; omega)))); rfl)) rfl ?_) | (refine TF.s rfl (fun _ hh => ev_loadVAX rfl (by refine ⟨Vr.ext hh ?_, ?_⟩; (focus (repeat (first | assumption | (apply Vr.ext; assumption) | (apply Vr.updX; assumption; rotate_left; omega)))); rfl)) rfl ?_) | (refine TL.storeVX rfl rfl rfl rfl (by refine ⟨?_, ?_⟩; (focus (repeat (first | assumption | (apply Vr.ext; assumption) | (apply Vr.updX; assumption; rotate_left; omega)))); rfl) (fun ws hVs hUs hzs => ?_)) | (refine TL.storeX rfl rfl rfl rfl (by refine ⟨?_, ?_⟩; (focus (repeat (first | assumption | (apply Vr.ext; assumption) | (apply Vr.updX; assumption; rotate_left; omega)))); rfl) (fun ws hVs hUs hzs => ?_)) | (refine TL.ev (ev_buildX rfl rfl) rfl ?_) | (refine TF.s rfl (fun _ _ => ev_buildX rfl rfl) rfl ?_) | (refine TL.ev (ev_field rfl rfl) rfl ?_) | (refine TL.ev (ev_makeFunc rfl) rfl ?_) | (refine TF.s rfl (fun _ _ => ev_makeFunc rfl) rfl ?_) | refine TF.nil ?_ | refine TF.e rfl ?_ | refine TF.alt ?_ ?_ | refine G.treeEnd rfl ?_ | refine G.tree rfl (by repeat (first | exact Ext.refl _ | (refine Ext.trans ?_ (by assumption)) | (apply ext_upd; assumption; rotate_left; omega))) ?_ | refine TL.nilX (fun wq hzq hEq => ?_) | refine T.seq ?_ | refine T.region ?_ | refine TL.nil ?_ | refine T.block ?_ | refine T.cond_t rfl ?_ | refine T.cond_f rfl ?_ | refine T.exit ?_ | refine T.ret ?_ | refine T.skip ?_ | refine G.next ?_ | refine G.blockN ?_ | refine G.blockE ?_ | refine G.blockE' rfl ?_ | refine G.blockR ?_ | refine G.thenE ?_ | refine G.thenR ?_ | refine T.regionQ mixed (by kernel_rfl) ?_ | refine TL.nilQ (fun _ => ?_) | refine G.only ?_ | refine G.mixed ?_ | refine TM.nil ?_ | refine TM.e rfl ?_)
  exact G.ret1 rfl rfl ⟨rfl, hEb⟩
theorem sound_f (w : World) (x : MV) (h : ∀ r c, ¬ Sound x r c) : Cl Try.prog 10 #[.agg (mvc x).toArray] w (NoM w) := by
  obtain ⟨xr, xc, A, n, k, l⟩ := x
  by_cases hin : (0 ≤ xr ∧ xr ≤ 64) ∧ (0 ≤ xc ∧ xc ≤ 64)
  · obtain ⟨r, rfl⟩ := Int.eq_ofNat_of_zero_le hin.1.1
    obtain ⟨c, rfl⟩ := Int.eq_ofNat_of_zero_le hin.2.1
    have hr : r ≤ 64 := by omega
    have hc : c ≤ 64 := by omega
    have hm := mul64 hr hc
    have hn : n ≠ r * c := fun e => h r c ⟨rfl, rfl, hr, hc, e⟩
    generalize hp : r * c = p at *
    refine enter Try.func10 rfl rfl rfl ?_
    repeat' (first | refine TL.ev (ev_simple rfl) rfl ?_ | refine TL.grun rfl rfl rfl ?_ | refine TL.gskip rfl rfl rfl rfl ?_ | refine TL.gskipU rfl rfl rfl ?_ | refine TL.ev (ev_len rfl) rfl ?_ | (refine TL.cmpG rfl rfl rfl rfl (fun hc => ?_) (fun hc => ?_) <;> try first | (exfalso; omega) | exact absurd rfl hc) | refine TL.ev (ev_arN rfl rfl rfl (by omega)) rfl ?_ | refine TL.ev (ev_arI rfl rfl rfl (by omega)) rfl ?_ | refine TL.ev (ev_neg rfl (by omega)) rfl ?_ | (refine TL.boxA (cs := [.int .i64 (r : Int), .int .i64 (c : Int), .slice A n k]) rfl rfl (fun wb bb ebb hVb hEb hzb => ?_)) | (refine TL.boxA rfl rfl (fun wb bb ebb hVb hEb hzb => ?_); have hlb := box_lo (w0 := w) (by repeat (first | exact Ext.refl _ | (refine Ext.trans ?_ (by assumption)) | (apply ext_upd; assumption; rotate_left; omega))) ebb) | (refine TL.alloc rfl (fun wa ba eba hVa hEa hza => ?_); have hla := box_lo (w0 := w) (by repeat (first | exact Ext.refl _ | (refine Ext.trans ?_ (by assumption)) | (apply ext_upd; assumption; rotate_left; omega))) eba) | (refine TL.ev (ev_fieldAddr rfl) rfl ?_) | (refine TF.s rfl (fun _ _ => ev_fieldAddr rfl) rfl ?_) | (refine TL.ev (ev_loadVX rfl (by refine ⟨?_, ?_⟩; (focus (repeat (first | assumption | (apply Vr.ext; assumption) | (apply Vr.updX; assumption; rotate_left; omega)))); rfl)) rfl ?_) | (refine TF.s rfl (fun _ hh => ev_loadVX rfl (by refine ⟨Vr.ext hh ?_, ?_⟩; (focus (repeat (first | assumption | (apply Vr.ext; assumption) | (apply Vr.updX; assumption; rotate_left; omega)))); rfl)) rfl ?_) | (refine TL.ev (ev_loadVAX rfl (by refine ⟨?_, ?_⟩; (focus (repeat (first | assumption | (apply Vr.ext; assumption) | (apply Vr.updX; assumption; rotate_left; omega)))); rfl)) rfl ?_) | (refine TF.s rfl (fun _ hh => ev_loadVAX rfl (by refine ⟨Vr.ext hh ?_, ?_⟩; (focus (repeat (first | assumption | (apply Vr.ext; assumption) | (apply Vr.updX; assumption; rotate_left; omega)))); rfl)) rfl ?_) | (refine TL.storeVX rfl rfl rfl rfl (by refine ⟨?_, ?_⟩; (focus (repeat (first | assumption | (apply Vr.ext; assumption) | (apply Vr.updX; assumption; rotate_left; omega)))); rfl) (fun ws hVs hUs hzs => ?_)) | (refine TL.storeX rfl rfl rfl rfl (by refine ⟨?_, ?_⟩; (focus (repeat (first | assumption | (apply Vr.ext; assumption) | (apply Vr.updX; assumption; rotate_left; omega)))); rfl) (fun ws hVs hUs hzs => ?_)) | (refine TL.ev (ev_buildX rfl rfl) rfl ?_) | (refine TF.s rfl (fun _ _ => ev_buildX rfl rfl) rfl ?_) | (refine TL.ev (ev_field rfl rfl) rfl ?_) | (refine TL.ev (ev_makeFunc rfl) rfl ?_) | (refine TF.s rfl (fun _ _ => ev_makeFunc rfl) rfl ?_) | (refine TL.ev (ev_mulN rfl rfl (by rw [hp]; omega)) rfl ?_) | refine TF.nil ?_ | refine TF.e rfl ?_ | refine TF.alt ?_ ?_ | refine G.treeEnd rfl ?_ | refine G.tree rfl (by repeat (first | exact Ext.refl _ | (refine Ext.trans ?_ (by assumption)) | (apply ext_upd; assumption; rotate_left; omega))) ?_ | refine TL.nilX (fun wq hzq hEq => ?_) | refine T.seq ?_ | refine T.region ?_ | refine TL.nil ?_ | refine T.block ?_ | refine T.cond_t rfl ?_ | refine T.cond_f rfl ?_ | refine T.exit ?_ | refine T.ret ?_ | refine T.skip ?_ | refine G.next ?_ | refine G.blockN ?_ | refine G.blockE ?_ | refine G.blockE' rfl ?_ | refine G.blockR ?_ | refine G.thenE ?_ | refine G.thenR ?_ | refine T.regionQ mixed (by kernel_rfl) ?_ | refine TL.nilQ (fun _ => ?_) | refine G.only ?_ | refine G.mixed ?_ | refine TM.nil ?_ | refine TM.e rfl ?_)
    all_goals exact G.ret1 rfl rfl ⟨rfl, hEb⟩
  · refine enter Try.func10 rfl rfl rfl ?_
    repeat' (first | refine TL.ev (ev_simple rfl) rfl ?_ | refine TL.grun rfl rfl rfl ?_ | refine TL.gskip rfl rfl rfl rfl ?_ | refine TL.gskipU rfl rfl rfl ?_ | refine TL.ev (ev_len rfl) rfl ?_ | (refine TL.cmpG rfl rfl rfl rfl (fun hc => ?_) (fun hc => ?_) <;> try first | (exfalso; omega) | exact absurd rfl hc) | refine TL.ev (ev_arN rfl rfl rfl (by omega)) rfl ?_ | refine TL.ev (ev_arI rfl rfl rfl (by omega)) rfl ?_ | refine TL.ev (ev_neg rfl (by omega)) rfl ?_ | (refine TL.boxA (cs := [.int .i64 xr, .int .i64 xc, .slice A n k]) rfl rfl (fun wb bb ebb hVb hEb hzb => ?_)) | (refine TL.boxA rfl rfl (fun wb bb ebb hVb hEb hzb => ?_); have hlb := box_lo (w0 := w) (by repeat (first | exact Ext.refl _ | (refine Ext.trans ?_ (by assumption)) | (apply ext_upd; assumption; rotate_left; omega))) ebb) | (refine TL.alloc rfl (fun wa ba eba hVa hEa hza => ?_); have hla := box_lo (w0 := w) (by repeat (first | exact Ext.refl _ | (refine Ext.trans ?_ (by assumption)) | (apply ext_upd; assumption; rotate_left; omega))) eba) | (refine TL.ev (ev_fieldAddr rfl) rfl ?_) | (refine TF.s rfl (fun _ _ => ev_fieldAddr rfl) rfl ?_) | (refine TL.ev (ev_loadVX rfl (by refine ⟨?_, ?_⟩; (focus (repeat (first | assumption | (apply Vr.ext; assumption) | (apply Vr.updX; assumption; rotate_left; omega)))); rfl)) rfl ?_) | (refine TF.s rfl (fun _ hh => ev_loadVX rfl (by refine ⟨Vr.ext hh ?_, ?_⟩; (focus (repeat (first | assumption | (apply Vr.ext; assumption) | (apply Vr.updX; assumption; rotate_left; omega)))); rfl)) rfl ?_) | (refine TL.ev (ev_loadVAX rfl (by refine ⟨?_, ?_⟩; (focus (repeat (first | assumption | (apply Vr.ext; assumption) | (apply Vr.updX; assumption; rotate_left; omega)))); rfl)) rfl ?_) | (refine TF.s rfl (fun _ hh => ev_loadVAX rfl (by refine ⟨Vr.ext hh ?_, ?_⟩; (focus (repeat (first | assumption | (apply Vr.ext; assumption) | (apply Vr.updX; assumption; rotate_left; omega)))); rfl)) rfl ?_) | (refine TL.storeVX rfl rfl rfl rfl (by refine ⟨?_, ?_⟩; (focus (repeat (first | assumption | (apply Vr.ext; assumption) | (apply Vr.updX; assumption; rotate_left; omega)))); rfl) (fun ws hVs hUs hzs => ?_)) | (refine TL.storeX rfl rfl rfl rfl (by refine ⟨?_, ?_⟩; (focus (repeat (first | assumption | (apply Vr.ext; assumption) | (apply Vr.updX; assumption; rotate_left; omega)))); rfl) (fun ws hVs hUs hzs => ?_)) | (refine TL.ev (ev_buildX rfl rfl) rfl ?_) | (refine TF.s rfl (fun _ _ => ev_buildX rfl rfl) rfl ?_) | (refine TL.ev (ev_field rfl rfl) rfl ?_) | (refine TL.ev (ev_makeFunc rfl) rfl ?_) | (refine TF.s rfl (fun _ _ => ev_makeFunc rfl) rfl ?_) | refine TF.nil ?_ | refine TF.e rfl ?_ | refine TF.alt ?_ ?_ | refine G.treeEnd rfl ?_ | refine G.tree rfl (by repeat (first | exact Ext.refl _ | (refine Ext.trans ?_ (by assumption)) | (apply ext_upd; assumption; rotate_left; omega))) ?_ | refine TL.nilX (fun wq hzq hEq => ?_) | refine T.seq ?_ | refine T.region ?_ | refine TL.nil ?_ | refine T.block ?_ | refine T.cond_t rfl ?_ | refine T.cond_f rfl ?_ | refine T.exit ?_ | refine T.ret ?_ | refine T.skip ?_ | refine G.next ?_ | refine G.blockN ?_ | refine G.blockE ?_ | refine G.blockE' rfl ?_ | refine G.blockR ?_ | refine G.thenE ?_ | refine G.thenR ?_ | refine T.regionQ mixed (by kernel_rfl) ?_ | refine TL.nilQ (fun _ => ?_) | refine G.only ?_ | refine G.mixed ?_ | refine TM.nil ?_ | refine TM.e rfl ?_)
    all_goals exact G.ret1 rfl rfl ⟨rfl, hEb⟩
end Go.Proofs.Ytlhmehikajidhaa
