/- Layer 9: the law MatLines: what is handed to Lines, and written over behind. -/
import Derived.Test.YtlhmehikajidhaaPk12
import Derived.Test.YtlhmehikajidhaaPk13
import Derived.Test.YtlhmehikajidhaaPk11
import Derived.Test.YtlhmehikajidhaaPk8
set_option linter.unusedVariables false
set_option linter.unusedSimpArgs false
set_option linter.unusedSectionVars false
namespace Go.Eng
open Go Go.Proofs Go.NatM Go.RowKit Go.Proofs.Ytlhmehikajidhaa
section
variable {S : Nat → Prop} {w0 w w' : World} {L L' : List VB} {D D' : List DP}
/-- a callee's frame joins -/
theorem Fr.joinX (h : Fr w0 w L D S) (h' : Fr w w' L' D') (hfp : ∀ d ∈ D', ∀ k, d.fp k → w.heap.size ≤ k) : Fr w0 w' (L' ++ L) (D' ++ D) S := by
  have hE := h'.ext
  have h1 := h.exts hE
  refine ⟨h1.exs, fun v hv => ?_, List.pairwise_append.2 ⟨h'.dist, h.dist, fun x hx y hy e => ?_⟩, fun d hd => ?_, fun v hv d hd => ?_⟩
  · rcases List.mem_append.1 hv with hv | hv
    · exact ⟨.inl (Nat.le_trans h.exs.size ((h'.vars v hv).1.resolve_right id)), (h'.vars v hv).2⟩
    · exact h1.vars v hv
  · have a1 := (h'.vars x hx).1.resolve_right id
    have a2 := (h.vars y hy).2.lt
    omega
  · rcases List.mem_append.1 hd with hd | hd
    · exact h'.data d hd
    · exact h1.data d hd
  · rcases List.mem_append.1 hd with hd | hd
    · rcases List.mem_append.1 hv with hv | hv
      · exact h'.apart v hv d hd
      · intro hk
        have a1 := hfp d hd _ hk
        have a2 := (h.vars v hv).2.lt
        omega
    · rcases List.mem_append.1 hv with hv | hv
      · intro hk
        have a1 := (h'.vars v hv).1.resolve_right id
        have a2 := d.lt _ _ (h.data d hd) hk
        omega
      · exact h.apart v hv d hd
theorem rm_new {lo n i : Nat} {l F : List IV} {M : List SC} {H : Array Obj} (h : RmP lo n i l F M H) : ∀ k, (dpRm lo n i l F M).fp k → lo ≤ k := fun k hk => by
  unfold dpRm at hk
  obtain ⟨q, h1, h2, h3⟩ := hk
  obtain ⟨g, e1, _, hO⟩ := h q h1 h2
  rw [e1] at h3
  exact hO.loX h3
/-- the block of the q-th list of words -/
def blkM (M : List SC) (q : Nat) : Nat := ((M.getD q default).1.map (·.block)).getD 0
/-- words have been written over, in blocks that no variable is and that are newer than w0: the variables stand -/
theorem Fr.wrote9 {T : Nat → Prop} (h : Fr w0 w L D) (hX : Exs T w w') (hT : ∀ k, T k → w0.heap.size ≤ k) (hv : ∀ v ∈ L, ¬ T v.b) : Fr w0 w' L [] :=
  ⟨h.exs.then hX fun i hi ht => by have := hT i ht; omega, fun v hv' => ⟨(h.vars v hv').1, by
    have h1 := (h.vars v hv').2
    have h2 := h1.lt
    unfold Vr at h1 ⊢
    exact (hX.block _ h2 (hv v hv')).trans h1⟩, h.dist, fun _ h => (by cases h), fun _ _ _ h => (by cases h)⟩
end
theorem LM.cong {H : Array Obj} {x : MV} {r c K : Nat} {F G : Nat → Nat → Int} (h : LM H x r c F K) (e : ∀ i j, i < r → j < c → F i j = G i j) : LM H x r c G K := ⟨h.sh, h.s, fun i j hi hj => by rw [← e i j hi hj]; exact h.g i j hi hj⟩
theorem rm_blk {lo n i q : Nat} {l F : List IV} {M : List SC} {H : Array Obj} (h : RmP lo n i l F M H) (h1 : q < i) (h2 : q < n) : (F.getD q default).m.A = some ⟨blkM M q, 0, none⟩ ∧ (F.getD q default).m.n = (l.getD q default).m.n ∧ M.getD q default = (some ⟨blkM M q, 0, none⟩, (l.getD q default).m.n + 80, (l.getD q default).m.n + 80) ∧ lo ≤ blkM M q ∧ blkM M q < H.size ∧
    Ow u64v H lo 51 (some ⟨blkM M q, 0, none⟩) ((l.getD q default).m.n + 80) ((l.getD q default).m.n + 80) (roomL (l.getD q default).m.l) := by
  obtain ⟨g, e1, e2, hO⟩ := h q h1 h2
  have e : blkM M q = g := by unfold blkM; rw [e1]; rfl
  rw [e, e1, e2]
  exact ⟨rfl, rfl, rfl, hO.loX rfl, hO.bltX rfl, hO⟩
theorem U64_room {l : List Nat} (h : U64 l) : U64 (roomL l) := fun x hx => by
  rcases List.mem_append.1 hx with hx | hx
  · exact h x hx
  · unfold marks at hx
    obtain ⟨q, _, rfl⟩ := List.mem_map.1 hx
    exact U64_mkv _
theorem rm_apart {S : Nat → Prop} {w0 w : World} {L : List VB} {D : List DP} {lo n i : Nat} {l F : List IV} {M : List SC} (hF : Fr w0 w L D S) (hm : dpRm lo n i l F M ∈ D) (hi : n ≤ i) : ∀ v ∈ L, ¬ ∃ q, q < n ∧ blkM M q = v.b := fun v hv ⟨q, hq, e⟩ => hF.apart v hv _ hm (by
  have h1 := rm_blk (Fr.rm hF hm) (Nat.lt_of_lt_of_le hq hi) hq
  unfold dpRm
  exact ⟨q, Nat.lt_of_lt_of_le hq hi, hq, by rw [h1.2.2.1, e]⟩)
theorem rm_wd {lo n i : Nat} {l F : List IV} {M : List SC} {H : Array Obj} (h : RmP lo n i l F M H) (hi : n ≤ i) (hl : l.length = n) (hu : ∀ y ∈ l, U64 y.m.l) : WdP n (blkM M) (fun q => (l.getD q default).m.n + 80) H := fun q hq => by
  have h1 := rm_blk h (Nat.lt_of_lt_of_le hq hi) hq
  have h2 : l[q]? = some (l.getD q default) := by simp [List.getD, show q < l.length by omega]
  exact ⟨_, U64_room (hu _ (List.mem_of_getElem? h2)), h1.2.2.2.2.2.mono (Nat.zero_le _)⟩
theorem Fr.addLMx {S : Nat → Prop} {w0 w : World} {L : List VB} {D : List DP} {x : MV} {r c K : Nat} {F : Nat → Nat → Int} (h : Fr w0 w L D S) (k : LM w.heap x r c F K) (hap : ∀ v ∈ L, ¬ fpA x.A x.n v.b) : Fr w0 w L (dpLM x r c F K :: D) S := h.add _ (by unfold dpLM; exact k) fun v hv e => by unfold dpLM at e; exact hap v hv e
/-- the matrix that is handed in, its list in new memory -/
theorem rm_mat {H : Array Obj} {x : MV} {lo bf : Nat} {FL : List IV} {M : List SC} (hl : x.l.length = x.n) (hFl : FL.length = x.n + 80) (hbf : bf < H.size) (hV : Vr H bf 37 (FL.flatMap ivc)) (hP : RmP lo x.n (x.n + 80) x.l FL M H) (hg : ∀ y ∈ x.l, U64 y.m.l ∧ y.m.n ≤ 1048576 ∧ y.m.l.length = y.m.n) :
    RM H ⟨x.r, x.c, some ⟨bf, 0, none⟩, x.n, x.n + 80, FL.take x.n⟩ 1048576 ∧ (∀ q, q < x.n → ival ((FL.take x.n).getD q default) = ival (x.l.getD q default)) := by
  have hget : ∀ q, q < x.n → (FL.take x.n).getD q default = FL.getD q default := fun q hq => by simp [List.getD, List.getElem?_take, hq]
  have hmem : ∀ q, q < x.n → x.l.getD q default ∈ x.l := fun q hq => by
    have : x.l[q]? = some (x.l.getD q default) := by simp [List.getD, show q < x.l.length by omega]
    exact List.mem_of_getElem? this
  refine ⟨⟨?_, fun y hy => ?_⟩, fun q hq => ?_⟩
  · have h1 : Sm 2 ivc H H.size (some ⟨bf, 0, none⟩) (x.n + 80) (x.n + 80) FL := vr_sm (zs := []) (by omega) (fun _ _ => rfl) (by rw [List.append_nil]; exact hV) hFl (Nat.le_refl _) hV.lt
    have h2 := Sm.sub (lo := 0) (m := x.n) h1 (by omega)
    simpa [elemA, add_mk] using h2
  · obtain ⟨q, hq⟩ := List.mem_iff_getElem?.1 hy
    have hqn : q < x.n := by have := (List.getElem?_eq_some_iff.1 hq).1; simp at this; omega
    have e : (FL.take x.n).getD q default = y := by simp [List.getD, hq]
    obtain ⟨g, _, e2, hO⟩ := hP q (by omega) hqn
    rw [hget q hqn] at e
    obtain ⟨u1, u2, u3⟩ := hg _ (hmem q hqn)
    rw [← e, e2]
    refine ⟨⟨?_, u1⟩, u2⟩
    have h3 := (Ow.take hO (k := (x.l.getD q default).m.n) (by omega)).sl (Nat.le_refl _)
    dsimp only
    rw [← u3, roomL_take, u3] at h3
    exact h3
  · obtain ⟨g, _, e2, hO⟩ := hP q (by omega) hq
    rw [hget q hq, e2]; rfl
section
variable {T : Nat → Prop} {w w' : World}
theorem KeepO.trans {a b c : World} (h : KeepO a b) (k : KeepO b c) : KeepO a c := ⟨Nat.le_trans h.size k.size, fun i o hi ho => k.same i o (h.same i o hi ho) ho⟩
theorem KeepO.ext {a b : World} (h : Ext a b) : KeepO a b := ⟨h.size, fun k o hk _ => (h.block k (Array.getElem?_eq_some_iff.1 hk).1).trans hk⟩
theorem KeepO.of {a b : World} (h : KeepsOthers a b) : KeepO a b := ⟨h.size, fun k o hk ho => h.same k o hk (by cases o <;> first | rfl | cases ho)⟩
theorem G.exitK {N : Fm} {σ : Go.Eng.Store} {I : World → Prop} {Ix : Code → World → Prop} {id : Nat} (hK : KeepO w' w) (h : Ix (.exit id) w) : G N (.exit id) (RPostK I Ix w') σ w := by
  unfold G; exact fun a ha => ⟨hK, h⟩
end
end Go.Eng
namespace Go.Proofs.Ytlhmehikajidhaa
open Go Go.Eng Go.Proofs Go.NatM Go.RowKit
def sv (x : LV) : Value := .slice x.A x.n x.k
theorem sm_sv {H : Array Obj} {B n c : Nat} {A : Option Addr} {l : List LV} (h : Sm 1 lvc H B A n c l) : Sl sv H B A n c l := by
  refine ⟨h.len, h.cap, h.mem.imp id ?_⟩
  rintro ⟨b', o, e, hlt, hm⟩
  refine ⟨b', o, e, hlt, fun j x hx => ?_⟩
  have := hm j x hx 0 (sv x) rfl
  simpa using this
theorem rows_li {w : World} {n k k' : Nat} {A A' : Option Addr} {l l' : List IV} {Z Z' : Nat → Int} {K : Nat} (h : LL w.heap A n k l Z K) (h' : LL w.heap A' n k' l' Z' K) (hZ : ∀ q, q < n → Z q = Z' q) (hn : n ≤ 4096) (hK : K ≤ 1099511627776) :
    Cl Try.prog 23 #[.slice A n k, .slice A' n k'] w (YesM w) :=
  alikeRows_t w n A A' k k' l l' h.s h'.s hn fun q hq => by
    obtain ⟨g1, n1⟩ := h.g q hq
    obtain ⟨g2, n2⟩ := h'.g q hq
    exact ⟨g1.g, g2.g, by rw [g1.d, g2.d, hZ q hq], by rw [g1.e, g2.e, hZ q hq], by omega, by omega⟩
theorem ev_loadSv {P : Program} {σ : Store} {H : Array Obj} {d : Option Tmp} {t : TypeId} {pos : String} {af : Array Edge} {gd : Option (Nat × Bool)} {x : Operand} {ty : TypeId} [hO : UOne P ty] {B n c k : Nat} {A : Option Addr} {l : List LV} {v : LV}
    (hx : Eng.look σ x = some (.pointer (elemA A (k * 1)))) (hs : Sl sv H B A n c l) (hk : k < n) (hv : l.getD k default = v) : Ev P σ H ⟨d, .load ty x, t, pos, af, gd⟩ (.slice v.A v.n v.k) := by
  have h1 := hs.len
  have h2 : l[k]? = some v := by rw [← hv]; simp [List.getD, show k < l.length by omega]
  exact ev_loadSl (f := sv) (by rw [← Nat.mul_one k]; exact hx) hs h2
end Go.Proofs.Ytlhmehikajidhaa
namespace Go.Proofs.Ytlhmehikajidhaa
open Go Go.Eng Go.Proofs Go.NatM Go.RowKit
/-- the rows under way -/
def LnS (w : World) (b10 b8 bm b4 b3 b2 : Nat) (A1 : Option Addr) (r c k1 : Nat) (l1 : List IV) (F : Nat → Nat → Int) (z xr xc : Int) (xA : Option Addr) (xn xk : Nat) (i : Nat) (W : World) : Prop :=
  ∃ (rl : List LV), rl.length = i ∧ ((i = 0 ∧ Fr w W [⟨b10, 48, [.slice none 0 0]⟩, ⟨b8, 45, [.func (.func 46) #[] #[.pointer (some ⟨bm, 0, none⟩)]]⟩, ⟨bm, 24, [.int .i64 (r : Int), .int .i64 (c : Int), .slice A1 (r * c) k1]⟩, ⟨b4, 4, [.bool false]⟩, ⟨b3, 3, [.int .i64 z]⟩, ⟨b2, 24, [.int .i64 xr, .int .i64 xc, .slice xA xn xk]⟩] [dpRw 0 rl c F 1048576, dpLM ⟨r, c, A1, r * c, k1, l1⟩ r c F 1048576]) ∨
    ∃ (gR kR : Nat) (zR : List Value), i ≤ kR ∧ zR.length = (kR - i) * 1 ∧ zR.all noU64 = true ∧ Fr w W [⟨gR, 22, rl.flatMap lvc ++ zR⟩, ⟨b10, 48, [.slice (some ⟨gR, 0, none⟩) i kR]⟩, ⟨b8, 45, [.func (.func 46) #[] #[.pointer (some ⟨bm, 0, none⟩)]]⟩, ⟨bm, 24, [.int .i64 (r : Int), .int .i64 (c : Int), .slice A1 (r * c) k1]⟩, ⟨b4, 4, [.bool false]⟩, ⟨b3, 3, [.int .i64 z]⟩, ⟨b2, 24, [.int .i64 xr, .int .i64 xc, .slice xA xn xk]⟩] [dpRw i rl c F 1048576, dpLM ⟨r, c, A1, r * c, k1, l1⟩ r c F 1048576])
theorem LnS.cx {w W W' : World} {b10 b8 bm b4 b3 b2 : Nat} {A1 : Option Addr} {r c k1 : Nat} {l1 : List IV} {F : Nat → Nat → Int} {z xr xc : Int} {xA : Option Addr} {xn xk i B : Nat} (h : LnS w b10 b8 bm b4 b3 b2 A1 r c k1 l1 F z xr xc xA xn xk i W) (hc : Cx B W W') (hB : w.heap.size ≤ B) : LnS w b10 b8 bm b4 b3 b2 A1 r c k1 l1 F z xr xc xA xn xk i W' := by
  obtain ⟨rl, h1, (⟨h2, h3⟩ | ⟨gR, kR, zR, a1, a2, a3, h3⟩)⟩ := h
  · exact ⟨rl, h1, .inl ⟨h2, h3.cx hc hB⟩⟩
  · exact ⟨rl, h1, .inr ⟨gR, kR, zR, a1, a2, a3, h3.cx hc hB⟩⟩
/-- the rows within a round: k lines have been handed out anew -/
def LnT (w : World) (b13 b11 b10 b8 bm b4 b3 b2 : Nat) (A1 : Option Addr) (r c k1 : Nat) (l1 : List IV) (F : Nat → Nat → Int) (z xr xc : Int) (xA : Option Addr) (xn xk : Nat) (j k gR kR : Nat) (zR : List Value) (rl : List LV) (W : World) : Prop :=
  rl.length = j + 1 ∧ j + 1 ≤ kR ∧ zR.length = (kR - (j + 1)) * 1 ∧ zR.all noU64 = true ∧ Fr w W [⟨b13, 3, [.int .i64 (k : Int)]⟩, ⟨gR, 22, rl.flatMap lvc ++ zR⟩, ⟨b11, 3, [.int .i64 (j : Int)]⟩, ⟨b10, 48, [.slice (some ⟨gR, 0, none⟩) (j + 1) kR]⟩, ⟨b8, 45, [.func (.func 46) #[] #[.pointer (some ⟨bm, 0, none⟩)]]⟩, ⟨bm, 24, [.int .i64 (r : Int), .int .i64 (c : Int), .slice A1 (r * c) k1]⟩, ⟨b4, 4, [.bool false]⟩, ⟨b3, 3, [.int .i64 z]⟩, ⟨b2, 24, [.int .i64 xr, .int .i64 xc, .slice xA xn xk]⟩] [dpRw (j + 1) rl c F 1048576, dpLM ⟨r, c, A1, r * c, k1, l1⟩ r c F 1048576]
theorem LnT.cx {w W W' : World} {b13 b11 b10 b8 bm b4 b3 b2 : Nat} {A1 : Option Addr} {r c k1 : Nat} {l1 : List IV} {F : Nat → Nat → Int} {z xr xc : Int} {xA : Option Addr} {xn xk j k gR kR B : Nat} {zR : List Value} {rl : List LV} (h : LnT w b13 b11 b10 b8 bm b4 b3 b2 A1 r c k1 l1 F z xr xc xA xn xk j k gR kR zR rl W) (hc : Cx B W W') (hB : w.heap.size ≤ B) : LnT w b13 b11 b10 b8 bm b4 b3 b2 A1 r c k1 l1 F z xr xc xA xn xk j k gR kR zR rl W' :=
  ⟨h.1, h.2.1, h.2.2.1, h.2.2.2.1, h.2.2.2.2.cx hc hB⟩
set_option maxRecDepth 100000 in
set_option maxHeartbeats 40000000 in
theorem lines_t (w : World) (x : MV) (hx : (RM w.heap x 1048576 ∧ InR x) ∧ x.n ≤ 1048576) (z : Int) (hz1 : -9223372036854775808 ≤ z) (hz2 : z < 9223372036854775808) :
    Cl Try.prog 5 #[.agg (mvc x).toArray, .int .i64 z] w (YesM w) := by
  obtain ⟨⟨rx, ix⟩, hn⟩ := hx
  -- the shape that the walk has
  obtain ⟨r, c, F, hshape⟩ : ∃ (r c : Nat) (F : Nat → Nat → Int), (Sound x r c ∧ F = ent x c) ∨ ((¬ ∃ r c, Sound x r c) ∧ r = 0 ∧ c = 0) := by
    by_cases h : ∃ r c, Sound x r c
    · obtain ⟨r, c, h⟩ := h
      exact ⟨r, c, _, .inl ⟨h, rfl⟩⟩
    · exact ⟨0, 0, fun _ _ => 0, .inr ⟨h, rfl, rfl⟩⟩
  have hsnd : ∀ W, Cl Try.prog 10 #[.agg (mvc x).toArray] W (fun e w' => (e = .returned (.bool true) ∧ Sound x r c ∧ Ext W w') ∨ (e = .returned (.bool false) ∧ r = 0 ∧ Ext W w')) := fun W => by
    rcases hshape with ⟨h, _⟩ | ⟨h, h1, _⟩
    · exact (sound_t W x r c h).mono fun e w' k => .inl ⟨k.1, h, k.2⟩
    · exact (sound_f W x fun r c k => h ⟨r, c, k⟩).mono fun e w' k => .inr ⟨k.1, h1, k.2⟩
  have hroom := fun W (hE : Ext w W) => lroomy_ok W x.A x.n x.k x.l (rx.s.ext hE).size (fun y hy => ⟨(rx.g y hy).1.ext hE, (rx.g y hy).2⟩) hn
  have hlines : ∀ (W : World) (A : Option Addr) (k : Nat) (l : List IV), RM W.heap ⟨x.r, x.c, A, x.n, k, l⟩ 1048576 → (∀ q, q < x.n → ival (l.getD q default) = ival (x.l.getD q default)) →
      Cl Try.prog 21 #[.agg (mvc ⟨x.r, x.c, A, x.n, k, l⟩).toArray] W (RetItN W r c F 1048576) := fun W A k l hm he => by
    rcases hshape with ⟨h, rfl⟩ | ⟨h, rfl, rfl⟩
    · have hS : Sound ⟨x.r, x.c, A, x.n, k, l⟩ r c := ⟨h.er, h.ec, h.r64, h.c64, h.n⟩
      refine (linesN W _ r c 1048576 (hm.gm hS) (by omega)).mono ?_
      rintro e w' ⟨b, A', k', l', h1, h2, h3, h4⟩
      refine ⟨b, A', k', l', h1, h2, LM.cong h3 fun i j hi hj => ?_, h4⟩
      exact he _ (by have := h.n; have := place_lt hi hj; omega)
    · exact linesN_bad W ⟨x.r, x.c, A, x.n, k, l⟩ ⟨ix.r, ix.c⟩ (fun ⟨r, c, k⟩ => h ⟨r, c, k.er, k.ec, k.r64, k.c64, k.n⟩) F 1048576
  have hr64 : r ≤ 64 := by rcases hshape with ⟨h, _⟩ | ⟨_, h, _⟩; exact h.r64; omega
  have hc64 : c ≤ 64 := by rcases hshape with ⟨h, _⟩ | ⟨_, _, h⟩; exact h.c64; omega
  have hxl := rx.s.len
  have hgu : ∀ y ∈ x.l, U64 y.m.l ∧ y.m.n ≤ 1048576 ∧ y.m.l.length = y.m.n := fun y hy => ⟨(rx.g y hy).1.u, (rx.g y hy).2, (rx.g y hy).1.s.len⟩
  obtain ⟨xr, xc, xA, xn, xk, xl⟩ := x
  dsimp only at hn hroom hlines hxl
  refine enterM Try.func5 rfl rfl rfl (fun _ h => by cases h.1) ?_
  have hF := Fr.refl w
  repeat' (first | (refine TL.isOp ?_; first | (refine TL.isCall ?_; refine TL.call rfl rfl ?_; first | (refine (wakes_ok _).mono ?_; rintro _ wy ⟨rfl, hE⟩; replace hF := hF.exts hE; clear hE; refine Back.mk ?_) | (refine (hroom _ hF.ext).mono ?_; rintro _ wr ⟨bf, g, mc, FL, M, zm, rfl, hFl, hMl, hmc, hzm, hFr⟩; have hlo := hF.exs.size; replace hF := Fr.joinX hF hFr (fun d hd k hk => by rw [List.mem_singleton] at hd; subst hd; exact rm_new (Fr.rm hFr memH) k hk); simp only [List.cons_append, List.nil_append, List.append_nil] at hF; refine Back.mk ?_)) | (apply TL.ev; (case hd => rfl); (case h => (first | exact ev_simple rfl | (apply Ev.isLoad; first | exact ev_loadFr hF rfl (by refine ⟨?_, ?_⟩; (focus (repeat (first | exact InV.head | apply InV.tail))); rfl)) | exact ev_fieldAddr rfl))) | (refine TL.storeAFr hF rfl rfl rfl rfl (by refine ⟨?_, ?_⟩; (focus (repeat (first | apply SetV.head | apply SetV.tail))); rfl) rfl ?_; clear hF; intro ws hF) | (refine TL.boxAFr hF (d := 2) (cs := [.int .i64 xr, .int .i64 xc, .slice xA xn xk]) rfl rfl ?_; clear hF; intro w2 b2 hF) | (refine TL.boxFr hF (d := 3) rfl rfl ?_; clear hF; intro w3 b3 hF) | (refine TL.allocFr hF (d := 4) rfl rfl ?_; clear hF; intro w4 b4 hF) | (refine TL.allocFr hF (d := 7) rfl rfl ?_; clear hF; intro w7 b7 hF)) | (refine TF.is ?_; first | refine TF.nil ?_ | refine TF.e rfl ?_ | (refine TF.pick rfl ?_; first | (apply TFo.ev; (case hd => rfl); (case h => (intro wh hF; first | exact ev_simple rfl | (apply Ev.isLoad; first | exact ev_loadFr hF rfl (by refine ⟨?_, ?_⟩; (focus (repeat (first | exact InV.head | apply InV.tail))); rfl)) | (apply Ev.isSlice; first | exact ev_slM_h rfl rfl (by omega)) | exact ev_len rfl | exact ev_fieldAddr rfl | exact ev_buildX rfl rfl))))) | (refine G.is ?_; first | refine G.nextI ?_ | refine G.only ?_ | refine G.treeEnd rfl ?_ | refine G.tree rfl (by first | exact hF | exact hF.weak (List.sublist_append_right _ _) (by repeat (first | exact allR | apply allT)) | exact hF.weak (by repeat (first | exact List.Sublist.refl _ | apply List.Sublist.cons)) (by repeat (first | exact allR | apply allT)) | exact hF.weak (by repeat (first | exact List.Sublist.refl _ | apply List.Sublist.cons)) (by repeat (first | exact allN | refine allH (by repeat (first | exact memH | apply memT)) ?_))) ?_) | refine TL.nil ?_ | (refine TI.is ?_; first | refine TI.seqM 5 rfl ?_ | refine TI.region rfl ?_ | refine TI.cond_f rfl ?_ | refine TI.skip ?_ | (refine TI.regionFr hF 4 11 (.s 0 (.s 1 (.s 2 (.s 3 (.s 4 (.s 5 (.s 6 (.s 7 (.s 8 (.s 9 (.e 10 (.e 11 .nil)))))))))))) mixed (by kernel_rfl) rfl ?_; clear hF; intro wr hF)))
  repeat' (first | (refine TL.isOp ?_; first | (refine TL.isCall ?_; refine TL.call rfl rfl ?_; first | (refine (hlines _ (some ⟨bf, 0, none⟩) (xn + 80) (FL.take xn) (rm_mat (x := ⟨xr, xc, xA, xn, xk, xl⟩) hxl hFl (hF.var (b := bf) (by repeat (first | exact InV.head | apply InV.tail))).lt (hF.var (b := bf) (by repeat (first | exact InV.head | apply InV.tail))) (Fr.rm hF (by repeat (first | exact memH | apply memT))) hgu).1 (rm_mat (x := ⟨xr, xc, xA, xn, xk, xl⟩) hxl hFl (hF.var (b := bf) (by repeat (first | exact InV.head | apply InV.tail))).lt (hF.var (b := bf) (by repeat (first | exact InV.head | apply InV.tail))) (Fr.rm hF (by repeat (first | exact memH | apply memT))) hgu).2).mono ?_; rintro _ w5 ⟨bm, A1, k1, l1, rfl, hVm, hLm, hE, hbm, hMf, hNw⟩; have hblt := (fun q (hq : q < xn) => (rm_blk (Fr.rm hF (lo := wy.heap.size) (n := xn) (i := xn + 80) (l := xl) (F := FL) (M := M) (by repeat (first | exact memH | apply memT))) (show q < xn + 80 by omega) hq).2.2.2.2.1); have hA1 := mf_fp hMf; replace hF := Fr.addBoxLM hF hE hbm hVm rfl hLm hMf; clear hE hVm hLm; refine Back.mk ?_)) | (apply TL.ev; (case hd => rfl); (case h => (first | (apply Ev.isBin; first | exact ev_eqlFn rfl rfl) | (apply Ev.isLoad; first | exact ev_loadFr hF rfl (by refine ⟨?_, ?_⟩; (focus (repeat (first | exact InV.head | apply InV.tail))); rfl) | exact ev_loadAFr hF rfl (by refine ⟨?_, ?_⟩; (focus (repeat (first | exact InV.head | apply InV.tail))); rfl))))) | (refine TL.storeFr hF rfl rfl rfl rfl (by refine ⟨?_, ?_⟩; (focus (repeat (first | apply SetV.head | apply SetV.tail))); rfl) rfl ?_; clear hF; intro ws hF) | (refine TL.allocFr hF (d := 8) rfl rfl ?_; clear hF; intro w8 b8 hF)) | (refine G.is ?_; first | refine G.nextI ?_) | refine TL.nil ?_ | (refine TI.is ?_; first | refine TI.seqM 8 rfl ?_ | refine TI.region rfl ?_ | refine TI.cond_f rfl ?_ | refine TI.skip ?_))
  have hst := fun q (hq : q < xn) => rm_blk (Fr.rm hF (lo := wy.heap.size) (n := xn) (i := xn + 80) (l := xl) (F := FL) (M := M) (by repeat (first | exact memH | apply memT))) (show q < xn + 80 by omega) hq
  have hTlo : ∀ k, (∃ q, q < xn ∧ blkM M q = k) → w.heap.size ≤ k := fun k ⟨q, hq, e⟩ => by have := (hst q hq).2.2.2.1; omega
  have hxq : ∀ q, q < xn → (xl.getD q default) ∈ xl := fun q hq => by
    have : xl[q]? = some (xl.getD q default) := by simp [List.getD, show q < xl.length by omega]
    exact List.mem_of_getElem? this
  have hF0 : ∀ q, q < xn → (FL.getD q default).m.A = some ⟨blkM M q, 0, none⟩ ∧ (FL.getD q default).m.n ≤ (xl.getD q default).m.n + 80 ∧ (FL.getD q default).m.n ≤ 1099511627776 := fun q hq => ⟨(hst q hq).1, by rw [(hst q hq).2.1]; omega, by rw [(hst q hq).2.1]; have := (hgu _ (hxq q hq)).2.1; omega⟩
  have hbf : ∀ q, q < xn → blkM M q ≠ bf := fun q hq e => rm_apart hF (lo := wy.heap.size) (n := xn) (i := xn + 80) (l := xl) (F := FL) (M := M) (by repeat (first | exact memH | apply memT)) (by omega) ⟨bf, 37, FL.flatMap ivc⟩ (by simp) ⟨q, hq, e⟩
  have hMq : ∀ q, q < xn → M[q]? = some (some ⟨blkM M q, 0, none⟩, (xl.getD q default).m.n + 80, (xl.getD q default).m.n + 80) := fun q hq => by
    have : M[q]? = some (M.getD q default) := by simp [List.getD, show q < M.length by omega]
    rw [this, (hst q hq).2.2.1]
  clear hst
  repeat' (first | (refine TL.isOp ?_; first | (refine TL.isCall ?_; refine TL.call rfl rfl ?_; first | (refine (lturned_ok _ bf (xn + 80) (xn + 80) xn FL (blkM M) (fun q => (xl.getD q default).m.n + 80) (vr_sm (zs := []) (by omega) (fun _ _ => rfl) (by rw [List.append_nil]; exact hF.var (b := bf) (by repeat (first | exact InV.head | apply InV.tail))) hFl (Nat.le_refl _) (hF.var (b := bf) (by repeat (first | exact InV.head | apply InV.tail))).lt) (by omega) (by omega) hF0 hbf (rm_wd (Fr.rm hF (lo := wy.heap.size) (n := xn) (i := xn + 80) (l := xl) (F := FL) (M := M) (by repeat (first | exact memH | apply memT))) (by omega) hxl (fun y hy => (hgu y hy).1))).mono ?_; rintro _ w9 ⟨rfl, hX⟩; have hL9 := LM.same (Fr.lm hF (x := ⟨r, c, A1, r * c, k1, l1⟩) (r := r) (c := c) (F := F) (K := 1048576) (by repeat (first | exact memH | apply memT))) hNw hA1 hX.size (fun k h1 h2 => hX.block k h2 (fun ⟨q, hq, e⟩ => by have := hblt q hq; omega)); have hap := (fun v hv => (fun e => hF.apart v hv (dpLM ⟨r, c, A1, r * c, k1, l1⟩ r c F 1048576) (by repeat (first | exact memH | apply memT)) (by unfold dpLM; exact e))); replace hF := Fr.addLMx (Fr.wrote9 hF hX hTlo (rm_apart hF (lo := wy.heap.size) (n := xn) (i := xn + 80) (l := xl) (F := FL) (M := M) (by repeat (first | exact memH | apply memT)) (by omega))) hL9 hap; clear hX hL9 hap; refine Back.mk ?_)) | (apply TL.ev; (case hd => rfl); (case h => (first | exact ev_simple rfl | (apply Ev.isLoad; first | exact ev_loadFr hF rfl (by refine ⟨?_, ?_⟩; (focus (repeat (first | exact InV.head | apply InV.tail))); rfl)) | exact ev_len rfl | exact ev_fieldAddr rfl)))) | (refine G.is ?_; first | refine G.nextI ?_) | refine TL.nil ?_ | (refine TI.is ?_; first | refine TI.seq ?_ | refine TI.region rfl ?_ | refine TI.block ?_))
  refine TI.loop (α := Nat × List IV) (fun x => [(2, .pointer (some ⟨b2, 0, none⟩)), (3, .pointer (some ⟨b3, 0, none⟩)), (4, .pointer (some ⟨b4, 0, none⟩)), (5, .slice (some ⟨bf, 0, none⟩) (xn + 80) (xn + 80)), (6, .slice (some ⟨g, 0, none⟩) (xn + 80) mc), (8, .pointer (some ⟨b8, 0, none⟩)), (9, .int .i64 (x.1 : Int))])
    (fun x W => x.1 ≤ xn ∧ x.2.length = xn + 80 ∧ Fr w W [⟨b8, 45, [.func (.func 46) #[] #[.pointer (some ⟨bm, 0, none⟩)]]⟩, ⟨bm, 24, [.int .i64 (r : Int), .int .i64 (c : Int), .slice A1 (r * c) k1]⟩, ⟨g, 35, M.flatMap (fun x => [slc x]) ++ zm⟩, ⟨bf, 37, x.2.flatMap ivc⟩, ⟨b4, 4, [.bool false]⟩, ⟨b3, 3, [.int .i64 z]⟩, ⟨b2, 24, [.int .i64 xr, .int .i64 xc, .slice xA xn xk]⟩] [dpLM ⟨r, c, A1, r * c, k1, l1⟩ r c F 1048576])
    (fun x => xn - x.1) (0, FL) (by repeat (first | exact Sub.nil _ | refine Sub.cons rfl ?_ | refine Sub.cons' rfl (int_congr (by omega)) ?_)) ⟨Nat.zero_le _, hFl, hF.weak (by repeat (first | exact List.Sublist.refl _ | apply List.Sublist.cons_cons | apply List.Sublist.cons)) (allH (by repeat (first | exact memH | apply memT)) allN)⟩ ?_
  clear hF hFl hF0 hNw hblt hA1 hTlo
  rintro ⟨i, FL⟩ w10 ⟨hi, hFl, hF⟩
  dsimp only at hi hFl hF ⊢
  rcases Nat.lt_or_ge i xn with hin | hin
  · have hMi : M[i * 1]? = some (some ⟨blkM M i, 0, none⟩, (xl.getD i default).m.n + 80, (xl.getD i default).m.n + 80) := by
      rw [Nat.mul_one]; exact hMq i hin
    have hy : xl[i]? = some (xl.getD i default) := by simp [List.getD, show i < xl.length by omega]
    obtain ⟨y, ey⟩ : ∃ y, xl.getD i default = y := ⟨_, rfl⟩
    rw [ey] at hy hMi
    obtain ⟨ys, ⟨yA, yn, yc, yl⟩⟩ := y
    dsimp only at hMi
    have hyn : yn ≤ 1048576 := (hgu _ (List.mem_of_getElem? hy)).2.1
    have hix : i < xn + 80 := by omega
    repeat' (first | (refine TL.isOp ?_; first | (refine TL.isBin ?_; refine TL.cmpG rfl rfl rfl rfl (fun hc => ?_) (fun hc => ?_) <;> (try (first | (exfalso; omega) | exact absurd rfl hc))) | (apply TL.ev; (case hd => rfl); (case h => (first | exact ev_simple rfl | (apply Ev.isBin; first | exact ev_arN rfl rfl rfl (by omega)) | (apply Ev.isLoad; first | exact ev_loadFr hF rfl (by refine ⟨?_, ?_⟩; (focus (repeat (first | exact InV.head | apply InV.tail))); rfl)) | exact ev_len rfl | exact ev_fieldAddr rfl))) | (refine TL.storeAtFr hF (f := ivc) ⟨true, ⟨some ⟨blkM M i, 0, none⟩, yn, yn + 80, []⟩⟩ rfl rfl rfl rfl (fun _ => rfl) (by omega) (ivc_noV FL) (by repeat (first | apply SetV.head | apply SetV.tail)) ?_; clear hF; intro ws hF)) | (refine TF.is ?_; first | refine TF.nil ?_ | refine TF.e rfl ?_ | (refine TF.pick rfl ?_; first | (apply TFo.ev; (case hd => rfl); (case h => (intro wh hF; first | exact ev_simple rfl | (apply Ev.isLoad; first | exact ev_loadFr hF rfl (by refine ⟨?_, ?_⟩; (focus (repeat (first | exact InV.head | apply InV.tail))); rfl) | exact ev_loadMF (sz := 2) (off := 1) (f := ivc) (v := .slice yA yn yc) rfl (rx.s.ext hF.ext) hy rfl) | (apply Ev.isSlice; first | exact ev_sl_h rfl rfl (by omega)) | exact ev_len rfl | exact ev_fieldAddr rfl | exact ev_buildX rfl rfl | exact ev_fieldAddrE rfl ((rx.s.ext hF.ext).isSome hin) | exact ev_indexM rfl rfl hin (rx.s.ext hF.ext).some | exact ev_indexM rfl rfl hix (.inr rfl) | exact (show Ev _ _ _ _ (.slice (some ⟨blkM M i, 0, none⟩) (yn + 80) (yn + 80)) from ev_loadSl (f := slc) rfl (vr_sl1 (f := slc) (hF.var (b := g) (by repeat (first | exact InV.head | apply InV.tail))) hMl hmc (hF.var (b := g) (by repeat (first | exact InV.head | apply InV.tail))).lt) hMi)))))) | (refine G.is ?_; first | refine G.nextI ?_ | refine G.blockN ?_ | refine G.only ?_ | refine G.treeEnd rfl ?_) | refine TL.nil ?_ | (refine TI.is ?_; first | refine TI.seq ?_ | refine TI.region rfl ?_ | refine TI.block ?_ | refine TI.cond_t rfl ?_ | refine TI.skip ?_ | (refine TI.regionFr hF 12 16 (.s 0 (.s 1 (.s 2 (.s 3 (.s 4 (.s 5 (.s 6 (.s 7 (.s 8 (.s 9 (.s 10 (.s 11 (.s 12 (.s 13 (.s 14 (.s 15 (.e 16 .nil))))))))))))))))) mixed (by kernel_rfl) rfl ?_; clear hF; intro wr hF)))
    all_goals exact G.again (i + 1, _) (by repeat (first | exact Sub.nil _ | refine Sub.cons rfl ?_ | refine Sub.cons' rfl (int_congr (by omega)) ?_)) ⟨hin, by dsimp only; rw [List.length_set]; exact hFl, hF⟩ (by dsimp only; omega)
  obtain rfl : i = xn := by omega
  clear hi hin hMq hMl hmc hzm hFl
  repeat' (first | (refine TL.isOp ?_; first | (refine TL.isBin ?_; refine TL.cmpG rfl rfl rfl rfl (fun hc => ?_) (fun hc => ?_) <;> (try (first | (exfalso; omega) | exact absurd rfl hc))) | (apply TL.ev; (case hd => rfl); (case h => (first | exact ev_simple rfl | (apply Ev.isLoad; first | exact ev_loadFr hF rfl (by refine ⟨?_, ?_⟩; (focus (repeat (first | exact InV.head | apply InV.tail))); rfl)) | exact ev_len rfl | exact ev_fieldAddr rfl))) | (refine TL.allocFr hF (d := 10) rfl rfl ?_; clear hF; intro w10 b10 hF)) | (refine G.is ?_; first | refine G.nextI ?_ | refine G.blockE ?_ | refine G.thenE ?_) | refine TL.nil ?_ | (refine TI.is ?_; first | refine TI.seq ?_ | refine TI.region rfl ?_ | refine TI.block ?_ | refine TI.cond_f rfl ?_ | refine TI.exit ?_))
  have hS0 : LnS w b10 b8 bm b4 b3 b2 A1 r c k1 l1 F z xr xc xA i xk 0 w10 := ⟨[], rfl, .inl ⟨rfl, Fr.rw0 (hF.weak (by repeat (first | exact List.Sublist.refl _ | apply List.Sublist.cons_cons | apply List.Sublist.cons)) (allH (by repeat (first | exact memH | apply memT)) allN)) _ _ _ _⟩⟩
  have hE1 := hF.ext
  have hB := hE1.size
  refine TI.rangeFuncM (lines_iterW bm r c 1048576 k1 A1 l1 F (by omega)) rfl inferInstance (fun _ => rfl) rfl ⟨hF.var (b := bm) (by repeat (first | exact InV.head | apply InV.tail)), Fr.lm hF (by repeat (first | exact memH | apply memT))⟩ (fun W W' h hc => It.cx h hc)
    (fun j W => (z < 0 ∨ (j : Int) ≤ z) ∧ LnS w b10 b8 bm b4 b3 b2 A1 r c k1 l1 F z xr xc xA i xk j W)
    (fun c' W => c' = .exit 2 ∧ ∃ j : Nat, j < r ∧ (j : Int) = z ∧ LnS w b10 b8 bm b4 b3 b2 A1 r c k1 l1 F z xr xc xA i xk (j + 1) W)
    (fun j W W' h hc => ⟨h.1, h.2.cx hc hB⟩) (fun c' W W' ⟨h1, j, h2, h3, h4⟩ hc => ⟨h1, j, h2, h3, h4.cx hc hB⟩) ⟨by omega, hS0⟩ ?_ ?_ ?_
  · clear hF hS0
    rintro l' j ⟨j', yA, yn, yk, yl⟩ Wb W hj hl' hlp ⟨hjz, rl, hrl, hS⟩ hIt hEb ⟨e1, e2, e3, b', e4, hb', hVy, hly, hLk⟩
    dsimp only at e1 e2 e3 e4 hVy hly hLk
    replace e1 := e1.symm
    replace e2 := e2.symm
    replace e3 := e3.symm
    subst e1 e2 e3 e4
    have hF := Fr.refl W
    repeat' (first | (refine TL.isOp ?_; first | (apply TL.ev; (case hd => rfl); (case h => (first | exact ev_simple rfl))) | (refine TL.storeFr hF rfl rfl rfl rfl (by refine ⟨?_, ?_⟩; (focus (repeat (first | apply SetV.head | apply SetV.tail))); rfl) rfl ?_; clear hF; intro ws hF) | (refine TL.allocFr hF (d := 11) rfl rfl ?_; clear hF; intro w11 b11 hF)) | (refine G.is ?_; first | refine G.nextI ?_) | refine TL.nil ?_ | (refine TI.is ?_; first | refine TI.seq ?_ | refine TI.region rfl ?_))
    have hEa := hF.ext
    have hb11 := (hF.lo (b := b11) (by repeat (first | exact InV.head | apply InV.tail))).resolve_right id
    have hV11 : Vr _ b11 3 [.int .i64 (j : Int)] := hF.var (b := b11) (by repeat (first | exact InV.head | apply InV.tail))
    refine G.begunK (KeepO.ext hEa) fun w2 hc2 hl2 => ?_
    clear hF
    have hLL : LL W.heap (some ⟨b', 0, none⟩) c c yl (F j) 1048576 := ⟨vr_sm (zs := []) (by omega) (fun _ _ => rfl) (by rw [List.append_nil]; exact hVy) hly (Nat.le_refl _) hVy.lt, hLk⟩
    have hLF : LF Wb (some ⟨b', 0, none⟩) c := .inr ⟨b', rfl, hb'⟩
    obtain ⟨yv, hyv⟩ : ∃ yv : LV, yv = ⟨some ⟨b', 0, none⟩, c, c, yl⟩ := ⟨_, rfl⟩
    rcases hS with ⟨h0, hFb⟩ | ⟨gR, kR, zR, a1, a2, a3, hFb⟩
    focus
      rw [h0] at hrl hLL
      obtain rfl : rl = [] := List.eq_nil_of_length_eq_zero hrl
      have hF1 := (Fr.newGe (Fr.addLL hFb hEb hLL hLF) hb11 hV11 hEa).cx hc2 hB
      have hF2 := (Fr.rwAdd hF1 (i := 0) (l := []) rfl (by repeat (first | exact memH | apply memT)) (by repeat (first | exact memH | apply memT))).weak (List.Sublist.refl _) (D := [dpRw 1 [⟨some ⟨b', 0, none⟩, c, c, yl⟩] c F 1048576, dpLM ⟨r, c, A1, r * c, k1, l1⟩ r c F 1048576]) (by repeat (first | exact allN | refine allH (by repeat (first | exact memH | apply memT)) ?_))
      obtain ⟨S, hO, hF⟩ := hF2.open
      clear hF1 hF2
      repeat' (first | (refine TL.isOp ?_; first | (refine TL.isG ?_; first | refine TL.grun rfl rfl rfl ?_) | (refine TL.isBin ?_; refine TL.cmpG rfl rfl rfl rfl (fun hc => ?_) (fun hc => ?_) <;> (try (first | (exfalso; omega) | exact absurd rfl hc))) | (apply TL.ev; (case hd => rfl); (case h => (first | exact ev_simple rfl | (apply Ev.isLoad; first | exact ev_loadFr hF rfl (by refine ⟨?_, ?_⟩; (focus (repeat (first | exact InV.head | apply InV.tail))); rfl)) | exact ev_len rfl))) | (refine TL.storeFr hF rfl rfl rfl rfl (by refine ⟨?_, ?_⟩; (focus (repeat (first | apply SetV.head | apply SetV.tail))); rfl) rfl ?_; clear hF; intro ws hF) | (refine TL.allocFr hF (d := 13) rfl rfl ?_; clear hF; intro w13 b13 hF) | (refine TL.build1Fr hF (f := fun (x : LV) => Value.slice x.A x.n x.k) (u := ⟨some ⟨b', 0, none⟩, c, c, yl⟩) (fun _ => rfl) rfl rfl rfl ?_; clear hF; intro wl bl hbl hF hSl hEl) | (refine TL.appendNewFr hF lvc rfl rfl rfl rfl hSl (fun _ => rfl) rfl rfl (by omega) (fun h0 => absurd h0 (by omega)) ?_; clear hF hSl hEl; intro _ wn bR cR zR hcR hzR hzRn hF)) | (refine G.is ?_; first | refine G.nextI ?_) | refine TL.nil ?_ | (refine TI.is ?_; first | refine TI.seq ?_ | refine TI.region rfl ?_ | refine TI.block ?_ | refine TI.cond_f rfl ?_ | refine TI.skip ?_))
      have hKo : KeepO w2 ws := KeepO.of (Fr.others hO hF)
      have hT : ∃ (gR kR : Nat) (zR : List Value) (rl : List LV), LnT w b13 b11 b10 b8 bm b4 b3 b2 A1 r c k1 l1 F z xr xc xA i xk j 0 gR kR zR rl ws := by
        subst h0
        exact ⟨bR, cR, zR, _, rfl, hcR, hzR, hzRn, Fr.shut hO hF⟩
    rotate_left
    focus
      have hF1 := (Fr.newGe (Fr.addLL hFb hEb hLL hLF) hb11 hV11 hEa).cx hc2 hB
      have hF2 := (Fr.rwAdd hF1 (i := j) (l := rl) hrl (by repeat (first | exact memH | apply memT)) (by repeat (first | exact memH | apply memT))).weak (List.Sublist.refl _) (D := [dpRw (j + 1) (rl ++ [⟨some ⟨b', 0, none⟩, c, c, yl⟩]) c F 1048576, dpLM ⟨r, c, A1, r * c, k1, l1⟩ r c F 1048576]) (by repeat (first | exact allN | refine allH (by repeat (first | exact memH | apply memT)) ?_))
      obtain ⟨S, hO, hF⟩ := hF2.open
      clear hF1 hF2
      repeat' (first | (refine TL.isOp ?_; first | (refine TL.isG ?_; first | refine TL.grun rfl rfl rfl ?_) | (refine TL.isBin ?_; refine TL.cmpG rfl rfl rfl rfl (fun hc => ?_) (fun hc => ?_) <;> (try (first | (exfalso; omega) | exact absurd rfl hc))) | (apply TL.ev; (case hd => rfl); (case h => (first | exact ev_simple rfl | (apply Ev.isLoad; first | exact ev_loadFr hF rfl (by refine ⟨?_, ?_⟩; (focus (repeat (first | exact InV.head | apply InV.tail))); rfl)) | exact ev_len rfl))) | (refine TL.storeFr hF rfl rfl rfl rfl (by refine ⟨?_, ?_⟩; (focus (repeat (first | apply SetV.head | apply SetV.tail))); rfl) rfl ?_; clear hF; intro ws hF) | (refine TL.allocFr hF (d := 13) rfl rfl ?_; clear hF; intro w13 b13 hF) | (refine TL.build1Fr hF (f := fun (x : LV) => Value.slice x.A x.n x.k) (u := ⟨some ⟨b', 0, none⟩, c, c, yl⟩) (fun _ => rfl) rfl rfl rfl ?_; clear hF; intro wl bl hbl hF hSl hEl) | (refine TL.appendAtFr (f := lvc) (l := rl) (zs := zR) hF rfl rfl rfl rfl hSl (fun _ => rfl) (fun _ => rfl) rfl rfl hrl a2 a1 (lvc_noV _ _ a3) (by omega) (by repeat (first | apply SetV.head | apply SetV.tail)) (fun hle wn hFn => ?_) (fun hgr wn bR cR zR2 hcR hzR hzRn hFn => ?_) <;> (clear hF hSl hEl; have hF := hFn; clear hFn))) | (refine G.is ?_; first | refine G.nextI ?_) | refine TL.nil ?_ | (refine TI.is ?_; first | refine TI.seq ?_ | refine TI.region rfl ?_ | refine TI.block ?_ | refine TI.cond_f rfl ?_ | refine TI.skip ?_))
      focus
        have hKo : KeepO w2 ws := KeepO.of (Fr.others hO hF)
        have hT : ∃ (gR kR : Nat) (zR : List Value) (rl : List LV), LnT w b13 b11 b10 b8 bm b4 b3 b2 A1 r c k1 l1 F z xr xc xA i xk j 0 gR kR zR rl ws := 
          ⟨gR, kR, _, _, len_snoc hrl, hle, by rw [List.length_drop]; omega, drop_noV a3 _, Fr.permX (Fr.shut hO hF) (.cons _ (.swap _ _ _))⟩
      rotate_left
      focus
        have hKo : KeepO w2 ws := KeepO.of (Fr.others hO hF)
        have hT : ∃ (gR kR : Nat) (zR : List Value) (rl : List LV), LnT w b13 b11 b10 b8 bm b4 b3 b2 A1 r c k1 l1 F z xr xc xA i xk j 0 gR kR zR rl ws := 
          ⟨bR, cR, zR2, _, len_snoc hrl, hcR, hzR, hzRn, (Fr.shut hO hF).weak (.cons_cons _ (.cons_cons _ (.cons_cons _ (.cons _ (.refl _))))) allR⟩
    all_goals
      clear hF hO
      obtain ⟨gR2, kR2, zR2, rl2, hT⟩ := hT
      have hl3 : ∃ ρ, ws.heap[l']? = some (.loop ρ) := by
        obtain ⟨ρ, h⟩ := hl2
        exact ⟨ρ, hKo.same _ _ h rfl⟩
      have hFt := hT.2.2.2.2
      have hB3 := hFt.ext.size
      have hK3 := hKo.size
      refine TI.rangeFuncN (lines_iterW bm r c 1048576 k1 A1 l1 F (by omega)) rfl inferInstance (fun _ => rfl) rfl hl3 ⟨hFt.var (b := bm) (by repeat (first | exact InV.head | apply InV.tail)), Fr.lm hFt (by repeat (first | exact memH | apply memT))⟩ (fun W W' h hc => It.cx h hc)
        (fun k W => KeepO w2 W ∧ LnT w b13 b11 b10 b8 bm b4 b3 b2 A1 r c k1 l1 F z xr xc xA i xk j k gR2 kR2 zR2 rl2 W)
        (fun c' W => c' = .exit 4 ∧ KeepO w2 W ∧ ∃ k, LnT w b13 b11 b10 b8 bm b4 b3 b2 A1 r c k1 l1 F z xr xc xA i xk j k gR2 kR2 zR2 rl2 W)
        (fun k W W' h hc => ⟨h.1.cx hc hK3, h.2.cx hc hB3⟩) (fun c' W W' h hc => ⟨h.1, h.2.1.cx hc hK3, (by obtain ⟨k, hk⟩ := h.2.2; exact ⟨k, hk.cx hc hB3⟩)⟩) ⟨hKo, hT⟩ ?_ ?_ ?_
      · clear hFt hT hl3
        rintro l2' k ⟨k', uA, un, uk, ul⟩ Wc W3 hk hl2' hlp2 ⟨hKc, n1, n2, n3, n4, hFc⟩ hIt2 hEc ⟨e1, e2, e3, bu, e4, hbu, hVu, hlu, hLk2⟩
        dsimp only at e1 e2 e3 e4 hVu hlu hLk2
        replace e1 := e1.symm
        replace e2 := e2.symm
        replace e3 := e3.symm
        subst e1 e2 e3 e4
        have hF := Fr.refl W3
        repeat' (first | (refine TL.isOp ?_; first | (apply TL.ev; (case hd => rfl); (case h => (first | exact ev_simple rfl)))) | (refine G.is ?_; first | refine G.nextI ?_) | refine TL.nil ?_ | (refine TI.is ?_; first | refine TI.seq ?_ | refine TI.region rfl ?_))
        refine G.begunK (KeepO.ext hF.ext) fun w4 hc4 hl4 => ?_
        clear hF
        have hF4 := (Fr.addLK (Fr.newGe hFc hbu hVu hEc) hLk2).cx hc4 hB3
        have hKd : KeepO w2 w4 := (hKc.trans (KeepO.ext hEc)).cx hc4 hK3
        obtain ⟨S, hO, hF⟩ := hF4.open
        clear hF4
        have hrow : ∀ W1 : World, RwK (j + 1) rl2 c F 1048576 W1.heap → k ≤ j → (rl2.getD k default).n = c ∧ LL W1.heap (rl2.getD k default).A c (rl2.getD k default).k (rl2.getD k default).l (F k) 1048576 := fun W1 h hkj => h k (by omega)
        generalize ev : rl2.getD k default = v at hrow
        obtain ⟨vA, vn, vk, vl⟩ := v
        dsimp only at hrow
        rcases Nat.lt_or_ge j k with hjk | hjk
        focus
          repeat' (first | (refine TL.isOp ?_; first | (refine TL.isG ?_; first | refine TL.grun rfl rfl rfl ?_ | refine TL.gskip rfl rfl rfl rfl ?_) | (refine TL.isBin ?_; refine TL.cmpG rfl rfl rfl rfl (fun hc => ?_) (fun hc => ?_) <;> (try (first | (exfalso; omega) | exact absurd rfl hc))) | (apply TL.ev; (case hd => rfl); (case h => (first | exact ev_simple rfl | (apply Ev.isLoad; first | exact ev_loadFr hF rfl (by refine ⟨?_, ?_⟩; (focus (repeat (first | exact InV.head | apply InV.tail))); rfl)))))) | (refine G.is ?_; first | refine G.nextI ?_) | refine TL.nil ?_ | (refine TI.is ?_; first | refine TI.seqM 26 rfl ?_ | refine TI.region rfl ?_ | refine TI.block ?_ | refine TI.cond_f rfl ?_ | refine TI.skip ?_))
        rotate_left
        focus
          have hvn := (hrow _ (Fr.rws hF (l := rl2) (by repeat (first | exact memH | apply memT))) hjk).1.symm
          subst hvn
          repeat' (first | (refine TL.isOp ?_; first | (refine TL.isG ?_; first | refine TL.grun rfl rfl rfl ?_) | (refine TL.isCall ?_; refine TL.call rfl rfl ?_; first | (refine (rows_li (Z := F k) (Z' := F k) (K := 1048576) ⟨vr_sm (zs := []) (by omega) (fun _ _ => rfl) (by rw [List.append_nil]; exact hF.var (b := bu) (by repeat (first | exact InV.head | apply InV.tail))) hlu (Nat.le_refl _) (hF.var (b := bu) (by repeat (first | exact InV.head | apply InV.tail))).lt, Fr.lk hF (by repeat (first | exact memH | apply memT))⟩ ((hrow _ (Fr.rws hF (l := rl2) (by repeat (first | exact memH | apply memT))) hjk).2) (fun _ _ => rfl) (by omega) (by omega)).mono ?_; rintro _ wy2 ⟨rfl, hE⟩; replace hF := hF.exts hE; clear hE; refine Back.mk ?_)) | (refine TL.isBin ?_; refine TL.cmpG rfl rfl rfl rfl (fun hc => ?_) (fun hc => ?_) <;> (try (first | (exfalso; omega) | exact absurd rfl hc))) | (apply TL.ev; (case hd => rfl); (case h => (first | exact ev_simple rfl | (apply Ev.isLoad; first | exact ev_loadFr hF rfl (by refine ⟨?_, ?_⟩; (focus (repeat (first | exact InV.head | apply InV.tail))); rfl) | exact ev_loadSv rfl (sm_sv (vr_sm (by omega) (fun _ _ => rfl) (hF.var (b := gR2) (by repeat (first | exact InV.head | apply InV.tail))) n1 n2 (hF.var (b := gR2) (by repeat (first | exact InV.head | apply InV.tail))).lt)) (by omega) ev) | exact ev_len rfl | exact ev_indexM rfl rfl (show k < j + 1 by omega) (.inr rfl))))) | (refine G.is ?_; first | refine G.nextI ?_) | refine TL.nil ?_ | (refine TI.is ?_; first | refine TI.seqM 26 rfl ?_ | refine TI.region rfl ?_ | refine TI.block ?_ | refine TI.cond_f rfl ?_ | refine TI.skip ?_))
        all_goals
          repeat' (first | (refine TL.isOp ?_; first | (apply TL.ev; (case hd => rfl); (case h => (first | exact ev_simple rfl)))) | (refine G.is ?_; first | refine G.nextI ?_) | refine TL.nil ?_ | (refine TI.is ?_; first | refine TI.seq ?_ | refine TI.region rfl ?_ | refine TI.block ?_))
          refine TI.loop (α := Nat × List IV) (fun x => [(3, .pointer (some ⟨b3, 0, none⟩)), (13, .pointer (some ⟨b13, 0, none⟩)), (15, .slice (some ⟨bu, 0, none⟩) c c), (16, .int .i64 (x.1 : Int))])
            (fun x W => x.1 ≤ c ∧ x.2.length = c ∧ Fr w4 W [⟨bu, 37, x.2.flatMap ivc⟩, ⟨b13, 3, [.int .i64 (k : Int)]⟩, ⟨gR2, 22, rl2.flatMap lvc ++ zR2⟩, ⟨b11, 3, [.int .i64 (j : Int)]⟩, ⟨b10, 48, [.slice (some ⟨gR2, 0, none⟩) (j + 1) kR2]⟩, ⟨b8, 45, [.func (.func 46) #[] #[.pointer (some ⟨bm, 0, none⟩)]]⟩, ⟨bm, 24, [.int .i64 (r : Int), .int .i64 (c : Int), .slice A1 (r * c) k1]⟩, ⟨b4, 4, [.bool false]⟩, ⟨b3, 3, [.int .i64 z]⟩, ⟨b2, 24, [.int .i64 xr, .int .i64 xc, .slice xA i xk]⟩] [dpRw (j + 1) rl2 c F 1048576, dpLM ⟨r, c, A1, r * c, k1, l1⟩ r c F 1048576] S)
            (fun x => c - x.1) (0, ul) (by repeat (first | exact Sub.nil _ | refine Sub.cons rfl ?_ | refine Sub.cons' rfl (int_congr (by omega)) ?_)) ⟨Nat.zero_le _, hlu, hF.weak (List.Sublist.refl _) (allH (by repeat (first | exact memH | apply memT)) (allH (by repeat (first | exact memH | apply memT)) allN))⟩ ?_
          clear hF hrow
          rintro ⟨q, ul⟩ w5 ⟨hq, hul, hF⟩
          dsimp only at hq hul hF ⊢
          rcases Nat.lt_or_ge q c with hqc | hqc
          · repeat' (first | (refine TL.isOp ?_; first | (refine TL.isCall ?_; refine TL.call rfl rfl ?_; first | (refine (ofw_ok _ (n := 99) (by omega)).mono ?_; rintro _ wo ⟨Ao, rfl, hOs, hE⟩; replace hF := hF.exts hE; clear hE hOs; refine Back.mk ?_)) | (refine TL.isBin ?_; refine TL.cmpG rfl rfl rfl rfl (fun hc => ?_) (fun hc => ?_) <;> (try (first | (exfalso; omega) | exact absurd rfl hc))) | (apply TL.ev; (case hd => rfl); (case h => (first | exact ev_simple rfl | (apply Ev.isBin; first | exact ev_arN rfl rfl rfl (by omega)) | exact ev_len rfl | exact ev_indexM rfl rfl hqc (.inr rfl)))) | (refine TL.storeAtFr hF (f := ivc) ⟨false, ⟨Ao, 1, 1, [99]⟩⟩ rfl rfl rfl rfl (fun _ => rfl) (by omega) (ivc_noV ul) (by repeat (first | apply SetV.head | apply SetV.tail)) ?_; clear hF; intro ws2 hF)) | (refine G.is ?_; first | refine G.nextI ?_ | refine G.blockN ?_) | refine TL.nil ?_ | (refine TI.is ?_; first | refine TI.seq ?_ | refine TI.region rfl ?_ | refine TI.block ?_ | refine TI.cond_t rfl ?_ | refine TI.skip ?_))
            all_goals exact G.again (q + 1, _) (by repeat (first | exact Sub.nil _ | refine Sub.cons rfl ?_ | refine Sub.cons' rfl (int_congr (by omega)) ?_)) ⟨hqc, by dsimp only; rw [List.length_set]; exact hul, hF⟩ (by dsimp only; omega)
          obtain rfl : q = c := by omega
          repeat' (first | (refine TL.isOp ?_; first | (refine TL.isBin ?_; refine TL.cmpG rfl rfl rfl rfl (fun hc => ?_) (fun hc => ?_) <;> (try (first | (exfalso; omega) | exact absurd rfl hc))) | (apply TL.ev; (case hd => rfl); (case h => (first | exact ev_simple rfl | (apply Ev.isBin; first | exact ev_arN rfl rfl rfl (by omega)) | (apply Ev.isLoad; first | exact ev_loadFr hF rfl (by refine ⟨?_, ?_⟩; (focus (repeat (first | exact InV.head | apply InV.tail))); rfl)) | exact ev_len rfl | exact ev_remI rfl rfl (by decide)))) | (refine TL.storeFr hF rfl rfl rfl rfl (by refine ⟨?_, ?_⟩; (focus (repeat (first | apply SetV.head | apply SetV.tail))); rfl) rfl ?_; clear hF; intro ws hF)) | (refine G.is ?_; first | refine G.nextI ?_ | refine G.blockN ?_ | refine G.blockE ?_ | refine G.blockE' rfl ?_ | refine G.thenE ?_) | refine TL.nil ?_ | (refine TI.is ?_; first | refine TI.seq ?_ | refine TI.region rfl ?_ | refine TI.cond_t rfl ?_ | refine TI.cond_f rfl ?_ | refine TI.exit ?_ | refine TI.skip ?_))
          all_goals
            have hKe := KeepO.of (Fr.others hO hF)
            have hFz := (Fr.shut hO hF).weak (.cons _ (.refl _)) allR
            first
              | exact G.roundK hKe ⟨⟨hKd.trans hKe, n1, n2, n3, n4, hFz⟩, hF.var (b := bm) (by repeat (first | exact InV.head | apply InV.tail)), Fr.lm hF (by repeat (first | exact memH | apply memT))⟩
              | exact G.exitK hKe ⟨rfl, hKd.trans hKe, k + 1, n1, n2, n3, n4, hFz⟩
      · rintro w6 ⟨hKf, m1, m2, m3, m4, hF⟩ _
        repeat' (first | (refine TL.isOp ?_; first | (refine TL.isG ?_; first | refine TL.grun rfl rfl rfl ?_ | refine TL.gskip rfl rfl rfl rfl ?_) | (refine TL.isBin ?_; refine TL.cmpG rfl rfl rfl rfl (fun hc => ?_) (fun hc => ?_) <;> (try (first | (exfalso; omega) | exact absurd rfl hc))) | (apply TL.ev; (case hd => rfl); (case h => (first | exact ev_simple rfl | (apply Ev.isLoad; first | exact ev_loadFr hF rfl (by refine ⟨?_, ?_⟩; (focus (repeat (first | exact InV.head | apply InV.tail))); rfl)) | exact ev_len rfl)))) | (refine G.is ?_; first | refine G.nextI ?_ | refine G.blockN ?_ | refine G.blockE' rfl ?_) | refine TL.nil ?_ | (refine TI.is ?_; first | refine TI.seq ?_ | refine TI.region rfl ?_ | refine TI.cond_t rfl ?_ | refine TI.cond_f rfl ?_ | refine TI.exit ?_ | refine TI.skip ?_))
        all_goals
          have hFz := hF.weak (.cons _ (.cons_cons _ (.cons _ (.refl _)))) allR
          first
            | refine G.roundK hKf ⟨⟨?_, rl2, m1, .inr ⟨gR2, kR2, zR2, m2, m3, m4, hFz⟩⟩, hF.var (b := bm) (by repeat (first | exact InV.head | apply InV.tail)), Fr.lm hF (by repeat (first | exact memH | apply memT))⟩
            | refine G.exitK hKf ⟨rfl, j, hj, ?_, rl2, m1, .inr ⟨gR2, kR2, zR2, m2, m3, m4, hFz⟩⟩
          omega
      · rintro c' w6 ⟨rfl, hKf, kf, m1, m2, m3, m4, hF⟩
        repeat' (first | (refine TL.isOp ?_; first | (refine TL.isG ?_; first | refine TL.grun rfl rfl rfl ?_ | refine TL.gskip rfl rfl rfl rfl ?_) | (refine TL.isBin ?_; refine TL.cmpG rfl rfl rfl rfl (fun hc => ?_) (fun hc => ?_) <;> (try (first | (exfalso; omega) | exact absurd rfl hc))) | (apply TL.ev; (case hd => rfl); (case h => (first | exact ev_simple rfl | (apply Ev.isLoad; first | exact ev_loadFr hF rfl (by refine ⟨?_, ?_⟩; (focus (repeat (first | exact InV.head | apply InV.tail))); rfl)) | exact ev_len rfl)))) | (refine G.is ?_; first | refine G.nextI ?_ | refine G.blockN ?_ | refine G.blockE ?_ | refine G.blockE' rfl ?_) | refine TL.nil ?_ | (refine TI.is ?_; first | refine TI.seq ?_ | refine TI.region rfl ?_ | refine TI.cond_t rfl ?_ | refine TI.cond_f rfl ?_ | refine TI.exit ?_ | refine TI.skip ?_))
        all_goals
          have hFz := hF.weak (.cons _ (.cons_cons _ (.cons _ (.refl _)))) allR
          first
            | refine G.roundK hKf ⟨⟨?_, rl2, m1, .inr ⟨gR2, kR2, zR2, m2, m3, m4, hFz⟩⟩, hF.var (b := bm) (by repeat (first | exact InV.head | apply InV.tail)), Fr.lm hF (by repeat (first | exact memH | apply memT))⟩
            | refine G.exitK hKf ⟨rfl, j, hj, ?_, rl2, m1, .inr ⟨gR2, kR2, zR2, m2, m3, m4, hFz⟩⟩
          omega
  focus
    clear hF hS0
    rintro D w6 hD hDw ⟨hz, hS⟩ _
    have hN : ∃ N, N ≤ r ∧ ((r = N ∧ (z < 0 ∨ (r : Int) ≤ z)) ∨ (z + 1 = (N : Int) ∧ 0 ≤ z)) ∧ LnS w b10 b8 bm b4 b3 b2 A1 r c k1 l1 F z xr xc xA i xk N w6 := ⟨r, Nat.le_refl _, .inl ⟨rfl, hz⟩, hS⟩
    clear hS hz
  rotate_left
  focus
    clear hF hS0
    rintro D c' w6 hD hDw ⟨rfl, j, hj, hjz, hS⟩
    have hN : ∃ N, N ≤ r ∧ ((r = N ∧ (z < 0 ∨ (r : Int) ≤ z)) ∨ (z + 1 = (N : Int) ∧ 0 ≤ z)) ∧ LnS w b10 b8 bm b4 b3 b2 A1 r c k1 l1 F z xr xc xA i xk N w6 := ⟨j + 1, hj, .inr ⟨by omega, by omega⟩, hS⟩
    clear hS hjz hj j
  all_goals
    obtain ⟨N, hNr, hNz, rl, hrl, hS⟩ := hN
    rcases hshape with ⟨hs, hFe⟩ | ⟨hns, hr0, hc0⟩
    · have er := hs.er
      have ec := hs.ec
      dsimp only at er ec
      subst er ec
      rcases hS with ⟨h0, hF⟩ | ⟨gR, kR, zR, a1, a2, a3, hF⟩
      · have hr0 : r = 0 := by omega
        obtain ⟨S, hO, hF⟩ := hF.open
        repeat' (first | (refine TL.isOp ?_; first | (refine TL.isG ?_; first | refine TL.grun rfl rfl rfl ?_ | refine TL.gskip rfl rfl rfl rfl ?_) | (refine TL.isCall ?_; refine TL.call rfl rfl ?_; first | (refine (sound_t _ ⟨(r : Int), (c : Int), xA, i, xk, xl⟩ r c hs).mono ?_; rintro _ wq ⟨rfl, hE⟩; replace hF := hF.exts hE; clear hE; refine Back.mk ?_)) | (refine TL.isBin ?_; refine TL.cmpG rfl rfl rfl rfl (fun hc => ?_) (fun hc => ?_) <;> (try (first | (exfalso; omega) | exact absurd rfl hc))) | (apply TL.ev; (case hd => rfl); (case h => (first | exact ev_simple rfl | (apply Ev.isBin; first | exact ev_arI rfl rfl rfl (by omega)) | (apply Ev.isLoad; first | exact ev_loadFr hF rfl (by refine ⟨?_, ?_⟩; (focus (repeat (first | exact InV.head | apply InV.tail))); rfl) | exact ev_loadAFr hF rfl (by refine ⟨?_, ?_⟩; (focus (repeat (first | exact InV.head | apply InV.tail))); rfl)) | exact ev_len rfl | exact ev_fieldAddr rfl)))) | (refine G.is ?_; first | refine G.nextI ?_ | refine G.blockN ?_ | refine G.blockE ?_) | refine TL.nil ?_ | (refine TI.is ?_; first | refine TI.seq ?_ | refine TI.region rfl ?_ | refine TI.block ?_ | refine TI.cond_f rfl ?_ | refine TI.exit ?_ | refine TI.skip ?_))
        all_goals
          refine TI.loop (α := Nat) (fun x => [(4, .pointer (some ⟨b4, 0, none⟩)), (17, .int .i64 (r : Int)), (18, .int .i64 0)])
            (fun x W => Fr w6 W [⟨b8, 45, [.func (.func 46) #[] #[.pointer (some ⟨bm, 0, none⟩)]]⟩, ⟨bm, 24, [.int .i64 (r : Int), .int .i64 (c : Int), .slice A1 (r * c) k1]⟩, ⟨b4, 4, [.bool false]⟩, ⟨b3, 3, [.int .i64 z]⟩, ⟨b2, 24, [.int .i64 (r : Int), .int .i64 (c : Int), .slice xA i xk]⟩] [] S)
            (fun x => x) 0 (by repeat (first | exact Sub.nil _ | refine Sub.cons rfl ?_ | refine Sub.cons' rfl (int_congr (by omega)) ?_)) (hF.weak (by repeat (first | exact List.Sublist.refl _ | apply List.Sublist.cons_cons | apply List.Sublist.cons)) allN) ?_
          clear hF
          rintro _ w7 hF
          repeat' (first | (refine TL.isOp ?_; first | (refine TL.isBin ?_; refine TL.cmpG rfl rfl rfl rfl (fun hc => ?_) (fun hc => ?_) <;> (try (first | (exfalso; omega) | exact absurd rfl hc))) | (apply TL.ev; (case hd => rfl); (case h => (first | exact ev_simple rfl))) | (refine TL.storeFr hF rfl rfl rfl rfl (by refine ⟨?_, ?_⟩; (focus (repeat (first | apply SetV.head | apply SetV.tail))); rfl) rfl ?_; clear hF; intro ws hF)) | (refine G.is ?_; first | refine G.nextI ?_ | refine G.blockE ?_ | refine G.thenE ?_) | refine TL.nil ?_ | (refine TI.is ?_; first | refine TI.seq ?_ | refine TI.region rfl ?_ | refine TI.cond_f rfl ?_ | refine TI.exit ?_ | refine TI.ret ?_))
          have hD2 := (Fr.others hO hF).same D _ hDw rfl
          have hF1 := (Fr.shut hO hF).cx (Cx.shut hD hD2) hE1.size
          exact G.retKC1 rfl rfl hD2 (held_one (hF1.var (b := b4) (by repeat (first | exact InV.head | apply InV.tail)))) ⟨rfl, hF1.ext⟩
      · rcases hNz with ⟨rfl, hz⟩ | ⟨hz, hz0⟩
        · obtain ⟨S, hO, hF⟩ := hF.open
          repeat' (first | (refine TL.isOp ?_; first | (refine TL.isG ?_; first | refine TL.grun rfl rfl rfl ?_ | refine TL.gskip rfl rfl rfl rfl ?_) | (refine TL.isCall ?_; refine TL.call rfl rfl ?_; first | (refine (sound_t _ ⟨(r : Int), (c : Int), xA, i, xk, xl⟩ r c hs).mono ?_; rintro _ wq ⟨rfl, hE⟩; replace hF := hF.exts hE; clear hE; refine Back.mk ?_)) | (refine TL.isBin ?_; refine TL.cmpG rfl rfl rfl rfl (fun hc => ?_) (fun hc => ?_) <;> (try (first | (exfalso; omega) | exact absurd rfl hc))) | (apply TL.ev; (case hd => rfl); (case h => (first | exact ev_simple rfl | (apply Ev.isBin; first | exact ev_arI rfl rfl rfl (by omega)) | (apply Ev.isLoad; first | exact ev_loadFr hF rfl (by refine ⟨?_, ?_⟩; (focus (repeat (first | exact InV.head | apply InV.tail))); rfl) | exact ev_loadAFr hF rfl (by refine ⟨?_, ?_⟩; (focus (repeat (first | exact InV.head | apply InV.tail))); rfl)) | exact ev_len rfl | exact ev_fieldAddr rfl)))) | (refine G.is ?_; first | refine G.nextI ?_ | refine G.blockN ?_ | refine G.blockE ?_) | refine TL.nil ?_ | (refine TI.is ?_; first | refine TI.seq ?_ | refine TI.region rfl ?_ | refine TI.block ?_ | refine TI.cond_f rfl ?_ | refine TI.exit ?_ | refine TI.skip ?_))
          all_goals
            refine TI.loop (α := Nat) (fun x => [(2, .pointer (some ⟨b2, 0, none⟩)), (4, .pointer (some ⟨b4, 0, none⟩)), (10, .pointer (some ⟨b10, 0, none⟩)), (17, .int .i64 ((r : Nat) : Int)), (18, .int .i64 (x : Int))])
              (fun x W => x ≤ r ∧ Fr w6 W [⟨gR, 22, rl.flatMap lvc ++ zR⟩, ⟨b10, 48, [.slice (some ⟨gR, 0, none⟩) r kR]⟩, ⟨b8, 45, [.func (.func 46) #[] #[.pointer (some ⟨bm, 0, none⟩)]]⟩, ⟨bm, 24, [.int .i64 (r : Int), .int .i64 (c : Int), .slice A1 (r * c) k1]⟩, ⟨b4, 4, [.bool false]⟩, ⟨b3, 3, [.int .i64 z]⟩, ⟨b2, 24, [.int .i64 (r : Int), .int .i64 (c : Int), .slice xA i xk]⟩] [dpRw r rl c F 1048576, dpLM ⟨r, c, A1, r * c, k1, l1⟩ r c F 1048576] S)
              (fun x => r - x) 0 (by repeat (first | exact Sub.nil _ | refine Sub.cons rfl ?_ | refine Sub.cons' rfl (int_congr (by omega)) ?_)) ⟨Nat.zero_le _, hF⟩ ?_
            clear hF
            rintro q w7 ⟨hq, hF⟩
            (try dsimp only at hq hF ⊢)
            rcases Nat.lt_or_ge q (r) with hqn | hqn
            · have hrow : ∀ W1 : World, RwK (r) rl c F 1048576 W1.heap → (rl.getD q default).n = c ∧ LL W1.heap (rl.getD q default).A c (rl.getD q default).k (rl.getD q default).l (F q) 1048576 := fun W1 h => h q hqn
              generalize ev : rl.getD q default = v at hrow
              obtain ⟨vA, vn, vk, vl⟩ := v
              dsimp only at hrow
              have hvn := (hrow _ (Fr.rws hF (l := rl) (by repeat (first | exact memH | apply memT)))).1.symm
              subst hvn
              have hqr : q < r := by omega
              repeat' (first | (refine TL.isOp ?_; first | (refine TL.isBin ?_; refine TL.cmpG rfl rfl rfl rfl (fun hc => ?_) (fun hc => ?_) <;> (try (first | (exfalso; omega) | exact absurd rfl hc))) | (apply TL.ev; (case hd => rfl); (case h => (first | exact ev_simple rfl | (apply Ev.isLoad; first | exact ev_loadFr hF rfl (by refine ⟨?_, ?_⟩; (focus (repeat (first | exact InV.head | apply InV.tail))); rfl) | exact ev_loadSv rfl (sm_sv (vr_sm (by omega) (fun _ _ => rfl) (hF.var (b := gR) (by repeat (first | exact InV.head | apply InV.tail))) hrl a1 (hF.var (b := gR) (by repeat (first | exact InV.head | apply InV.tail))).lt)) hqn ev) | exact ev_len rfl | exact ev_fieldAddr rfl | exact ev_indexM rfl rfl hqn (.inr rfl))))) | (refine G.is ?_; first | refine G.nextI ?_) | refine TL.nil ?_ | (refine TL.nilFr hF ?_; clear hF; intro wq hF) | (refine TI.is ?_; first | refine TI.seq ?_ | refine TI.region rfl ?_ | refine TI.block ?_ | refine TI.cond_t rfl ?_ | refine TI.cond_f rfl ?_ | refine TI.skip ?_ | (refine TI.ofT ?_; first | refine T.regionQ mixed (by kernel_rfl) ?_)))
              refine TI.loop (α := Nat) (fun x => [(2, .pointer (some ⟨b2, 0, none⟩)), (4, .pointer (some ⟨b4, 0, none⟩)), (10, .pointer (some ⟨b10, 0, none⟩)), (17, .int .i64 ((r : Nat) : Int)), (18, .int .i64 (q : Int)), (19, .int .i64 (x : Int))])
                (fun x W => x ≤ c ∧ Fr w6 W [⟨gR, 22, rl.flatMap lvc ++ zR⟩, ⟨b10, 48, [.slice (some ⟨gR, 0, none⟩) r kR]⟩, ⟨b8, 45, [.func (.func 46) #[] #[.pointer (some ⟨bm, 0, none⟩)]]⟩, ⟨bm, 24, [.int .i64 (r : Int), .int .i64 (c : Int), .slice A1 (r * c) k1]⟩, ⟨b4, 4, [.bool false]⟩, ⟨b3, 3, [.int .i64 z]⟩, ⟨b2, 24, [.int .i64 (r : Int), .int .i64 (c : Int), .slice xA i xk]⟩] [dpRw r rl c F 1048576, dpLM ⟨r, c, A1, r * c, k1, l1⟩ r c F 1048576] S)
                (fun x => c - x) 0 (by repeat (first | exact Sub.nil _ | refine Sub.cons rfl ?_ | refine Sub.cons' rfl (int_congr (by omega)) ?_)) ⟨Nat.zero_le _, hF⟩ ?_
              clear hF
              rintro y w8 ⟨hy, hF⟩
              (try dsimp only at hy hF ⊢)
              rcases Nat.lt_or_ge y c with hyc | hyc
              · have hidx : q * c + y < i := by have := hs.n; have := place_lt hqr hyc; dsimp only at *; omega
                have hv : ival (xl.getD (q * c + y) default) = F q y := by rw [hFe]; rfl
                have hux : xl[q * c + y]? = some (xl.getD (q * c + y) default) := by simp [List.getD, show q * c + y < xl.length by omega]
                have hug := rx.g _ (List.mem_of_getElem? hux)
                generalize xl.getD (q * c + y) default = u at hv hux hug
                obtain ⟨us, ⟨uA, un, uc, ul⟩⟩ := u
                have hrow2 : ∀ W1 : World, RwK (r) rl c F 1048576 W1.heap → Sm 2 ivc W1.heap W1.heap.size vA c vk vl ∧ LI W1.heap (F q y) (vl.getD y default) ∧ (vl.getD y default).m.n ≤ 1048576 := fun W1 h => ⟨(hrow W1 h).2.s, ((hrow W1 h).2.g y hyc)⟩
                have hvl := (hrow2 _ (Fr.rws hF (l := rl) (by repeat (first | exact memH | apply memT)))).1.len
                have htx : vl[y]? = some (vl.getD y default) := by simp [List.getD, show y < vl.length by omega]
                generalize vl.getD y default = t at hrow2 htx
                obtain ⟨ts, ⟨tA, tn, tc, tl⟩⟩ := t
                repeat' (first | (refine TL.isOp ?_; first | (refine TL.isCall ?_; refine TL.call rfl rfl ?_; first | (refine (r5least_ok _ ⟨us, ⟨uA, un, uc, ul⟩⟩ (hug.1.ext (hF.outer hO)) (Nat.le_trans hug.2 (by omega))).mono ?_; rintro _ wc ⟨⟨os, ⟨oA, on, oc, ol⟩⟩, rfl, hLu, hE, hun⟩; replace hF := Fr.addLI (hF.exts hE) hLu; clear hE hLu; refine Back.mk ?_) | (refine (alike_li _ ⟨os, ⟨oA, on, oc, ol⟩⟩ ⟨ts, ⟨tA, tn, tc, tl⟩⟩ (Fr.li hF (by repeat (first | exact memH | apply memT))) (hrow2 _ (Fr.rws hF (l := rl) (by repeat (first | exact memH | apply memT)))).2.1 hv (Nat.le_trans hun (Nat.le_trans (Nat.succ_le_succ hug.2) (by omega))) (Nat.le_trans (hrow2 _ (Fr.rws hF (l := rl) (by repeat (first | exact memH | apply memT)))).2.2 (by omega))).mono ?_; rintro _ wa ⟨rfl, hE⟩; replace hF := hF.exts hE; clear hE; refine Back.mk ?_)) | (refine TL.isBin ?_; refine TL.cmpG rfl rfl rfl rfl (fun hc => ?_) (fun hc => ?_) <;> (try (first | (exfalso; omega) | exact absurd rfl hc))) | (apply TL.ev; (case hd => rfl); (case h => (first | exact ev_simple rfl | (apply Ev.isBin; first | exact ev_arN rfl rfl rfl (by omega)) | (apply Ev.isLoad; first | exact ev_loadFr hF rfl (by refine ⟨?_, ?_⟩; (focus (repeat (first | exact InV.head | apply InV.tail))); rfl) | exact ev_loadMc [.bool us, .slice uA un uc] rfl (rx.s.ext (hF.outer hO)) hux rfl) | exact ev_fieldAddr rfl | exact ev_indexM rfl rfl hidx (rx.s.ext (hF.outer hO)).some))) | (refine TL.storeAFr hF rfl rfl rfl rfl (by refine ⟨?_, ?_⟩; (focus (repeat (first | apply SetV.head | apply SetV.tail))); rfl) rfl ?_; clear hF; intro ws hF) | (refine TL.allocFr hF (d := 20) rfl rfl ?_; clear hF; intro w20 b20 hF)) | (refine TF.is ?_; first | refine TF.nil ?_ | refine TF.e rfl ?_ | (refine TF.pick rfl ?_; first | (apply TFo.ev; (case hd => rfl); (case h => (intro wh hF; first | exact ev_simple rfl | (apply Ev.isLoad; first | exact ev_loadFr hF rfl (by refine ⟨?_, ?_⟩; (focus (repeat (first | exact InV.head | apply InV.tail))); rfl) | exact ev_loadAFr hF rfl (by refine ⟨?_, ?_⟩; (focus (repeat (first | exact InV.head | apply InV.tail))); rfl) | exact ev_loadSv rfl (sm_sv (vr_sm (by omega) (fun _ _ => rfl) (hF.var (b := gR) (by repeat (first | exact InV.head | apply InV.tail))) hrl a1 (hF.var (b := gR) (by repeat (first | exact InV.head | apply InV.tail))).lt)) hqn ev | exact ev_loadMc [.bool ts, .slice tA tn tc] rfl (hrow2 _ (Fr.rws hF (l := rl) (by repeat (first | exact memH | apply memT)))).1 htx rfl) | exact ev_indexM rfl rfl hqn (.inr rfl) | exact ev_indexM rfl rfl hyc (hrow2 _ (Fr.rws hF (l := rl) (by repeat (first | exact memH | apply memT)))).1.some))))) | (refine G.is ?_; first | refine G.nextI ?_ | refine G.blockN ?_ | refine G.only ?_ | refine G.tree rfl (by first | exact hF | exact hF.weak (List.sublist_append_right _ _) (by repeat (first | exact allR | apply allT)) | exact hF.weak (by repeat (first | exact List.Sublist.refl _ | apply List.Sublist.cons)) (by repeat (first | exact allR | apply allT)) | exact hF.weak (by repeat (first | exact List.Sublist.refl _ | apply List.Sublist.cons)) (by repeat (first | exact allN | refine allH (by repeat (first | exact memH | apply memT)) ?_))) ?_) | refine TL.nil ?_ | (refine TI.is ?_; first | refine TI.seq ?_ | refine TI.region rfl ?_ | refine TI.block ?_ | refine TI.cond_t rfl ?_ | refine TI.cond_f rfl ?_ | refine TI.skip ?_ | (refine TI.regionFr hF 49 10 (.s 0 (.s 1 (.s 2 (.s 3 (.s 4 (.s 5 (.s 6 (.s 7 (.e 8 (.s 9 .nil)))))))))) mixed (by kernel_rfl) rfl ?_; clear hF; intro wr hF)))
                all_goals exact G.again (y + 1) (by repeat (first | exact Sub.nil _ | refine Sub.cons rfl ?_ | refine Sub.cons' rfl (int_congr (by omega)) ?_)) ⟨hyc, hF.weak (by repeat (first | exact List.Sublist.refl _ | apply List.Sublist.cons_cons | apply List.Sublist.cons)) (allH (by repeat (first | exact memH | apply memT)) (allH (by repeat (first | exact memH | apply memT)) allN))⟩ (by omega)
              obtain rfl : y = c := by omega
              repeat' (first | (refine TL.isOp ?_; first | (refine TL.isBin ?_; refine TL.cmpG rfl rfl rfl rfl (fun hc => ?_) (fun hc => ?_) <;> (try (first | (exfalso; omega) | exact absurd rfl hc))) | (apply TL.ev; (case hd => rfl); (case h => (first | exact ev_simple rfl | (apply Ev.isBin; first | exact ev_arN rfl rfl rfl (by omega)) | (apply Ev.isLoad; first | exact ev_loadFr hF rfl (by refine ⟨?_, ?_⟩; (focus (repeat (first | exact InV.head | apply InV.tail))); rfl)) | exact ev_fieldAddr rfl)))) | (refine G.is ?_; first | refine G.nextI ?_ | refine G.blockN ?_ | refine G.blockE ?_ | refine G.thenE ?_) | refine TL.nil ?_ | (refine TI.is ?_; first | refine TI.seq ?_ | refine TI.region rfl ?_ | refine TI.cond_f rfl ?_ | refine TI.exit ?_))
              all_goals exact G.again (q + 1) (by repeat (first | exact Sub.nil _ | refine Sub.cons rfl ?_ | refine Sub.cons' rfl (int_congr (by omega)) ?_)) ⟨hqn, hF⟩ (by omega)
            repeat' (first | (refine TL.isOp ?_; first | (refine TL.isBin ?_; refine TL.cmpG rfl rfl rfl rfl (fun hc => ?_) (fun hc => ?_) <;> (try (first | (exfalso; omega) | exact absurd rfl hc))) | (apply TL.ev; (case hd => rfl); (case h => (first | exact ev_simple rfl))) | (refine TL.storeFr hF rfl rfl rfl rfl (by refine ⟨?_, ?_⟩; (focus (repeat (first | apply SetV.head | apply SetV.tail))); rfl) rfl ?_; clear hF; intro ws hF)) | (refine G.is ?_; first | refine G.nextI ?_ | refine G.blockE ?_ | refine G.thenE ?_) | refine TL.nil ?_ | (refine TI.is ?_; first | refine TI.seq ?_ | refine TI.region rfl ?_ | refine TI.cond_f rfl ?_ | refine TI.exit ?_ | refine TI.ret ?_))
            have hD2 := (Fr.others hO hF).same D _ hDw rfl
            have hF1 := (Fr.shut hO hF).cx (Cx.shut hD hD2) hE1.size
            exact G.retKC1 rfl rfl hD2 (held_one (hF1.var (b := b4) (by repeat (first | exact InV.head | apply InV.tail)))) ⟨rfl, hF1.ext⟩
        · obtain ⟨z', rfl⟩ : ∃ z' : Nat, z = (z' : Int) := ⟨z.toNat, by omega⟩
          obtain rfl : N = z' + 1 := by omega
          have hzr : (r : Int) = ((z' + 1 : Nat) : Int) ∨ (z' : Int) < (r : Int) - 1 := by omega
          obtain ⟨S, hO, hF⟩ := hF.open
          repeat' (first | (refine TL.isOp ?_; first | (refine TL.isG ?_; first | refine TL.grun rfl rfl rfl ?_) | (refine TL.isCall ?_; refine TL.call rfl rfl ?_; first | (refine (sound_t _ ⟨(r : Int), (c : Int), xA, i, xk, xl⟩ r c hs).mono ?_; rintro _ wq ⟨rfl, hE⟩; replace hF := hF.exts hE; clear hE; refine Back.mk ?_)) | (refine TL.isBin ?_; refine TL.cmpG rfl rfl rfl rfl (fun hc => ?_) (fun hc => ?_) <;> (try (first | (exfalso; omega) | exact absurd rfl hc))) | (apply TL.ev; (case hd => rfl); (case h => (first | exact ev_simple rfl | (apply Ev.isBin; first | exact ev_arN rfl rfl rfl (by omega)) | (apply Ev.isLoad; first | exact ev_loadFr hF rfl (by refine ⟨?_, ?_⟩; (focus (repeat (first | exact InV.head | apply InV.tail))); rfl) | exact ev_loadAFr hF rfl (by refine ⟨?_, ?_⟩; (focus (repeat (first | exact InV.head | apply InV.tail))); rfl)) | exact ev_len rfl | exact ev_fieldAddr rfl)))) | (refine G.is ?_; first | refine G.nextI ?_ | refine G.blockN ?_ | refine G.blockE ?_) | refine TL.nil ?_ | (refine TI.is ?_; first | refine TI.seq ?_ | refine TI.region rfl ?_ | refine TI.block ?_ | refine TI.cond_t rfl ?_ | refine TI.cond_f rfl ?_ | refine TI.exit ?_ | refine TI.skip ?_))
          all_goals rcases hzr with hzr | hzr
          all_goals first | (exfalso; omega) | rw [hzr] | skip
          all_goals
            refine TI.loop (α := Nat) (fun x => [(2, .pointer (some ⟨b2, 0, none⟩)), (4, .pointer (some ⟨b4, 0, none⟩)), (10, .pointer (some ⟨b10, 0, none⟩)), (17, .int .i64 ((z' + 1 : Nat) : Int)), (18, .int .i64 (x : Int))])
              (fun x W => x ≤ z' + 1 ∧ Fr w6 W [⟨gR, 22, rl.flatMap lvc ++ zR⟩, ⟨b10, 48, [.slice (some ⟨gR, 0, none⟩) (z' + 1) kR]⟩, ⟨b8, 45, [.func (.func 46) #[] #[.pointer (some ⟨bm, 0, none⟩)]]⟩, ⟨bm, 24, [.int .i64 (r : Int), .int .i64 (c : Int), .slice A1 (r * c) k1]⟩, ⟨b4, 4, [.bool false]⟩, ⟨b3, 3, [.int .i64 (z' : Int)]⟩, ⟨b2, 24, [.int .i64 (r : Int), .int .i64 (c : Int), .slice xA i xk]⟩] [dpRw (z' + 1) rl c F 1048576, dpLM ⟨r, c, A1, r * c, k1, l1⟩ r c F 1048576] S)
              (fun x => z' + 1 - x) 0 (by repeat (first | exact Sub.nil _ | refine Sub.cons rfl ?_ | refine Sub.cons' rfl (int_congr (by omega)) ?_)) ⟨Nat.zero_le _, hF⟩ ?_
            clear hF
            rintro q w7 ⟨hq, hF⟩
            (try dsimp only at hq hF ⊢)
            rcases Nat.lt_or_ge q (z' + 1) with hqn | hqn
            · have hrow : ∀ W1 : World, RwK (z' + 1) rl c F 1048576 W1.heap → (rl.getD q default).n = c ∧ LL W1.heap (rl.getD q default).A c (rl.getD q default).k (rl.getD q default).l (F q) 1048576 := fun W1 h => h q hqn
              generalize ev : rl.getD q default = v at hrow
              obtain ⟨vA, vn, vk, vl⟩ := v
              dsimp only at hrow
              have hvn := (hrow _ (Fr.rws hF (l := rl) (by repeat (first | exact memH | apply memT)))).1.symm
              subst hvn
              have hqr : q < r := by omega
              repeat' (first | (refine TL.isOp ?_; first | (refine TL.isBin ?_; refine TL.cmpG rfl rfl rfl rfl (fun hc => ?_) (fun hc => ?_) <;> (try (first | (exfalso; omega) | exact absurd rfl hc))) | (apply TL.ev; (case hd => rfl); (case h => (first | exact ev_simple rfl | (apply Ev.isLoad; first | exact ev_loadFr hF rfl (by refine ⟨?_, ?_⟩; (focus (repeat (first | exact InV.head | apply InV.tail))); rfl) | exact ev_loadSv rfl (sm_sv (vr_sm (by omega) (fun _ _ => rfl) (hF.var (b := gR) (by repeat (first | exact InV.head | apply InV.tail))) hrl a1 (hF.var (b := gR) (by repeat (first | exact InV.head | apply InV.tail))).lt)) hqn ev) | exact ev_len rfl | exact ev_fieldAddr rfl | exact ev_indexM rfl rfl hqn (.inr rfl))))) | (refine G.is ?_; first | refine G.nextI ?_) | refine TL.nil ?_ | (refine TL.nilFr hF ?_; clear hF; intro wq hF) | (refine TI.is ?_; first | refine TI.seq ?_ | refine TI.region rfl ?_ | refine TI.block ?_ | refine TI.cond_t rfl ?_ | refine TI.cond_f rfl ?_ | refine TI.skip ?_ | (refine TI.ofT ?_; first | refine T.regionQ mixed (by kernel_rfl) ?_)))
              refine TI.loop (α := Nat) (fun x => [(2, .pointer (some ⟨b2, 0, none⟩)), (4, .pointer (some ⟨b4, 0, none⟩)), (10, .pointer (some ⟨b10, 0, none⟩)), (17, .int .i64 ((z' + 1 : Nat) : Int)), (18, .int .i64 (q : Int)), (19, .int .i64 (x : Int))])
                (fun x W => x ≤ c ∧ Fr w6 W [⟨gR, 22, rl.flatMap lvc ++ zR⟩, ⟨b10, 48, [.slice (some ⟨gR, 0, none⟩) (z' + 1) kR]⟩, ⟨b8, 45, [.func (.func 46) #[] #[.pointer (some ⟨bm, 0, none⟩)]]⟩, ⟨bm, 24, [.int .i64 (r : Int), .int .i64 (c : Int), .slice A1 (r * c) k1]⟩, ⟨b4, 4, [.bool false]⟩, ⟨b3, 3, [.int .i64 (z' : Int)]⟩, ⟨b2, 24, [.int .i64 (r : Int), .int .i64 (c : Int), .slice xA i xk]⟩] [dpRw (z' + 1) rl c F 1048576, dpLM ⟨r, c, A1, r * c, k1, l1⟩ r c F 1048576] S)
                (fun x => c - x) 0 (by repeat (first | exact Sub.nil _ | refine Sub.cons rfl ?_ | refine Sub.cons' rfl (int_congr (by omega)) ?_)) ⟨Nat.zero_le _, hF⟩ ?_
              clear hF
              rintro y w8 ⟨hy, hF⟩
              (try dsimp only at hy hF ⊢)
              rcases Nat.lt_or_ge y c with hyc | hyc
              · have hidx : q * c + y < i := by have := hs.n; have := place_lt hqr hyc; dsimp only at *; omega
                have hv : ival (xl.getD (q * c + y) default) = F q y := by rw [hFe]; rfl
                have hux : xl[q * c + y]? = some (xl.getD (q * c + y) default) := by simp [List.getD, show q * c + y < xl.length by omega]
                have hug := rx.g _ (List.mem_of_getElem? hux)
                generalize xl.getD (q * c + y) default = u at hv hux hug
                obtain ⟨us, ⟨uA, un, uc, ul⟩⟩ := u
                have hrow2 : ∀ W1 : World, RwK (z' + 1) rl c F 1048576 W1.heap → Sm 2 ivc W1.heap W1.heap.size vA c vk vl ∧ LI W1.heap (F q y) (vl.getD y default) ∧ (vl.getD y default).m.n ≤ 1048576 := fun W1 h => ⟨(hrow W1 h).2.s, ((hrow W1 h).2.g y hyc)⟩
                have hvl := (hrow2 _ (Fr.rws hF (l := rl) (by repeat (first | exact memH | apply memT)))).1.len
                have htx : vl[y]? = some (vl.getD y default) := by simp [List.getD, show y < vl.length by omega]
                generalize vl.getD y default = t at hrow2 htx
                obtain ⟨ts, ⟨tA, tn, tc, tl⟩⟩ := t
                repeat' (first | (refine TL.isOp ?_; first | (refine TL.isCall ?_; refine TL.call rfl rfl ?_; first | (refine (r5least_ok _ ⟨us, ⟨uA, un, uc, ul⟩⟩ (hug.1.ext (hF.outer hO)) (Nat.le_trans hug.2 (by omega))).mono ?_; rintro _ wc ⟨⟨os, ⟨oA, on, oc, ol⟩⟩, rfl, hLu, hE, hun⟩; replace hF := Fr.addLI (hF.exts hE) hLu; clear hE hLu; refine Back.mk ?_) | (refine (alike_li _ ⟨os, ⟨oA, on, oc, ol⟩⟩ ⟨ts, ⟨tA, tn, tc, tl⟩⟩ (Fr.li hF (by repeat (first | exact memH | apply memT))) (hrow2 _ (Fr.rws hF (l := rl) (by repeat (first | exact memH | apply memT)))).2.1 hv (Nat.le_trans hun (Nat.le_trans (Nat.succ_le_succ hug.2) (by omega))) (Nat.le_trans (hrow2 _ (Fr.rws hF (l := rl) (by repeat (first | exact memH | apply memT)))).2.2 (by omega))).mono ?_; rintro _ wa ⟨rfl, hE⟩; replace hF := hF.exts hE; clear hE; refine Back.mk ?_)) | (refine TL.isBin ?_; refine TL.cmpG rfl rfl rfl rfl (fun hc => ?_) (fun hc => ?_) <;> (try (first | (exfalso; omega) | exact absurd rfl hc))) | (apply TL.ev; (case hd => rfl); (case h => (first | exact ev_simple rfl | (apply Ev.isBin; first | exact ev_arN rfl rfl rfl (by omega)) | (apply Ev.isLoad; first | exact ev_loadFr hF rfl (by refine ⟨?_, ?_⟩; (focus (repeat (first | exact InV.head | apply InV.tail))); rfl) | exact ev_loadMc [.bool us, .slice uA un uc] rfl (rx.s.ext (hF.outer hO)) hux rfl) | exact ev_fieldAddr rfl | exact ev_indexM rfl rfl hidx (rx.s.ext (hF.outer hO)).some))) | (refine TL.storeAFr hF rfl rfl rfl rfl (by refine ⟨?_, ?_⟩; (focus (repeat (first | apply SetV.head | apply SetV.tail))); rfl) rfl ?_; clear hF; intro ws hF) | (refine TL.allocFr hF (d := 20) rfl rfl ?_; clear hF; intro w20 b20 hF)) | (refine TF.is ?_; first | refine TF.nil ?_ | refine TF.e rfl ?_ | (refine TF.pick rfl ?_; first | (apply TFo.ev; (case hd => rfl); (case h => (intro wh hF; first | exact ev_simple rfl | (apply Ev.isLoad; first | exact ev_loadFr hF rfl (by refine ⟨?_, ?_⟩; (focus (repeat (first | exact InV.head | apply InV.tail))); rfl) | exact ev_loadAFr hF rfl (by refine ⟨?_, ?_⟩; (focus (repeat (first | exact InV.head | apply InV.tail))); rfl) | exact ev_loadSv rfl (sm_sv (vr_sm (by omega) (fun _ _ => rfl) (hF.var (b := gR) (by repeat (first | exact InV.head | apply InV.tail))) hrl a1 (hF.var (b := gR) (by repeat (first | exact InV.head | apply InV.tail))).lt)) hqn ev | exact ev_loadMc [.bool ts, .slice tA tn tc] rfl (hrow2 _ (Fr.rws hF (l := rl) (by repeat (first | exact memH | apply memT)))).1 htx rfl) | exact ev_indexM rfl rfl hqn (.inr rfl) | exact ev_indexM rfl rfl hyc (hrow2 _ (Fr.rws hF (l := rl) (by repeat (first | exact memH | apply memT)))).1.some))))) | (refine G.is ?_; first | refine G.nextI ?_ | refine G.blockN ?_ | refine G.only ?_ | refine G.tree rfl (by first | exact hF | exact hF.weak (List.sublist_append_right _ _) (by repeat (first | exact allR | apply allT)) | exact hF.weak (by repeat (first | exact List.Sublist.refl _ | apply List.Sublist.cons)) (by repeat (first | exact allR | apply allT)) | exact hF.weak (by repeat (first | exact List.Sublist.refl _ | apply List.Sublist.cons)) (by repeat (first | exact allN | refine allH (by repeat (first | exact memH | apply memT)) ?_))) ?_) | refine TL.nil ?_ | (refine TI.is ?_; first | refine TI.seq ?_ | refine TI.region rfl ?_ | refine TI.block ?_ | refine TI.cond_t rfl ?_ | refine TI.cond_f rfl ?_ | refine TI.skip ?_ | (refine TI.regionFr hF 49 10 (.s 0 (.s 1 (.s 2 (.s 3 (.s 4 (.s 5 (.s 6 (.s 7 (.e 8 (.s 9 .nil)))))))))) mixed (by kernel_rfl) rfl ?_; clear hF; intro wr hF)))
                all_goals exact G.again (y + 1) (by repeat (first | exact Sub.nil _ | refine Sub.cons rfl ?_ | refine Sub.cons' rfl (int_congr (by omega)) ?_)) ⟨hyc, hF.weak (by repeat (first | exact List.Sublist.refl _ | apply List.Sublist.cons_cons | apply List.Sublist.cons)) (allH (by repeat (first | exact memH | apply memT)) (allH (by repeat (first | exact memH | apply memT)) allN))⟩ (by omega)
              obtain rfl : y = c := by omega
              repeat' (first | (refine TL.isOp ?_; first | (refine TL.isBin ?_; refine TL.cmpG rfl rfl rfl rfl (fun hc => ?_) (fun hc => ?_) <;> (try (first | (exfalso; omega) | exact absurd rfl hc))) | (apply TL.ev; (case hd => rfl); (case h => (first | exact ev_simple rfl | (apply Ev.isBin; first | exact ev_arN rfl rfl rfl (by omega)) | (apply Ev.isLoad; first | exact ev_loadFr hF rfl (by refine ⟨?_, ?_⟩; (focus (repeat (first | exact InV.head | apply InV.tail))); rfl)) | exact ev_fieldAddr rfl)))) | (refine G.is ?_; first | refine G.nextI ?_ | refine G.blockN ?_ | refine G.blockE ?_ | refine G.thenE ?_) | refine TL.nil ?_ | (refine TI.is ?_; first | refine TI.seq ?_ | refine TI.region rfl ?_ | refine TI.cond_f rfl ?_ | refine TI.exit ?_))
              all_goals exact G.again (q + 1) (by repeat (first | exact Sub.nil _ | refine Sub.cons rfl ?_ | refine Sub.cons' rfl (int_congr (by omega)) ?_)) ⟨hqn, hF⟩ (by omega)
            repeat' (first | (refine TL.isOp ?_; first | (refine TL.isBin ?_; refine TL.cmpG rfl rfl rfl rfl (fun hc => ?_) (fun hc => ?_) <;> (try (first | (exfalso; omega) | exact absurd rfl hc))) | (apply TL.ev; (case hd => rfl); (case h => (first | exact ev_simple rfl))) | (refine TL.storeFr hF rfl rfl rfl rfl (by refine ⟨?_, ?_⟩; (focus (repeat (first | apply SetV.head | apply SetV.tail))); rfl) rfl ?_; clear hF; intro ws hF)) | (refine G.is ?_; first | refine G.nextI ?_ | refine G.blockE ?_ | refine G.thenE ?_) | refine TL.nil ?_ | (refine TI.is ?_; first | refine TI.seq ?_ | refine TI.region rfl ?_ | refine TI.cond_f rfl ?_ | refine TI.exit ?_ | refine TI.ret ?_))
            have hD2 := (Fr.others hO hF).same D _ hDw rfl
            have hF1 := (Fr.shut hO hF).cx (Cx.shut hD hD2) hE1.size
            exact G.retKC1 rfl rfl hD2 (held_one (hF1.var (b := b4) (by repeat (first | exact InV.head | apply InV.tail)))) ⟨rfl, hF1.ext⟩
    · have hN0 : N = 0 := by omega
      have hxr := ix.r
      dsimp only at hxr
      rcases hS with ⟨h0, hF⟩ | ⟨gR, kR, zR, a1, a2, a3, hF⟩
      all_goals
        obtain ⟨S, hO, hF⟩ := hF.open
        repeat' (first | (refine TL.isOp ?_; first | (refine TL.isG ?_; first | refine TL.grun rfl rfl rfl ?_ | refine TL.gskip rfl rfl rfl rfl ?_) | (refine TL.isCall ?_; refine TL.call rfl rfl ?_; first | (refine (sound_f _ ⟨xr, xc, xA, i, xk, xl⟩ (fun r c k => hns ⟨r, c, k⟩)).mono ?_; rintro _ wq ⟨rfl, hE⟩; replace hF := hF.exts hE; clear hE; refine Back.mk ?_)) | (refine TL.isBin ?_; refine TL.cmpG rfl rfl rfl rfl (fun hc => ?_) (fun hc => ?_) <;> (try (first | (exfalso; omega) | exact absurd rfl hc))) | (apply TL.ev; (case hd => rfl); (case h => (first | exact ev_simple rfl | (apply Ev.isLoad; first | exact ev_loadFr hF rfl (by refine ⟨?_, ?_⟩; (focus (repeat (first | exact InV.head | apply InV.tail))); rfl) | exact ev_loadAFr hF rfl (by refine ⟨?_, ?_⟩; (focus (repeat (first | exact InV.head | apply InV.tail))); rfl)) | exact ev_len rfl | exact ev_fieldAddr rfl | exact ev_bin rfl rfl (fun w => run_bin_sub _ _ _ _ _) | exact ev_bin rfl rfl (fun w => run_bin_add _ _ _ _ _))))) | (refine G.is ?_; first | refine G.nextI ?_ | refine G.blockN ?_ | refine G.blockE ?_) | refine TL.nil ?_ | (refine TI.is ?_; first | refine TI.seq ?_ | refine TI.region rfl ?_ | refine TI.block ?_ | refine TI.cond_t rfl ?_ | refine TI.cond_f rfl ?_ | refine TI.exit ?_ | refine TI.skip ?_))
        all_goals
          refine TI.loop (α := Nat) (fun x => [(4, .pointer (some ⟨b4, 0, none⟩)), (17, .int .i64 0), (18, .int .i64 0)])
            (fun x W => Fr w6 W [⟨b8, 45, [.func (.func 46) #[] #[.pointer (some ⟨bm, 0, none⟩)]]⟩, ⟨bm, 24, [.int .i64 (r : Int), .int .i64 (c : Int), .slice A1 (r * c) k1]⟩, ⟨b4, 4, [.bool false]⟩, ⟨b3, 3, [.int .i64 z]⟩, ⟨b2, 24, [.int .i64 xr, .int .i64 xc, .slice xA i xk]⟩] [] S)
            (fun x => x) 0 (by repeat (first | exact Sub.nil _ | refine Sub.cons rfl ?_ | refine Sub.cons' rfl (int_congr (by omega)) ?_)) (hF.weak (by repeat (first | exact List.Sublist.refl _ | apply List.Sublist.cons_cons | apply List.Sublist.cons)) allN) ?_
          clear hF
          rintro _ w7 hF
          repeat' (first | (refine TL.isOp ?_; first | (refine TL.isBin ?_; refine TL.cmpG rfl rfl rfl rfl (fun hc => ?_) (fun hc => ?_) <;> (try (first | (exfalso; omega) | exact absurd rfl hc))) | (apply TL.ev; (case hd => rfl); (case h => (first | exact ev_simple rfl))) | (refine TL.storeFr hF rfl rfl rfl rfl (by refine ⟨?_, ?_⟩; (focus (repeat (first | apply SetV.head | apply SetV.tail))); rfl) rfl ?_; clear hF; intro ws hF)) | (refine G.is ?_; first | refine G.nextI ?_ | refine G.blockE ?_ | refine G.thenE ?_) | refine TL.nil ?_ | (refine TI.is ?_; first | refine TI.seq ?_ | refine TI.region rfl ?_ | refine TI.cond_f rfl ?_ | refine TI.exit ?_ | refine TI.ret ?_))
          have hD2 := (Fr.others hO hF).same D _ hDw rfl
          have hF1 := (Fr.shut hO hF).cx (Cx.shut hD hD2) hE1.size
          exact G.retKC1 rfl rfl hD2 (held_one (hF1.var (b := b4) (by repeat (first | exact InV.head | apply InV.tail)))) ⟨rfl, hF1.ext⟩
end Go.Proofs.Ytlhmehikajidhaa
