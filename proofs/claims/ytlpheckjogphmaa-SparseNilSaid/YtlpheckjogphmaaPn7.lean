/- Layer 1: contracts of package nat. Layer 1: contracts of nat.Add and nat.Sub. Layer 2: contracts of mulnat.trim, addTo. Plain arithmetic on lists of words, more. Layer 2: contracts of math/bits.Mul64, mulnat.subFrom, sum, rows. Layer 2: contracts of mulnat.product and halves. Layer 2: contract of mulnat.product. Layer 1: contract of nat.Sub. Layer 1: contracts of math/bits.Len64 and nat.BitLen. Layers 1 and 2: contracts of nat.Low, nat.Shl, mulnat.Mul, Word, MulAdd, MulLow, Square. Layer 5: contracts of zint: of, Least, Add, Mul, MulAdd, Of. Layer 9: contracts of mat: side, Check, check, build. Layer 9: contracts of mat: product, Mul. Layer 9: contracts of mat: place, Add. ref01.Same: have two lists the same words? Layer 9: the law's own functions: alike, alikeRows, alikeMats, sound, none, of, wakes. Layer 9: of, wakes. Layer 9: MatRing's walk. Layer 9: facts on matrices and integers that frames carry. Layer 9: lists of integers in least form: each. -/
import Derived.Test.YtlpheckjogphmaaPn6
import Derived.Lib.Mul64
import Derived.Test.YtlpheckjogphmaaPn3
import Derived.Test.YtlpheckjogphmaaPn4
set_option linter.unusedVariables false
set_option linter.unusedSimpArgs false
namespace Go.Proofs.Ytlpheckjogphmaa
open Go Go.Eng Go.Proofs

open Go.NatM

/-- a new list of words, L, of at most K words -/
def RetN (w : World) (L : List Nat) (K : Nat) (e : Ending) (w' : World) : Prop := ∃ A n c, e = .returned (.slice A n c) ∧ Ow u64v w'.heap w.heap.size 91 A n c L ∧ Ext w w' ∧ n ≤ K
theorem RetN.mk {w w' : World} {L : List Nat} {A : Option Addr} {n c K : Nat} (h : Ow u64v w'.heap w.heap.size 91 A n c L) (he : Ext w w') (hk : n ≤ K) : RetN w L K (.returned (.slice A n c)) w' := ⟨A, n, c, rfl, h, he, hk⟩
/-- a new list of words, L, of at most K words, and an error -/
def RetNE (w : World) (L : List Nat) (K : Nat) (err : Int) (e : Ending) (w' : World) : Prop := ∃ A n c, e = .returned (.tuple #[.slice A n c, .int .i64 err]) ∧ Ow u64v w'.heap w.heap.size 91 A n c L ∧ Ext w w' ∧ n ≤ K
theorem RetNE.mk {w w' : World} {L : List Nat} {err : Int} {A : Option Addr} {n c K : Nat} (h : Ow u64v w'.heap w.heap.size 91 A n c L) (he : Ext w w') (hk : n ≤ K) : RetNE w L K err (.returned (.tuple #[.slice A n c, .int .i64 err])) w' := ⟨A, n, c, rfl, h, he, hk⟩

theorem size_ok (H : Array Obj) (B : Nat) (A : Option Addr) (n c : Nat) (l : List Nat) (hs : Sl u64v H B A n c l) (hn : n < 9223372036854775808) :
    Pure Try.prog 64 #[.slice A n c] H (.int .i64 (sz l : Int)) := by
  refine Pure.of fun w hw => ?_
  subst hw
  have hlen := hs.len
  refine enter Try.func64 rfl rfl rfl ?_
  repeat' (first | refine TL.ev (ev_simple rfl) rfl ?_ | refine TL.grun rfl rfl rfl ?_ | refine TL.gskip rfl rfl rfl rfl ?_ | refine TL.gskipU rfl rfl rfl ?_ | refine TL.ev (ev_len rfl) rfl ?_ | (refine TL.cmpG rfl rfl rfl rfl (fun hc => ?_) (fun hc => ?_) <;> try (exfalso; omega)) | refine TL.ev (ev_arN rfl rfl rfl (by omega)) rfl ?_ | refine TL.ev (ev_arI rfl rfl rfl (by omega)) rfl ?_ | refine TL.ev (ev_neg rfl (by omega)) rfl ?_ | refine TL.ev (ev_indexN rfl rfl (by omega) (by first | exact Or.inr rfl | exact Sl.some (by assumption))) rfl ?_ | refine TL.ev (ev_index rfl rfl (by omega) (by first | exact Or.inr rfl | exact Sl.some (by assumption))) rfl ?_ | refine TL.ev (ev_loadU rfl (by assumption) (by omega)) rfl ?_ | refine TL.ev (ev_loadI rfl (by assumption) (by omega)) rfl ?_ | refine T.seq ?_ | refine T.region ?_ | refine TL.nil ?_ | refine T.block ?_ | refine T.cond_t rfl ?_ | refine T.cond_f rfl ?_ | refine T.exit ?_ | refine T.ret ?_ | refine T.skip ?_ | refine G.next ?_ | refine G.blockN ?_ | refine G.blockE ?_ | refine G.blockE' rfl ?_ | refine G.blockR ?_ | refine G.thenE ?_ | refine G.thenR ?_ | refine T.regionQ mixed (by kernel_rfl) ?_ | refine TL.nilQ (fun _ => ?_) | refine G.only ?_ | refine G.mixed ?_ | refine TM.nil ?_ | refine TM.e rfl ?_)
  refine T.loop (fun k : Nat => [(0, .slice A n c), (3, .int .i64 (k : Int))]) (fun k w' => w' = w ∧ k ≤ n ∧ ∀ j, k ≤ j → l.getD j 0 = 0) (fun k => k) n (by repeat (first | exact Sub.nil _ | refine Sub.cons rfl ?_ | refine Sub.cons' rfl (int_congr (by omega)) ?_)) ⟨rfl, Nat.le_refl _, ?_⟩ ?_
  · intro j hj; simp [List.getD, List.getElem?_eq_none (show l.length ≤ j by omega)]
  · rintro k w' ⟨rfl, hk, hz⟩
    repeat' (first | refine TL.ev (ev_simple rfl) rfl ?_ | refine TL.grun rfl rfl rfl ?_ | refine TL.gskip rfl rfl rfl rfl ?_ | refine TL.gskipU rfl rfl rfl ?_ | refine TL.ev (ev_len rfl) rfl ?_ | (refine TL.cmpG rfl rfl rfl rfl (fun hc => ?_) (fun hc => ?_) <;> try (exfalso; omega)) | refine TL.ev (ev_arN rfl rfl rfl (by omega)) rfl ?_ | refine TL.ev (ev_arI rfl rfl rfl (by omega)) rfl ?_ | refine TL.ev (ev_neg rfl (by omega)) rfl ?_ | refine TL.ev (ev_indexN rfl rfl (by omega) (by first | exact Or.inr rfl | exact Sl.some (by assumption))) rfl ?_ | refine TL.ev (ev_index rfl rfl (by omega) (by first | exact Or.inr rfl | exact Sl.some (by assumption))) rfl ?_ | refine TL.ev (ev_loadU rfl (by assumption) (by omega)) rfl ?_ | refine TL.ev (ev_loadI rfl (by assumption) (by omega)) rfl ?_ | refine T.seq ?_ | refine T.region ?_ | refine TL.nil ?_ | refine T.block ?_ | refine T.cond_t rfl ?_ | refine T.cond_f rfl ?_ | refine T.exit ?_ | refine T.ret ?_ | refine T.skip ?_ | refine G.next ?_ | refine G.blockN ?_ | refine G.blockE ?_ | refine G.blockE' rfl ?_ | refine G.blockR ?_ | refine G.thenE ?_ | refine G.thenR ?_ | refine T.regionQ mixed (by kernel_rfl) ?_ | refine TL.nilQ (fun _ => ?_) | refine G.only ?_ | refine G.mixed ?_ | refine TM.nil ?_ | refine TM.e rfl ?_)
    · refine G.again (k - 1) (by repeat (first | exact Sub.nil _ | refine Sub.cons rfl ?_ | refine Sub.cons' rfl (int_congr (by omega)) ?_)) ⟨rfl, by omega, fun j hj => ?_⟩ (by omega)
      rcases Nat.lt_or_ge j k with h | h
      · obtain rfl : j = k - 1 := by omega
        omega
      · exact hz j h
    · rw [sz_eq l k (by omega) hz (.inr (by omega))]
      exact G.ret1 rfl rfl ⟨rfl, Qt.refl _⟩
    · rw [sz_eq l k (by omega) hz (.inl (by omega))]
      exact G.ret1 rfl rfl ⟨rfl, Qt.refl _⟩

theorem own_ok (w : World) (B : Nat) (A : Option Addr) (n c : Nat) (l : List Nat) (hs : Sl u64v w.heap B A n c l) (hu : U64 l) (hn : n ≤ 35184372088832) :
    Cl Try.prog 85 #[.slice A n c] w (RetN w (dig (val l)) n) := by
  have hlen := hs.len
  have hsz := sz_le l
  refine enter Try.func85 rfl rfl rfl ?_
  repeat' (first | refine TL.ev (ev_simple rfl) rfl ?_ | refine TL.grun rfl rfl rfl ?_ | refine TL.gskip rfl rfl rfl rfl ?_ | refine TL.gskipU rfl rfl rfl ?_ | refine TL.ev (ev_len rfl) rfl ?_ | (refine TL.cmpG rfl rfl rfl rfl (fun hc => ?_) (fun hc => ?_) <;> try (exfalso; omega)) | refine TL.ev (ev_arN rfl rfl rfl (by omega)) rfl ?_ | refine TL.ev (ev_arI rfl rfl rfl (by omega)) rfl ?_ | refine TL.ev (ev_neg rfl (by omega)) rfl ?_ | refine TL.ev (ev_indexN rfl rfl (by omega) (by first | exact Or.inr rfl | exact Sl.some (by assumption))) rfl ?_ | refine TL.ev (ev_index rfl rfl (by omega) (by first | exact Or.inr rfl | exact Sl.some (by assumption))) rfl ?_ | refine TL.ev (ev_loadU rfl (by assumption) (by omega)) rfl ?_ | refine TL.ev (ev_loadI rfl (by assumption) (by omega)) rfl ?_ | (refine TL.callP rfl rfl (size_ok _ _ _ _ _ _ hs (by omega)) (fun _ => ?_)) | (refine TL.makeU rfl rfl rfl (by omega) (by omega) (fun w1 b1 eb hB hE hz => ?_); have hs1 := hs.ext hE) | (refine TL.copy (f := u64v) (fun _ => rfl) rfl rfl rfl hB hs1 (by simp) (fun w2 hB2 hU => ?_)) | refine T.seq ?_ | refine T.region ?_ | refine TL.nil ?_ | refine T.block ?_ | refine T.cond_t rfl ?_ | refine T.cond_f rfl ?_ | refine T.exit ?_ | refine T.ret ?_ | refine T.skip ?_ | refine G.next ?_ | refine G.blockN ?_ | refine G.blockE ?_ | refine G.blockE' rfl ?_ | refine G.blockR ?_ | refine G.thenE ?_ | refine G.thenR ?_ | refine T.regionQ mixed (by kernel_rfl) ?_ | refine TL.nilQ (fun _ => ?_) | refine G.only ?_ | refine G.mixed ?_ | refine TM.nil ?_ | refine TM.e rfl ?_)
  have e : List.take 0 (List.replicate (sz l) 0) ++ List.take (min n (sz l)) l ++ List.drop (0 + min n (sz l)) (List.replicate (sz l) 0) = l.take (sz l) := by
    rw [Nat.min_eq_right (by omega)]; simp
  rw [e, take_sz hu] at hB2
  have hl : (dig (val l)).length = sz l := dig_length hu
  simp only [World.heap_drewN] at eb
  refine G.ret1 rfl rfl (RetN.mk ?_ (((ext_drewN w _).trans hE).upd hU (by omega)) (by omega))
  have := hB2.ow (lo := w.heap.size) (k := (dig (val l)).length) (Nat.le_refl _) rfl (by unfold maxLen; omega) (by omega)
  rw [List.take_length] at this
  rwa [hl] at this
theorem least_ok (w : World) (B : Nat) (A : Option Addr) (n c : Nat) (l : List Nat) (hs : Sl u64v w.heap B A n c l) (hu : U64 l) (hn : n ≤ 35184372088832) :
    Cl Try.prog 63 #[.slice A n c] w (RetN w (dig (val l)) n) := by
  refine enter Try.func63 rfl rfl rfl ?_
  repeat' (first | refine TL.ev (ev_simple rfl) rfl ?_ | refine TL.grun rfl rfl rfl ?_ | refine TL.gskip rfl rfl rfl rfl ?_ | refine TL.gskipU rfl rfl rfl ?_ | refine TL.ev (ev_len rfl) rfl ?_ | (refine TL.cmpG rfl rfl rfl rfl (fun hc => ?_) (fun hc => ?_) <;> try (exfalso; omega)) | refine TL.ev (ev_arN rfl rfl rfl (by omega)) rfl ?_ | refine TL.ev (ev_arI rfl rfl rfl (by omega)) rfl ?_ | refine TL.ev (ev_neg rfl (by omega)) rfl ?_ | refine TL.ev (ev_indexN rfl rfl (by omega) (by first | exact Or.inr rfl | exact Sl.some (by assumption))) rfl ?_ | refine TL.ev (ev_index rfl rfl (by omega) (by first | exact Or.inr rfl | exact Sl.some (by assumption))) rfl ?_ | refine TL.ev (ev_loadU rfl (by assumption) (by omega)) rfl ?_ | refine TL.ev (ev_loadI rfl (by assumption) (by omega)) rfl ?_ | (refine TL.call rfl rfl ((own_ok _ _ _ _ _ _ hs hu hn).mono ?_); rintro _ w1 ⟨A1, n1, c1, rfl, hO, hE, hK⟩; refine Back.mk ?_) | refine T.seq ?_ | refine T.region ?_ | refine TL.nil ?_ | refine T.block ?_ | refine T.cond_t rfl ?_ | refine T.cond_f rfl ?_ | refine T.exit ?_ | refine T.ret ?_ | refine T.skip ?_ | refine G.next ?_ | refine G.blockN ?_ | refine G.blockE ?_ | refine G.blockE' rfl ?_ | refine G.blockR ?_ | refine G.thenE ?_ | refine G.thenR ?_ | refine T.regionQ mixed (by kernel_rfl) ?_ | refine TL.nilQ (fun _ => ?_) | refine G.only ?_ | refine G.mixed ?_ | refine TM.nil ?_ | refine TM.e rfl ?_)
  exact G.ret1 rfl rfl (RetN.mk hO hE hK)

end Go.Proofs.Ytlpheckjogphmaa

namespace Go.Proofs.Ytlpheckjogphmaa
open Go Go.Eng Go.Proofs Go.NatM

end Go.Proofs.Ytlpheckjogphmaa

namespace Go.Proofs.Ytlpheckjogphmaa
open Go Go.Eng Go.Proofs Go.NatM

end Go.Proofs.Ytlpheckjogphmaa

namespace Go.NatM

end Go.NatM

namespace Go.Proofs.Ytlpheckjogphmaa
open Go Go.Eng Go.Proofs Go.NatM

/-- a new block, whole: a list of n words with a value -/
def RetB (w : World) (n : Nat) (v : Nat) (e : Ending) (w' : World) : Prop := ∃ b D, e = .returned (.slice (some ⟨b, 0, none⟩) n n) ∧ w.heap.size ≤ b ∧ Bk u64v w'.heap b 91 D ∧ D.length = n ∧ U64 D ∧ val D = v ∧ Ext w w'
theorem RetB.mk {w w' : World} {n v b : Nat} {D : List Nat} (h1 : w.heap.size ≤ b) (h2 : Bk u64v w'.heap b 91 D) (h3 : D.length = n) (h4 : U64 D) (h5 : val D = v) (h6 : Ext w w') : RetB w n v (.returned (.slice (some ⟨b, 0, none⟩) n n)) w' := ⟨b, D, rfl, h1, h2, h3, h4, h5, h6⟩
end Go.Proofs.Ytlpheckjogphmaa

namespace Go.Proofs.Ytlpheckjogphmaa
open Go Go.Eng Go.Proofs Go.NatM

/-- block g has turned; there may be new blocks -/
structure Turn (g : Nat) (w w' : World) : Prop where
  os : w'.os = w.os
  tape : w'.tape = w.tape
  output : w'.output = w.output
  size : w.heap.size ≤ w'.heap.size
  block : ∀ k, k < w.heap.size → k ≠ g → w'.heap[k]? = w.heap[k]?
theorem Turn.refl (g : Nat) (w : World) : Turn g w w := ⟨rfl, rfl, rfl, Nat.le_refl _, fun _ _ _ => rfl⟩
theorem Turn.ext {g : Nat} {a b c : World} (h : Turn g a b) (k : Ext b c) : Turn g a c :=
  ⟨k.os.trans h.os, k.tape.trans h.tape, k.output.trans h.output, Nat.le_trans h.size k.size, fun i hi hg => (k.block i (Nat.lt_of_lt_of_le hi h.size)).trans (h.block i hi hg)⟩
theorem Turn.drewN {g : Nat} {a b : World} (h : Turn g a b) (n : Nat) : Turn g a (b.drewN n) := h.ext (ext_drewN b n)
theorem Turn.upd {g : Nat} {a b c : World} (h : Turn g a b) (k : Upd g b c) : Turn g a c :=
  ⟨k.os.trans h.os, k.tape.trans h.tape, k.output.trans h.output, by rw [k.size]; exact h.size, fun i hi hg => (k.block i hg).trans (h.block i hi hg)⟩
theorem Turn.trans {g : Nat} {a b c : World} (h : Turn g a b) (k : Turn g b c) : Turn g a c :=
  ⟨k.os.trans h.os, k.tape.trans h.tape, k.output.trans h.output, Nat.le_trans h.size k.size, fun i hi hg => (k.block i (Nat.lt_of_lt_of_le hi h.size) hg).trans (h.block i hi hg)⟩
def ProdSpec (k : Nat) : Prop := ∀ (w : World) (B B' : Nat) (A A' : Option Addr) (n c n' c' : Nat) (l l' : List Nat), Sl u64v w.heap B A n c l → Sl u64v w.heap B' A' n' c' l' → U64 l → U64 l' → n + n' ≤ 35184372088832 → n + n' < k →
  Cl Try.prog 110 #[.slice A n c, .slice A' n' c'] w (RetB w (sz l + sz l') (val l * val l'))

end Go.Proofs.Ytlpheckjogphmaa

namespace Go.Proofs.Ytlpheckjogphmaa
open Go Go.Eng Go.Proofs Go.NatM

theorem ProdSpec.mono {j k : Nat} (h : ProdSpec k) (hj : j ≤ k) : ProdSpec j := fun w B B' A A' n c n' c' l l' h1 h2 h3 h4 h5 h6 => h w B B' A A' n c n' c' l l' h1 h2 h3 h4 h5 (by omega)
end Go.Proofs.Ytlpheckjogphmaa

namespace Go.Proofs.Ytlpheckjogphmaa
open Go Go.Eng Go.Proofs Go.NatM

end Go.Proofs.Ytlpheckjogphmaa

namespace Go.Proofs.Ytlpheckjogphmaa
open Go Go.Eng Go.Proofs Go.NatM

theorem tab_gen (s : ByteArray) (hs : (List.range 256).all (fun v => (s.data[v]?).map (fun u => u.toNat) == some (bl v)) = true) (m : Nat) (hm : m < 256) : (s.data[m]?).map (fun u => u.toNat) = some (bl m) := by
  have := List.all_eq_true.1 hs m (List.mem_range.2 hm)
  simpa using this
theorem bl_le64 {n : Nat} (h : n < 18446744073709551616) : bl n ≤ 64 := bl_le.2 (by omega)
theorem bl_le8 {n : Nat} (h : n < 256) : bl n ≤ 8 := bl_le.2 (by omega)

theorem bl_i64 {n : Nat} (h : n < 256) : -9223372036854775808 ≤ ((bl n : Nat) : Int) ∧ ((bl n : Nat) : Int) < 9223372036854775808 := by have := bl_le8 h; omega
theorem bl_add {m n : Nat} (hm : m ≤ 1000) (h : n < 256) : m + bl n < 9223372036854775808 := by have := bl_le8 h; omega
theorem sh (k y : Nat) (h : 1 ≤ y / 2 ^ k) (j : Nat) : j + bl y = (j + k) + bl (y / 2 ^ k) := by rw [bl_shift h, Nat.add_assoc]
theorem ret_bl {m x : Nat} (h : m = bl x) : Ending.returned (.int .i64 (m : Int)) = Ending.returned (.int .i64 (bl x : Int)) := by rw [h]

set_option maxHeartbeats 2000000 in
theorem len64_ok (H : Array Obj) {z : Int} {x : Nat} [e0 : IsN z x] (hx : x < 18446744073709551616) : Pure Try.prog 65 #[.int .u64 z] H (.int .i64 (bl x : Int)) := by
  obtain rfl := e0.out
  refine Pure.of fun w hw => ?_
  subst hw
  refine enter Try.func65 rfl rfl rfl ?_
  repeat' (first | refine TL.ev (ev_simple rfl) rfl ?_ | refine TL.grun rfl rfl rfl ?_ | refine TL.gskip rfl rfl rfl rfl ?_ | refine TL.gskipU rfl rfl rfl ?_ | refine TL.ev (ev_len rfl) rfl ?_ | (refine TL.cmpG rfl rfl rfl rfl (fun hc => ?_) (fun hc => ?_) <;> try (exfalso; omega)) | refine TL.ev (ev_shrU rfl rfl (by first | omega | exact U64.getD (by assumption) _)) rfl ?_ | refine TL.ev (ev_shlU rfl rfl) rfl ?_ | refine TL.ev (ev_andU rfl rfl (by first | omega | exact U64.getD (by assumption) _) (by first | omega | exact U64.getD (by assumption) _)) rfl ?_ | refine TL.ev (ev_orU rfl rfl (by first | omega | exact U64.getD (by assumption) _) (by first | omega | exact U64.getD (by assumption) _)) rfl ?_ | refine TL.ev (ev_xorU rfl rfl (by first | omega | exact U64.getD (by assumption) _) (by first | omega | exact U64.getD (by assumption) _)) rfl ?_ | refine TL.ev (ev_convU rfl (by omega)) rfl ?_ | refine TL.ev (ev_convI rfl (by omega)) rfl ?_ | refine TL.ev (ev_arU rfl rfl rfl (by first | exact True.intro | omega)) rfl ?_ | (refine TL.ev (ev_conv (kd := .u8) rfl (IntWalk.u8_in _ (by omega))) rfl ?_) | (refine TL.ev (ev_convI rfl (bl_i64 (by omega))) rfl ?_) | (refine TL.ev (ev_stridx Try.underlying9 rfl rfl (tab_gen _ (by decide +kernel) _ (by omega))) rfl ?_) | (refine TL.ev (ev_addN rfl rfl (bl_add (by omega) (by omega))) rfl ?_) | (refine TL.ev (ev_addN rfl rfl (by omega)) rfl ?_) | refine T.seq ?_ | refine T.region ?_ | refine TL.nil ?_ | refine T.block ?_ | refine T.cond_t rfl ?_ | refine T.cond_f rfl ?_ | refine T.exit ?_ | refine T.ret ?_ | refine T.skip ?_ | refine G.next ?_ | refine G.blockN ?_ | refine G.blockE ?_ | refine G.blockE' rfl ?_ | refine G.blockR ?_ | refine G.thenE ?_ | refine G.thenR ?_ | refine T.regionQ mixed (by kernel_rfl) ?_ | refine TL.nilQ (fun _ => ?_) | refine G.only ?_ | refine G.mixed ?_ | refine TM.nil ?_ | refine TM.e rfl ?_)
  all_goals refine G.ret1 rfl rfl ⟨ret_bl (Eq.symm ?_), Qt.refl _⟩
  all_goals rw [← Nat.zero_add (bl x)]
  all_goals first
    | rw [sh 32 x (by omega), sh 16 (x / 2 ^ 32) (by omega), sh 8 (x / 2 ^ 32 / 2 ^ 16) (by omega)]
    | rw [sh 32 x (by omega), sh 16 (x / 2 ^ 32) (by omega)]
    | rw [sh 32 x (by omega), sh 8 (x / 2 ^ 32) (by omega)]
    | rw [sh 32 x (by omega)]
    | rw [sh 16 x (by omega), sh 8 (x / 2 ^ 16) (by omega)]
    | rw [sh 16 x (by omega)]
    | rw [sh 8 x (by omega)]
    | simp
theorem bitlen_ok (H : Array Obj) (B : Nat) (A : Option Addr) (n c : Nat) (l : List Nat) (hs : Sl u64v H B A n c l) (hu : U64 l) (hn : n ≤ 35184372088832) :
    Pure Try.prog 29 #[.slice A n c] H (.int .i64 (bl (val l) : Int)) := by
  refine Pure.of fun w hw => ?_
  subst hw
  have hlen := hs.len
  have hsz := sz_le l
  have hb := bl_le64 (hu.getD (sz l - 1))
  refine enter Try.func29 rfl rfl rfl ?_
  repeat' (first | refine TL.ev (ev_simple rfl) rfl ?_ | refine TL.grun rfl rfl rfl ?_ | refine TL.gskip rfl rfl rfl rfl ?_ | refine TL.gskipU rfl rfl rfl ?_ | refine TL.ev (ev_len rfl) rfl ?_ | (refine TL.cmpG rfl rfl rfl rfl (fun hc => ?_) (fun hc => ?_) <;> try (exfalso; omega)) | refine TL.ev (ev_arN rfl rfl rfl (by omega)) rfl ?_ | refine TL.ev (ev_arI rfl rfl rfl (by omega)) rfl ?_ | refine TL.ev (ev_neg rfl (by omega)) rfl ?_ | refine TL.ev (ev_indexN rfl rfl (by omega) (by first | exact Or.inr rfl | exact Sl.some (by assumption))) rfl ?_ | refine TL.ev (ev_index rfl rfl (by omega) (by first | exact Or.inr rfl | exact Sl.some (by assumption))) rfl ?_ | refine TL.ev (ev_loadU rfl (by assumption) (by omega)) rfl ?_ | refine TL.ev (ev_loadI rfl (by assumption) (by omega)) rfl ?_ | (refine TL.callP rfl rfl (size_ok _ _ _ _ _ _ hs (by omega)) (fun _ => ?_)) | (refine TL.callP rfl rfl (len64_ok _ (hu.getD _)) (fun _ => ?_)) | refine T.seq ?_ | refine T.region ?_ | refine TL.nil ?_ | refine T.block ?_ | refine T.cond_t rfl ?_ | refine T.cond_f rfl ?_ | refine T.exit ?_ | refine T.ret ?_ | refine T.skip ?_ | refine G.next ?_ | refine G.blockN ?_ | refine G.blockE ?_ | refine G.blockE' rfl ?_ | refine G.blockR ?_ | refine G.thenE ?_ | refine G.thenR ?_ | refine T.regionQ mixed (by kernel_rfl) ?_ | refine TL.nilQ (fun _ => ?_) | refine G.only ?_ | refine G.mixed ?_ | refine TM.nil ?_ | refine TM.e rfl ?_)
  · refine G.ret1 rfl rfl ⟨?_, (Qt.refl w).drewN _⟩
    rw [val_eq_zero (show sz l = 0 by omega)]; rfl
  · refine G.ret1 rfl rfl ⟨ret_bl ?_, ((Qt.refl w).drewN _).drewN _⟩
    rw [bl_val hu (by omega)]
end Go.Proofs.Ytlpheckjogphmaa

namespace Go.Proofs.Ytlpheckjogphmaa
open Go Go.Eng Go.Proofs Go.NatM

end Go.Proofs.Ytlpheckjogphmaa

namespace Go.Proofs.Ytlpheckjogphmaa
open Go Go.Eng Go.Proofs Go.NatM Go.RowKit

def sgn (neg : Bool) (n : Nat) : Int := if neg then -(n : Int) else n
def ival (x : IV) : Int := sgn x.neg (val x.m.l)
/-- an integer that reads -/
structure GI (H : Array Obj) (x : IV) : Prop where
  s : Sl u64v H H.size x.m.A x.m.n x.m.c x.m.l
  u : U64 x.m.l
/-- .. in least form: z -/
structure LI (H : Array Obj) (z : Int) (x : IV) : Prop where
  g : GI H x
  d : x.m.l = dig z.natAbs
  e : x.neg = decide (z < 0)
theorem GI.ext {w w' : World} {x : IV} (hE : Ext w w') (h : GI w.heap x) : GI w'.heap x := ⟨(h.s.ext hE).size, h.u⟩
theorem LI.ext {w w' : World} {x : IV} {z : Int} (hE : Ext w w') (h : LI w.heap z x) : LI w'.heap z x := ⟨h.g.ext hE, h.d, h.e⟩
theorem LI.updV {w w' : World} {x : IV} {z : Int} {b : Nat} {t : TypeId} {cs : List Value} (hu : Upd b w w') (hV : Vr w.heap b t cs) (hc : cs.all noU64 = true) (h : LI w.heap z x) : LI w'.heap z x := ⟨⟨(sl_updV hu hV hc h.g.s).size, h.g.u⟩, h.d, h.e⟩
theorem LI.val {H : Array Obj} {z : Int} {x : IV} (h : LI H z x) : ival x = z := by
  unfold ival sgn
  rw [h.d, h.e, val_dig]
  by_cases hz : z < 0
  · simp only [hz, decide_true, if_true]; omega
  · simp only [hz, decide_false, Bool.false_eq_true, if_false]; omega
theorem sgn_abs (neg : Bool) (n : Nat) : (sgn neg n).natAbs = n := by unfold sgn; split <;> omega
theorem dig_pos_len {n : Nat} : 0 < (dig n).length ↔ n ≠ 0 := by
  constructor
  · rintro h rfl; rw [dig_zero] at h; simp at h
  · intro h; rw [dig_pos h]; simp
theorem li_mk {H : Array Obj} {neg : Bool} {N n c : Nat} {A : Option Addr} (hs : Sl u64v H H.size A n c (dig N)) : LI H (sgn neg N) ⟨neg && decide (0 < n), ⟨A, n, c, dig N⟩⟩ := by
  refine ⟨⟨hs, U64_dig _⟩, by rw [sgn_abs], ?_⟩
  have hl := hs.len
  have h0 := dig_pos_len (n := N)
  show (neg && decide (0 < n)) = decide (sgn neg N < 0)
  unfold sgn
  cases neg
  · simp
  · simp only [Bool.true_and, if_true]
    congr 1
    apply propext
    constructor
    · intro h; have := h0.1 (by omega); omega
    · intro h; have := h0.2 (by omega); omega
/-- a new integer, z, of at most K words -/
def RetZ (w : World) (z : Int) (K : Nat) (e : Ending) (w' : World) : Prop := ∃ x : IV, e = .returned (.agg (ivc x).toArray) ∧ LI w'.heap z x ∧ Ext w w' ∧ x.m.n ≤ K
theorem of_ok (w : World) (neg : Bool) (A : Option Addr) (n c N : Nat) (hs : Sl u64v w.heap w.heap.size A n c (dig N)) : Cl Try.prog 62 #[.bool neg, .slice A n c] w (fun e w' => e = .returned (.agg (ivc ⟨neg && decide (0 < n), ⟨A, n, c, dig N⟩⟩).toArray) ∧ LI w'.heap (sgn neg N) ⟨neg && decide (0 < n), ⟨A, n, c, dig N⟩⟩ ∧ Ext w w') := by
  have hsz0 := hs.len
  cases neg
  · refine enter Try.func62 rfl rfl rfl ?_
    repeat' (first | refine TL.ev (ev_simple rfl) rfl ?_ | refine TL.grun rfl rfl rfl ?_ | refine TL.gskip rfl rfl rfl rfl ?_ | refine TL.gskipU rfl rfl rfl ?_ | refine TL.ev (ev_len rfl) rfl ?_ | (refine TL.cmpG rfl rfl rfl rfl (fun hc => ?_) (fun hc => ?_) <;> try (exfalso; omega)) | refine TL.ev (ev_arN rfl rfl rfl (by omega)) rfl ?_ | refine TL.ev (ev_arI rfl rfl rfl (by omega)) rfl ?_ | refine TL.ev (ev_neg rfl (by omega)) rfl ?_ | (refine TL.boxA rfl rfl (fun wb bb ebb hVb hEb hzb => ?_); have hlb := box_lo (w0 := w) (by repeat (first | exact Ext.refl _ | (refine Ext.trans ?_ (by assumption)) | (apply ext_upd; assumption; rotate_left; omega))) ebb) | (refine TL.alloc rfl (fun wa ba eba hVa hEa hza => ?_); have hla := box_lo (w0 := w) (by repeat (first | exact Ext.refl _ | (refine Ext.trans ?_ (by assumption)) | (apply ext_upd; assumption; rotate_left; omega))) eba) | (refine TL.ev (ev_fieldAddr rfl) rfl ?_) | (refine TF.s rfl (fun _ _ => ev_fieldAddr rfl) rfl ?_) | (refine TL.ev (ev_loadVX rfl (by refine ⟨?_, ?_⟩; (focus (repeat (first | assumption | (apply Vr.ext; assumption) | (apply Vr.updX; assumption; rotate_left; omega)))); rfl)) rfl ?_) | (refine TF.s rfl (fun _ hh => ev_loadVX rfl (by refine ⟨Vr.ext hh ?_, ?_⟩; (focus (repeat (first | assumption | (apply Vr.ext; assumption) | (apply Vr.updX; assumption; rotate_left; omega)))); rfl)) rfl ?_) | (refine TL.ev (ev_loadVAX rfl (by refine ⟨?_, ?_⟩; (focus (repeat (first | assumption | (apply Vr.ext; assumption) | (apply Vr.updX; assumption; rotate_left; omega)))); rfl)) rfl ?_) | (refine TF.s rfl (fun _ hh => ev_loadVAX rfl (by refine ⟨Vr.ext hh ?_, ?_⟩; (focus (repeat (first | assumption | (apply Vr.ext; assumption) | (apply Vr.updX; assumption; rotate_left; omega)))); rfl)) rfl ?_) | (refine TL.storeVX rfl rfl rfl rfl (by refine ⟨?_, ?_⟩; (focus (repeat (first | assumption | (apply Vr.ext; assumption) | (apply Vr.updX; assumption; rotate_left; omega)))); rfl) (fun ws hVs hUs hzs => ?_)) | (refine TL.storeX rfl rfl rfl rfl (by refine ⟨?_, ?_⟩; (focus (repeat (first | assumption | (apply Vr.ext; assumption) | (apply Vr.updX; assumption; rotate_left; omega)))); rfl) (fun ws hVs hUs hzs => ?_)) | (refine TL.ev (ev_buildX rfl rfl) rfl ?_) | (refine TF.s rfl (fun _ _ => ev_buildX rfl rfl) rfl ?_) | (refine TL.ev (ev_field rfl rfl) rfl ?_) | (refine TL.ev (ev_makeFunc rfl) rfl ?_) | (refine TF.s rfl (fun _ _ => ev_makeFunc rfl) rfl ?_) | refine TF.nil ?_ | refine TF.e rfl ?_ | refine TF.alt ?_ ?_ | refine G.treeEnd rfl ?_ | refine G.tree rfl (by repeat (first | exact Ext.refl _ | (refine Ext.trans ?_ (by assumption)) | (apply ext_upd; assumption; rotate_left; omega))) ?_ | refine TL.nilX (fun wq hzq hEq => ?_) | refine T.seq ?_ | refine T.region ?_ | refine TL.nil ?_ | refine T.block ?_ | refine T.cond_t rfl ?_ | refine T.cond_f rfl ?_ | refine T.exit ?_ | refine T.ret ?_ | refine T.skip ?_ | refine G.next ?_ | refine G.blockN ?_ | refine G.blockE ?_ | refine G.blockE' rfl ?_ | refine G.blockR ?_ | refine G.thenE ?_ | refine G.thenR ?_ | refine T.regionQ mixed (by kernel_rfl) ?_ | refine TL.nilQ (fun _ => ?_) | refine G.only ?_ | refine G.mixed ?_ | refine TM.nil ?_ | refine TM.e rfl ?_)
    have hE : Ext w ws := (by repeat (first | exact Ext.refl _ | (refine Ext.trans ?_ (by assumption)) | (apply ext_upd; assumption; rotate_left; omega)))
    exact G.retC1 rfl rfl (held_agg hVs rfl) ⟨rfl, li_mk (neg := false) (hs.ext hE).size, hE⟩
  · rcases Nat.eq_zero_or_pos n with h0 | h0
    · refine enter Try.func62 rfl rfl rfl ?_
      repeat' (first | refine TL.ev (ev_simple rfl) rfl ?_ | refine TL.grun rfl rfl rfl ?_ | refine TL.gskip rfl rfl rfl rfl ?_ | refine TL.gskipU rfl rfl rfl ?_ | refine TL.ev (ev_len rfl) rfl ?_ | (refine TL.cmpG rfl rfl rfl rfl (fun hc => ?_) (fun hc => ?_) <;> try (exfalso; omega)) | refine TL.ev (ev_arN rfl rfl rfl (by omega)) rfl ?_ | refine TL.ev (ev_arI rfl rfl rfl (by omega)) rfl ?_ | refine TL.ev (ev_neg rfl (by omega)) rfl ?_ | (refine TL.boxA rfl rfl (fun wb bb ebb hVb hEb hzb => ?_); have hlb := box_lo (w0 := w) (by repeat (first | exact Ext.refl _ | (refine Ext.trans ?_ (by assumption)) | (apply ext_upd; assumption; rotate_left; omega))) ebb) | (refine TL.alloc rfl (fun wa ba eba hVa hEa hza => ?_); have hla := box_lo (w0 := w) (by repeat (first | exact Ext.refl _ | (refine Ext.trans ?_ (by assumption)) | (apply ext_upd; assumption; rotate_left; omega))) eba) | (refine TL.ev (ev_fieldAddr rfl) rfl ?_) | (refine TF.s rfl (fun _ _ => ev_fieldAddr rfl) rfl ?_) | (refine TL.ev (ev_loadVX rfl (by refine ⟨?_, ?_⟩; (focus (repeat (first | assumption | (apply Vr.ext; assumption) | (apply Vr.updX; assumption; rotate_left; omega)))); rfl)) rfl ?_) | (refine TF.s rfl (fun _ hh => ev_loadVX rfl (by refine ⟨Vr.ext hh ?_, ?_⟩; (focus (repeat (first | assumption | (apply Vr.ext; assumption) | (apply Vr.updX; assumption; rotate_left; omega)))); rfl)) rfl ?_) | (refine TL.ev (ev_loadVAX rfl (by refine ⟨?_, ?_⟩; (focus (repeat (first | assumption | (apply Vr.ext; assumption) | (apply Vr.updX; assumption; rotate_left; omega)))); rfl)) rfl ?_) | (refine TF.s rfl (fun _ hh => ev_loadVAX rfl (by refine ⟨Vr.ext hh ?_, ?_⟩; (focus (repeat (first | assumption | (apply Vr.ext; assumption) | (apply Vr.updX; assumption; rotate_left; omega)))); rfl)) rfl ?_) | (refine TL.storeVX rfl rfl rfl rfl (by refine ⟨?_, ?_⟩; (focus (repeat (first | assumption | (apply Vr.ext; assumption) | (apply Vr.updX; assumption; rotate_left; omega)))); rfl) (fun ws hVs hUs hzs => ?_)) | (refine TL.storeX rfl rfl rfl rfl (by refine ⟨?_, ?_⟩; (focus (repeat (first | assumption | (apply Vr.ext; assumption) | (apply Vr.updX; assumption; rotate_left; omega)))); rfl) (fun ws hVs hUs hzs => ?_)) | (refine TL.ev (ev_buildX rfl rfl) rfl ?_) | (refine TF.s rfl (fun _ _ => ev_buildX rfl rfl) rfl ?_) | (refine TL.ev (ev_field rfl rfl) rfl ?_) | (refine TL.ev (ev_makeFunc rfl) rfl ?_) | (refine TF.s rfl (fun _ _ => ev_makeFunc rfl) rfl ?_) | refine TF.nil ?_ | refine TF.e rfl ?_ | refine TF.alt ?_ ?_ | refine G.treeEnd rfl ?_ | refine G.tree rfl (by repeat (first | exact Ext.refl _ | (refine Ext.trans ?_ (by assumption)) | (apply ext_upd; assumption; rotate_left; omega))) ?_ | refine TL.nilX (fun wq hzq hEq => ?_) | refine T.seq ?_ | refine T.region ?_ | refine TL.nil ?_ | refine T.block ?_ | refine T.cond_t rfl ?_ | refine T.cond_f rfl ?_ | refine T.exit ?_ | refine T.ret ?_ | refine T.skip ?_ | refine G.next ?_ | refine G.blockN ?_ | refine G.blockE ?_ | refine G.blockE' rfl ?_ | refine G.blockR ?_ | refine G.thenE ?_ | refine G.thenR ?_ | refine T.regionQ mixed (by kernel_rfl) ?_ | refine TL.nilQ (fun _ => ?_) | refine G.only ?_ | refine G.mixed ?_ | refine TM.nil ?_ | refine TM.e rfl ?_)
      have hE : Ext w ws := (by repeat (first | exact Ext.refl _ | (refine Ext.trans ?_ (by assumption)) | (apply ext_upd; assumption; rotate_left; omega)))
      have e := li_mk (neg := true) (hs.ext hE).size
      have e2 : (true && decide (0 < n)) = false := by simp; omega
      rw [e2] at e ⊢
      exact G.retC1 rfl rfl (held_agg hVs rfl) ⟨rfl, e, hE⟩
    · refine enter Try.func62 rfl rfl rfl ?_
      repeat' (first | refine TL.ev (ev_simple rfl) rfl ?_ | refine TL.grun rfl rfl rfl ?_ | refine TL.gskip rfl rfl rfl rfl ?_ | refine TL.gskipU rfl rfl rfl ?_ | refine TL.ev (ev_len rfl) rfl ?_ | (refine TL.cmpG rfl rfl rfl rfl (fun hc => ?_) (fun hc => ?_) <;> try (exfalso; omega)) | refine TL.ev (ev_arN rfl rfl rfl (by omega)) rfl ?_ | refine TL.ev (ev_arI rfl rfl rfl (by omega)) rfl ?_ | refine TL.ev (ev_neg rfl (by omega)) rfl ?_ | (refine TL.boxA rfl rfl (fun wb bb ebb hVb hEb hzb => ?_); have hlb := box_lo (w0 := w) (by repeat (first | exact Ext.refl _ | (refine Ext.trans ?_ (by assumption)) | (apply ext_upd; assumption; rotate_left; omega))) ebb) | (refine TL.alloc rfl (fun wa ba eba hVa hEa hza => ?_); have hla := box_lo (w0 := w) (by repeat (first | exact Ext.refl _ | (refine Ext.trans ?_ (by assumption)) | (apply ext_upd; assumption; rotate_left; omega))) eba) | (refine TL.ev (ev_fieldAddr rfl) rfl ?_) | (refine TF.s rfl (fun _ _ => ev_fieldAddr rfl) rfl ?_) | (refine TL.ev (ev_loadVX rfl (by refine ⟨?_, ?_⟩; (focus (repeat (first | assumption | (apply Vr.ext; assumption) | (apply Vr.updX; assumption; rotate_left; omega)))); rfl)) rfl ?_) | (refine TF.s rfl (fun _ hh => ev_loadVX rfl (by refine ⟨Vr.ext hh ?_, ?_⟩; (focus (repeat (first | assumption | (apply Vr.ext; assumption) | (apply Vr.updX; assumption; rotate_left; omega)))); rfl)) rfl ?_) | (refine TL.ev (ev_loadVAX rfl (by refine ⟨?_, ?_⟩; (focus (repeat (first | assumption | (apply Vr.ext; assumption) | (apply Vr.updX; assumption; rotate_left; omega)))); rfl)) rfl ?_) | (refine TF.s rfl (fun _ hh => ev_loadVAX rfl (by refine ⟨Vr.ext hh ?_, ?_⟩; (focus (repeat (first | assumption | (apply Vr.ext; assumption) | (apply Vr.updX; assumption; rotate_left; omega)))); rfl)) rfl ?_) | (refine TL.storeVX rfl rfl rfl rfl (by refine ⟨?_, ?_⟩; (focus (repeat (first | assumption | (apply Vr.ext; assumption) | (apply Vr.updX; assumption; rotate_left; omega)))); rfl) (fun ws hVs hUs hzs => ?_)) | (refine TL.storeX rfl rfl rfl rfl (by refine ⟨?_, ?_⟩; (focus (repeat (first | assumption | (apply Vr.ext; assumption) | (apply Vr.updX; assumption; rotate_left; omega)))); rfl) (fun ws hVs hUs hzs => ?_)) | (refine TL.ev (ev_buildX rfl rfl) rfl ?_) | (refine TF.s rfl (fun _ _ => ev_buildX rfl rfl) rfl ?_) | (refine TL.ev (ev_field rfl rfl) rfl ?_) | (refine TL.ev (ev_makeFunc rfl) rfl ?_) | (refine TF.s rfl (fun _ _ => ev_makeFunc rfl) rfl ?_) | refine TF.nil ?_ | refine TF.e rfl ?_ | refine TF.alt ?_ ?_ | refine G.treeEnd rfl ?_ | refine G.tree rfl (by repeat (first | exact Ext.refl _ | (refine Ext.trans ?_ (by assumption)) | (apply ext_upd; assumption; rotate_left; omega))) ?_ | refine TL.nilX (fun wq hzq hEq => ?_) | refine T.seq ?_ | refine T.region ?_ | refine TL.nil ?_ | refine T.block ?_ | refine T.cond_t rfl ?_ | refine T.cond_f rfl ?_ | refine T.exit ?_ | refine T.ret ?_ | refine T.skip ?_ | refine G.next ?_ | refine G.blockN ?_ | refine G.blockE ?_ | refine G.blockE' rfl ?_ | refine G.blockR ?_ | refine G.thenE ?_ | refine G.thenR ?_ | refine T.regionQ mixed (by kernel_rfl) ?_ | refine TL.nilQ (fun _ => ?_) | refine G.only ?_ | refine G.mixed ?_ | refine TM.nil ?_ | refine TM.e rfl ?_)
      have hE : Ext w ws := (by repeat (first | exact Ext.refl _ | (refine Ext.trans ?_ (by assumption)) | (apply ext_upd; assumption; rotate_left; omega)))
      have e := li_mk (neg := true) (hs.ext hE).size
      have e2 : (true && decide (0 < n)) = true := by simp; omega
      rw [e2] at e ⊢
      exact G.retC1 rfl rfl (held_agg hVs rfl) ⟨rfl, e, hE⟩
theorem zleast_ok (w : World) (x : IV) (g : GI w.heap x) (hn : x.m.n ≤ 35184372088832) : Cl Try.prog 50 #[.agg (ivc x).toArray] w (RetZ w (ival x) x.m.n) := by
  have hs := g.s
  have hu := g.u
  refine enter Try.func50 rfl rfl rfl ?_
  repeat' (first | refine TL.ev (ev_simple rfl) rfl ?_ | refine TL.grun rfl rfl rfl ?_ | refine TL.gskip rfl rfl rfl rfl ?_ | refine TL.gskipU rfl rfl rfl ?_ | (refine TL.call rfl rfl ?_; first | (refine (least_ok _ _ _ _ _ _ (by first | ((repeat (first | assumption | (apply Sl.ext; assumption) | (apply Sm.ext; assumption) | (apply Sl.upd; assumption) | (apply Sm.upd; assumption) | omega)); done) | ((repeat (first | assumption | (apply Sl.ext; assumption) | (apply Sm.ext; assumption) | (apply sl_updV; assumption; (focus (repeat (first | assumption | (apply Vr.ext; assumption) | (apply Vr.updX; assumption; rotate_left; omega)))); rfl))); done)) hu hn).mono ?_; rintro _ wl ⟨Al, nl, cl, rfl, hOl, hEl, hKl⟩; refine Back.mk ?_; have hSl := hOl.sl (Nat.le_refl _); have hzl := hEl.size) | (refine (of_ok _ _ _ _ _ _ hSl).mono ?_; rintro _ wo ⟨rfl, hLo, hEo⟩; refine Back.mk ?_; have hzo := hEo.size)) | refine TL.ev (ev_len rfl) rfl ?_ | (refine TL.cmpG rfl rfl rfl rfl (fun hc => ?_) (fun hc => ?_) <;> try (exfalso; omega)) | refine TL.ev (ev_arN rfl rfl rfl (by omega)) rfl ?_ | refine TL.ev (ev_arI rfl rfl rfl (by omega)) rfl ?_ | refine TL.ev (ev_neg rfl (by omega)) rfl ?_ | refine T.regionX 1 6 (.s 0 (.s 1 (.s 2 (.s 3 (.e 4 (.e 5 (.e 6 .nil))))))) mixed (by kernel_rfl) (fun wr hzr hEr => ?_) | (refine TL.boxA rfl rfl (fun wb bb ebb hVb hEb hzb => ?_); have hlb := box_lo (w0 := w) (by repeat (first | exact Ext.refl _ | (refine Ext.trans ?_ (by assumption)) | (apply ext_upd; assumption; rotate_left; omega))) ebb) | (refine TL.alloc rfl (fun wa ba eba hVa hEa hza => ?_); have hla := box_lo (w0 := w) (by repeat (first | exact Ext.refl _ | (refine Ext.trans ?_ (by assumption)) | (apply ext_upd; assumption; rotate_left; omega))) eba) | (refine TL.ev (ev_fieldAddr rfl) rfl ?_) | (refine TF.s rfl (fun _ _ => ev_fieldAddr rfl) rfl ?_) | (refine TL.ev (ev_loadVX rfl (by refine ⟨?_, ?_⟩; (focus (repeat (first | assumption | (apply Vr.ext; assumption) | (apply Vr.updX; assumption; rotate_left; omega)))); rfl)) rfl ?_) | (refine TF.s rfl (fun _ hh => ev_loadVX rfl (by refine ⟨Vr.ext hh ?_, ?_⟩; (focus (repeat (first | assumption | (apply Vr.ext; assumption) | (apply Vr.updX; assumption; rotate_left; omega)))); rfl)) rfl ?_) | (refine TL.ev (ev_loadVAX rfl (by refine ⟨?_, ?_⟩; (focus (repeat (first | assumption | (apply Vr.ext; assumption) | (apply Vr.updX; assumption; rotate_left; omega)))); rfl)) rfl ?_) | (refine TF.s rfl (fun _ hh => ev_loadVAX rfl (by refine ⟨Vr.ext hh ?_, ?_⟩; (focus (repeat (first | assumption | (apply Vr.ext; assumption) | (apply Vr.updX; assumption; rotate_left; omega)))); rfl)) rfl ?_) | (refine TL.storeVX rfl rfl rfl rfl (by refine ⟨?_, ?_⟩; (focus (repeat (first | assumption | (apply Vr.ext; assumption) | (apply Vr.updX; assumption; rotate_left; omega)))); rfl) (fun ws hVs hUs hzs => ?_)) | (refine TL.storeX rfl rfl rfl rfl (by refine ⟨?_, ?_⟩; (focus (repeat (first | assumption | (apply Vr.ext; assumption) | (apply Vr.updX; assumption; rotate_left; omega)))); rfl) (fun ws hVs hUs hzs => ?_)) | (refine TL.ev (ev_buildX rfl rfl) rfl ?_) | (refine TF.s rfl (fun _ _ => ev_buildX rfl rfl) rfl ?_) | (refine TL.ev (ev_field rfl rfl) rfl ?_) | (refine TL.ev (ev_makeFunc rfl) rfl ?_) | (refine TF.s rfl (fun _ _ => ev_makeFunc rfl) rfl ?_) | refine TF.nil ?_ | refine TF.e rfl ?_ | refine TF.alt ?_ ?_ | refine G.treeEnd rfl ?_ | refine G.tree rfl (by repeat (first | exact Ext.refl _ | (refine Ext.trans ?_ (by assumption)) | (apply ext_upd; assumption; rotate_left; omega))) ?_ | refine TL.nilX (fun wq hzq hEq => ?_) | refine T.seq ?_ | refine T.region ?_ | refine TL.nil ?_ | refine T.block ?_ | refine T.cond_t rfl ?_ | refine T.cond_f rfl ?_ | refine T.exit ?_ | refine T.ret ?_ | refine T.skip ?_ | refine G.next ?_ | refine G.blockN ?_ | refine G.blockE ?_ | refine G.blockE' rfl ?_ | refine G.blockR ?_ | refine G.thenE ?_ | refine G.thenR ?_ | refine T.regionQ mixed (by kernel_rfl) ?_ | refine TL.nilQ (fun _ => ?_) | refine G.only ?_ | refine G.mixed ?_ | refine TM.nil ?_ | refine TM.e rfl ?_)
  exact G.retC1 rfl rfl (held_agg hVs rfl) ⟨_, rfl, LI.updV hUs (by repeat (first | assumption | (apply Vr.ext; assumption) | (apply Vr.updX; assumption; rotate_left; omega))) rfl hLo, (by repeat (first | exact Ext.refl _ | (refine Ext.trans ?_ (by assumption)) | (apply ext_upd; assumption; rotate_left; omega))), hKl⟩
end Go.Proofs.Ytlpheckjogphmaa

namespace Go.Proofs.Ytlpheckjogphmaa
open Go Go.Eng Go.Proofs Go.NatM Go.RowKit

/-- the shape of a matrix -/
structure Sound (x : MV) (r c : Nat) : Prop where
  er : x.r = r
  ec : x.c = c
  r64 : r ≤ 64
  c64 : c ≤ 64
  n : x.n = r * c
/-- a matrix that reads; entries of at most K words -/
structure GM (H : Array Obj) (x : MV) (r c : Nat) (K : Nat) : Prop where
  sh : Sound x r c
  s : Sm 2 ivc H H.size x.A x.n x.k x.l
  g : ∀ y ∈ x.l, GI H y ∧ y.m.n ≤ K
/-- a matrix whose entries are F, in least form -/
structure LM (H : Array Obj) (x : MV) (r c : Nat) (F : Nat → Nat → Int) (K : Nat) : Prop where
  sh : Sound x r c
  s : Sm 2 ivc H H.size x.A x.n x.k x.l
  g : ∀ i j, i < r → j < c → LI H (F i j) (x.l.getD (i * c + j) default) ∧ (x.l.getD (i * c + j) default).m.n ≤ K
theorem GM.ext {w w' : World} {x : MV} {r c K : Nat} (hE : Ext w w') (h : GM w.heap x r c K) : GM w'.heap x r c K := ⟨h.sh, (h.s.ext hE).size, fun y hy => ⟨(h.g y hy).1.ext hE, (h.g y hy).2⟩⟩
theorem LM.ext {w w' : World} {x : MV} {r c K : Nat} {F : Nat → Nat → Int} (hE : Ext w w') (h : LM w.heap x r c F K) : LM w'.heap x r c F K := ⟨h.sh, (h.s.ext hE).size, fun i j hi hj => ⟨(h.g i j hi hj).1.ext hE, (h.g i j hi hj).2⟩⟩
/-- the list lies in a block that is not older than w -/
def MF (w : World) (x : MV) : Prop := x.n = 0 ∨ ∃ b, x.A = some ⟨b, 0, none⟩ ∧ w.heap.size ≤ b
theorem MF.mono {w w1 : World} {x : MV} (h : MF w1 x) (hs : w.heap.size ≤ w1.heap.size) : MF w x := h.imp id fun ⟨b, e, hb⟩ => ⟨b, e, Nat.le_trans hs hb⟩
end Go.Proofs.Ytlpheckjogphmaa

namespace Go.Proofs.Ytlpheckjogphmaa
open Go Go.Eng Go.Proofs Go.NatM Go.RowKit

def noBool : Value → Bool
  | .bool _ => false
  | _ => true
theorem sm_updV {w w' : World} {B n k b : Nat} {A : Option Addr} {l : List IV} {t : TypeId} {cs : List Value} (hu : Upd b w w') (hV : Vr w.heap b t cs) (hc : cs.all noBool = true) (h : Sm 2 ivc w.heap B A n k l) : Sm 2 ivc w'.heap B A n k l := by
  refine ⟨h.len, h.cap, h.pos, h.wid, ?_⟩
  rcases h.mem with h0 | ⟨b', o, e, hlt, hm⟩
  · exact .inl h0
  · rcases Nat.eq_zero_or_pos n with h0 | h0
    · exact .inl h0
    · have hl : 0 < l.length := by have := h.len; omega
      have hne : b' ≠ b := by
        intro hb
        subst hb
        have h1 := hm 0 l[0] (List.getElem?_eq_getElem hl) 0 (.bool l[0].neg) rfl
        rw [hV.cell] at h1
        have h2 := List.all_eq_true.1 hc _ (List.mem_of_getElem? h1)
        cases h2
      refine .inr ⟨b', o, e, hlt, fun j x hx q v hv => ?_⟩
      have := hm j x hx q v hv
      unfold hcell at this ⊢
      rw [hu.block b' hne]
      exact this
theorem LM.updV {w w' : World} {x : MV} {r c K b : Nat} {F : Nat → Nat → Int} {t : TypeId} {cs : List Value} (hu : Upd b w w') (hV : Vr w.heap b t cs) (h1 : cs.all noU64 = true) (h2 : cs.all noBool = true) (h : LM w.heap x r c F K) : LM w'.heap x r c F K :=
  ⟨h.sh, (sm_updV hu hV h2 h.s).size, fun i j hi hj => ⟨LI.updV hu hV h1 (h.g i j hi hj).1, (h.g i j hi hj).2⟩⟩
theorem LI.zero (H : Array Obj) : LI H 0 ⟨false, ⟨none, 0, 0, []⟩⟩ := ⟨⟨Sl.nil _ _ _ _ _, U64.nil⟩, by simp [dig_zero], rfl⟩
theorem of1_ok (w : World) : Cl Try.prog 28 #[.int .i64 1] w (RetZ w 1 1) := by
  refine enter Try.func28 rfl rfl rfl ?_
  repeat' (first | refine TL.ev (ev_simple rfl) rfl ?_ | refine TL.grun rfl rfl rfl ?_ | refine TL.gskip rfl rfl rfl rfl ?_ | refine TL.gskipU rfl rfl rfl ?_ | (refine TL.call rfl rfl ?_; first | (refine (least_ok _ _ _ _ _ _ hSn (U64.one (by omega)) (by omega)).mono ?_; rintro _ wl ⟨Al, nl, cl, rfl, hOl, hEl, hKl⟩; refine Back.mk ?_; have hSl := hOl.sl (Nat.le_refl _); have hzl := hEl.size) | (refine (of_ok _ _ _ _ _ _ hSl).mono ?_; rintro _ wo ⟨rfl, hLo, hEo⟩; refine Back.mk ?_; have hzo := hEo.size)) | refine TL.ev (ev_len rfl) rfl ?_ | (refine TL.cmpG rfl rfl rfl rfl (fun hc => ?_) (fun hc => ?_) <;> try (exfalso; omega)) | refine TL.ev (ev_arN rfl rfl rfl (by omega)) rfl ?_ | refine TL.ev (ev_arI rfl rfl rfl (by omega)) rfl ?_ | refine TL.ev (ev_neg rfl (by omega)) rfl ?_ | refine TL.ev (ev_shrU rfl rfl (by first | omega | exact U64.getD (by assumption) _)) rfl ?_ | refine TL.ev (ev_shlU rfl rfl) rfl ?_ | refine TL.ev (ev_andU rfl rfl (by first | omega | exact U64.getD (by assumption) _) (by first | omega | exact U64.getD (by assumption) _)) rfl ?_ | refine TL.ev (ev_orU rfl rfl (by first | omega | exact U64.getD (by assumption) _) (by first | omega | exact U64.getD (by assumption) _)) rfl ?_ | refine TL.ev (ev_xorU rfl rfl (by first | omega | exact U64.getD (by assumption) _) (by first | omega | exact U64.getD (by assumption) _)) rfl ?_ | refine TL.ev (ev_convU rfl (by omega)) rfl ?_ | refine TL.ev (ev_convI rfl (by omega)) rfl ?_ | refine TL.ev (ev_arU rfl rfl rfl (by first | exact True.intro | omega)) rfl ?_ | (refine TL.build1U rfl rfl (fun wn bn ebn hBn hEn hzn => ?_); have hSn := hBn.slN (n := 1) (c := 1) rfl (Nat.le_refl _) hBn.lt) | (refine TL.boxA rfl rfl (fun wb bb ebb hVb hEb hzb => ?_); have hlb := box_lo (w0 := w) (by repeat (first | exact Ext.refl _ | (refine Ext.trans ?_ (by assumption)) | (apply ext_upd; assumption; rotate_left; omega))) ebb) | (refine TL.alloc rfl (fun wa ba eba hVa hEa hza => ?_); have hla := box_lo (w0 := w) (by repeat (first | exact Ext.refl _ | (refine Ext.trans ?_ (by assumption)) | (apply ext_upd; assumption; rotate_left; omega))) eba) | (refine TL.ev (ev_fieldAddr rfl) rfl ?_) | (refine TF.s rfl (fun _ _ => ev_fieldAddr rfl) rfl ?_) | (refine TL.ev (ev_loadVX rfl (by refine ⟨?_, ?_⟩; (focus (repeat (first | assumption | (apply Vr.ext; assumption) | (apply Vr.updX; assumption; rotate_left; omega)))); rfl)) rfl ?_) | (refine TF.s rfl (fun _ hh => ev_loadVX rfl (by refine ⟨Vr.ext hh ?_, ?_⟩; (focus (repeat (first | assumption | (apply Vr.ext; assumption) | (apply Vr.updX; assumption; rotate_left; omega)))); rfl)) rfl ?_) | (refine TL.ev (ev_loadVAX rfl (by refine ⟨?_, ?_⟩; (focus (repeat (first | assumption | (apply Vr.ext; assumption) | (apply Vr.updX; assumption; rotate_left; omega)))); rfl)) rfl ?_) | (refine TF.s rfl (fun _ hh => ev_loadVAX rfl (by refine ⟨Vr.ext hh ?_, ?_⟩; (focus (repeat (first | assumption | (apply Vr.ext; assumption) | (apply Vr.updX; assumption; rotate_left; omega)))); rfl)) rfl ?_) | (refine TL.storeVX rfl rfl rfl rfl (by refine ⟨?_, ?_⟩; (focus (repeat (first | assumption | (apply Vr.ext; assumption) | (apply Vr.updX; assumption; rotate_left; omega)))); rfl) (fun ws hVs hUs hzs => ?_)) | (refine TL.storeX rfl rfl rfl rfl (by refine ⟨?_, ?_⟩; (focus (repeat (first | assumption | (apply Vr.ext; assumption) | (apply Vr.updX; assumption; rotate_left; omega)))); rfl) (fun ws hVs hUs hzs => ?_)) | (refine TL.ev (ev_buildX rfl rfl) rfl ?_) | (refine TF.s rfl (fun _ _ => ev_buildX rfl rfl) rfl ?_) | (refine TL.ev (ev_field rfl rfl) rfl ?_) | (refine TL.ev (ev_makeFunc rfl) rfl ?_) | (refine TF.s rfl (fun _ _ => ev_makeFunc rfl) rfl ?_) | refine TF.nil ?_ | refine TF.e rfl ?_ | refine TF.alt ?_ ?_ | refine G.treeEnd rfl ?_ | refine G.tree rfl (by repeat (first | exact Ext.refl _ | (refine Ext.trans ?_ (by assumption)) | (apply ext_upd; assumption; rotate_left; omega))) ?_ | refine TL.nilX (fun wq hzq hEq => ?_) | refine T.seq ?_ | refine T.region ?_ | refine TL.nil ?_ | refine T.block ?_ | refine T.cond_t rfl ?_ | refine T.cond_f rfl ?_ | refine T.exit ?_ | refine T.ret ?_ | refine T.skip ?_ | refine G.next ?_ | refine G.blockN ?_ | refine G.blockE ?_ | refine G.blockE' rfl ?_ | refine G.blockR ?_ | refine G.thenE ?_ | refine G.thenR ?_ | refine T.regionQ mixed (by kernel_rfl) ?_ | refine TL.nilQ (fun _ => ?_) | refine G.only ?_ | refine G.mixed ?_ | refine TM.nil ?_ | refine TM.e rfl ?_)
  exact G.retC1 rfl rfl (held_agg hVs rfl) ⟨_, rfl, LI.updV hUs (by repeat (first | assumption | (apply Vr.ext; assumption) | (apply Vr.updX; assumption; rotate_left; omega))) rfl hLo, (by repeat (first | exact Ext.refl _ | (refine Ext.trans ?_ (by assumption)) | (apply ext_upd; assumption; rotate_left; omega))), hKl⟩
end Go.Proofs.Ytlpheckjogphmaa

namespace Go.Proofs.Ytlpheckjogphmaa
open Go Go.Eng Go.Proofs Go.NatM Go.RowKit

end Go.Proofs.Ytlpheckjogphmaa

namespace Go.Proofs.Ytlpheckjogphmaa
open Go Go.Eng Go.Proofs Go.NatM

theorem list_eq_of {l l' : List Nat} (h1 : l.length = l'.length) (h2 : ∀ j, j < l.length → l.getD j 0 = l'.getD j 0) : l = l' := by
  refine List.ext_getElem h1 fun j h h' => ?_
  have := h2 j h
  simpa [List.getD, h, h'] using this
theorem same_ok (H : Array Obj) (B B' : Nat) (A A' : Option Addr) (n c n' c' : Nat) (l l' : List Nat) (hs : Sl u64v H B A n c l) (hs' : Sl u64v H B' A' n' c' l') (hn : n ≤ 1152921504606846976) (hn' : n' ≤ 1152921504606846976) :
    Pure Try.prog 51 #[.slice A n c, .slice A' n' c'] H (.bool (decide (l = l'))) := by
  refine Pure.of fun w hw => ?_
  subst hw
  have hlen := hs.len
  have hlen' := hs'.len
  refine enter Try.func51 rfl rfl rfl ?_
  repeat' (first | refine TL.ev (ev_simple rfl) rfl ?_ | refine TL.grun rfl rfl rfl ?_ | refine TL.gskip rfl rfl rfl rfl ?_ | refine TL.gskipU rfl rfl rfl ?_ | refine TL.ev (ev_len rfl) rfl ?_ | (refine TL.cmpG rfl rfl rfl rfl (fun hc => ?_) (fun hc => ?_) <;> try (exfalso; omega)) | refine TL.ev (ev_arN rfl rfl rfl (by omega)) rfl ?_ | refine TL.ev (ev_arI rfl rfl rfl (by omega)) rfl ?_ | refine TL.ev (ev_neg rfl (by omega)) rfl ?_ | refine TL.ev (ev_indexN rfl rfl (by omega) (by first | exact Or.inr rfl | exact Sl.some (by assumption))) rfl ?_ | refine TL.ev (ev_index rfl rfl (by omega) (by first | exact Or.inr rfl | exact Sl.some (by assumption))) rfl ?_ | refine TL.ev (ev_loadU rfl (by assumption) (by omega)) rfl ?_ | refine TL.ev (ev_loadI rfl (by assumption) (by omega)) rfl ?_ | refine T.seq ?_ | refine T.region ?_ | refine TL.nil ?_ | refine T.block ?_ | refine T.cond_t rfl ?_ | refine T.cond_f rfl ?_ | refine T.exit ?_ | refine T.ret ?_ | refine T.skip ?_ | refine G.next ?_ | refine G.blockN ?_ | refine G.blockE ?_ | refine G.blockE' rfl ?_ | refine G.blockR ?_ | refine G.thenE ?_ | refine G.thenR ?_ | refine T.regionQ mixed (by kernel_rfl) ?_ | refine TL.nilQ (fun _ => ?_) | refine G.only ?_ | refine G.mixed ?_ | refine TM.nil ?_ | refine TM.e rfl ?_)
  · refine G.ret1 rfl rfl ⟨?_, Qt.refl _⟩
    rw [decide_eq_false (fun h => hc (by subst h; omega))]
  · refine T.loop (fun k : Nat => [(0, .slice A n c), (1, .slice A' n' c'), (5, .int .i64 (k : Int))]) (fun k w' => Qt w w' ∧ k ≤ n ∧ ∀ j, j < k → l.getD j 0 = l'.getD j 0) (fun k => n - k) 0 (by repeat (first | exact Sub.nil _ | refine Sub.cons rfl ?_ | refine Sub.cons' rfl (int_congr (by omega)) ?_)) ⟨Qt.refl w, Nat.zero_le _, fun j hj => by omega⟩ ?_
    rintro k w' ⟨⟨q, rfl⟩, hk, hz⟩
    have hq : Qt w (w.drewN q) := ⟨q, rfl⟩
    repeat' (first | refine TL.ev (ev_simple rfl) rfl ?_ | refine TL.grun rfl rfl rfl ?_ | refine TL.gskip rfl rfl rfl rfl ?_ | refine TL.gskipU rfl rfl rfl ?_ | refine TL.ev (ev_len rfl) rfl ?_ | (refine TL.cmpG rfl rfl rfl rfl (fun hc => ?_) (fun hc => ?_) <;> try (exfalso; omega)) | refine TL.ev (ev_arN rfl rfl rfl (by omega)) rfl ?_ | refine TL.ev (ev_arI rfl rfl rfl (by omega)) rfl ?_ | refine TL.ev (ev_neg rfl (by omega)) rfl ?_ | refine TL.ev (ev_indexN rfl rfl (by omega) (by first | exact Or.inr rfl | exact Sl.some (by assumption))) rfl ?_ | refine TL.ev (ev_index rfl rfl (by omega) (by first | exact Or.inr rfl | exact Sl.some (by assumption))) rfl ?_ | refine TL.ev (ev_loadU rfl (by assumption) (by omega)) rfl ?_ | refine TL.ev (ev_loadI rfl (by assumption) (by omega)) rfl ?_ | refine T.seq ?_ | refine T.region ?_ | refine TL.nil ?_ | refine T.block ?_ | refine T.cond_t rfl ?_ | refine T.cond_f rfl ?_ | refine T.exit ?_ | refine T.ret ?_ | refine T.skip ?_ | refine G.next ?_ | refine G.blockN ?_ | refine G.blockE ?_ | refine G.blockE' rfl ?_ | refine G.blockR ?_ | refine G.thenE ?_ | refine G.thenR ?_ | refine T.regionQ mixed (by kernel_rfl) ?_ | refine TL.nilQ (fun _ => ?_) | refine G.only ?_ | refine G.mixed ?_ | refine TM.nil ?_ | refine TM.e rfl ?_)
    · refine G.ret1 rfl rfl ⟨?_, hq.drewN _⟩
      rw [decide_eq_false (fun h => hc (by subst h; rfl))]
    · refine G.again (k + 1) (by repeat (first | exact Sub.nil _ | refine Sub.cons rfl ?_ | refine Sub.cons' rfl (int_congr (by omega)) ?_)) ⟨hq.drewN _, by omega, fun j hj => ?_⟩ (by omega)
      rcases Nat.lt_or_ge j k with h | h
      · exact hz j h
      · obtain rfl : j = k := by omega
        omega
    · refine G.ret1 rfl rfl ⟨?_, hq⟩
      rw [decide_eq_true (list_eq_of (by omega) (fun j hj => hz j (by omega)))]
theorem same_t (H : Array Obj) (B B' : Nat) (A A' : Option Addr) (n c n' c' : Nat) (l l' : List Nat) (hs : Sl u64v H B A n c l) (hs' : Sl u64v H B' A' n' c' l') (hn : n ≤ 1152921504606846976) (hn' : n' ≤ 1152921504606846976) (h : l = l') :
    Pure Try.prog 51 #[.slice A n c, .slice A' n' c'] H (.bool true) := by
  have := same_ok H B B' A A' n c n' c' l l' hs hs' hn hn'
  rwa [decide_eq_true h] at this
end Go.Proofs.Ytlpheckjogphmaa

namespace Go.Proofs.Ytlpheckjogphmaa
open Go Go.Eng Go.Proofs Go.NatM Go.RowKit

def YesM (w : World) (e : Ending) (w' : World) : Prop := e = .returned (.bool true) ∧ Ext w w'
end Go.Proofs.Ytlpheckjogphmaa

namespace Go.Proofs.Ytlpheckjogphmaa
open Go Go.Eng Go.Proofs Go.NatM Go.RowKit

end Go.Proofs.Ytlpheckjogphmaa

namespace Go.Proofs.Ytlpheckjogphmaa
open Go Go.Eng Go.Proofs Go.NatM Go.RowKit

/-- a matrix that reads, sound or not; entries of at most K words -/
structure RM (H : Array Obj) (x : MV) (K : Nat) : Prop where
  s : Sm 2 ivc H H.size x.A x.n x.k x.l
  g : ∀ y ∈ x.l, GI H y ∧ y.m.n ≤ K
theorem GM.updV {w w' : World} {x : MV} {r c K b : Nat} {t : TypeId} {cs : List Value} (hu : Upd b w w') (hV : Vr w.heap b t cs) (h1 : cs.all noU64 = true) (h2 : cs.all noBool = true) (h : GM w.heap x r c K) : GM w'.heap x r c K :=
  ⟨h.sh, (sm_updV hu hV h2 h.s).size, fun y hy => ⟨⟨(sl_updV hu hV h1 (h.g y hy).1.s).size, (h.g y hy).1.u⟩, (h.g y hy).2⟩⟩
end Go.Proofs.Ytlpheckjogphmaa

namespace Go.Proofs.Ytlpheckjogphmaa
open Go Go.Eng Go.Proofs Go.NatM Go.RowKit

theorem Sl.deS {F : Nat → Prop} {H H' : Array Obj} {n c : Nat} {A : Option Addr} {l : List Nat} (hd : DE F H H') (h : Sl u64v H H.size A n c l) : Sl u64v H' H'.size A n c l := (Sl.de hd h).size
theorem Sm.deS {F : Nat → Prop} {H H' : Array Obj} {n c : Nat} {A : Option Addr} {l : List IV} (hF : ∀ b, fpA A n b → F b) (hd : DE F H H') (h : Sm 2 ivc H H.size A n c l) : Sm 2 ivc H' H'.size A n c l := (Sm.de hF hd h).size
theorem GI.de {F : Nat → Prop} {H H' : Array Obj} {x : IV} (hd : DE F H H') (h : GI H x) : GI H' x := ⟨Sl.deS hd h.s, h.u⟩
theorem LI.de {F : Nat → Prop} {H H' : Array Obj} {x : IV} {z : Int} (hd : DE F H H') (h : LI H z x) : LI H' z x := ⟨h.g.de hd, h.d, h.e⟩
theorem GM.de {H H' : Array Obj} {x : MV} {r c K : Nat} (hd : DE (fpA x.A x.n) H H') (h : GM H x r c K) : GM H' x r c K := ⟨h.sh, Sm.deS (fun _ h => h) hd h.s, fun y hy => ⟨(h.g y hy).1.de hd, (h.g y hy).2⟩⟩
theorem LM.de {H H' : Array Obj} {x : MV} {r c K : Nat} {F : Nat → Nat → Int} (hd : DE (fpA x.A x.n) H H') (h : LM H x r c F K) : LM H' x r c F K := ⟨h.sh, Sm.deS (fun _ h => h) hd h.s, fun i j hi hj => ⟨(h.g i j hi hj).1.de hd, (h.g i j hi hj).2⟩⟩
theorem RM.de {H H' : Array Obj} {x : MV} {K : Nat} (hd : DE (fpA x.A x.n) H H') (h : RM H x K) : RM H' x K := ⟨Sm.deS (fun _ h => h) hd h.s, fun y hy => ⟨(h.g y hy).1.de hd, (h.g y hy).2⟩⟩
def dpSl (A : Option Addr) (n c : Nat) (l : List Nat) : DP := ⟨fun H => Sl u64v H H.size A n c l, fun _ => False, fun _ _ _ h => h.elim, fun _ _ hd h => Sl.deS hd h⟩
def dpGI (x : IV) : DP := ⟨fun H => GI H x, fun _ => False, fun _ _ _ h => h.elim, fun _ _ hd h => h.de hd⟩
def dpLI (z : Int) (x : IV) : DP := ⟨fun H => LI H z x, fun _ => False, fun _ _ _ h => h.elim, fun _ _ hd h => h.de hd⟩
section
variable {S : Nat → Prop} {w0 w w' : World} {L : List VB} {D : List DP}
theorem Fr.addSl (h : Fr w0 w L D S) {A : Option Addr} {n c : Nat} {l : List Nat} (k : Sl u64v w.heap w.heap.size A n c l) : Fr w0 w L (dpSl A n c l :: D) S := h.add _ k fun _ _ h => h
theorem Fr.addLI (h : Fr w0 w L D S) {x : IV} {z : Int} (k : LI w.heap z x) : Fr w0 w L (dpLI z x :: D) S := h.add _ k fun _ _ h => h
theorem Fr.sl (h : Fr w0 w L D S) {A : Option Addr} {n c : Nat} {l : List Nat} (hm : dpSl A n c l ∈ D) : Sl u64v w.heap w.heap.size A n c l := h.data _ hm
theorem Fr.gi (h : Fr w0 w L D S) {x : IV} (hm : dpGI x ∈ D) : GI w.heap x := h.data _ hm
theorem Fr.li (h : Fr w0 w L D S) {x : IV} {z : Int} (hm : dpLI z x ∈ D) : LI w.heap z x := h.data _ hm
end
attribute [irreducible] dpSl dpGI dpLI

end Go.Proofs.Ytlpheckjogphmaa

namespace Go.Proofs.Ytlpheckjogphmaa
open Go Go.Eng Go.Proofs Go.NatM Go.RowKit

/-- the first i of a list are Z, in least form, of at most K words -/
def LsK (i : Nat) (l : List IV) (Z : Nat → Int) (K : Nat) (H : Array Obj) : Prop := ∀ q, q < i → LI H (Z q) (l.getD q default) ∧ (l.getD q default).m.n ≤ K
section
variable {S : Nat → Prop} {w0 w w' : World} {L : List VB} {D : List DP}
end

theorem LsK.set {H : Array Obj} {l : List IV} {Z : Nat → Int} {i K : Nat} {u : IV} (h : LsK i l Z K H) (hi : i < l.length) (hu : LI H (Z i) u) (hn : u.m.n ≤ K) : LsK (i + 1) (l.set i u) Z K H := by
  intro q hq
  by_cases e : q = i
  · subst e
    have e1 : (l.set q u).getD q default = u := by simp [List.getD, hi]
    rw [e1]; exact ⟨hu, hn⟩
  · have e1 : (l.set i u).getD q default = l.getD q default := by simp [List.getD, List.getElem?_set_ne (fun h => e h.symm)]
    rw [e1]; exact h q (by omega)
/-- a list in memory: the numbers Z in least form, of at most K words each -/
structure LL (H : Array Obj) (A : Option Addr) (n k : Nat) (l : List IV) (Z : Nat → Int) (K : Nat) : Prop where
  s : Sm 2 ivc H H.size A n k l
  g : LsK n l Z K H
theorem LL.ext {w w' : World} {A : Option Addr} {n k K : Nat} {l : List IV} {Z : Nat → Int} (hE : Ext w w') (h : LL w.heap A n k l Z K) : LL w'.heap A n k l Z K := ⟨(h.s.ext hE).size, fun q hq => ⟨(h.g q hq).1.ext hE, (h.g q hq).2⟩⟩
theorem LL.de {H H' : Array Obj} {A : Option Addr} {n k K : Nat} {l : List IV} {Z : Nat → Int} (hd : DE (fpA A n) H H') (h : LL H A n k l Z K) : LL H' A n k l Z K := ⟨Sm.deS (fun _ h => h) hd h.s, fun q hq => ⟨(h.g q hq).1.de hd, (h.g q hq).2⟩⟩
end Go.Proofs.Ytlpheckjogphmaa
