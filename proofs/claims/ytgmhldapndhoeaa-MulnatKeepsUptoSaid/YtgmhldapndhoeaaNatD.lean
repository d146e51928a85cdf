/- Layer 1: contracts of math/bits.Len64 and nat.BitLen. -/
import Derived.Test.YtgmhldapndhoeaaNatA
set_option linter.unusedVariables false
set_option linter.unusedSimpArgs false
namespace Go.Proofs.Ytgmhldapndhoeaa
open Go Go.Eng Go.Proofs Go.NatM

theorem tab_gen (s : ByteArray) (hs : (List.range 256).all (fun v => (s.data[v]?).map (fun u => u.toNat) == some (bl v)) = true) (m : Nat) (hm : m < 256) : (s.data[m]?).map (fun u => u.toNat) = some (bl m) := by
  have := List.all_eq_true.1 hs m (List.mem_range.2 hm)
  simpa using this
theorem bl_le64 {n : Nat} (h : n < 18446744073709551616) : bl n ≤ 64 := bl_le.2 (by omega)
theorem bl_le8 {n : Nat} (h : n < 256) : bl n ≤ 8 := bl_le.2 (by omega)

theorem bl_i64 {n : Nat} (h : n < 256) : -9223372036854775808 ≤ ((bl n : Nat) : Int) ∧ ((bl n : Nat) : Int) < 9223372036854775808 := by have := bl_le8 h; omega
theorem bl_add {m n : Nat} (hm : m ≤ 1000) (h : n < 256) : m + bl n < 9223372036854775808 := by have := bl_le8 h; omega
theorem sh (k y : Nat) (h : 1 ≤ y / 2 ^ k) (j : Nat) : j + bl y = (j + k) + bl (y / 2 ^ k) := by rw [bl_shift h, Nat.add_assoc]
theorem ret_bl {m x : Nat} (h : m = bl x) : Ending.returned (.int .i64 (m : Int)) = Ending.returned (.int .i64 (bl x : Int)) := by rw [h]

set_option maxHeartbeats 2000000 in
theorem len64_ok (H : Array Obj) {z : Int} {x : Nat} [e0 : IsN z x] (hx : x < 18446744073709551616) : Pure Try.prog 47 #[.int .u64 z] H (.int .i64 (bl x : Int)) := by
  obtain rfl := e0.out
  refine Pure.of fun w hw => ?_
  subst hw
  refine enter Try.func47 rfl rfl rfl ?_
  repeat' (first | refine TL.ev (ev_simple rfl) rfl ?_ | refine TL.grun rfl rfl rfl ?_ | refine TL.gskip rfl rfl rfl rfl ?_ | refine TL.gskipU rfl rfl rfl ?_ | refine TL.ev (ev_len rfl) rfl ?_ | (refine TL.cmpG rfl rfl rfl rfl (fun hc => ?_) (fun hc => ?_) <;> try (exfalso; omega)) | refine TL.ev (ev_shrU rfl rfl (by first | omega | exact U64.getD (by assumption) _)) rfl ?_ | refine TL.ev (ev_shlU rfl rfl) rfl ?_ | refine TL.ev (ev_andU rfl rfl (by first | omega | exact U64.getD (by assumption) _) (by first | omega | exact U64.getD (by assumption) _)) rfl ?_ | refine TL.ev (ev_orU rfl rfl (by first | omega | exact U64.getD (by assumption) _) (by first | omega | exact U64.getD (by assumption) _)) rfl ?_ | refine TL.ev (ev_xorU rfl rfl (by first | omega | exact U64.getD (by assumption) _) (by first | omega | exact U64.getD (by assumption) _)) rfl ?_ | refine TL.ev (ev_convU rfl (by omega)) rfl ?_ | refine TL.ev (ev_convI rfl (by omega)) rfl ?_ | refine TL.ev (ev_arU rfl rfl rfl (by first | exact True.intro | omega)) rfl ?_ | (refine TL.ev (ev_conv (kd := .u8) rfl (IntWalk.u8_in _ (by omega))) rfl ?_) | (refine TL.ev (ev_convI rfl (bl_i64 (by omega))) rfl ?_) | (refine TL.ev (ev_stridx Try.underlying9 rfl rfl (tab_gen _ (by decide +kernel) _ (by omega))) rfl ?_) | (refine TL.ev (ev_addN rfl rfl (bl_add (by omega) (by omega))) rfl ?_) | (refine TL.ev (ev_addN rfl rfl (by omega)) rfl ?_) | refine T.seq ?_ | refine T.region ?_ | refine TL.nil ?_ | refine T.block ?_ | refine T.cond_t rfl ?_ | refine T.cond_f rfl ?_ | refine T.exit ?_ | refine T.ret ?_ | refine T.skip ?_ | refine G.next ?_ | refine G.blockN ?_ | refine G.blockE ?_ | refine G.blockE' rfl ?_ | refine G.blockR ?_ | refine G.thenE ?_ | refine G.thenR ?_ | refine T.regionQ mixed (by kernel_rfl) ?_ | refine TL.nilQ (fun _ => ?_) | refine G.only ?_ | refine G.mixed ?_ | refine TM.nil ?_ | refine TM.e rfl ?_)
  all_goals refine G.ret1 rfl rfl ⟨ret_bl (Eq.symm ?_), Qt.refl _⟩
  all_goals rw [← Nat.zero_add (bl x)]
  all_goals first
    | rw [sh 32 x (by omega), sh 16 (x / 2 ^ 32) (by omega), sh 8 (x / 2 ^ 32 / 2 ^ 16) (by omega)]
    | rw [sh 32 x (by omega), sh 16 (x / 2 ^ 32) (by omega)]
    | rw [sh 32 x (by omega), sh 8 (x / 2 ^ 32) (by omega)]
    | rw [sh 32 x (by omega)]
    | rw [sh 16 x (by omega), sh 8 (x / 2 ^ 16) (by omega)]
    | rw [sh 16 x (by omega)]
    | rw [sh 8 x (by omega)]
    | simp
theorem bitlen_ok (H : Array Obj) (B : Nat) (A : Option Addr) (n c : Nat) (l : List Nat) (hs : Sl u64v H B A n c l) (hu : U64 l) (hn : n ≤ 35184372088832) :
    Pure Try.prog 31 #[.slice A n c] H (.int .i64 (bl (val l) : Int)) := by
  refine Pure.of fun w hw => ?_
  subst hw
  have hlen := hs.len
  have hsz := sz_le l
  have hb := bl_le64 (hu.getD (sz l - 1))
  refine enter Try.func31 rfl rfl rfl ?_
  repeat' (first | refine TL.ev (ev_simple rfl) rfl ?_ | refine TL.grun rfl rfl rfl ?_ | refine TL.gskip rfl rfl rfl rfl ?_ | refine TL.gskipU rfl rfl rfl ?_ | refine TL.ev (ev_len rfl) rfl ?_ | (refine TL.cmpG rfl rfl rfl rfl (fun hc => ?_) (fun hc => ?_) <;> try (exfalso; omega)) | refine TL.ev (ev_arN rfl rfl rfl (by omega)) rfl ?_ | refine TL.ev (ev_arI rfl rfl rfl (by omega)) rfl ?_ | refine TL.ev (ev_neg rfl (by omega)) rfl ?_ | refine TL.ev (ev_indexN rfl rfl (by omega) (by first | exact Or.inr rfl | exact Sl.some (by assumption))) rfl ?_ | refine TL.ev (ev_index rfl rfl (by omega) (by first | exact Or.inr rfl | exact Sl.some (by assumption))) rfl ?_ | refine TL.ev (ev_loadU rfl (by assumption) (by omega)) rfl ?_ | refine TL.ev (ev_loadI rfl (by assumption) (by omega)) rfl ?_ | (refine TL.callP rfl rfl (size_ok _ _ _ _ _ _ hs (by omega)) (fun _ => ?_)) | (refine TL.callP rfl rfl (len64_ok _ (hu.getD _)) (fun _ => ?_)) | refine T.seq ?_ | refine T.region ?_ | refine TL.nil ?_ | refine T.block ?_ | refine T.cond_t rfl ?_ | refine T.cond_f rfl ?_ | refine T.exit ?_ | refine T.ret ?_ | refine T.skip ?_ | refine G.next ?_ | refine G.blockN ?_ | refine G.blockE ?_ | refine G.blockE' rfl ?_ | refine G.blockR ?_ | refine G.thenE ?_ | refine G.thenR ?_ | refine T.regionQ mixed (by kernel_rfl) ?_ | refine TL.nilQ (fun _ => ?_) | refine G.only ?_ | refine G.mixed ?_ | refine TM.nil ?_ | refine TM.e rfl ?_)
  · refine G.ret1 rfl rfl ⟨?_, (Qt.refl w).drewN _⟩
    rw [val_eq_zero (show sz l = 0 by omega)]; rfl
  · refine G.ret1 rfl rfl ⟨ret_bl ?_, ((Qt.refl w).drewN _).drewN _⟩
    rw [bl_val hu (by omega)]
end Go.Proofs.Ytgmhldapndhoeaa
