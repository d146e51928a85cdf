/- Layer 1, by the table of math/bits: contracts of TrailingZeros64, nat.Twos, nat.Bit, nat.Shr. -/
import Derived.Test.YtgmhldapndhoeaaDoorNatD
import Derived.Test.YtgmhldapndhoeaaDoorMathC
import Derived.Test.YtgmhldapndhoeaaDoorArrs
import Derived.Test.YtgmhldapndhoeaaDoorMulE
set_option linter.unusedVariables false
set_option linter.unusedSimpArgs false
namespace Go.Proofs.YtgmhldapndhoeaaDoor
open Go Go.Eng Go.Proofs Go.NatM

def tabN : List Int := [0, 1, 56, 2, 57, 49, 28, 3, 61, 58, 42, 50, 38, 29, 17, 4, 62, 47, 59, 36, 45, 43, 51, 22, 53, 39, 33, 30, 24, 18, 12, 5, 63, 55, 48, 27, 60, 41, 37, 16, 46, 35, 44, 21, 52, 32, 23, 11, 54, 26, 40, 15, 34, 20, 31, 10, 25, 14, 19, 9, 13, 8, 7, 6]
/-- the table lies in its place -/
def Tab (H : Array Obj) : Prop := ∀ m, m < 64 → hcell H 0 m = some (.int .u8 (tabN.getD m 0))
theorem Tab.ext {w w' : World} (h : Tab w.heap) (hE : Ext w w') : Tab w'.heap := fun m hm => by
  have := h m hm
  rw [hcell_below hE (hcell_lt this), this]
theorem tab_at : ∀ k : Nat, k < 64 → tabN.getD ((2 ^ k * 285870213051353865 % 18446744073709551616) / 2 ^ 58) 0 = (k : Int) := by decide +kernel
theorem tab_lt (k : Nat) : (2 ^ k * 285870213051353865 % 18446744073709551616) / 2 ^ 58 < 64 := by omega

theorem tz64_ok (H : Array Obj) (hT : Tab H) {z : Int} {x : Nat} [e0 : IsN z x] (hx : x < 18446744073709551616) (h0 : x ≠ 0) : Pure Tryd.prog 30 #[.int .u64 z] H (.int .i64 (tz x : Int)) := by
  obtain rfl := e0.out
  refine Pure.of fun w hw => ?_
  subst hw
  have h1 := and_neg h0 hx
  have hk := tz_lt (k := 64) h0 hx
  have h2 := hT _ (tab_lt (tz x))
  rw [tab_at _ hk, ← h1, ← Nat.zero_add (_ / _)] at h2
  have h3 := tab_lt (tz x)
  rw [← h1] at h3
  have h4 : 18446744073709551616 - x < 18446744073709551616 := by omega
  refine enter Tryd.func30 rfl rfl rfl ?_
  repeat' (first | refine TL.ev (ev_simple rfl) rfl ?_ | refine TL.grun rfl rfl rfl ?_ | refine TL.gskip rfl rfl rfl rfl ?_ | refine TL.gskipU rfl rfl rfl ?_ | refine TL.ev (ev_len rfl) rfl ?_ | (refine TL.cmpG rfl rfl rfl rfl (fun hc => ?_) (fun hc => ?_) <;> try (exfalso; omega)) | refine TL.ev (ev_shrU rfl rfl (by first | omega | exact U64.getD (by assumption) _)) rfl ?_ | refine TL.ev (ev_shlU rfl rfl) rfl ?_ | refine TL.ev (ev_andU rfl rfl (by first | omega | exact U64.getD (by assumption) _) (by first | omega | exact U64.getD (by assumption) _)) rfl ?_ | refine TL.ev (ev_orU rfl rfl (by first | omega | exact U64.getD (by assumption) _) (by first | omega | exact U64.getD (by assumption) _)) rfl ?_ | refine TL.ev (ev_xorU rfl rfl (by first | omega | exact U64.getD (by assumption) _) (by first | omega | exact U64.getD (by assumption) _)) rfl ?_ | refine TL.ev (ev_convU rfl (by omega)) rfl ?_ | refine TL.ev (ev_convI rfl (by omega)) rfl ?_ | refine TL.ev (ev_arU rfl rfl rfl (by first | exact True.intro | omega)) rfl ?_ | (refine TL.ev (ev_negU rfl (by omega)) rfl ?_) | (refine TL.ev (ev_indexArr rfl rfl h3) rfl ?_) | (refine TL.ev (ev_load rfl h2) rfl ?_) | refine T.seq ?_ | refine T.region ?_ | refine TL.nil ?_ | refine T.block ?_ | refine T.cond_t rfl ?_ | refine T.cond_f rfl ?_ | refine T.exit ?_ | refine T.ret ?_ | refine T.skip ?_ | refine G.next ?_ | refine G.blockN ?_ | refine G.blockE ?_ | refine G.blockE' rfl ?_ | refine G.blockR ?_ | refine G.thenE ?_ | refine G.thenR ?_ | refine T.regionQ mixed (by kernel_rfl) ?_ | refine TL.nilQ (fun _ => ?_) | refine G.only ?_ | refine G.mixed ?_ | refine TM.nil ?_ | refine TM.e rfl ?_)
  exact G.ret1 rfl rfl ⟨rfl, Qt.refl _⟩

/-- what Twos answers -/
def twosI (n : Nat) : Int := if n = 0 then -1 else tz n
theorem val_ne {l : List Nat} {i : Nat} (h : l.getD i 0 ≠ 0) : val l ≠ 0 := by
  intro hv
  have h1 := val_take_succ l i
  have h2 := val_split l (i + 1)
  rw [hv] at h2
  have h3 : val (l.take (i + 1)) = 0 := by omega
  rw [h1] at h3
  have h4 : 0 < 18446744073709551616 ^ i * l.getD i 0 := Nat.mul_pos (Nat.pow_pos (by omega)) (by omega)
  omega
theorem twos_ok (H : Array Obj) (hT : Tab H) (B : Nat) (A : Option Addr) (n c : Nat) (l : List Nat) (hs : Sl u64v H B A n c l) (hu : U64 l) (hn : n ≤ 35184372088832) :
    Pure Tryd.prog 10 #[.slice A n c] H (.int .i64 (twosI (val l))) := by
  refine Pure.of fun w hw => ?_
  subst hw
  have hlen := hs.len
  refine enter Tryd.func10 rfl rfl rfl ?_
  repeat' (first | refine TL.ev (ev_simple rfl) rfl ?_ | refine TL.grun rfl rfl rfl ?_ | refine TL.gskip rfl rfl rfl rfl ?_ | refine TL.gskipU rfl rfl rfl ?_ | refine TL.ev (ev_len rfl) rfl ?_ | (refine TL.cmpG rfl rfl rfl rfl (fun hc => ?_) (fun hc => ?_) <;> try (exfalso; omega)) | refine TL.ev (ev_arN rfl rfl rfl (by omega)) rfl ?_ | refine TL.ev (ev_arI rfl rfl rfl (by omega)) rfl ?_ | refine TL.ev (ev_neg rfl (by omega)) rfl ?_ | refine T.seq ?_ | refine T.region ?_ | refine TL.nil ?_ | refine T.block ?_ | refine T.cond_t rfl ?_ | refine T.cond_f rfl ?_ | refine T.exit ?_ | refine T.ret ?_ | refine T.skip ?_ | refine G.next ?_ | refine G.blockN ?_ | refine G.blockE ?_ | refine G.blockE' rfl ?_ | refine G.blockR ?_ | refine G.thenE ?_ | refine G.thenR ?_ | refine T.regionQ mixed (by kernel_rfl) ?_ | refine TL.nilQ (fun _ => ?_) | refine G.only ?_ | refine G.mixed ?_ | refine TM.nil ?_ | refine TM.e rfl ?_)
  refine T.loop (fun k : Nat => [(5, .slice A n c), (6, .int .i64 (n : Int)), (7, .int .i64 (k : Int))]) (fun k w' => w' = w ∧ k ≤ n ∧ ∀ j, j < k → l.getD j 0 = 0) (fun k => n - k) 0 (by repeat (first | exact Sub.nil _ | refine Sub.cons rfl ?_ | refine Sub.cons' rfl (int_congr (by omega)) ?_)) ⟨rfl, Nat.zero_le _, fun j hj => by omega⟩ ?_
  rintro k w' ⟨rfl, hk, hz⟩
  have hx := hu.getD k
  rcases Nat.eq_zero_or_pos (l.getD k 0) with h0 | h0
  · repeat' (first | refine TL.ev (ev_simple rfl) rfl ?_ | refine TL.grun rfl rfl rfl ?_ | refine TL.gskip rfl rfl rfl rfl ?_ | refine TL.gskipU rfl rfl rfl ?_ | refine TL.ev (ev_len rfl) rfl ?_ | (refine TL.cmpG rfl rfl rfl rfl (fun hc => ?_) (fun hc => ?_) <;> try (exfalso; omega)) | refine TL.ev (ev_arN rfl rfl rfl (by omega)) rfl ?_ | refine TL.ev (ev_arI rfl rfl rfl (by omega)) rfl ?_ | refine TL.ev (ev_neg rfl (by omega)) rfl ?_ | refine TL.ev (ev_indexN rfl rfl (by omega) (by first | exact Or.inr rfl | exact Sl.some (by assumption))) rfl ?_ | refine TL.ev (ev_index rfl rfl (by omega) (by first | exact Or.inr rfl | exact Sl.some (by assumption))) rfl ?_ | refine TL.ev (ev_loadU rfl (by assumption) (by omega)) rfl ?_ | refine TL.ev (ev_loadI rfl (by assumption) (by omega)) rfl ?_ | refine T.seq ?_ | refine T.region ?_ | refine TL.nil ?_ | refine T.block ?_ | refine T.cond_t rfl ?_ | refine T.cond_f rfl ?_ | refine T.exit ?_ | refine T.ret ?_ | refine T.skip ?_ | refine G.next ?_ | refine G.blockN ?_ | refine G.blockE ?_ | refine G.blockE' rfl ?_ | refine G.blockR ?_ | refine G.thenE ?_ | refine G.thenR ?_ | refine T.regionQ mixed (by kernel_rfl) ?_ | refine TL.nilQ (fun _ => ?_) | refine G.only ?_ | refine G.mixed ?_ | refine TM.nil ?_ | refine TM.e rfl ?_)
    · refine G.again (k + 1) (by repeat (first | exact Sub.nil _ | refine Sub.cons rfl ?_ | refine Sub.cons' rfl (int_congr (by omega)) ?_)) ⟨rfl, by omega, fun j hj => ?_⟩ (by omega)
      rcases Nat.lt_or_ge j k with h | h
      · exact hz j h
      · obtain rfl : j = k := by omega
        exact h0
    · have : val l = 0 := val_zero_of fun j => by
        rcases Nat.lt_or_ge j k with h | h
        · exact hz j h
        · exact getD_ge (by omega)
      exact G.ret1 rfl rfl ⟨by rw [twosI, if_pos this], Qt.refl _⟩
  · have ht := tz_lt (k := 64) (by omega) hx
    have hv := twos_val l k hu hz (by omega)
    have hne := val_ne (l := l) (i := k) (by omega)
    have hkn : k < n := by
      rcases Nat.lt_or_ge k n with h | h
      · exact h
      · rw [getD_ge (by omega)] at h0; omega
    repeat' (first | refine TL.ev (ev_simple rfl) rfl ?_ | refine TL.grun rfl rfl rfl ?_ | refine TL.gskip rfl rfl rfl rfl ?_ | refine TL.gskipU rfl rfl rfl ?_ | refine TL.ev (ev_len rfl) rfl ?_ | (refine TL.cmpG rfl rfl rfl rfl (fun hc => ?_) (fun hc => ?_) <;> try (exfalso; omega)) | refine TL.ev (ev_arN rfl rfl rfl (by omega)) rfl ?_ | refine TL.ev (ev_arI rfl rfl rfl (by omega)) rfl ?_ | refine TL.ev (ev_neg rfl (by omega)) rfl ?_ | refine TL.ev (ev_indexN rfl rfl (by omega) (by first | exact Or.inr rfl | exact Sl.some (by assumption))) rfl ?_ | refine TL.ev (ev_index rfl rfl (by omega) (by first | exact Or.inr rfl | exact Sl.some (by assumption))) rfl ?_ | refine TL.ev (ev_loadU rfl (by assumption) (by omega)) rfl ?_ | refine TL.ev (ev_loadI rfl (by assumption) (by omega)) rfl ?_ | (refine TL.callP rfl rfl (tz64_ok _ hT hx (by omega)) (fun q1 => ?_)) | refine T.seq ?_ | refine T.region ?_ | refine TL.nil ?_ | refine T.block ?_ | refine T.cond_t rfl ?_ | refine T.cond_f rfl ?_ | refine T.exit ?_ | refine T.ret ?_ | refine T.skip ?_ | refine G.next ?_ | refine G.blockN ?_ | refine G.blockE ?_ | refine G.blockE' rfl ?_ | refine G.blockR ?_ | refine G.thenE ?_ | refine G.thenR ?_ | refine T.regionQ mixed (by kernel_rfl) ?_ | refine TL.nilQ (fun _ => ?_) | refine G.only ?_ | refine G.mixed ?_ | refine TM.nil ?_ | refine TM.e rfl ?_)
    refine G.ret1 rfl rfl ⟨?_, (Qt.refl _).drewN _⟩
    rw [twosI, if_neg hne, hv]

/-- what Bit answers -/
def bitI (n : Nat) (i : Int) : Int := if i < 0 then 0 else ((n / 2 ^ i.toNat % 2 : Nat) : Int)
theorem bit_neg (H : Array Obj) (v : Value) (i : Int) (hi : i < 0) : Pure Tryd.prog 9 #[v, .int .i64 i] H (.int .i64 0) := by
  refine Pure.of fun w hw => ?_
  subst hw
  refine enter Tryd.func9 rfl rfl rfl ?_
  repeat' (first | refine TL.ev (ev_simple rfl) rfl ?_ | refine TL.grun rfl rfl rfl ?_ | refine TL.gskip rfl rfl rfl rfl ?_ | refine TL.gskipU rfl rfl rfl ?_ | refine TL.ev (ev_len rfl) rfl ?_ | (refine TL.cmpG rfl rfl rfl rfl (fun hc => ?_) (fun hc => ?_) <;> try (exfalso; omega)) | refine TL.ev (ev_arN rfl rfl rfl (by omega)) rfl ?_ | refine TL.ev (ev_arI rfl rfl rfl (by omega)) rfl ?_ | refine TL.ev (ev_neg rfl (by omega)) rfl ?_ | refine T.seq ?_ | refine T.region ?_ | refine TL.nil ?_ | refine T.block ?_ | refine T.cond_t rfl ?_ | refine T.cond_f rfl ?_ | refine T.exit ?_ | refine T.ret ?_ | refine T.skip ?_ | refine G.next ?_ | refine G.blockN ?_ | refine G.blockE ?_ | refine G.blockE' rfl ?_ | refine G.blockR ?_ | refine G.thenE ?_ | refine G.thenR ?_ | refine T.regionQ mixed (by kernel_rfl) ?_ | refine TL.nilQ (fun _ => ?_) | refine G.only ?_ | refine G.mixed ?_ | refine TM.nil ?_ | refine TM.e rfl ?_)
  exact G.ret1 rfl rfl ⟨rfl, Qt.refl _⟩
theorem bit_ok (H : Array Obj) (B : Nat) (A : Option Addr) (n c : Nat) (l : List Nat) {z : Int} {i : Nat} [e0 : IsN z i] (hs : Sl u64v H B A n c l) (hu : U64 l) (hi : i < 9223372036854775808) :
    Pure Tryd.prog 9 #[.slice A n c, .int .i64 z] H (.int .i64 ((val l / 2 ^ i % 2 : Nat) : Int)) := by
  obtain rfl := e0.out
  refine Pure.of fun w hw => ?_
  subst hw
  have hlen := hs.len
  have hx := hu.getD (i / 64)
  have hx2 : l.getD (i / 64) 0 / 2 ^ (i % 64) < 18446744073709551616 := Nat.lt_of_le_of_lt (Nat.div_le_self _ _) hx
  have hb := bit_val hu i
  have ha := Nat.and_one_is_mod (l.getD (i / 64) 0 / 2 ^ (i % 64))
  refine enter Tryd.func9 rfl rfl rfl ?_
  repeat' (first | refine TL.ev (ev_simple rfl) rfl ?_ | refine TL.grun rfl rfl rfl ?_ | refine TL.gskip rfl rfl rfl rfl ?_ | refine TL.gskipU rfl rfl rfl ?_ | refine TL.ev (ev_len rfl) rfl ?_ | (refine TL.cmpG rfl rfl rfl rfl (fun hc => ?_) (fun hc => ?_) <;> try (exfalso; omega)) | refine TL.ev (ev_arN rfl rfl rfl (by omega)) rfl ?_ | refine TL.ev (ev_arI rfl rfl rfl (by omega)) rfl ?_ | refine TL.ev (ev_neg rfl (by omega)) rfl ?_ | refine TL.ev (ev_indexN rfl rfl (by omega) (by first | exact Or.inr rfl | exact Sl.some (by assumption))) rfl ?_ | refine TL.ev (ev_index rfl rfl (by omega) (by first | exact Or.inr rfl | exact Sl.some (by assumption))) rfl ?_ | refine TL.ev (ev_loadU rfl (by assumption) (by omega)) rfl ?_ | refine TL.ev (ev_loadI rfl (by assumption) (by omega)) rfl ?_ | refine TL.ev (ev_shrU rfl rfl (by first | omega | exact U64.getD (by assumption) _)) rfl ?_ | refine TL.ev (ev_shlU rfl rfl) rfl ?_ | refine TL.ev (ev_andU rfl rfl (by first | omega | exact U64.getD (by assumption) _) (by first | omega | exact U64.getD (by assumption) _)) rfl ?_ | refine TL.ev (ev_orU rfl rfl (by first | omega | exact U64.getD (by assumption) _) (by first | omega | exact U64.getD (by assumption) _)) rfl ?_ | refine TL.ev (ev_xorU rfl rfl (by first | omega | exact U64.getD (by assumption) _) (by first | omega | exact U64.getD (by assumption) _)) rfl ?_ | refine TL.ev (ev_convU rfl (by omega)) rfl ?_ | refine TL.ev (ev_convI rfl (by omega)) rfl ?_ | refine TL.ev (ev_arU rfl rfl rfl (by first | exact True.intro | omega)) rfl ?_ | refine T.seq ?_ | refine T.region ?_ | refine TL.nil ?_ | refine T.block ?_ | refine T.cond_t rfl ?_ | refine T.cond_f rfl ?_ | refine T.exit ?_ | refine T.ret ?_ | refine T.skip ?_ | refine G.next ?_ | refine G.blockN ?_ | refine G.blockE ?_ | refine G.blockE' rfl ?_ | refine G.blockR ?_ | refine G.thenE ?_ | refine G.thenR ?_ | refine T.regionQ mixed (by kernel_rfl) ?_ | refine TL.nilQ (fun _ => ?_) | refine G.only ?_ | refine G.mixed ?_ | refine TM.nil ?_ | refine TM.e rfl ?_)
  · refine G.ret1 rfl rfl ⟨?_, Qt.refl _⟩
    rw [hb, getD_ge (by omega)]; simp
  · refine G.ret1 rfl rfl ⟨?_, Qt.refl _⟩
    rw [hb, ha]
end Go.Proofs.YtgmhldapndhoeaaDoor
