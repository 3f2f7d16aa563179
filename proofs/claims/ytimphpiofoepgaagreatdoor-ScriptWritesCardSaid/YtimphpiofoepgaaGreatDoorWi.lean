/- the walks. -/
import Derived.Test.YtimphpiofoepgaaGreatDoorWh
import Derived.Lib.SmallJoins
namespace Go.Proofs.YtimphpiofoepgaaGreatDoor
open Go Go.RowKit
instance (x : Stp) : Decidable (okS x) := by unfold okS; infer_instance
def okD (x : Stp) : Bool := decide (okS x)
def okL (xs : List Stp) : Bool := xs.all okD
theorem okL_snoc {xs : List Stp} {k : Nat} (h : k < xs.length) : okL (xs.take (k + 1)) = (okL (xs.take k) && okD xs[k]) := by
  unfold okL
  rw [List.take_succ_eq_append_getElem h, List.all_append]
  simp
theorem okL_spec {xs : List Stp} (h : okL xs = true) : ∀ x ∈ xs, okS x := fun x hx => of_decide_eq_true (List.all_eq_true.1 h x hx)
theorem okL_bad {xs : List Stp} (h : okL xs = false) : ∃ k, ∃ hk : k < xs.length, (∀ (i : Nat) (h : i < xs.length), i < k → okS xs[i]) ∧ ¬ okS xs[k] := by
  induction xs with
  | nil => cases h
  | cons x xs ih =>
    by_cases hx : okS x
    · have h' : okL xs = false := by
        simp only [okL, List.all_cons] at h ⊢
        have : okD x = true := decide_eq_true hx
        rw [this] at h
        simpa using h
      obtain ⟨k, hk, h1, h2⟩ := ih h'
      refine ⟨k + 1, by simpa using hk, fun i hi hlt => ?_, by simpa using h2⟩
      cases i with
      | zero => simpa using hx
      | succ i => simpa using h1 i (by simpa using hi) (by omega)
    · exact ⟨0, by simp, fun i _ h => absurd h (by omega), by simpa using hx⟩
theorem ba_empty (s : ByteArray) : s.toList.isEmpty = decide (s.size = 0) := by
  rw [ByteArray.toList_eq]
  obtain ⟨⟨l⟩⟩ := s
  cases l <;> simp [ByteArray.size]
theorem int_zero (n : Nat) : (((n : Int) == 0) : Bool) = decide (n = 0) := by
  rw [Bool.eq_iff_iff]; simp
theorem okD_115 (nm to : ByteArray) (ta : Option Addr) (tc : Nat) (tx : List UInt8) : okD ⟨115, nm, to, ta, tc, tx⟩ = to.toList.isEmpty := by
  rw [ba_empty]
  have e : pS 115 = pNT := by simp [pS]
  unfold okD okS
  simp only [e, ix_NT]
  have : pB 115 = true := by decide
  rw [Bool.eq_iff_iff]
  simp [this]
theorem okD_n (l : Int) (h : l = 100 ∨ l = 113 ∨ l = 101) (nm to : ByteArray) (ta : Option Addr) (tc : Nat) (tx : List UInt8) : okD ⟨l, nm, to, ta, tc, tx⟩ = (to.toList.isEmpty && ((tx.length : Int) == 0)) := by
  rw [ba_empty, int_zero]
  have e : pS l = pN := by have : ¬ l = 115 := by omega
                           simp [pS, h, this]
  unfold okD okS
  simp only [e, ix_N]
  have : pB l = true := by rcases h with rfl | rfl | rfl <;> decide
  rw [Bool.eq_iff_iff]
  simp [this]
theorem okD_114 (nm to : ByteArray) (ta : Option Addr) (tc : Nat) (tx : List UInt8) : okD ⟨114, nm, to, ta, tc, tx⟩ = ((tx.length : Int) == 0) := by
  rw [int_zero]
  have e : pS 114 = pNM := by simp [pS]
  unfold okD okS
  simp only [e, ix_NM]
  have : pB 114 = true := by decide
  rw [Bool.eq_iff_iff]
  simp [this]
theorem okD_e (l : Int) (h : l = 97 ∨ l = 120) (nm to : ByteArray) (ta : Option Addr) (tc : Nat) (tx : List UInt8) : okD ⟨l, nm, to, ta, tc, tx⟩ = ((nm ++ to).toList.isEmpty && ((tx.length : Int) == 0)) := by
  rw [ba_empty, int_zero, ByteArray.size_append]
  have e : pS l = p0 := by rcases h with rfl | rfl <;> decide
  unfold okD okS
  simp only [e, ix_0]
  have : pB l = true := by rcases h with rfl | rfl <;> decide
  rw [Bool.eq_iff_iff]
  simp [this, and_assoc]
theorem okD_no (x : Stp) (h1 : (x.l == 115) = false) (h2 : (x.l == 100) = false) (h3 : (x.l == 113) = false) (h4 : (x.l == 101) = false) (h5 : (x.l == 114) = false) (h6 : (x.l == 97) = false) (h7 : (x.l == 120) = false) : okD x = false := by
  have : pB x.l = false := by
    simp only [beq_eq_false_iff_ne] at *
    unfold pB
    simp
    omega
  unfold okD okS
  simp [this]
end Go.Proofs.YtimphpiofoepgaaGreatDoor
namespace Go.Proofs.YtimphpiofoepgaaGreatDoor
open Go Go.RowKit

set_option maxRecDepth 100000 in
set_option maxHeartbeats 400000 in
theorem parse_nil (A : Option Addr) (c : Nat) (w : World) : Calls Tryz.prog 6 #[.slice A 0 c] w fun e w' => e = .returned (.tuple #[.slice none 0 0, .int .i64 0]) ∧ w = w' := by
  go_enter Tryz.func6, Tryz.ntmps6
  go_wp2
  refine wp_loop_rounds 1 ?_
  rw [rounds_succ]
  go_wp2
  go_ret2
  exact ⟨rfl, rfl⟩

theorem parse_own (xs : List Stp) (base : Nat) (v : Value) (w : World) (hl : xs.length ≤ 256) (hsz : ∀ x ∈ xs, x.nm.size ≤ 100 ∧ x.to.size ≤ 100 ∧ x.tx.length ≤ 100) (hok : ∀ x ∈ xs, okS x)
    (hown : w.ownsRow base 5 1 v (encL xs).length (encL xs)) :
    Calls Tryz.prog 6 #[v] w fun e w' => ∃ (pa : Option Addr) (pc : Nat) (ys : List Stp), e = .returned (.tuple #[.slice pa xs.length pc, .int .i64 0]) ∧ ys.map Stp.key = xs.map Stp.key ∧ Below w.heap.size w w' ∧ Steps4 w' w'.heap.size pa ys := by
  cases xs with
  | nil =>
    obtain ⟨ta, tc, rfl⟩ := own_slice hown
    refine (parse_nil ta tc w).mono ?_
    rintro e w' ⟨rfl, rfl⟩
    exact ⟨none, 0, [], rfl, rfl, Below.refl _ _, Reads.none_, fun y h => absurd h (by simp)⟩
  | cons x0 xs0 =>
    have hpos : 0 < (encL (x0 :: xs0)).length := by simp [encL, encV]
    rcases hown.2 with ⟨_, h0⟩ | ⟨g, cap, cur, rfl, hb, hh, hcap, hmax, _⟩
    · omega
    · have hRB : RB w g 0 (encL (x0 :: xs0)) := fun j u hu => by
        have := hown.cells (g := g) rfl j u hu
        have hadd : (⟨g, 0, none⟩ : Addr).add j = ⟨g, 0 + j, none⟩ := by unfold Addr.add; split <;> simp_all
        rwa [hadd] at this
      refine (parse_any (x0 :: xs0) g 0 cap w hl (Array.getElem?_eq_some_iff.1 hh).1 hsz hok hcap hRB).mono ?_
      rintro e w' ⟨v', ys, rfl, hk, hbl, hown', htx⟩
      have hlen : ys.length = (x0 :: xs0).length := by simpa using congrArg List.length hk
      obtain ⟨pa, pc, rfl⟩ := own_slice hown'
      rw [hlen] at hown'
      refine ⟨pa, pc, ys, by rw [hlen], hk, hbl, ?_, fun y hy => Reads.of_own (htx y hy)⟩
      have := Reads.of_own hown'
      rw [hlen]
      exact this
end Go.Proofs.YtimphpiofoepgaaGreatDoor
