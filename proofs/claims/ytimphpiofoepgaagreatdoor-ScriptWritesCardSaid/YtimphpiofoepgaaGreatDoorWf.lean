/- the walks. -/
import Derived.Test.YtimphpiofoepgaaGreatDoorWe
import Derived.BigQuiet
import Derived.IntWalk
import Derived.Laws.BitsAllLaws
import Derived.Laws.BitsLemmas
namespace Go.Proofs.YtimphpiofoepgaaGreatDoor
open Go Go.RowKit

/-- cells from an address on -/
def RB (w : World) (g o : Nat) (xs : List Value) : Prop := ∀ j u, xs[j]? = some u → w.cell? ⟨g, o + j, none⟩ = some u

theorem ofInt_i64 (a : Nat) (ha : a < 9223372036854775808) : (BitVec.ofInt 64 (a : Int)).toNat = a := by
  rw [BitVec.ofInt_natCast, BitVec.toNat_ofNat]; exact Nat.mod_eq_of_lt (by omega)
theorem i64_or_zero (a : Nat) (ha : a < 9223372036854775808) : bits .or .i64 (a : Int) 0 = (a : Int) := by
  show IntKind.i64.wrap ((BitVec.ofInt 64 (a : Int) ||| BitVec.ofInt 64 ((0 : Nat) : Int)).toNat : Int) = _
  rw [BitVec.toNat_or, ofInt_i64 a ha, ofInt_i64 0 (by omega), Nat.or_zero, IntKind.wrap_i64]
  omega
set_option maxRecDepth 100000 in
set_option maxHeartbeats 400000 in
theorem take_any (g o c : Nat) (d : List UInt8) (r : List Value) (w : World) (hd : d.length ≤ 100) (hr : r.length ≤ 1000000) (hc : d.length + 2 + r.length ≤ c) (hb : RB w g o (fld d ++ r)) :
    Calls Tryz.prog 12 #[.slice (some ⟨g, o, none⟩) (d.length + 2 + r.length) c] w fun e w' => ∃ o1 c1 o2 c2, e = .returned (.tuple #[.slice (some ⟨g, o1, none⟩) d.length c1, .slice (some ⟨g, o2, none⟩) r.length c2, .bool true]) ∧ d.length ≤ c1 ∧ r.length ≤ c2 ∧ RB w g o1 (bv d) ∧ RB w g o2 r ∧
      ∃ n, w' = w.drewN n := by
  have c0 : w.cell? ⟨g, o, none⟩ = some (.int .u8 d.length) := by
    have := hb 0 (.int .u8 (d.length % 256 : Nat)) rfl
    rw [Nat.mod_eq_of_lt (by omega)] at this
    exact this
  have c1 : w.cell? ⟨g, o + 1, none⟩ = some (.int .u8 0) := by
    have := hb 1 (.int .u8 (d.length / 256 : Nat)) rfl
    rw [Nat.div_eq_of_lt (by omega)] at this
    exact this
  have HB := Lib.hid hb
  clear hb
  go_enter Tryz.func12, Tryz.ntmps12
  have hor := i64_or_zero d.length (by omega)
  go_wp2_with fail
  go_quiet (fail)
  go_wp2_with fail
  have w1 : IntKind.i64.wrap (2 + (d.length : Int)) = 2 + (d.length : Int) := IntWalk.i64_in _ (by omega)
  have w2 : (2 + (d.length : Int)).toNat = 2 + d.length := by omega
  have w3 : (0 : Int) ≤ 2 + (d.length : Int) := by omega
  have e1 : d.length + 2 + r.length - (2 + d.length) = r.length := by omega
  have hd1 : RB w g (o + 2) (bv d) := fun j u hu => by
    have hj : j < (bv d).length := (List.getElem?_eq_some_iff.1 hu).1
    have := HB.out (2 + j) u (by
      rw [List.getElem?_append_left (by rw [fld_length]; rw [bv_length] at hj; omega)]
      show (_ :: _ :: bv d)[2 + j]? = _
      rw [Nat.add_comm 2 j]
      exact hu)
    rwa [← Nat.add_assoc] at this
  have hd2 : RB w g (o + (2 + d.length)) r := fun j u hu => by
    have := HB.out (2 + d.length + j) u (by
      rw [List.getElem?_append_right (by rw [fld_length]; omega), fld_length]
      rw [show 2 + d.length + j - (d.length + 2) = j by omega]
      exact hu)
    rwa [← Nat.add_assoc] at this
  have HD1 := Lib.hid hd1
  have HD2 := Lib.hid hd2
  have E1 := Lib.hid e1
  clear hd1 hd2 e1
  by_cases k1 : c = 2
  · have hdn : d.length = 0 := by omega
    have hrn : r.length = 0 := by omega
    obtain rfl := List.eq_nil_of_length_eq_zero hdn
    obtain rfl := List.eq_nil_of_length_eq_zero hrn
    subst k1
    clear hdn hrn
    go_quiet (fail)
    go_wp2_with fail
    go_ret3
    exact ⟨o, _, o, _, rfl, by simp, by simp, fun j u hu => by simp [bv] at hu, fun j u hu => by simp at hu, _, World.drewN_drewN _ _ _⟩
  by_cases k2 : c = 2 + d.length
  · have hrn : r.length ≤ 0 := by omega
    have hpos : 1 ≤ d.length := by omega
    have HR : RB w g o r := fun j u hu => by have := (List.getElem?_eq_some_iff.1 hu).1; omega
    have HR := Lib.hid HR
    subst k2
    go_quiet (fail)
    go_wp2_with fail
    · exfalso
      simp_all
    go_ret3
    exact ⟨o + 2, d.length, o, 0, by rw [show r.length = 0 by omega]; rfl, by omega, by omega, HD1.out, HR.out, _, rfl⟩
  go_quiet (fail)
  go_wp2_with fail
  go_ret3
  exact ⟨o + 2, c - 2, o + (2 + d.length), c - (2 + d.length), by rw [E1.out]; rfl, by omega, by omega, HD1.out, HD2.out, _, World.drewN_drewN _ _ _⟩
end Go.Proofs.YtimphpiofoepgaaGreatDoor
