/- the walks. -/
import Derived.Test.YtimphpiofoepgaaGreatDoorWg
namespace Go.Proofs.YtimphpiofoepgaaGreatDoor
open Go Go.RowKit

theorem conv_text (w : World) (B : Nat) (A : Option Addr) (c : Nat) (d : List UInt8) (h : Reads w B 1 A d.length (bv d)) : (convert 24 9 (.slice A d.length c)).run Tryz.prog w = .ok (.string ⟨d.toArray⟩) w := by
  cases A with
  | none =>
    have hd : d = [] := by
      rcases Nat.eq_zero_or_pos d.length with h0 | h0
      · exact List.eq_nil_of_length_eq_zero h0
      · obtain ⟨ad, e, _⟩ := h.2 h0; cases e
    subst hd
    exact run_convert_bytes_nil w 24 5 Tryz.underlying24 Tryz.underlying5 _ _ 9 Tryz.underlying9
  | some a =>
    refine run_convert_bytes_back w 24 9 5 a c d Tryz.underlying24 Tryz.underlying5 Tryz.underlying9 fun j hj => ?_
    obtain ⟨ad, e, _, hc⟩ := h.2 (by omega)
    cases e
    exact hc j _ (by simp [bv, hj])

set_option maxRecDepth 100000 in
set_option maxHeartbeats 1000000 in
theorem same_any (l : Int) (nm to : ByteArray) (tx : List UInt8) (A B : Option Addr) (c d : Nat) (w : World) (hA : Reads w w.heap.size 1 A tx.length (bv tx)) (hB : Reads w w.heap.size 1 B tx.length (bv tx)) :
    Calls Tryz.prog 7 #[.agg #[.int .u8 l, .string nm, .string to, .slice A tx.length c], .agg #[.int .u8 l, .string nm, .string to, .slice B tx.length d]] w fun e w' => e = .returned (.bool true) ∧ Below w.heap.size w w' := by
  have k1 := conv_text ((w.alloc (.cells #[.int .u8 l, .string nm, .string to, .slice A tx.length c] 26)).alloc (.cells #[.int .u8 l, .string nm, .string to, .slice B tx.length d] 26)) _ A c tx ((hA.alloc (Nat.le_refl _) _).alloc (by simp) _)
  have k2 := conv_text ((w.alloc (.cells #[.int .u8 l, .string nm, .string to, .slice A tx.length c] 26)).alloc (.cells #[.int .u8 l, .string nm, .string to, .slice B tx.length d] 26)) _ B d tx ((hB.alloc (Nat.le_refl _) _).alloc (by simp) _)
  clear hA hB
  go_enter Tryz.func7, Tryz.ntmps7
  go_wp2_with fail
  go_ret
  exact ⟨by simp, ((Below.refl _ _).alloc (Nat.le_refl _) _).alloc (by simp) _⟩
end Go.Proofs.YtimphpiofoepgaaGreatDoor
