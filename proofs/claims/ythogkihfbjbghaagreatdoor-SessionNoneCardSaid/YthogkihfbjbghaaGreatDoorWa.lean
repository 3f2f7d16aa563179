/- the walks. -/
import Derived.Test.YthogkihfbjbghaaGreatDoorProg
import Derived.WalkKit
import Derived.WalkSpells
import Derived.WalkLawsBesides
import Derived.Lib.Hide
namespace Go.Proofs.YthogkihfbjbghaaGreatDoor
open Go Go.RowKit

def SomeB (w : World) (e : Ending) (w' : World) : Prop := ∃ b : Bool, e = .returned (.bool b) ∧ w = w'

set_option maxRecDepth 100000 in
set_option maxHeartbeats 1000000 in
theorem tag_any (s : ByteArray) (w : World) (hs : s.size ≤ 100) : Calls Tryz.prog 15 #[.string s] w (SomeB w) := by
  go_enter Tryz.func15, Tryz.ntmps15
  go_wp2
  go_loop [3] (fun i => ∃ k : Nat, k ≤ s.size ∧ i = .int .i64 k) (fun i => s.size - (intOf i).toNat)
  case atStart => exact ⟨0, by omega, rfl⟩
  case round =>
    obtain ⟨k, hk, rfl⟩ := hrel
    by_cases hlt : k < s.size
    · go_wp2
      all_goals first
        | (go_ret; exact ⟨_, rfl, rfl⟩)
        | (go_round
           case rel => exact ⟨k + 1, by omega, by go_num⟩
           case measure => simp [intOf]; omega)
    · go_wp2
      go_ret
      exact ⟨_, rfl, rfl⟩

set_option maxRecDepth 100000 in
set_option maxHeartbeats 1000000 in
theorem arena_ok (n : Int) (w : World) (h : 1 ≤ n) (h2 : n ≤ 1048576) : Calls Tryz.prog 17 #[.int .i64 n] w fun e w' => ∃ g, e = .returned (.tuple #[.pointer (some ⟨g, 0, none⟩), .int .i64 0]) ∧ Below w.heap.size w w' := by
  go_enter Tryz.func17, Tryz.ntmps17
  go_wp2
  go_ret2
  exact ⟨_, rfl, (Below.refl _ _).alloc (Nat.le_refl _) _⟩
set_option maxRecDepth 100000 in
set_option maxHeartbeats 1000000 in
theorem arena_no (n : Int) (w : World) (h : n ≤ 0 ∨ 1048577 ≤ n) : Calls Tryz.prog 17 #[.int .i64 n] w fun e w' => e = .returned (.tuple #[.pointer none, .int .i64 1]) ∧ w = w' := by
  rcases h with h | h
  all_goals
    go_enter Tryz.func17, Tryz.ntmps17
    go_wp2
    go_ret2
    exact ⟨rfl, rfl⟩
set_option maxRecDepth 100000 in
set_option maxHeartbeats 1000000 in
theorem keep_no (n : Int) (w : World) (h : n ≤ 0 ∨ 65537 ≤ n) : Calls Tryz.prog 18 #[.int .i64 n, .nilFunc] w fun e w' => e = .returned (.tuple #[.pointer none, .int .i64 1]) ∧ w = w' := by
  rcases h with h | h
  all_goals
    go_enter Tryz.func18, Tryz.ntmps18
    go_wp2
    go_ret2
    exact ⟨rfl, rfl⟩
set_option maxRecDepth 100000 in
set_option maxHeartbeats 1000000 in
theorem keep_ok (n : Int) (w : World) (h : 1 ≤ n) (h2 : n ≤ 65536) : Calls Tryz.prog 18 #[.int .i64 n, .nilFunc] w fun e w' => ∃ g, e = .returned (.tuple #[.pointer (some ⟨g, 0, none⟩), .int .i64 0]) ∧ Below w.heap.size w w' := by
  have hmm := @run_makeMap Tryz.prog
  have hnf : ∀ w, (binOp .eql 61 .nilFunc .nilFunc).run Tryz.prog w = .ok (.bool true) w := fun w => by kernel_rfl
  go_enter Tryz.func18, Tryz.ntmps18
  go_wp2
  go_ret2
  exact ⟨_, rfl, ((Below.refl _ _).alloc (Nat.le_refl _) _).alloc (by simp) _⟩
set_option maxRecDepth 100000 in
set_option maxHeartbeats 1000000 in
theorem store_ok (w : World) : Calls Tryz.prog 19 #[] w fun e w' => ∃ g, e = .returned (.pointer (some ⟨g, 0, none⟩)) ∧ Below w.heap.size w w' := by
  have hmm := @run_makeMap Tryz.prog
  go_enter Tryz.func19, Tryz.ntmps19
  go_wp2
  go_ret
  exact ⟨_, rfl, ((Below.refl _ _).alloc (Nat.le_refl _) _).alloc (by simp) _⟩
def NewOk (w : World) (e : Ending) (w' : World) : Prop := ∃ v, e = .returned (.tuple #[v, .int .i64 0]) ∧ Below w.heap.size w w'
def NewNo (w : World) (e : Ending) (w' : World) : Prop := e = .returned (.tuple #[.pointer none, .int .i64 1]) ∧ Below w.heap.size w w'
set_option maxRecDepth 100000 in
set_option maxHeartbeats 1000000 in
theorem new_ok (r m : Int) (w : World) (h : 1 ≤ r) (h2 : r ≤ 1048576) (h3 : 1 ≤ m) (h4 : m ≤ 65536) : Calls Tryz.prog 6 #[.int .i64 r, .int .i64 m, .nilFunc] w (NewOk w) := by
  go_enter Tryz.func6, Tryz.ntmps6
  go_wp2_with (first
    | (go_at_call 17; refine (arena_ok _ _ h h2).mono ?_; rintro e w1 ⟨v1, rfl, hb1⟩)
    | (go_at_call 18; refine (keep_ok _ _ h3 h4).mono ?_; rintro e w2 ⟨v2, rfl, hb2⟩)
    | (go_at_call 19; refine (store_ok _).mono ?_; rintro e w3 ⟨v3, rfl, hb3⟩)
    | fail)
  go_ret2
  exact ⟨_, rfl, (((hb1.trans (hb2.mono hb1.size)).trans (hb3.mono (Nat.le_trans hb1.size hb2.size)))).alloc (Nat.le_trans hb1.size (Nat.le_trans hb2.size hb3.size)) _⟩
set_option maxRecDepth 100000 in
set_option maxHeartbeats 1000000 in
theorem new_no1 (r m : Int) (w : World) (h : r ≤ 0 ∨ 1048577 ≤ r) : Calls Tryz.prog 6 #[.int .i64 r, .int .i64 m, .nilFunc] w (NewNo w) := by
  go_enter Tryz.func6, Tryz.ntmps6
  go_wp2_with (first
    | (go_at_call 17; refine (arena_no _ _ h).mono ?_; rintro e w1 ⟨rfl, rfl⟩)
    | fail)
  go_ret2
  exact ⟨rfl, Below.refl _ _⟩
set_option maxRecDepth 100000 in
set_option maxHeartbeats 1000000 in
theorem new_no2 (r m : Int) (w : World) (h : 1 ≤ r) (h2 : r ≤ 1048576) (h3 : m ≤ 0 ∨ 65537 ≤ m) : Calls Tryz.prog 6 #[.int .i64 r, .int .i64 m, .nilFunc] w (NewNo w) := by
  go_enter Tryz.func6, Tryz.ntmps6
  go_wp2_with (first
    | (go_at_call 17; refine (arena_ok _ _ h h2).mono ?_; rintro e w1 ⟨v1, rfl, hb1⟩)
    | (go_at_call 18; refine (keep_no _ _ h3).mono ?_; rintro e w2 ⟨rfl, rfl⟩)
    | fail)
  go_ret2
  exact ⟨rfl, hb1⟩

set_option maxRecDepth 100000 in
set_option maxHeartbeats 1000000 in
theorem word_any (s : ByteArray) (w : World) (hs : s.size ≤ 100) : Calls Tryz.prog 16 #[.string s] w (SomeB w) := by
  by_cases h0 : s.size = 0
  · have he : s.toList.isEmpty = true := by rw [ByteArray.toList_eq]; obtain ⟨⟨l⟩⟩ := s; have : l = [] := List.eq_nil_of_length_eq_zero h0; subst this; rfl
    have he2 : s.toList = [] := by simpa using he
    go_enter Tryz.func16, Tryz.ntmps16
    go_wp2
    go_ret
    exact ⟨_, rfl, rfl⟩
  have hpos : 1 ≤ s.size := by omega
  have he : s.toList.isEmpty = false := by rw [ByteArray.toList_eq]; obtain ⟨⟨l⟩⟩ := s; cases l with | nil => exact absurd rfl h0 | cons a l => rfl
  have he2 : ¬ s.toList = [] := by simpa using he
  go_enter Tryz.func16, Tryz.ntmps16
  go_wp2
  go_loop [3] (fun i => ∃ k : Nat, k ≤ s.size ∧ i = .int .i64 k) (fun i => s.size - (intOf i).toNat)
  case atStart => exact ⟨0, by omega, rfl⟩
  case round =>
    obtain ⟨k, hk, rfl⟩ := hrel
    by_cases hlt : k < s.size
    · go_wp2
      all_goals first
        | (go_ret; exact ⟨_, rfl, rfl⟩)
        | (go_round
           case rel => exact ⟨k + 1, by omega, by go_num⟩
           case measure => simp [intOf]; omega)
    · go_wp2
      go_loop [4] (fun i => ∃ k : Nat, k ≤ 200 ∧ i = .int .i64 k) (fun i => 300 - (intOf i).toNat)
      case atStart => exact ⟨0, by omega, rfl⟩
      case round =>
        obtain ⟨p, hp, rfl⟩ := hrel
        by_cases hlp : p + s.size + 2 ≤ 89
        · go_wp2
          all_goals first
            | (go_ret; exact ⟨_, rfl, rfl⟩)
            | (go_round
               case rel => exact ⟨p + 1, by omega, by go_num⟩
               case measure => simp [intOf]; omega)
        · have : 90 ≤ p + s.size + 2 := by omega
          go_wp2
          go_ret
          exact ⟨_, rfl, rfl⟩

set_option maxRecDepth 100000 in
set_option maxHeartbeats 1000000 in
theorem name_any (s : ByteArray) (w : World) (hs : s.size ≤ 100) : Calls Tryz.prog 5 #[.string s] w (SomeB w) := by
  go_enter Tryz.func5, Tryz.ntmps5
  go_wp2_with (first
    | (go_at_call 15; refine (tag_any _ _ hs).mono ?_; rintro e w1 ⟨b1, rfl, rfl⟩)
    | (go_at_call 16; refine (word_any _ _ hs).mono ?_; rintro e w2 ⟨b2, rfl, rfl⟩)
    | fail)
  all_goals
    go_ret
    exact ⟨_, rfl, rfl⟩
end Go.Proofs.YthogkihfbjbghaaGreatDoor
