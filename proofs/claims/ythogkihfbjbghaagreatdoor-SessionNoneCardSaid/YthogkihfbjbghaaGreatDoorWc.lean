/- the walks. -/
import Derived.Test.YthogkihfbjbghaaGreatDoorWb
import Derived.Test.YthogkihfbjbghaaGreatDoorLf
namespace Go.Proofs.YthogkihfbjbghaaGreatDoor
open Go Go.Proofs.YthogkihfbjbghaaGreatDoor.Abs Go.RowKit
set_option maxRecDepth 100000

theorem frm_rel {name : ByteArray} {e : Int} {b : Bool} {a : Act} (hs : a.tmps.size = 100) (hd : a.defers = []) (h2 : a.tmps.getD 2 undef = .string name) (h8 : a.tmps.getD 8 undef = .int .i64 e) (h9 : a.tmps.getD 9 undef = .bool b) :
    FrRel (rho0 7) 100 (frm name e b) a := by
  refine ⟨hs, fun t v hv => ?_, ?_⟩
  · have hv : (mkT [(2, Value.string name), (8, .int .i64 e), (9, .bool b)] .leaf).get t = some v := hv
    rcases mkT_get _ _ t v (by intro p hp; simp at hp; rcases hp with rfl | rfl | rfl <;> simp) hv with h | h
    · simp at h
      rcases h with ⟨rfl, rfl⟩ | ⟨rfl, rfl⟩ | ⟨rfl, rfl⟩
      · rw [h2]; exact VRel.plain 9 _ rfl
      · rw [h8]; exact VRel.plain 9 _ rfl
      · rw [h9]; exact VRel.plain 9 _ rfl
    · rw [Trie.get_leaf] at h; cases h
  · rw [hd]; exact .nil

def LPost (w : World) (e : Ending) (w' : World) : Prop := e = .returned (.bool true) ∧ Below w.heap.size w w'

theorem lives_at {w w' : World} (h : RomAt w 1 pow10) (hb : Below w.heap.size w w') : Calls Tryz.prog 4 #[] w' (fun e w'' => e = .returned (.bool true) ∧ Below w'.heap.size w' w'') := lives27 (h.below hb)

set_option maxHeartbeats 4000000 in
theorem law_ok (r m : Int) (name : ByteArray) (w : World) (h : RomAt w 1 pow10) (hn : name.size ≤ 100) (h1 : 1 ≤ r) (h2 : r ≤ 1048576) (h3 : 1 ≤ m) (h4 : m ≤ 65536) :
    Calls Tryz.prog 3 #[.int .i64 r, .int .i64 m, .string name] w (LPost w) := by
  refine calls_of_end Tryz.func3 (c := .seq _ (.seq _ (.seq _ (.seq _ _)))) rfl ?_
  simp only [Tryz.ntmps3, List.size_toArray, List.length_cons, List.length_nil, Nat.reduceAdd, Nat.reduceSub, Array.replicate_succ, Array.replicate_zero, List.push_toArray, List.append_toArray, List.nil_append, List.cons_append]
  have L1 := lives_at h (Below.refl _ _)
  refine end_seq ?_
  go_wp2
  simp only [postOf]
  refine end_seq ?_
  go_wp2_with (first
    | (go_at_call 4; refine L1.mono ?_; rintro e w1 ⟨rfl, hb1⟩)
    | (go_at_call 5; refine (name_any _ _ hn).mono ?_; rintro e w2 ⟨b, rfl, rfl⟩)
    | (go_at_call 4; refine (lives_at h hb1).mono ?_; rintro e w3 ⟨rfl, hb3⟩)
    | fail)
  · simp only [postOf]
    exact ⟨rfl, _, _, Tryz.func3, results_tmp rfl _ _ _, rfl, hb1.trans (hb3.mono hb1.size)⟩
  simp only [postOf]
  refine end_seq ?_
  go_wp2_with (first
    | (go_at_call 6; refine (new_ok _ _ _ h1 h2 h3 h4).mono ?_; rintro e w4 ⟨v4, rfl, hb4⟩)
    | fail)
  simp only [postOf]
  refine end_seq ?_
  go_wp2
  simp only [postOf]
  refine (true_rest (n0 := 10) (ng := 7) (rid := 1) (cs := pow10) (n := 60) (c := rest3) (fr := frm name 0 true) mixed Tryz.func3 (by decide) (by decide) (by decide) (by decide +kernel) (rest_ok name) (h.below (hb1.trans (hb4.mono hb1.size))) (frm_rel rfl rfl rfl rfl rfl)).mono ?_
  rintro e w5 ⟨rfl, hb5⟩
  exact ⟨rfl, (hb1.trans (hb4.mono hb1.size)).trans (hb5.mono (Nat.le_trans hb1.size hb4.size))⟩
set_option maxHeartbeats 4000000 in
theorem law_no1 (r m : Int) (name : ByteArray) (w : World) (h : RomAt w 1 pow10) (hn : name.size ≤ 100) (hr : r ≤ 0 ∨ 1048577 ≤ r) :
    Calls Tryz.prog 3 #[.int .i64 r, .int .i64 m, .string name] w (LPost w) := by
  have HN := Lib.hid (fun w => new_no1 r m w hr)
  rcases hr with hr | hr
  · refine calls_of_end Tryz.func3 (c := .seq _ (.seq _ (.seq _ (.seq _ _)))) rfl ?_
    simp only [Tryz.ntmps3, List.size_toArray, List.length_cons, List.length_nil, Nat.reduceAdd, Nat.reduceSub, Array.replicate_succ, Array.replicate_zero, List.push_toArray, List.append_toArray, List.nil_append, List.cons_append]
    have L1 := lives_at h (Below.refl _ _)
    refine end_seq ?_
    go_wp2
    simp only [postOf]
    refine end_seq ?_
    go_wp2_with (first
      | (go_at_call 4; refine L1.mono ?_; rintro e w1 ⟨rfl, hb1⟩)
      | (go_at_call 5; refine (name_any _ _ hn).mono ?_; rintro e w2 ⟨b, rfl, rfl⟩)
      | (go_at_call 4; refine (lives_at h hb1).mono ?_; rintro e w3 ⟨rfl, hb3⟩)
      | fail)
    · simp only [postOf]
      exact ⟨rfl, _, _, Tryz.func3, results_tmp rfl _ _ _, rfl, hb1.trans (hb3.mono hb1.size)⟩
    simp only [postOf]
    refine end_seq ?_
    go_wp2_with (first
      | (go_at_call 6; refine (HN.out _).mono ?_; rintro e w4 ⟨rfl, hb4⟩)
      | fail)
    simp only [postOf]
    refine end_seq ?_
    go_wp2
    simp only [postOf]
    refine (true_rest (n0 := 10) (ng := 7) (rid := 1) (cs := pow10) (n := 60) (c := rest3) (fr := frm name 1 false) mixed Tryz.func3 (by decide) (by decide) (by decide) (by decide +kernel) (rest_no name) (h.below (hb1.trans (hb4.mono hb1.size))) (frm_rel rfl rfl rfl rfl rfl)).mono ?_
    rintro e w5 ⟨rfl, hb5⟩
    exact ⟨rfl, (hb1.trans (hb4.mono hb1.size)).trans (hb5.mono (Nat.le_trans hb1.size hb4.size))⟩
  · refine calls_of_end Tryz.func3 (c := .seq _ (.seq _ (.seq _ (.seq _ _)))) rfl ?_
    simp only [Tryz.ntmps3, List.size_toArray, List.length_cons, List.length_nil, Nat.reduceAdd, Nat.reduceSub, Array.replicate_succ, Array.replicate_zero, List.push_toArray, List.append_toArray, List.nil_append, List.cons_append]
    have L1 := lives_at h (Below.refl _ _)
    refine end_seq ?_
    go_wp2
    simp only [postOf]
    refine end_seq ?_
    go_wp2_with (first
      | (go_at_call 4; refine L1.mono ?_; rintro e w1 ⟨rfl, hb1⟩)
      | (go_at_call 5; refine (name_any _ _ hn).mono ?_; rintro e w2 ⟨b, rfl, rfl⟩)
      | (go_at_call 4; refine (lives_at h hb1).mono ?_; rintro e w3 ⟨rfl, hb3⟩)
      | fail)
    · simp only [postOf]
      exact ⟨rfl, _, _, Tryz.func3, results_tmp rfl _ _ _, rfl, hb1.trans (hb3.mono hb1.size)⟩
    simp only [postOf]
    refine end_seq ?_
    go_wp2_with (first
      | (go_at_call 6; refine (HN.out _).mono ?_; rintro e w4 ⟨rfl, hb4⟩)
      | fail)
    simp only [postOf]
    refine end_seq ?_
    go_wp2
    simp only [postOf]
    refine (true_rest (n0 := 10) (ng := 7) (rid := 1) (cs := pow10) (n := 60) (c := rest3) (fr := frm name 1 false) mixed Tryz.func3 (by decide) (by decide) (by decide) (by decide +kernel) (rest_no name) (h.below (hb1.trans (hb4.mono hb1.size))) (frm_rel rfl rfl rfl rfl rfl)).mono ?_
    rintro e w5 ⟨rfl, hb5⟩
    exact ⟨rfl, (hb1.trans (hb4.mono hb1.size)).trans (hb5.mono (Nat.le_trans hb1.size hb4.size))⟩
set_option maxHeartbeats 4000000 in
theorem law_no2 (r m : Int) (name : ByteArray) (w : World) (h : RomAt w 1 pow10) (hn : name.size ≤ 100) (h1 : 1 ≤ r) (h2 : r ≤ 1048576) (hm : m ≤ 0 ∨ 65537 ≤ m) :
    Calls Tryz.prog 3 #[.int .i64 r, .int .i64 m, .string name] w (LPost w) := by
  have HN := Lib.hid (fun w => new_no2 r m w h1 h2 hm)
  rcases hm with hm | hm
  · refine calls_of_end Tryz.func3 (c := .seq _ (.seq _ (.seq _ (.seq _ _)))) rfl ?_
    simp only [Tryz.ntmps3, List.size_toArray, List.length_cons, List.length_nil, Nat.reduceAdd, Nat.reduceSub, Array.replicate_succ, Array.replicate_zero, List.push_toArray, List.append_toArray, List.nil_append, List.cons_append]
    have L1 := lives_at h (Below.refl _ _)
    refine end_seq ?_
    go_wp2
    simp only [postOf]
    refine end_seq ?_
    go_wp2_with (first
      | (go_at_call 4; refine L1.mono ?_; rintro e w1 ⟨rfl, hb1⟩)
      | (go_at_call 5; refine (name_any _ _ hn).mono ?_; rintro e w2 ⟨b, rfl, rfl⟩)
      | (go_at_call 4; refine (lives_at h hb1).mono ?_; rintro e w3 ⟨rfl, hb3⟩)
      | fail)
    · simp only [postOf]
      exact ⟨rfl, _, _, Tryz.func3, results_tmp rfl _ _ _, rfl, hb1.trans (hb3.mono hb1.size)⟩
    simp only [postOf]
    refine end_seq ?_
    go_wp2_with (first
      | (go_at_call 6; refine (HN.out _).mono ?_; rintro e w4 ⟨rfl, hb4⟩)
      | fail)
    simp only [postOf]
    refine end_seq ?_
    go_wp2
    simp only [postOf]
    refine (true_rest (n0 := 10) (ng := 7) (rid := 1) (cs := pow10) (n := 60) (c := rest3) (fr := frm name 1 false) mixed Tryz.func3 (by decide) (by decide) (by decide) (by decide +kernel) (rest_no name) (h.below (hb1.trans (hb4.mono hb1.size))) (frm_rel rfl rfl rfl rfl rfl)).mono ?_
    rintro e w5 ⟨rfl, hb5⟩
    exact ⟨rfl, (hb1.trans (hb4.mono hb1.size)).trans (hb5.mono (Nat.le_trans hb1.size hb4.size))⟩
  · refine calls_of_end Tryz.func3 (c := .seq _ (.seq _ (.seq _ (.seq _ _)))) rfl ?_
    simp only [Tryz.ntmps3, List.size_toArray, List.length_cons, List.length_nil, Nat.reduceAdd, Nat.reduceSub, Array.replicate_succ, Array.replicate_zero, List.push_toArray, List.append_toArray, List.nil_append, List.cons_append]
    have L1 := lives_at h (Below.refl _ _)
    refine end_seq ?_
    go_wp2
    simp only [postOf]
    refine end_seq ?_
    go_wp2_with (first
      | (go_at_call 4; refine L1.mono ?_; rintro e w1 ⟨rfl, hb1⟩)
      | (go_at_call 5; refine (name_any _ _ hn).mono ?_; rintro e w2 ⟨b, rfl, rfl⟩)
      | (go_at_call 4; refine (lives_at h hb1).mono ?_; rintro e w3 ⟨rfl, hb3⟩)
      | fail)
    · simp only [postOf]
      exact ⟨rfl, _, _, Tryz.func3, results_tmp rfl _ _ _, rfl, hb1.trans (hb3.mono hb1.size)⟩
    simp only [postOf]
    refine end_seq ?_
    go_wp2_with (first
      | (go_at_call 6; refine (HN.out _).mono ?_; rintro e w4 ⟨rfl, hb4⟩)
      | fail)
    simp only [postOf]
    refine end_seq ?_
    go_wp2
    simp only [postOf]
    refine (true_rest (n0 := 10) (ng := 7) (rid := 1) (cs := pow10) (n := 60) (c := rest3) (fr := frm name 1 false) mixed Tryz.func3 (by decide) (by decide) (by decide) (by decide +kernel) (rest_no name) (h.below (hb1.trans (hb4.mono hb1.size))) (frm_rel rfl rfl rfl rfl (by show Value.bool (decide (m ≤ 65536)) = _; rw [decide_eq_false (by omega)]))).mono ?_
    rintro e w5 ⟨rfl, hb5⟩
    exact ⟨rfl, (hb1.trans (hb4.mono hb1.size)).trans (hb5.mono (Nat.le_trans hb1.size hb4.size))⟩
set_option maxHeartbeats 4000000 in
theorem law_long (r m : Int) (name : ByteArray) (w : World) (h : RomAt w 1 pow10) (hn : 101 ≤ name.size) (hn2 : name.size ≤ 9223372036854775807) :
    Calls Tryz.prog 3 #[.int .i64 r, .int .i64 m, .string name] w (LPost w) := by
  have L1 := lives_at h (Below.refl _ _)
  go_enter Tryz.func3, Tryz.ntmps3
  go_wp2_with (first
    | (go_at_call 4; refine L1.mono ?_; rintro e w1 ⟨rfl, hb1⟩)
    | (go_at_call 4; refine (lives_at h hb1).mono ?_; rintro e w3 ⟨rfl, hb3⟩)
    | fail)
  go_ret
  exact ⟨rfl, hb1.trans (hb3.mono hb1.size)⟩

theorem law_any (r m : Int) (name : ByteArray) (w : World) (h : RomAt w 1 pow10) (hn2 : name.size ≤ 9223372036854775807) :
    Calls Tryz.prog 3 #[.int .i64 r, .int .i64 m, .string name] w (LPost w) := by
  by_cases hn : name.size ≤ 100
  · by_cases h1 : 1 ≤ r ∧ r ≤ 1048576
    · by_cases h3 : 1 ≤ m ∧ m ≤ 65536
      · exact law_ok r m name w h hn h1.1 h1.2 h3.1 h3.2
      · exact law_no2 r m name w h hn h1.1 h1.2 (by omega)
    · exact law_no1 r m name w h hn (by omega)
  · exact law_long r m name w h (by omega) hn2
end Go.Proofs.YthogkihfbjbghaaGreatDoor
