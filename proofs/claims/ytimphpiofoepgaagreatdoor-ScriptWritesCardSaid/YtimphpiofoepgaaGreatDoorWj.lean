/- the walks. -/
import Derived.Test.YtimphpiofoepgaaGreatDoorWi
import Derived.WalkKit
import Derived.Deep.RegionWith
namespace Go.Proofs.YtimphpiofoepgaaGreatDoor
open Go Go.RowKit

theorem Steps4.below {w w' : World} {A : Option Addr} {xs : List Stp} (h : Steps4 w w.heap.size A xs) (hb : Below w.heap.size w w') : Steps4 w' w'.heap.size A xs :=
  ⟨(h.1.below hb).more hb.size, fun x hx => ((h.2 x hx).below hb).more hb.size⟩
theorem BPost.isBad {w : World} {xs : List Stp} {k0 : Nat} {e : Ending} {w' : World} (h : BPost w xs k0 e w') (hk : k0 < xs.length) : e = .returned (.tuple #[.slice none 0 0, .int .i64 14]) ∧ Below w.heap.size w w' := by
  obtain ⟨hb, h | h | h⟩ := h
  · omega
  · omega
  · exact ⟨h.2, hb⟩
theorem BPost.isLong {w : World} {xs : List Stp} {e : Ending} {w' : World} (h : BPost w xs xs.length e w') (hk : 256 < xs.length) : e = .returned (.tuple #[.slice none 0 0, .int .i64 6]) ∧ Below w.heap.size w w' := by
  obtain ⟨hb, h | h | h⟩ := h
  · omega
  · exact ⟨h.2.2, hb⟩
  · omega
theorem BPost.isGood {w : World} {xs : List Stp} {e : Ending} {w' : World} (h : BPost w xs xs.length e w') (hk : xs.length ≤ 256) : ∃ v, e = .returned (.tuple #[v, .int .i64 0]) ∧ w'.ownsRow w.heap.size 5 1 v (encL xs).length (encL xs) ∧ Below w.heap.size w w' := by
  obtain ⟨hb, h | h | h⟩ := h
  · obtain ⟨_, _, v, h1, h2⟩ := h
    exact ⟨v, h1, h2, hb⟩
  · omega
  · omega
theorem key_at {xs ys : List Stp} (h : ys.map Stp.key = xs.map Stp.key) (k : Nat) (hk : k < xs.length) : ∃ l nm to tx a1 c1 a2 c2, xs[k]? = some ⟨l, nm, to, a1, c1, tx⟩ ∧ ys[k]? = some ⟨l, nm, to, a2, c2, tx⟩ := by
  have hk' : k < ys.length := by have := congrArg List.length h; simp at this; omega
  have e := congrArg (·[k]?) h
  simp only [List.getElem?_map, List.getElem?_eq_getElem hk, List.getElem?_eq_getElem hk', Option.map_some, Option.some.injEq] at e
  refine ⟨xs[k].l, xs[k].nm, xs[k].to, xs[k].tx, xs[k].ta, xs[k].tc, ys[k].ta, ys[k].tc, List.getElem?_eq_getElem hk, ?_⟩
  rw [List.getElem?_eq_getElem hk']
  generalize ys[k] = y at *
  generalize xs[k] = x at *
  obtain ⟨l, nm, to, ta, tc, tx⟩ := y
  simp only [Stp.key, Prod.mk.injEq] at e
  obtain ⟨rfl, rfl, rfl, rfl⟩ := e
  rfl
theorem Steps4.cells4 {w wq : World} {A : Option Addr} {xs : List Stp} {k : Nat} {x : Stp} (h : Steps4 w w.heap.size A xs) (hb : Below w.heap.size w wq) (hx : xs[k]? = some x) : ∃ ad, A = some ad ∧ ∀ j v, x.cells[j]? = some v → wq.cell? ((ad.add (k * 4)).add j) = some v := by
  have hk := (List.getElem?_eq_some_iff.1 hx).1
  obtain ⟨ad, e, hB, hc⟩ := h.1.2 (by omega)
  refine ⟨ad, e, fun j v hv => ?_⟩
  rw [add_of_add]
  exact (hb.cell (by rw [block_of_add]; exact hB)).trans (hc _ _ ((flat4_get xs k _ hx j (by have := (List.getElem?_eq_some_iff.1 hv).1; simpa [Stp.cells] using this)).trans hv))
theorem loadv {w : World} {ad : Addr} {l : Int} {nm to : ByteArray} {a : Option Addr} {c : Nat} {tx : List UInt8} (h : ∀ j v, (⟨l, nm, to, a, c, tx⟩ : Stp).cells[j]? = some v → w.cell? (ad.add j) = some v) (n : Nat) :
    (loadVar 26 ad).run Tryz.prog (w.drewN n) = .ok (.agg #[.int .u8 l, .string nm, .string to, .slice a tx.length c]) (w.drewN n) :=
  run_loadVarA (w.drewN n) ad 26 [.int .u8 l, .string nm, .string to, .slice a tx.length c] _ h Tryz.underlying26 rfl st_size
theorem fin_yes {α : Type} {l : List α} {b : Bool} (h : l = []) : b = (l.isEmpty && b) := by subst h; rfl
theorem fin_no {α : Type} {l : List α} {b : Bool} (h : ¬ l = []) : false = (l.isEmpty && b) := by cases l <;> simp_all
theorem isEmpty_no {α : Type} {l : List α} (h : ¬ l = []) : l.isEmpty = false := by cases l <;> simp_all
theorem sm_snoc {xs : List Stp} {k : Nat} {x : Stp} (hk : k < xs.length) (hx : xs[k] = x) (h : ∀ x ∈ xs.take k, x.nm.size ≤ 100 ∧ x.to.size ≤ 100 ∧ x.tx.length ≤ 100) (hy : x.nm.size ≤ 100 ∧ x.to.size ≤ 100 ∧ x.tx.length ≤ 100) :
    ∀ x ∈ xs.take (k + 1), x.nm.size ≤ 100 ∧ x.to.size ≤ 100 ∧ x.tx.length ≤ 100 := by
  intro y hm
  rw [List.take_succ_eq_append_getElem hk, hx] at hm
  rcases List.mem_append.1 hm with hm | hm
  · exact h y hm
  · obtain rfl := List.mem_singleton.1 hm; exact hy

set_option maxRecDepth 100000 in
set_option maxHeartbeats 4000000 in
theorem law_any (A : Option Addr) (c : Nat) (xs : List Stp) (w : World) (hs : Steps4 w w.heap.size A xs) (hsz : ∀ x ∈ xs, x.nm.size ≤ 140737488355328 ∧ x.to.size ≤ 140737488355328 ∧ x.tx.length ≤ 140737488355328) 
    (hcap : xs.length ≤ 140737488355328)
    (hlive : ∀ w', Below w.heap.size w w' → Calls Tryz.prog 4 #[] w' fun e w'' => e = .returned (.bool true) ∧ Below w'.heap.size w' w'') :
    Calls Tryz.prog 3 #[.slice A xs.length c] w fun e w' => e = .returned (.bool true) ∧ Below w.heap.size w w' := by
  have L1 := hlive w (Below.refl _ _)
  by_cases hl : xs.length ≤ 300
  case neg =>
    have hl : 301 ≤ xs.length := by omega
    have L2 := Lib.hid hlive
    clear hlive hs hsz
    go_enter Tryz.func3, Tryz.ntmps3
    go_wp2_with (first
      | (go_at_call 4; refine L1.mono ?_; rintro e w1 ⟨rfl, hb1⟩)
      | (go_at_call 4; refine (L2.out _ hb1).mono ?_; rintro e w2 ⟨rfl, hb2⟩)
      | fail)
    go_ret
    exact ⟨rfl, hb1.trans (hb2.mono hb1.size)⟩
  go_enter Tryz.func3, Tryz.ntmps3
  go_wp2_with (first
    | (go_at_call 4; refine L1.mono ?_; rintro e w1 ⟨rfl, hb1⟩)
    | fail)
  go_loopw [3, 21] (fun r i wr => ∃ (k : Nat) (b : Bool), k ≤ xs.length ∧ i = .int .i64 k ∧ r = .bool b ∧ okL (xs.take k) = b ∧ (∀ x ∈ xs.take k, x.nm.size ≤ 100 ∧ x.to.size ≤ 100 ∧ x.tx.length ≤ 100) ∧ Below w.heap.size w wr) (fun _ i _ => xs.length - (intOf i).toNat)
  case atStart => exact ⟨0, true, by omega, rfl, rfl, rfl, fun x h => absurd h (by simp), hb1⟩
  case round =>
    obtain ⟨k, b, hk, rfl, rfl, hbk, hsm, hb⟩ := hrel
    by_cases hlt : k < xs.length
    · obtain ⟨ad, rfl, hadB, hcell⟩ := hs.1.2 (by omega)
      have hx : xs[k]? = some xs[k] := List.getElem?_eq_getElem hlt
      have hc : ∀ j v, (xs[k]).cells[j]? = some v → wr.cell? (ad.add (k * 4 + j)) = some v := fun j v hv => (hb.cell (by rw [block_of_add]; exact hadB)).trans (hcell _ _ ((flat4_get xs k _ hx j (by have := (List.getElem?_eq_some_iff.1 hv).1; simpa [Stp.cells] using this)).trans hv))
      have hcl : (Tryz.prog.info? 26).map (·.size) = some (xs[k]).cells.length := by kernel_rfl
      have hc' : ∀ j v, (xs[k]).cells[j]? = some v → wr.cell? ((ad.add (k * 4)).add j) = some v := fun j v hv => by rw [add_of_add]; exact hc j v hv
      generalize hxk : xs[k] = x at hc' hcl
      have H := Lib.hid hc'
      have hxm : x ∈ xs := hxk ▸ List.getElem_mem hlt
      obtain ⟨z1, z2, z3⟩ := hsz x hxm
      have HX := Lib.hid hxk
      have HBK := Lib.hid hbk
      have HSM := Lib.hid hsm
      clear hc hc' hx hcell hxk hs hsz hlive L1 hbk hsm
      by_cases hsum : x.nm.size + x.to.size + x.tx.length ≤ 100
      · by_cases h115 : x.l = 115
        · obtain ⟨l, nm, to, ta, tc, tx⟩ := x
          simp only at h115 hsum z1 z2 z3
          subst h115
          cases b
          all_goals
            go_wp2_with (first
              | (refine wpList_loadA rfl 26 (.tmp 23) rfl _ rfl [.int .u8 115, .string nm, .string to, .slice ta tx.length tc] _ H.out Tryz.underlying26 rfl hcl ?_)
              | fail)
          all_goals
            go_roundw
            case rel =>
              refine ⟨k + 1, _, by omega, by go_num, rfl, ?_, sm_snoc hlt HX.out HSM.out ⟨by simp only; omega, by simp only; omega, by simp only; omega⟩, hb.alloc hb.size _⟩
              rw [okL_snoc hlt, HBK.out, HX.out]
              first
                | rfl
                | (rw [Bool.true_and, okD_115]; done)
                | (rw [Bool.true_and, okD_115]; exact (fin_yes (by assumption)).symm)
                | (rw [Bool.true_and, okD_115]; exact (fin_no (by assumption)).symm)
            case measure => simp [intOf]; omega
        by_cases hn : x.l = 100
        · obtain ⟨l, nm, to, ta, tc, tx⟩ := x
          simp only at hn hsum z1 z2 z3
          subst hn
          cases b
          all_goals
            go_wp2_with (first
              | (refine wpList_loadA rfl 26 (.tmp 23) rfl _ rfl [.int .u8 100, .string nm, .string to, .slice ta tx.length tc] _ H.out Tryz.underlying26 rfl hcl ?_)
              | fail)
          all_goals
            go_roundw
            case rel =>
              refine ⟨k + 1, _, by omega, by go_num, rfl, ?_, sm_snoc hlt HX.out HSM.out ⟨by simp only; omega, by simp only; omega, by simp only; omega⟩, hb.alloc hb.size _⟩
              rw [okL_snoc hlt, HBK.out, HX.out]
              first
                | rfl
                | (rw [Bool.true_and, okD_n _ (by decide)]; done)
                | (rw [Bool.true_and, okD_n _ (by decide)]; exact (fin_yes (by assumption)).symm)
                | (rw [Bool.true_and, okD_n _ (by decide)]; exact (fin_no (by assumption)).symm)
            case measure => simp [intOf]; omega
        by_cases hn2 : x.l = 113
        · obtain ⟨l, nm, to, ta, tc, tx⟩ := x
          simp only at hn2 hsum z1 z2 z3
          subst hn2
          cases b
          all_goals
            go_wp2_with (first
              | (refine wpList_loadA rfl 26 (.tmp 23) rfl _ rfl [.int .u8 113, .string nm, .string to, .slice ta tx.length tc] _ H.out Tryz.underlying26 rfl hcl ?_)
              | fail)
          all_goals
            go_roundw
            case rel =>
              refine ⟨k + 1, _, by omega, by go_num, rfl, ?_, sm_snoc hlt HX.out HSM.out ⟨by simp only; omega, by simp only; omega, by simp only; omega⟩, hb.alloc hb.size _⟩
              rw [okL_snoc hlt, HBK.out, HX.out]
              first
                | rfl
                | (rw [Bool.true_and, okD_n _ (by decide)]; done)
                | (rw [Bool.true_and, okD_n _ (by decide)]; exact (fin_yes (by assumption)).symm)
                | (rw [Bool.true_and, okD_n _ (by decide)]; exact (fin_no (by assumption)).symm)
            case measure => simp [intOf]; omega
        by_cases hn3 : x.l = 101
        · obtain ⟨l, nm, to, ta, tc, tx⟩ := x
          simp only at hn3 hsum z1 z2 z3
          subst hn3
          cases b
          all_goals
            go_wp2_with (first
              | (refine wpList_loadA rfl 26 (.tmp 23) rfl _ rfl [.int .u8 101, .string nm, .string to, .slice ta tx.length tc] _ H.out Tryz.underlying26 rfl hcl ?_)
              | fail)
          all_goals
            go_roundw
            case rel =>
              refine ⟨k + 1, _, by omega, by go_num, rfl, ?_, sm_snoc hlt HX.out HSM.out ⟨by simp only; omega, by simp only; omega, by simp only; omega⟩, hb.alloc hb.size _⟩
              rw [okL_snoc hlt, HBK.out, HX.out]
              first
                | rfl
                | (rw [Bool.true_and, okD_n _ (by decide)]; done)
                | (rw [Bool.true_and, okD_n _ (by decide)]; exact (fin_yes (by assumption)).symm)
                | (rw [Bool.true_and, okD_n _ (by decide)]; exact (fin_no (by assumption)).symm)
            case measure => simp [intOf]; omega
        by_cases h114 : x.l = 114
        · obtain ⟨l, nm, to, ta, tc, tx⟩ := x
          simp only at h114 hsum z1 z2 z3
          subst h114
          cases b
          all_goals
            go_wp2_with (first
              | (refine wpList_loadA rfl 26 (.tmp 23) rfl _ rfl [.int .u8 114, .string nm, .string to, .slice ta tx.length tc] _ H.out Tryz.underlying26 rfl hcl ?_)
              | fail)
          all_goals
            go_roundw
            case rel =>
              refine ⟨k + 1, _, by omega, by go_num, rfl, ?_, sm_snoc hlt HX.out HSM.out ⟨by simp only; omega, by simp only; omega, by simp only; omega⟩, hb.alloc hb.size _⟩
              rw [okL_snoc hlt, HBK.out, HX.out]
              first
                | rfl
                | (rw [Bool.true_and, okD_114]; done)
                | (rw [Bool.true_and, okD_114]; exact (fin_yes (by assumption)).symm)
                | (rw [Bool.true_and, okD_114]; exact (fin_no (by assumption)).symm)
            case measure => simp [intOf]; omega
        by_cases h97 : x.l = 97
        · obtain ⟨l, nm, to, ta, tc, tx⟩ := x
          simp only at h97 hsum z1 z2 z3
          subst h97
          cases b
          all_goals
            go_wp2_with (first
              | (refine wpList_loadA rfl 26 (.tmp 23) rfl _ rfl [.int .u8 97, .string nm, .string to, .slice ta tx.length tc] _ H.out Tryz.underlying26 rfl hcl ?_)
              | fail)
          all_goals
            go_roundw
            case rel =>
              refine ⟨k + 1, _, by omega, by go_num, rfl, ?_, sm_snoc hlt HX.out HSM.out ⟨by simp only; omega, by simp only; omega, by simp only; omega⟩, hb.alloc hb.size _⟩
              rw [okL_snoc hlt, HBK.out, HX.out]
              first
                | rfl
                | (rw [Bool.true_and, okD_e _ (by decide)]; done)
                | (rw [Bool.true_and, okD_e _ (by decide)]; exact (fin_yes (by assumption)).symm)
                | (rw [Bool.true_and, okD_e _ (by decide)]; exact (fin_no (by assumption)).symm)
            case measure => simp [intOf]; omega
        by_cases h120 : x.l = 120
        · obtain ⟨l, nm, to, ta, tc, tx⟩ := x
          simp only at h120 hsum z1 z2 z3
          subst h120
          cases b
          all_goals
            go_wp2_with (first
              | (refine wpList_loadA rfl 26 (.tmp 23) rfl _ rfl [.int .u8 120, .string nm, .string to, .slice ta tx.length tc] _ H.out Tryz.underlying26 rfl hcl ?_)
              | fail)
          all_goals
            go_roundw
            case rel =>
              refine ⟨k + 1, _, by omega, by go_num, rfl, ?_, sm_snoc hlt HX.out HSM.out ⟨by simp only; omega, by simp only; omega, by simp only; omega⟩, hb.alloc hb.size _⟩
              rw [okL_snoc hlt, HBK.out, HX.out]
              first
                | rfl
                | (rw [Bool.true_and, okD_e _ (by decide)]; done)
                | (rw [Bool.true_and, okD_e _ (by decide)]; exact (fin_yes (by assumption)).symm)
                | (rw [Bool.true_and, okD_e _ (by decide)]; exact (fin_no (by assumption)).symm)
            case measure => simp [intOf]; omega
        have e1 : (x.l == 115) = false := by simpa using h115
        have e2 : (x.l == 100) = false := by simpa using hn
        have e3 : (x.l == 113) = false := by simpa using hn2
        have e4 : (x.l == 101) = false := by simpa using hn3
        have e5 : (x.l == 114) = false := by simpa using h114
        have e6 : (x.l == 97) = false := by simpa using h97
        have e7 : (x.l == 120) = false := by simpa using h120
        clear h115 hn hn2 hn3 h114 h97 h120
        go_wp2_with (first
              | (refine wpList_loadA rfl 26 (.tmp 23) rfl _ rfl [.int .u8 x.l, .string x.nm, .string x.to, .slice x.ta x.tx.length x.tc] _ H.out Tryz.underlying26 rfl hcl ?_)
              | fail)
        all_goals
          go_roundw
          case rel =>
            refine ⟨k + 1, _, by omega, by go_num, rfl, ?_, sm_snoc hlt HX.out HSM.out ⟨by omega, by omega, by omega⟩, hb.alloc hb.size _⟩
            rw [okL_snoc hlt, HX.out, okD_no x e1 e2 e3 e4 e5 e6 e7, Bool.and_false]
          case measure => simp [intOf]; omega
      · have hsum : 101 ≤ x.nm.size + x.to.size + x.tx.length := by omega
        go_wp2_with (first
            | (refine wpList_loadA rfl 26 (.tmp 23) rfl _ rfl [.int .u8 x.l, .string x.nm, .string x.to, .slice x.ta x.tx.length x.tc] _ H.out Tryz.underlying26 rfl hcl ?_)
            | fail)
        go_ret
        exact ⟨rfl, hb.alloc hb.size _⟩
    · obtain rfl : k = xs.length := by omega
      rw [List.take_length] at hbk hsm
      have L2 := Lib.hid hlive
      have HSM := Lib.hid hsm
      have HBK := Lib.hid hbk
      have HS := Lib.hid (hs.below hb)
      clear hlive hs hsz L1 hbk hsm
      cases b
      · obtain ⟨k0, hk0, hgood, hbad⟩ := okL_bad HBK.out
        have HB := Lib.hid (bytes_any A c xs wr k0 hl HS.out HSM.out (by omega) hgood (fun _ => hbad))
        have HK0 := Lib.hid hk0
        clear hgood hbad hk0
        go_wp2_with (first
          | (go_at_call 5; refine HB.out.mono ?_; intro e w2 hp; obtain ⟨rfl, hb2⟩ := BPost.isBad hp HK0.out)
          | fail)
        go_ret
        exact ⟨rfl, hb.trans (hb2.mono hb.size)⟩
      · have hgood := okL_spec HBK.out
        have HB := Lib.hid (bytes_any A c xs wr xs.length hl HS.out HSM.out (Nat.le_refl _) (fun i h _ => hgood _ (List.getElem_mem h)) (fun h => absurd h (by omega)))
        have HG := Lib.hid hgood
        clear hgood
        by_cases h256 : xs.length ≤ 256
        · clear hb1
          have HBx := Lib.hid hb
          go_wp2_with (first
            | (go_at_call 5; refine HB.out.mono ?_; intro e w2 hp; obtain ⟨v2, rfl, hown2, hb2⟩ := BPost.isGood hp h256; have HP := Lib.hid (parse_own xs wr.heap.size v2 w2 h256 HSM.out HG.out hown2); obtain ⟨ta, tc, rfl⟩ := own_slice hown2; have HB2 := Lib.hid hb2; clear hown2 hb2)
            | (go_at_call 6; refine HP.out.mono ?_; rintro e w3 ⟨pa, pc, ys, rfl, hkey, hb3, hys⟩; have HB3 := Lib.hid hb3; have HKEY := Lib.hid hkey; have HYS := Lib.hid hys; clear hkey hb3 hys)
            | fail)
          have HXS := Lib.hid ((HS.out.below HB2.out).below (HB3.out.mono (Nat.le_refl _)))
          have HALL := Lib.hid ((HBx.out.trans (HB2.out.mono HBx.out.size)).trans (HB3.out.mono (Nat.le_trans HBx.out.size HB2.out.size)))
          clear HB2 HB3 HP HB HS HBx HSM hb HG HBK L2
          go_loopw [135] (fun i wq => ∃ k : Nat, k ≤ xs.length ∧ i = .int .i64 k ∧ Below w3.heap.size w3 wq) (fun i _ => xs.length - (intOf i).toNat)
          case atStart => exact ⟨0, by omega, rfl, Below.refl _ _⟩
          case round =>
            obtain ⟨k, hk, rfl, hbq⟩ := hrel
            obtain ⟨wo, rfl⟩ : ∃ wo : World, wo = wr := ⟨_, rfl⟩
            by_cases hlt : k < xs.length
            · have hxy : ∃ l nm to tx a1 c1 a2 c2, xs[k]? = some ⟨l, nm, to, a1, c1, tx⟩ ∧ ys[k]? = some ⟨l, nm, to, a2, c2, tx⟩ := key_at HKEY.out k hlt
              obtain ⟨l, nm, to, tx, a1, c1, a2, c2, hx, hy⟩ := hxy
              obtain ⟨ad, rfl, hdx⟩ := HXS.out.cells4 hbq hx
              obtain ⟨bd, rfl, hdy⟩ := HYS.out.cells4 hbq hy
              have tX := Lib.hid (((HXS.out.2 _ (List.mem_of_getElem? hx)).below hbq).more hbq.size)
              have tY := Lib.hid (((HYS.out.2 _ (List.mem_of_getElem? hy)).below hbq).more hbq.size)
              have HX := Lib.hid hx
              have HY := Lib.hid hy
              obtain ⟨p, hp⟩ : ∃ p, ad.add (k * 4) = p := ⟨_, rfl⟩
              obtain ⟨q, hq⟩ : ∃ q, bd.add (k * 4) = q := ⟨_, rfl⟩
              rw [hp] at hdx
              rw [hq] at hdy
              have x0 : wo.cell? p = some (.int .u8 l) := hdx 0 _ rfl
              have x1 : wo.cell? ⟨p.block, p.off + 1, none⟩ = some (.string nm) := hdx 1 _ rfl
              have x2 : wo.cell? ⟨p.block, p.off + 2, none⟩ = some (.string to) := hdx 2 _ rfl
              have x3 : wo.cell? ⟨p.block, p.off + 3, none⟩ = some (.slice a1 tx.length c1) := hdx 3 _ rfl
              have y0 : wo.cell? q = some (.int .u8 l) := hdy 0 _ rfl
              have y1 : wo.cell? ⟨q.block, q.off + 1, none⟩ = some (.string nm) := hdy 1 _ rfl
              have y2 : wo.cell? ⟨q.block, q.off + 2, none⟩ = some (.string to) := hdy 2 _ rfl
              have y3 : wo.cell? ⟨q.block, q.off + 3, none⟩ = some (.slice a2 tx.length c2) := hdy 3 _ rfl
              clear hx hy hdx hdy
              go_wp2_with fail
              go_region_with (go_at_call 7; refine (same_any l nm to tx a1 a2 c1 c2 wo.drew tX.out tY.out).mono ?_; rintro e w' ⟨rfl, hb5⟩)
              all_goals
                go_wp2_with fail
                go_roundw
                case rel => exact ⟨k + 1, by omega, by go_num, hbq.drew.trans (hb5.mono hbq.size)⟩
                case measure => simp [intOf]; omega
            · obtain rfl : k = xs.length := by omega
              have h2 := hbq.mono HALL.out.size
              go_wp2_with fail
              go_ret
              exact ⟨rfl, HALL.out.trans h2⟩
        · have h257 : 257 ≤ xs.length := by omega
          go_wp2_with (first
            | (go_at_call 5; refine HB.out.mono ?_; intro e w2 hp; obtain ⟨rfl, hb2⟩ := BPost.isLong hp (by omega))
            | fail)
          go_ret
          exact ⟨rfl, hb.trans (hb2.mono hb.size)⟩
end Go.Proofs.YtimphpiofoepgaaGreatDoor
