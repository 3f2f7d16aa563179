/- the row. -/
import Derived.Test.YthogkihfbjbghaaGreatDoorRows
import Derived.Test.YthogkihfbjbghaaGreatDoorWc
import Derived.ProofKit
import Derived.LaidMore
import Derived.OpenShut
import Derived.Stop.Joined
import Derived.MakeChecks
import Derived.Carry
import Derived.ChangeSame
import Derived.Below
import Derived.SizedLaws
namespace Go.Proofs.YthogkihfbjbghaaGreatDoor
open Go Go.RowKit Go.ChangeShapes Go.WideShapes Go.Proofs.YthogkihfbjbghaaGreatDoor.Abs
open Go.ChangeMaps (open_string)

theorem gPow : Tryz.prog.globalNamed "internal/strconv.uint64pow10" = some 1 := by kernel_rfl
theorem tPow : (Tryz.prog.globals[1]?).map (·.type) = some 459 := by kernel_rfl

abbrev laid5 : List (String × DataW Unit) := YthogkihfbjbghaaGreatDoor.Rows.sessionNoneRow.laid

def p10 : List Int := [1, 10, 100, 1000, 10000, 100000, 1000000, 10000000, 100000000, 1000000000, 10000000000, 100000000000, 1000000000000, 10000000000000, 100000000000000, 1000000000000000, 10000000000000000, 100000000000000000, 1000000000000000000, 10000000000000000000]
theorem pow10_eq : pow10 = p10.map fun n => Value.int .u64 n := rfl

/-- the table of powers, as the row lists it -/
theorem rom_of_laid {W : World} (h : laidMetH Tryz.prog laid5 W) : RomAt W 1 pow10 := by
  rw [MakeChecks.laidMetH_plain _ _ _ (by kernel_rfl)] at h
  obtain ⟨ps, ⟨_, _, _, _, _, _, _, _, _, _, ⟨_, _, _, _, _, _, _, _, _, _, ⟨g0, t0, cs0, f0, p0, q0, hg0, ht0, hv0, hd0, _, _⟩, _⟩, _⟩, _, _⟩ := h
  obtain rfl := Option.some.inj (gPow.symm.trans hg0)
  obtain rfl := Option.some.inj (tPow.symm.trans ht0)
  obtain ⟨xs, m1, rfl, hx1, hlen, hn3, hel⟩ := DataW.trod_array Tryz.underlying459 hd0
  have c41 : Tryz.prog.cellsOf 41 = 1 := by kernel_rfl
  rw [c41] at hel
  have hL : xs.map (·.1) = p10.map fun n => DataW.lit (.int .u64 n) := (DataW.agg.inj (congrArg Prod.fst hx1)).symm
  have key : ∀ (i : Nat) (v : Value), pow10[i]? = some v → cs0[i]? = some v := fun i v hv => by
    rw [pow10_eq, List.getElem?_map] at hv
    cases hp : p10[i]? with
    | none => rw [hp] at hv; cases hv
    | some n =>
      rw [hp] at hv
      cases hv
      have hi : i < 20 := (List.getElem?_eq_some_iff.1 hp).1
      have h1 := hel i hi
      have hxi : i < xs.length := by omega
      rw [List.getElem?_eq_getElem hxi] at h1
      obtain ⟨k, e1, e2, _⟩ := DataW.trod_int Tryz.underlying41 h1
      have h2 := congrArg (·[i]?) hL
      simp only [List.getElem?_map, hp, Option.map_some, List.getElem?_eq_getElem hxi] at h2
      rw [e2] at h2
      simp only [Option.some.injEq, DataW.lit.injEq, Lit.int.injEq, true_and] at h2
      subst h2
      have h3 := congrArg (·[0]?) e1
      simp only [Nat.mul_one, List.getElem?_take, List.getElem?_drop] at h3
      simpa using h3
  unfold World.var? at hv0
  rw [gPow] at hv0
  simp only [Option.bind_some] at hv0
  split at hv0
  · rename_i c t fr hh
    cases hv0
    exact ⟨_, _, _, hh, key⟩
  · cases hv0
section
variable {H : Type} {enc : TypeId × Value → H} {P : Program}
theorem post_of_below {f : Func} {s : ChangeSpec} {apart fresh handsOn again : Bool} {W W' : World} {args : Array Value} {v : Value} {ds gs : List (DataW H)} {before pa pv : List MemPlace}
    (hW : DataW.Whole enc P f.params.toList s.vars apart W args.toList ds gs before)
    (hres : ∀ (b : Nat) (sp : Nat → Bool) (hd : Bool), DataW.TrodAll enc P W' b sp hd f.resultTypes.toList (v.resultList f.resultTypes.size) (s.fn H (ds ++ gs)).results [])
    (hargs : ∀ sp : Nat → Bool, (∀ p ∈ before, sp p.block = true) → DataW.TrodAll enc P W' 0 sp true f.params.toList args.toList (s.fn H (ds ++ gs)).args pa)
    (hvars : ∀ sp : Nat → Bool, (∀ p ∈ before, sp p.block = true) → DataW.TrodVars enc P W' sp s.vars (s.fn H (ds ++ gs)).vars pv)
    (hps : before = pa ++ pv) (hb : Below W.heap.size W W')
    (hok : ∀ (j : Nat) (t : TypeId) (r : Value), f.resultTypes[j]? = some t → (v.resultList f.resultTypes.size)[j]? = some r → Value.okWide P W' .any 0 t r) :
    s.post enc P f apart fresh handsOn again W args v W' := by
  have hlt : ∀ p ∈ before, p.block < W.heap.size := fun p hp => hW.lt p hp
  have hold : ∀ p ∈ before, (fun b => decide (b < W.heap.size)) p.block = true := fun p hp => by simpa using hlt p hp
  refine ⟨ds, gs, before, [], pa, pv, hW, hres _ _ _, hargs _ hold, hvars _ hold, World.keptBut_mono (fun p hp => ⟨hp, ?_⟩) (hb.frame (· ∈ before)), fun _ => ?_⟩
  · rw [hps, List.mem_append] at hp
    exact Or.inr hp
  · obtain ⟨_, _, _, _, _, hz, hn⟩ := hW
    refine ⟨hok, _, _, ([] ++ pa) ++ pv, ⟨[] ++ pa, pv, trodAll_append (hargs _ (fun _ _ => rfl)) (hres _ _ _), hvars _ (fun _ _ => rfl), rfl, ?_, ?_⟩, ?_⟩
    · intro b off hp
      have hin : MemPlace.cell b off ∈ before := by rw [hps]; simpa using hp
      rw [hb.frozen (hlt _ hin)]
      exact hz b off hin
    · intro ha
      have := hn ha
      rw [hps] at this
      simpa using this
    · intro p hp _
      rw [hps]
      simpa using hp
end

theorem laidOut : laidOutB Tryz.prog = true := by kernel_rfl
theorem own : ownKnob Tryz.prog.godebug = none := by kernel_rfl
theorem rd3 : Tryz.prog.readableRec 3 = true := by kernel_rfl
theorem rd9 : Tryz.prog.readableRec 9 = true := by kernel_rfl
theorem sz3 : 3 < Tryz.prog.types.size := of_decide_eq_true (by kernel_rfl)
theorem sz9 : 9 < Tryz.prog.types.size := of_decide_eq_true (by kernel_rfl)

set_option maxRecDepth 100000 in
theorem row_calls (H : Type) (enc : TypeId × Value → H) (W : World) (base : Nat) (args : Array Value) (ds gs : List (DataW H)) (before : List MemPlace)
    (hval : ∀ (j : Nat) t v, Tryz.f3.params[j]? = some t → args[j]? = some v → Value.okWide Tryz.prog W .any base t v)
    (hW : DataW.Whole enc Tryz.prog Tryz.f3.params.toList YthogkihfbjbghaaGreatDoor.Rows.sessionNoneSpec.vars false W args.toList ds gs before)
    (hL : laidMetH Tryz.prog laid5 W) :
    Calls Tryz.prog 3 args W fun e W' => ∃ v, e = .returned v ∧ YthogkihfbjbghaaGreatDoor.Rows.sessionNoneSpec.post enc Tryz.prog Tryz.f3 false true false false W args v W' := by
  have hW' := hW
  obtain ⟨p, q, hA0, hV, rfl, hfz, hnd⟩ := hW
  have hA : DataW.TrodAll enc Tryz.prog W 0 (fun _ => true) true Tryz.f3.params.toList args.toList ds p := hA0
  rw [Tryz.params3] at hA hval
  obtain ⟨v0, v1, v2, d0, d1, d2, p0, p1, p2, rfl, rfl, rfl, h0, h1, h2⟩ := trodAll_three hA
  obtain ⟨rfl, rfl⟩ := trodVars_none hV
  obtain ⟨r, rfl, rfl, rfl, _⟩ := open_int Tryz.underlying3 (hval 0 3 v0 rfl rfl) h0
  obtain ⟨m, rfl, rfl, rfl, _⟩ := open_int Tryz.underlying3 (hval 1 3 v1 rfl rfl) h1
  obtain ⟨s, rfl, rfl, rfl, hs⟩ := open_string Tryz.underlying9 (hval 2 9 v2 rfl rfl) h2
  have hrom := rom_of_laid hL
  refine (law_any r m s W hrom hs).mono ?_
  rintro e W' ⟨rfl, hb⟩
  refine ⟨_, rfl, post_of_below (pa := [] ++ ([] ++ [])) (pv := []) hW' (fun _ _ _ => trodAll_mk1 (shut_bool Tryz.underlying4 _)) (fun sp hsp => trodAll_mk3 ?_ ?_ ?_) (fun _ _ => rfl) (by simp) hb (ok_one (by kernel_rfl) rfl (okWide_bool_mk Tryz.underlying4 _))⟩
  · exact WideElems.Trod_stays laidOut rd3 sz3 h0 (fun x hx => by cases hx) (fun x hx => by cases hx)
  · exact WideElems.Trod_stays laidOut rd3 sz3 h1 (fun x hx => by cases hx) (fun x hx => by cases hx)
  · exact WideElems.Trod_stays laidOut rd9 sz9 h2 (fun x hx => by cases hx) (fun x hx => by cases hx)
end Go.Proofs.YthogkihfbjbghaaGreatDoor
