/- an interpreter of closed code, and its soundness. -/
import Derived.Test.YthogkihfbjbghaaGreatDoorEg
import Derived.Test.YthogkihfbjbghaaGreatDoorEf
import Derived.Below
import Derived.Test.YthogkihfbjbghaaGreatDoorEa
namespace Go.Proofs.YthogkihfbjbghaaGreatDoor.Abs
open Go.RowKit

/-- where a run begins: ng package variables, one of which may be read -/
noncomputable def start (n0 rid : Nat) (cs : List Value) : St := ⟨Trie.setK 24 .leaf rid (some (.rom cs)) id, n0, 0, 0, .run⟩

def rho0 (ng : Nat) : Rho := fun id => if id < ng then some ⟨id, 0, 0, 0⟩ else none

/-- the row that may be read lies in the world -/
def RomAt (w : World) (rid : Nat) (cs : List Value) : Prop := ∃ c' e' frz, w.heap[rid]? = some (.cells c' e' frz) ∧ ∀ (i : Nat) (v : Value), cs[i]? = some v → c'[i]? = some v

theorem RomAt.below {w w' : World} {rid : Nat} {cs : List Value} (h : RomAt w rid cs) (hb : Below w.heap.size w w') : RomAt w' rid cs := by
  obtain ⟨c', e', frz, h1, h2⟩ := h
  exact ⟨c', e', frz, (hb.block rid (Array.getElem?_eq_some_iff.1 h1).1).trans h1, h2⟩

theorem start_get {n0 rid : Nat} {cs : List Value} (h : rid ≤ 1048576) (id : Nat) : (start n0 rid cs).H.get id = if id = rid then some (.rom cs) else none := by
  have := Trie.get_set (.leaf : Trie AObj) rid (some (.rom cs)) id h
  rw [Trie.get_leaf] at this
  exact this

theorem start_at {ng n0 rid : Nat} {cs : List Value} (hr : rid < ng) (hn : ng ≤ n0) (hM : n0 ≤ 1048576) (hpl : cs.all (plainV 9) = true) {w : World} (hrom : RomAt w rid cs) : At (fun _ => True) (rho0 ng) (start n0 rid cs) w ng := by
  have hg := fun id => start_get (n0 := n0) (cs := cs) (show rid ≤ 1048576 by omega) id
  refine ⟨⟨fun id hid => ?_, hM⟩, ⟨fun id o _ ho => ?_, fun i j a b _ _ _ _ ha hb hab => ?_⟩, fun g hg => ⟨⟨g, 0, 0, 0⟩, by simp [rho0, hg], rfl, rfl⟩⟩
  · rw [hg, if_neg (by have : n0 ≤ id := hid; omega)]
  · rw [hg] at ho
    split at ho
    · rename_i e
      subst e
      cases ho
      obtain ⟨c', e', frz, h1, h2⟩ := hrom
      refine ⟨⟨id, 0, 0, 0⟩, by simp [rho0, hr], c', e', frz, h1, ?_, fun i v hv => ?_⟩
      · simp only [Nat.zero_add]
        rcases Nat.eq_zero_or_pos cs.length with h | h
        · omega
        · have hl : cs[cs.length - 1]? = some (cs[cs.length - 1]'(by omega)) := by simp [show cs.length - 1 < cs.length by omega]
          have := (Array.getElem?_eq_some_iff.1 (h2 _ _ hl)).1
          omega
      · rw [Nat.zero_add]
        exact ⟨v, h2 i v hv, VRel.plain 9 v (List.all_eq_true.1 hpl v (List.mem_of_getElem? hv))⟩
    · cases ho
  · unfold rho0 at ha hb
    split at ha <;> cases ha
    split at hb <;> cases hb
    exact hab

/-- nothing that lay there has turned -/
theorem PStep.below {F : Nat → Prop} {ρ ρ' : Rho} {s s' : St} {w w' : World} (h : PStep F ρ s w ρ' s' w') (hw : Nat.beq (Nat.mod s'.wr (bit s.n)) 0 = true) (hwf : Wf s) : Below w.heap.size w w' := by
  refine ⟨h.os, h.tape, h.output, h.size, fun b hb => h.keep b hb fun id k h1 h2 _ => ?_⟩
  rcases Nat.lt_or_ge id s.n with h3 | h3
  · rw [low_free hw h3] at h1; cases h1
  · exact absurd (hwf.none id h3) h2

/-- a call that leaves alone what lay there is no step at all, of the engine's -/
theorem PStep.ofBelow {F : Nat → Prop} {ρ : Rho} {s : St} {w w' : World} (hwf : Wf s) (hinv : Inv F ρ s.H.get w) (hb : Below w.heap.size w w') : PStep F ρ s w ρ s w' where
  le := ρ.le_refl
  dom id a b := absurd a b
  n_le := Nat.le_refl _
  wf := hwf
  inv := ⟨fun id o hF ho => by
    obtain ⟨k, hk, hr⟩ := hinv.rel id o hF ho
    exact ⟨k, hk, hr.keep ρ.le_refl (hb.block k.b hr.lt)⟩, hinv.apart⟩
  size := hb.size
  keep b hlt _ := hb.block b hlt
  fresh id k a b := by omega
  same _ _ := rfl
  live id h := .inl h
  fp _ h := h
  wr _ h := h
  wrfp _ h := .inl h
  new id a b := by omega
  tape := hb.tape
  os := hb.os
  output := hb.output

def okTrue (n0 : Nat) (x : Except String (List (CR × St))) : Bool := match x with
  | .ok [(.returned (.bool true), s)] => Nat.beq (Nat.mod s.wr (bit n0)) 0
  | _ => false

theorem okTrue_spec {n0 : Nat} {x : Except String (List (CR × St))} (h : okTrue n0 x = true) : ∃ s, x = .ok [(.returned (.bool true), s)] ∧ Nat.beq (Nat.mod s.wr (bit n0)) 0 = true := by
  unfold okTrue at h
  split at h
  · exact ⟨_, rfl, h⟩
  · cases h

theorem drawS {P : Program} (hm : P.follows .mixedOrders = true) : ∀ E : Env, E.P = P → GoS E.P E.ng E.go → DrawS E := fun E hE hgo => drawA_sound hgo (by rw [hE]; exact hm)

/-- **A CALL THAT THE ENGINE HAS RUN: it returns true, and leaves alone what lay there.** -/
theorem true_calls {P : Program} {ng n0 rid n : Nat} {cs : List Value} {f : FuncId} {args : List Value} {args' : Array Value} (hm : P.follows .mixedOrders = true) (hr : rid < ng) (hn : ng ≤ n0) (hM : n0 ≤ 1048576) (hpl : cs.all (plainV 9) = true)
    (h : okTrue n0 (callN P ng n (.call f args) (start n0 rid cs)) = true) {w : World} (hrom : RomAt w rid cs) (hargs : LRel (rho0 ng) args args'.toList) :
    Calls P f args' w fun e w' => e = .returned (.bool true) ∧ Below w.heap.size w w' := by
  obtain ⟨s, hx, hw⟩ := okTrue_spec h
  have hat := start_at hr hn hM hpl hrom
  have hc := (callN_sound (drawS hm) n).call hx (F := fun _ => True) (ρ := rho0 ng) (w := w) (args' := args') (fun x s' _ => ⟨fun _ _ => trivial, fun i a _ => by
    have : n0 ≤ i := a
    simp [rho0, show ¬ i < ng by omega]⟩) hat hargs
  intro cs0
  obtain ⟨e, w', fr, ⟨r, s', ρ', hmem, hcr, hp⟩, h1, h2, h3⟩ := hc cs0
  cases List.mem_singleton.1 hmem
  cases hcr with
  | returned _ v' hv =>
    cases hv
    exact ⟨_, w', fr, ⟨rfl, hp.below hw hat.wf⟩, h1, h2, h3⟩

end Go.Proofs.YthogkihfbjbghaaGreatDoor.Abs
namespace Go.Proofs.YthogkihfbjbghaaGreatDoor.Abs
open Go.RowKit

/-- a function's own frame -/
abbrev ownFrame (f : FuncId) : Frame := { (default : Frame) with fn := f, kind := .normal, roundOf := none }

/-- from a piece of the body to the function's end -/
def EndF (P : Program) (f : FuncId) (c : Code) (R : Ending → World → Prop) (a : Act) (w : World) : Prop :=
  ∀ (cs : List Frame), ∃ e w' X, R e w' ∧ Steps P (lone ((ownFrame f).atR a [.code c]) cs w) (lone X cs w') ∧ X.fn = f ∧ X.leaving P w' e ∧ e ≠ .outgrown

/-- at a return -/
def RetF (P : Program) (f : FuncId) (R : Ending → World → Prop) (a : Act) (w : World) : Prop :=
  a.defers = [] ∧ ∃ fn v, P.funcs[f]? = some fn ∧ (results fn a.tmps).run P w = .ok v w ∧ R (.returned v) w

def postOf (N R : Act → World → Prop) : Exit → Act → World → Prop
  | .normal, a, w => N a w
  | .ret, a, w => R a w
  | _, _, _ => False

theorem calls_of_end {P : Program} {f : FuncId} {fn : Func} {c : Code} {args : Array Value} {w : World} {R : Ending → World → Prop} (hf : P.funcs[f]? = some fn) (hb : fn.body = some c)
    (h : EndF P f c R { tmps := args ++ Array.replicate (fn.ntmps - args.size) undef, defers := [] } w) : Calls P f args w R := by
  intro cs
  obtain ⟨e, w', X, hR, hs, hX, hl, hne⟩ := h cs
  have henter : Frame.enter P f args .normal = (ownFrame f).atR { tmps := args ++ Array.replicate (fn.ntmps - args.size) undef, defers := [] } [.code c] := by
    simp [Frame.enter, Frame.atR, hf, hb]
  rw [← henter] at hs
  refine ⟨e, w', X, hR, ?_, hX, hl⟩
  cases e with
  | returned v => exact hs
  | panicked ch => exact hs
  | outgrown => exact absurd rfl hne

theorem end_ret {P : Program} {f : FuncId} {R : Ending → World → Prop} {a : Act} {w : World} {m : Machine} {cs : List Frame} {todo : List Item} (h : RetF P f R a w) (hs : Steps P m (lone { (ownFrame f).atR a todo with mode := .returning } cs w)) :
    ∃ e w' X, R e w' ∧ Steps P m (lone X cs w') ∧ X.fn = f ∧ X.leaving P w' e ∧ e ≠ .outgrown := by
  obtain ⟨hd, fn, v, hf, hr, hR⟩ := h
  exact ⟨.returned v, w, _, hR, hs, rfl, ⟨rfl, hd, rfl, fn, hf, hr⟩, by simp⟩

theorem end_seq {P : Program} {f : FuncId} {x y : Code} {R : Ending → World → Prop} {a : Act} {w : World} (h : x.wp P (postOf (fun a w => EndF P f y R a w) (RetF P f R)) a w) : EndF P f (.seq x y) R a w := by
  intro cs
  obtain ⟨e, a', w', hq, harr⟩ := h (ownFrame f) [.code y] cs
  have hat : ∀ a todo, (ownFrame f).at a todo = (ownFrame f).atR a todo := fun a todo => (Frame.atR_of_none (b := ownFrame f) rfl a todo).symm
  have h0 : step P (lone ((ownFrame f).atR a [.code (.seq x y)]) cs w) = .next (lone ((ownFrame f).atR a [.code x, .code y]) cs w) := stepR_seq
  cases e with
  | normal =>
    have harr : Steps P (lone ((ownFrame f).at a [.code x, .code y]) cs w) (lone ((ownFrame f).at a' [.code y]) cs w') := harr
    rw [hat, hat] at harr
    obtain ⟨e, w2, X, h1, h2, h3, h4⟩ := hq cs
    exact ⟨e, w2, X, h1, .head h0 (harr.trans h2), h3, h4⟩
  | ret =>
    obtain ⟨todo, harr⟩ := harr
    rw [hat, hat] at harr
    exact end_ret hq (.head h0 harr)
  | exit id => exact hq.elim
  | goto l => exact hq.elim
  | panic ch => exact hq.elim
  | outgrown => exact hq.elim

/-- the rest of a function, by the engine -/
noncomputable def restA (P : Program) (ng n : Nat) (f : FuncId) (fn : Func) (c : Code) (fr : Fr) (s : St) : Except String (List (CR × St)) :=
  xbind (execA ⟨P, ng, f, fn.ntmps, none, false, callN P ng n⟩ c fr s) (fun r s => match r with
    | (.normal, fr) | (.ret, fr) => leaveA P fn fr (deferredA P ng (callN P ng n)) 99 fr.d .returning s
    | (.panic chain, fr) => leaveA P fn fr (deferredA P ng (callN P ng n)) 99 fr.d (.panicking chain) s
    | _ => .error "left by a jump")

theorem rest_sound {P : Program} {ng n : Nat} (hm : P.follows .mixedOrders = true) {f : FuncId} {fn : Func} (hf : P.funcs[f]? = some fn) {c : Code} {fr : Fr} {s : St} {outs : List (CR × St)} (h : restA P ng n f fn c fr s = .ok outs)
    {F : Nat → Prop} {ρ : Rho} {w : World} {a : Act} (hc : Cov F ρ s outs) (hat : At F ρ s w ng) (hfr : FrRel ρ fn.ntmps fr a) {R : Ending → World → Prop}
    (hR : ∀ r s' ρ' e w', (r, s') ∈ outs → CrRel ρ' r e → PStep F ρ s w ρ' s' w' → R e w') : EndF P f c R a w := by
  intro cs
  have ih := callN_sound (P := P) (ng := ng) (drawS hm) n
  let E : Env := ⟨P, ng, f, fn.ntmps, none, false, callN P ng n⟩
  have hbr : BRel ρ E (ownFrame f) := ⟨rfl, rfl, .none, fun e => by cases e⟩
  obtain ⟨outs1, ho1, hc1, hall⟩ := bind_sound h hc
  obtain ⟨x, fr', s1, ρ1, e, a1, w1, cs1, hmem, hex, hfr1, hp1, hcs1, _, harr⟩ := execA_sound (E := E) ih (drawS hm E rfl ih) c _ s outs1 ho1 F ρ w _ (ownFrame f) [] cs cs hc1 hat hfr hbr rfl
  have hcs1 : cs1 = cs := hcs1
  subst hcs1
  obtain ⟨outs2, ho2, _, hrest⟩ := hall _ s1 hmem
  obtain ⟨hc2, hfin⟩ := hrest ρ1 w w1 hp1
  have go : ∀ (u : FrameMode) (X : Frame), leaveA P fn fr' (deferredA P ng (callN P ng n)) 99 fr'.d u s1 = .ok outs2 → MRel ρ1 u X.mode → X.defers = a1.defers → X.tmps = a1.tmps → X.fn = f → X.kind = .normal →
      Steps P (lone ((ownFrame f).atR a [.code c]) cs1 w) (lone X cs1 w1) → ∃ e w' X', R e w' ∧ Steps P (lone ((ownFrame f).atR a [.code c]) cs1 w) (lone X' cs1 w') ∧ X'.fn = f ∧ X'.leaving P w' e ∧ e ≠ .outgrown := by
    intro u X hlv hm2 hXd hXt hXf hXk hsteps
    obtain ⟨r', s', ρ', e', w', X', m, hcr, hps, hst, hfn, hle⟩ := leaveA_sound (deferredA_sound ih (drawS hm)) 99 fr'.d u s1 outs2 hlv ρ1 w1 X a1.defers cs1 hc2 (hp1.at hat) hfr1.dfr hm2 hXd (by rw [hXt]; exact hfr1.tmps) (by rw [hXf]; exact hf) hXk
    obtain ⟨s4, m4, _, hp4⟩ := hfin _ _ m
    exact ⟨e', w', X', hR r' s4 ρ' e' w' m4 hcr (hp4 _ _ hps), hsteps.trans hst, hfn.trans hXf, hle, by cases hcr <;> simp⟩
  cases hex with
  | normal => exact go .returning { (ownFrame f).atR a1 [] with mode := .returning } ho2 .returning rfl rfl rfl rfl (Steps.trans harr (.one (stepR_end rfl)))
  | ret =>
    obtain ⟨k₁, hs⟩ := harr
    exact go .returning { (ownFrame f).atR a1 (.code .ret :: k₁) with mode := .returning } ho2 .returning rfl rfl rfl rfl (hs.trans (.one (stepR_ret rfl)))
  | exit id => cases ho2
  | panic ch ch' hch =>
    obtain ⟨todo, hs⟩ := harr
    exact go (.panicking ch) { (ownFrame f).atR a1 todo with mode := .panicking ch' } ho2 (.panicking _ _ hch) rfl rfl rfl rfl hs

/-- **THE REST OF A FUNCTION THAT THE ENGINE HAS RUN: it returns true, and leaves alone what lay there.** -/
theorem true_rest {P : Program} {ng n0 rid n : Nat} {cs : List Value} {f : FuncId} {fn : Func} {c : Code} {fr : Fr} (hm : P.follows .mixedOrders = true) (hf : P.funcs[f]? = some fn) (hr : rid < ng) (hn : ng ≤ n0) (hM : n0 ≤ 1048576) (hpl : cs.all (plainV 9) = true)
    (h : okTrue n0 (restA P ng n f fn c fr (start n0 rid cs)) = true) {w : World} (hrom : RomAt w rid cs) {a : Act} (hfr : FrRel (rho0 ng) fn.ntmps fr a) :
    EndF P f c (fun e w' => e = .returned (.bool true) ∧ Below w.heap.size w w') a w := by
  obtain ⟨s, hx, hw⟩ := okTrue_spec h
  have hat := start_at hr hn hM hpl hrom
  refine rest_sound hm hf hx (F := fun _ => True) (ρ := rho0 ng) (w := w) (fun x s' _ => ⟨fun _ _ => trivial, fun i a _ => by
    have : n0 ≤ i := a
    simp [rho0, show ¬ i < ng by omega]⟩) hat hfr ?_
  intro r s' ρ' e w' hmem hcr hp
  cases List.mem_singleton.1 hmem
  cases hcr with
  | returned _ v' hv =>
    cases hv
    exact ⟨rfl, hp.below hw hat.wf⟩

theorem EndF.mono {P : Program} {f : FuncId} {c : Code} {R R' : Ending → World → Prop} {a : Act} {w : World} (h : EndF P f c R a w) (hR : ∀ e w, R e w → R' e w) : EndF P f c R' a w :=
  fun cs => let ⟨e, w', X, h1, h2⟩ := h cs; ⟨e, w', X, hR e w' h1, h2⟩

end Go.Proofs.YthogkihfbjbghaaGreatDoor.Abs
namespace Go.Proofs.YthogkihfbjbghaaGreatDoor.Abs
open Go.RowKit

/-- the k-th statement of a body, and what follows it -/
def seqAt : Nat → Code → Code
  | 0, .seq a _ => a
  | k + 1, .seq _ b => seqAt k b
  | _, c => c

def seqRest : Nat → Code → Code
  | 0, .seq _ b => b
  | k + 1, .seq _ b => seqRest k b
  | _, c => c

/-- a state that is written out -/
structure Lit where
  H : List (Nat × AObj)
  T : List (Nat × Value)
  n : Nat

noncomputable def Lit.st (L : Lit) : St := ⟨mkT L.H .leaf, L.n, 0, 0, .run⟩
noncomputable def Lit.fr (L : Lit) : Fr := ⟨mkT L.T .leaf, []⟩

theorem sameR_of {o o' : AObj} (h : sameR o o' = true) : o = o' := by
  unfold sameR at h
  split at h
  · rw [sameL_of (sameV_of 9) h]
  · exact sameO_of h

noncomputable def subV (t : Trie Value) : List (Nat × Value) → Bool
  | [] => true
  | (i, o) :: l => (match t.get i with | some o' => sameV 9 o o' | none => false) && Nat.blt i 1048576 && subV t l

/-- the piece comes to its end, at that state or at one that tells more; it has written to nothing elder than n0 -/
noncomputable def cutOk (n0 : Nat) (L : Lit) (x : Except String (List ((AExit × Fr) × St))) : Bool := match x with
  | .ok [((.normal, ⟨t, []⟩), s)] => Nat.beq s.n L.n && Nat.beq (Nat.mod s.wr (bit n0)) 0 && subH s.H L.n L.H && subV t L.T
  | _ => false

theorem mkT_get {α : Type} : ∀ (l : List (Nat × α)) (t : Trie α) (i : Nat) (o : α), (∀ p ∈ l, p.1 < 1048576) → (mkT l t).get i = some o → (i, o) ∈ l ∨ t.get i = some o
  | [], t, i, o, _, h => .inr h
  | (j, p) :: l, t, i, o, hl, h => by
    have hj : j < 1048576 := hl (j, p) (by simp)
    rw [mkT, Trie.setK_eq] at h
    rcases mkT_get l _ i o (fun p hp => hl p (List.mem_cons_of_mem _ hp)) h with h1 | h1
    · exact .inl (List.mem_cons_of_mem _ h1)
    · rw [Trie.get_setF 24 t j (some p) i (by omega)] at h1
      by_cases e : i = j
      · subst e
        rw [if_pos rfl, Option.some.injEq] at h1
        subst h1
        exact .inl (List.mem_cons_self ..)
      · rw [if_neg e] at h1; exact .inr h1

theorem subH_spec {H : Trie AObj} {n : Nat} : ∀ {l : List (Nat × AObj)}, subH H n l = true → ∀ (i : Nat) (o : AObj), (i, o) ∈ l → H.get i = some o ∧ i < n
  | [], _, _, _, hm => by cases hm
  | (j, p) :: l, h, i, o, hm => by
    simp only [subH, Bool.and_eq_true] at h
    obtain ⟨⟨h1, h2⟩, h3⟩ := h
    rcases List.mem_cons.1 hm with e | e
    · cases e
      refine ⟨?_, by simpa [Nat.blt_eq] using h2⟩
      cases hg : H.get j with
      | none => rw [hg] at h1; cases h1
      | some o' => rw [hg] at h1; rw [sameR_of h1]
    · exact subH_spec h3 i o e

theorem subV_spec {t : Trie Value} : ∀ {l : List (Nat × Value)}, subV t l = true → ∀ (i : Nat) (o : Value), (i, o) ∈ l → t.get i = some o ∧ i < 1048576
  | [], _, _, _, hm => by cases hm
  | (j, p) :: l, h, i, o, hm => by
    simp only [subV, Bool.and_eq_true] at h
    obtain ⟨⟨h1, h2⟩, h3⟩ := h
    rcases List.mem_cons.1 hm with e | e
    · cases e
      refine ⟨?_, by simpa [Nat.blt_eq] using h2⟩
      cases hg : t.get j with
      | none => rw [hg] at h1; cases h1
      | some o' => rw [hg] at h1; rw [sameV_of 9 _ _ h1]
    · exact subV_spec h3 i o e


/-- what stands at a cut: N0 the size of memory when all began -/
def Cut (N0 ng n0 nt : Nat) (fr : Fr) (s : St) (a : Act) (w : World) : Prop :=
  ∃ ρ, At (fun _ => True) ρ s w ng ∧ FrRel ρ nt fr a ∧ (∀ (id : Nat), s.n ≤ id → ρ id = none) ∧ (∀ (id : Nat) (k : Blk), n0 ≤ id → s.H.get id ≠ none → ρ id = some k → N0 ≤ k.b) ∧ N0 ≤ w.heap.size

theorem cut_start {ng n0 rid nt : Nat} {cs : List Value} {fr : Fr} {a : Act} {w : World} (hr : rid < ng) (hn : ng ≤ n0) (hM : n0 ≤ 1048576) (hpl : cs.all (plainV 9) = true) (hrom : RomAt w rid cs) (hfr : FrRel (rho0 ng) nt fr a) :
    Cut w.heap.size ng n0 nt fr (start n0 rid cs) a w :=
  ⟨rho0 ng, start_at hr hn hM hpl hrom, hfr, fun id h => by have : n0 ≤ id := h; simp [rho0, show ¬ id < ng by omega], fun id k h h1 h2 => by simp [rho0, show ¬ id < ng by omega] at h2, Nat.le_refl _⟩

/-- a step of a piece that writes to nothing elder -/
theorem PStep.cut {N0 ng n0 : Nat} {ρ ρ' : Rho} {s s' : St} {w w' : World} (h : PStep (fun _ => True) ρ s w ρ' s' w') (hw : Nat.beq (Nat.mod s'.wr (bit n0)) 0 = true) (hat : At (fun _ => True) ρ s w ng)
    (hf : ∀ (id : Nat) (k : Blk), n0 ≤ id → s.H.get id ≠ none → ρ id = some k → N0 ≤ k.b) (hz : N0 ≤ w.heap.size) :
    Below N0 w w' ∧ (∀ (id : Nat) (k : Blk), n0 ≤ id → s'.H.get id ≠ none → ρ' id = some k → N0 ≤ k.b) := by
  have hge : ∀ (id : Nat), s'.wr.testBit id = true → n0 ≤ id := fun id hb => by
    rcases Nat.lt_or_ge id n0 with h3 | h3
    · rw [low_free hw h3] at hb; cases hb
    · exact h3
  refine ⟨⟨h.os, h.tape, h.output, h.size, fun b hb => h.keep b (by omega) fun id k h1 h2 h3 => ?_⟩, fun id k hid h1 h2 => ?_⟩
  · have := hf id k (hge id h1) h2 h3
    omega
  · rcases h.live id h1 with h3 | ⟨h3, h4⟩
    · cases ho : s.H.get id with
      | none => exact absurd ho h3
      | some o =>
        obtain ⟨k1, hk1, _⟩ := hat.inv.rel id o trivial ho
        have := h.le _ _ hk1
        rw [h2] at this
        cases this
        exact hf id k hid h3 hk1
    · rcases h.fresh id k h3 h4 h1 h2 with h5 | ⟨id0, k0, b1, b2, _, b4, b5⟩
      · omega
      · rw [← b5]; exact hf id0 k0 (hge id0 b1) b2 b4

theorem cutOk_spec {n0 : Nat} {L : Lit} {x : Except String (List ((AExit × Fr) × St))} (h : cutOk n0 L x = true) :
    ∃ t s, x = .ok [((.normal, ⟨t, []⟩), s)] ∧ s.n = L.n ∧ Nat.beq (Nat.mod s.wr (bit n0)) 0 = true ∧ subH s.H L.n L.H = true ∧ subV t L.T = true := by
  unfold cutOk at h
  split at h
  · simp only [Bool.and_eq_true] at h
    exact ⟨_, _, rfl, Nat.eq_of_beq_eq_true h.1.1.1, h.1.1.2, h.1.2, h.2⟩
  · cases h

/-- a state that tells less -/
theorem cut_less {N0 ng n0 nt : Nat} {t : Trie Value} {s : St} {L : Lit} {a : Act} {w : World} (h : Cut N0 ng n0 nt ⟨t, []⟩ s a w) (hn : s.n = L.n) (hH : subH s.H L.n L.H = true) (hT : subV t L.T = true) : Cut N0 ng n0 nt L.fr L.st a w := by
  obtain ⟨ρ, hat, hfr, hfree, hnew, hz⟩ := h
  have hle := hat.wf.le
  have hget : ∀ (i : Nat) (o : AObj), L.st.H.get i = some o → s.H.get i = some o := fun i o ho => by
    rcases mkT_get L.H .leaf i o (fun p hp => by have := (subH_spec hH p.1 p.2 hp).2; omega) ho with h1 | h1
    · exact (subH_spec hH i o h1).1
    · cases h1
  have hgt : ∀ (i : Nat) (v : Value), L.fr.t.get i = some v → t.get i = some v := fun i o ho => by
    rcases mkT_get L.T .leaf i o (fun p hp => (subV_spec hT p.1 p.2 hp).2) ho with h1 | h1
    · exact (subV_spec hT i o h1).1
    · cases h1
  have hne : ∀ (i : Nat), L.st.H.get i ≠ none → s.H.get i ≠ none := fun i hi => by
    cases e : L.st.H.get i with
    | none => exact absurd e hi
    | some o => rw [hget i o e]; simp
  refine ⟨ρ, ⟨⟨fun id hid => ?_, by show L.n ≤ _; omega⟩, ⟨fun id o hF ho => hat.inv.rel id o hF (hget id o ho), fun i j x y hi hj h1 h2 => hat.inv.apart i j x y hi hj (hne i h1) (hne j h2)⟩, hat.glob⟩, ⟨hfr.size, fun t v e => hfr.tmps t v (hgt t v e), hfr.dfr⟩, fun id hid => hfree id (by have : L.n ≤ id := hid; omega), fun id k h0 h1 h2 => hnew id k h0 (hne id h1) h2, hz⟩
  have : L.n ≤ id := hid
  cases e : L.st.H.get id with
  | none => rfl
  | some o => have := hget id o e; rw [hat.wf.none id (by omega)] at this; cases this

/-- **A PIECE OF A BODY, BY THE ENGINE; WHAT FOLLOWS, FROM A STATE WRITTEN OUT.** -/
theorem end_cut {P : Program} {ng n0 n N0 : Nat} (hm : P.follows .mixedOrders = true) {f : FuncId} {fn : Func} {x y : Code} {fr : Fr} {s : St} {L : Lit}
    (h : cutOk n0 L (execA ⟨P, ng, f, fn.ntmps, none, false, callN P ng n⟩ x fr s) = true) {w : World} {a : Act} (hc : Cut N0 ng n0 fn.ntmps fr s a w) {R : Ending → World → Prop}
    (hrest : ∀ a1 w1, Cut N0 ng n0 fn.ntmps L.fr L.st a1 w1 → Below N0 w w1 → EndF P f y R a1 w1) : EndF P f (.seq x y) R a w := by
  intro cs
  obtain ⟨t, s1, hx, hn, hw, hH, hT⟩ := cutOk_spec h
  obtain ⟨ρ, hat, hfr, hfree, hnew, hz⟩ := hc
  have ih := callN_sound (P := P) (ng := ng) (drawS hm) n
  let E : Env := ⟨P, ng, f, fn.ntmps, none, false, callN P ng n⟩
  have hbr : BRel ρ E (ownFrame f) := ⟨rfl, rfl, .none, fun e => by cases e⟩
  obtain ⟨x', fr', s1', ρ1, e, a1, w1, cs1, hmem, hex, hfr1, hp1, hcs1, _, harr⟩ := execA_sound (E := E) ih (drawS hm E rfl ih) x _ s _ hx (fun _ => True) ρ w _ (ownFrame f) [.code y] cs cs (fun x s' _ => ⟨fun _ _ => trivial, fun i a _ => hfree i a⟩) hat hfr hbr rfl
  have hcs1 : cs1 = cs := hcs1
  subst hcs1
  cases List.mem_singleton.1 hmem
  cases hex
  obtain ⟨hb, hnew1⟩ := hp1.cut hw hat hnew hz
  have hfree1 : ∀ (id : Nat), s1.n ≤ id → ρ1 id = none := fun id hid => by
    cases e : ρ1 id with
    | none => rfl
    | some k =>
      exfalso
      by_cases e0 : ρ id = none
      · have := hp1.dom id e0 (by rw [e]; simp); omega
      · have := hp1.n_le
        exact e0 (hfree id (by omega))
  have hcut : Cut N0 ng n0 fn.ntmps ⟨t, []⟩ s1 a1 w1 := ⟨ρ1, hp1.at hat, hfr1, hfree1, hnew1, Nat.le_trans hz hp1.size⟩
  have h0 : step P (lone ((ownFrame f).atR a [.code (.seq x y)]) cs1 w) = .next (lone ((ownFrame f).atR a [.code x, .code y]) cs1 w) := stepR_seq
  obtain ⟨e, w2, X, h1, h2, h3, h4⟩ := hrest a1 w1 (cut_less hcut hn hH hT) hb cs1
  exact ⟨e, w2, X, h1, .head h0 (Steps.trans harr h2), h3, h4⟩

/-- **THE LAST PIECE: it returns true, and leaves alone what lay there when all began.** -/
theorem cut_true {P : Program} {ng n0 n N0 : Nat} (hm : P.follows .mixedOrders = true) {f : FuncId} {fn : Func} (hf : P.funcs[f]? = some fn) {c : Code} {fr : Fr} {s : St}
    (h : okTrue n0 (restA P ng n f fn c fr s) = true) {w w0 : World} {a : Act} (hc : Cut N0 ng n0 fn.ntmps fr s a w) (hb : Below N0 w0 w) :
    EndF P f c (fun e w' => e = .returned (.bool true) ∧ Below N0 w0 w') a w := by
  obtain ⟨s1, hx, hw⟩ := okTrue_spec h
  obtain ⟨ρ, hat, hfr, hfree, hnew, hz⟩ := hc
  refine rest_sound hm hf hx (F := fun _ => True) (ρ := ρ) (w := w) (fun x s' _ => ⟨fun _ _ => trivial, fun i a _ => hfree i a⟩) hat hfr ?_
  intro r s' ρ' e w' hmem hcr hp
  cases List.mem_singleton.1 hmem
  cases hcr with
  | returned _ v' hv =>
    cases hv
    exact ⟨rfl, hb.trans (hp.cut hw hat hnew hz).1⟩

end Go.Proofs.YthogkihfbjbghaaGreatDoor.Abs
namespace Go.Proofs.YthogkihfbjbghaaGreatDoor.Abs
open Go.RowKit

theorem setAll_eq {β : Type} : ∀ (l : List (Nat × Option AObj)) (t : Trie AObj) (k : Trie AObj → β), setAll l t k = k (setAll l t id)
  | [], t, k => rfl
  | (i, o) :: l, t, k => by
    show Trie.setK 24 t i o (fun t => setAll l t k) = k (Trie.setK 24 t i o (fun t => setAll l t id))
    rw [Trie.setK_eq 24 t i o (fun t => setAll l t k), Trie.setK_eq 24 t i o (fun t => setAll l t id)]
    exact setAll_eq l _ k

theorem setAll_get : ∀ (l : List (Nat × Option AObj)) (t : Trie AObj), (∀ p ∈ l, p.1 < 1048576) → ∀ (i : Nat), ((setAll l t id).get i = t.get i ∧ (∀ p ∈ l, p.1 ≠ i)) ∨ ∃ o, (i, o) ∈ l ∧ (setAll l t id).get i = o
  | [], t, _, i => .inl ⟨rfl, fun p h => by cases h⟩
  | (j, o) :: l, t, hl, i => by
    have hj : j < 1048576 := hl (j, o) (by simp)
    have e0 : setAll ((j, o) :: l) t id = setAll l (Trie.setK 24 t j o id) id := by
      show Trie.setK 24 t j o (fun t => setAll l t id) = _
      rw [Trie.setK_eq 24 t j o (fun t => setAll l t id)]
    rw [e0]
    rcases setAll_get l (Trie.setK 24 t j o id) (fun p h => hl p (List.mem_cons_of_mem _ h)) i with ⟨h1, h2⟩ | ⟨o', h1, h2⟩
    · rw [h1, Trie.get_setF 24 t j o i (by omega)]
      by_cases e : i = j
      · subst e
        exact .inr ⟨o, List.mem_cons_self .., by rw [if_pos rfl]⟩
      · rw [if_neg e]
        refine .inl ⟨rfl, fun p hp => ?_⟩
        rcases List.mem_cons.1 hp with rfl | hp
        · exact fun e' => e e'.symm
        · exact h2 p hp
    · exact .inr ⟨o', List.mem_cons_of_mem _ h1, h2⟩

theorem orIds_bit : ∀ (l : List (Nat × Option AObj)) (i : Nat), (orIds l).testBit i = true ↔ ∃ p ∈ l, p.1 = i
  | [], i => by simp [orIds]
  | (j, o) :: l, i => by
    rw [orIds, testBit_lor, testBit_bit, Bool.or_eq_true, decide_eq_true_eq, orIds_bit l i]
    simp

theorem subO_spec {H : Trie AObj} : ∀ {l : List (Nat × Option AObj)}, subO H l = true → (∀ p ∈ l, p.1 < 1048576) ∧ ∀ (i : Nat) (o : AObj), (i, some o) ∈ l → H.get i = some o
  | [], _ => ⟨fun p h => absurd h (by simp), fun i o hm => absurd hm (by simp)⟩
  | (j, p) :: l, h => by
    simp only [subO, Bool.and_eq_true] at h
    obtain ⟨⟨h1, h2⟩, h3⟩ := h
    obtain ⟨h4, h5⟩ := subO_spec h3
    refine ⟨fun q hq => ?_, fun i o hm => ?_⟩
    · rcases List.mem_cons.1 hq with rfl | hq
      · simpa [Nat.blt_eq] using h2
      · exact h4 q hq
    · rcases List.mem_cons.1 hm with e | e
      · cases e
        simp only at h1
        cases hg : H.get j with
        | none => rw [hg] at h1; cases h1
        | some o' => rw [hg] at h1; rw [sameR_of h1]
      · exact h5 i o e

/-- the state behind an entry -/
noncomputable def Ent.beh (e : Ent) (s : St) : St := ⟨setAll e.H1 s.H id, e.n1, Nat.lor s.fp e.fp1, Nat.lor s.wr e.wr1, s.u⟩


theorem Ent.behind_eq {β : Type} (e : Ent) (s : St) (k : St → β) : e.behind s k = k (e.beh s) := by
  obtain ⟨H, n, fp, wr, u⟩ := s
  show setAll e.H1 H (fun H => fnat (Nat.lor fp e.fp1) fun fp => fnat (Nat.lor wr e.wr1) fun wr => k ⟨H, e.n1, fp, wr, u⟩) = _
  rw [setAll_eq]
  simp only [fnat_eq]
  rfl

theorem Ent.ok_spec {e : Ent} {x : Except String (List (CR × St))} (h : e.ok x = true) : ∃ s, x = .ok [(.returned e.v, s)] ∧ s.n = e.n1 ∧ s.fp = e.fp1 ∧ s.wr = e.wr1 ∧ orIds e.H1 = e.wr1 ∧ subO s.H e.H1 = true ∧ subH (mkT e.H .leaf) e.n e.H = true ∧ e.n ≤ 1048576 := by
  unfold Ent.ok at h
  split at h
  · rename_i v s
    simp only [Bool.and_eq_true] at h
    obtain ⟨⟨⟨⟨⟨⟨⟨⟨h1, h2⟩, h3⟩, h4⟩, h5⟩, h6⟩, h7⟩, h8⟩, h9⟩ := h
    refine ⟨s, by rw [sameV_of 9 _ _ h1], Nat.eq_of_beq_eq_true h2, Nat.eq_of_beq_eq_true h3, Nat.eq_of_beq_eq_true h4, Nat.eq_of_beq_eq_true h5, h6, h7, Nat.le_of_ble_eq_true h8⟩
  · cases h

/-- a run from a state that tells less is one from a state that tells more -/
theorem PStep.more {F : Nat → Prop} {ρ ρ' : Rho} {s s1 : St} {e : Ent} {w w' : World} (h : PStep F ρ e.st w ρ' s1 w') (hn : s.n = e.n) (hsub : ∀ (i : Nat) (o : AObj), e.st.H.get i = some o → s.H.get i = some o) (hwf : Wf s) (hinv : Inv F ρ s.H.get w)
    (hF : ∀ (i : Nat), (e.beh s).fp.testBit i = true → F i) (hn1 : s1.n = e.n1) (hfp : s1.fp = e.fp1) (hwr : s1.wr = e.wr1) (hor : orIds e.H1 = e.wr1) (hO : subO s1.H e.H1 = true) : PStep F ρ s w ρ' (e.beh s) w' := by
  obtain ⟨hl, hO⟩ := subO_spec hO
  have hne : ∀ (i : Nat), e.st.H.get i ≠ none → s.H.get i ≠ none := fun i hi => by
    cases eq : e.st.H.get i with
    | none => exact absurd eq hi
    | some o => rw [hsub i o eq]; simp
  have hbit : ∀ (i : Nat), e.wr1.testBit i = true ↔ ∃ p ∈ e.H1, p.1 = i := fun i => by rw [← hor]; exact orIds_bit e.H1 i
  have hget : ∀ (i : Nat), (e.wr1.testBit i = false ∧ (e.beh s).H.get i = s.H.get i) ∨ (e.wr1.testBit i = true ∧ ∀ (o : AObj), (e.beh s).H.get i = some o → s1.H.get i = some o) := fun i => by
    rcases setAll_get e.H1 s.H hl i with ⟨h1, h2⟩ | ⟨o, h1, h2⟩
    · refine .inl ⟨?_, h1⟩
      cases hb : e.wr1.testBit i with
      | false => rfl
      | true =>
        obtain ⟨p, hp, hpi⟩ := (hbit i).1 hb
        exact absurd hpi (h2 p hp)
    · refine .inr ⟨(hbit i).2 ⟨_, h1, rfl⟩, fun o' ho' => ?_⟩
      have ho' : (setAll e.H1 s.H id).get i = some o' := ho'
      rw [h2] at ho'
      subst ho'
      exact hO i o' h1
  have hwrF : ∀ (i : Nat), e.wr1.testBit i = true → F i := fun i hi => by
    rcases h.wrfp i (by rw [hwr]; exact hi) with h1 | h1
    · have : (0 : Nat).testBit i = true := h1
      simp at this
    · exact hF i (by show (Nat.lor s.fp e.fp1).testBit i = true; rw [testBit_lor, ← hfp, h1, Bool.or_true])
  have stn : e.st.n = e.n := rfl
  have hkeepb : ∀ (id : Nat) (k : Blk), F id → e.wr1.testBit id = false → s.H.get id ≠ none → ρ id = some k → k.b < w.heap.size → w'.heap[k.b]? = w.heap[k.b]? := fun id k hFi hb hl hk hlt =>
    h.keep k.b hlt fun id2 k2 hb2 hl2 hk2 he => by
      rw [hwr] at hb2
      have := hinv.apart id2 id k2 k (hwrF id2 hb2) hFi (hne id2 hl2) hl hk2 hk he
      subst this
      rw [hb] at hb2; cases hb2
  refine ⟨h.le, fun id a b => ?_, ?_, ⟨fun id hid => ?_, ?_⟩, ⟨fun id o hFi ho => ?_, fun i j a b hFi hFj hi hj ha hb hab => ?_⟩, h.size, fun b hb hk => ?_, fun id k h1 h2 h3 h4 => ?_, fun id hid => ?_, fun id hid => ?_, fun id hid => ?_, fun id hid => ?_, fun id hid => ?_, fun id h1 h2 => ?_, h.tape, h.os, h.output⟩
  · have := h.dom id a b
    rw [hn]
    exact ⟨this.1, by show id < e.n1; rw [← hn1]; exact this.2⟩
  · show s.n ≤ e.n1
    have := h.n_le
    rw [hn, ← hn1]; exact this
  · have hid : e.n1 ≤ id := hid
    have h0 := h.n_le
    rcases hget id with ⟨h1, h2⟩ | ⟨h1, h2⟩
    · rw [h2]; exact hwf.none id (by rw [hn]; omega)
    · cases eq : (e.beh s).H.get id with
      | none => rfl
      | some o =>
        have := h2 o eq
        rw [h.wf.none id (by omega)] at this; cases this
  · show e.n1 ≤ _
    rw [← hn1]; exact h.wf.le
  · rcases hget id with ⟨h1, h2⟩ | ⟨h1, h2⟩
    · rw [h2] at ho
      obtain ⟨k, hk, hr⟩ := hinv.rel id o hFi ho
      exact ⟨k, h.le _ _ hk, hr.keep h.le (hkeepb id k hFi h1 (by rw [ho]; simp) hk hr.lt)⟩
    · exact h.inv.rel id o hFi (h2 o ho)
  · -- apart
    have old : ∀ (id : Nat) (k : Blk), F id → e.wr1.testBit id = false → (e.beh s).H.get id ≠ none → ρ' id = some k → s.H.get id ≠ none ∧ ρ id = some k ∧ k.b < w.heap.size := fun id k hFi h1 hl hk => by
      rcases hget id with ⟨_, h2⟩ | ⟨h2, _⟩
      · rw [h2] at hl
        cases eq : s.H.get id with
        | none => exact absurd eq hl
        | some o =>
          obtain ⟨k0, hk0, hr⟩ := hinv.rel id o hFi eq
          have := h.le _ _ hk0
          rw [hk] at this
          cases this
          exact ⟨by simp, hk0, hr.lt⟩
      · rw [h1] at h2; cases h2
    have new : ∀ (id : Nat), e.wr1.testBit id = true → (e.beh s).H.get id ≠ none → s1.H.get id ≠ none := fun id h1 hl => by
      rcases hget id with ⟨h2, _⟩ | ⟨_, h2⟩
      · rw [h1] at h2; cases h2
      · cases eq : (e.beh s).H.get id with
        | none => exact absurd eq hl
        | some o => rw [h2 o eq]; simp
    have mixed : ∀ (i j : Nat) (a b : Blk), F i → F j → e.wr1.testBit i = true → e.wr1.testBit j = false → (e.beh s).H.get i ≠ none → (e.beh s).H.get j ≠ none → ρ' i = some a → ρ' j = some b → a.b = b.b → False := fun i j a b hFi hFj hwi hwj hi hj ha hb hab => by
      obtain ⟨o1, o2, o3⟩ := old j b hFj hwj hj hb
      have hi1 := new i hwi hi
      rcases h.live i hi1 with h5 | h5
      · cases eq : e.st.H.get i with
        | none => exact h5 eq
        | some o =>
          obtain ⟨k0, hk0, _⟩ := hinv.rel i o hFi (hsub i o eq)
          have := h.le _ _ hk0
          rw [ha] at this
          cases this
          have := hinv.apart i j a b hFi hFj (hne i h5) o1 hk0 o2 hab
          subst this
          rw [hwi] at hwj; cases hwj
      · rcases h.fresh i a h5.1 h5.2 hi1 ha with h6 | ⟨id0, k0, c1, c2, _, c4, c5⟩
        · omega
        · rw [hwr] at c1
          have := hinv.apart id0 j k0 b (hwrF id0 c1) hFj (hne id0 c2) o1 c4 o2 (c5.trans hab)
          subst this
          rw [c1] at hwj; cases hwj
    cases hwi : e.wr1.testBit i with
    | true =>
      cases hwj : e.wr1.testBit j with
      | true => exact h.inv.apart i j a b hFi hFj (new i hwi hi) (new j hwj hj) ha hb hab
      | false => exact (mixed i j a b hFi hFj hwi hwj hi hj ha hb hab).elim
    | false =>
      cases hwj : e.wr1.testBit j with
      | true => exact (mixed j i b a hFj hFi hwj hwi hj hi hb ha hab.symm).elim
      | false =>
        obtain ⟨a1, a2, _⟩ := old i a hFi hwi hi ha
        obtain ⟨b1, b2, _⟩ := old j b hFj hwj hj hb
        exact hinv.apart i j a b hFi hFj a1 b1 a2 b2 hab
  · refine h.keep b hb fun id k h1 h2 h3 => hk id k ?_ (hne id h2) h3
    show (Nat.lor s.wr e.wr1).testBit id = true
    rw [testBit_lor, ← hwr, h1, Bool.or_true]
  · have hw1 := (h.new id (by rw [stn, ← hn]; exact h1) (by rw [hn1]; exact h2)).1
    rw [hwr] at hw1
    have hl1 : s1.H.get id ≠ none := by
      rcases hget id with ⟨h5, _⟩ | ⟨_, h5⟩
      · rw [hw1] at h5; cases h5
      · cases eq : (e.beh s).H.get id with
        | none => exact absurd eq h3
        | some o => rw [h5 o eq]; simp
    rcases h.fresh id k (by rw [stn, ← hn]; exact h1) (by rw [hn1]; exact h2) hl1 h4 with h6 | ⟨id0, k0, c1, c2, c3, c4, c5⟩
    · exact .inl h6
    · refine .inr ⟨id0, k0, ?_, hne id0 c2, ?_, c4, c5⟩
      · show (Nat.lor s.wr e.wr1).testBit id0 = true
        rw [testBit_lor, ← hwr, c1, Bool.or_true]
      · rw [hwr] at c1
        rcases hget id0 with ⟨h5, _⟩ | ⟨_, h5⟩
        · rw [c1] at h5; cases h5
        · cases eq : (e.beh s).H.get id0 with
          | none => rfl
          | some o => rw [h5 o eq] at c3; cases c3
  · have hid : (Nat.lor s.wr e.wr1).testBit id = false := hid
    rw [testBit_lor, Bool.or_eq_false_iff] at hid
    rcases hget id with ⟨_, h5⟩ | ⟨h5, _⟩
    · exact h5
    · rw [hid.2] at h5; cases h5
  · rcases hget id with ⟨h5, h6⟩ | ⟨h5, h6⟩
    · exact .inl (h6 ▸ hid)
    · have hl1 : s1.H.get id ≠ none := by
        cases eq : (e.beh s).H.get id with
        | none => exact absurd eq hid
        | some o => rw [h6 o eq]; simp
      rcases h.live id hl1 with h7 | h7
      · exact .inl (hne id h7)
      · exact .inr ⟨by rw [hn]; exact h7.1, by show id < e.n1; rw [← hn1]; exact h7.2⟩
  · show (Nat.lor s.fp e.fp1).testBit id = true
    rw [testBit_lor, hid, Bool.true_or]
  · show (Nat.lor s.wr e.wr1).testBit id = true
    rw [testBit_lor, hid, Bool.true_or]
  · have hid : (Nat.lor s.wr e.wr1).testBit id = true := hid
    rw [testBit_lor, Bool.or_eq_true] at hid
    rcases hid with h5 | h5
    · exact .inl h5
    · rcases h.wrfp id (by rw [hwr]; exact h5) with h6 | h6
      · have : (0 : Nat).testBit id = true := h6
        simp at this
      · refine .inr ?_
        show (Nat.lor s.fp e.fp1).testBit id = true
        rw [testBit_lor, ← hfp, h6, Bool.or_true]
  · have := h.new id (by rw [stn, ← hn]; exact h1) (by rw [hn1]; exact h2)
    refine ⟨?_, ?_⟩
    · show (Nat.lor s.wr e.wr1).testBit id = true
      rw [testBit_lor, ← hwr, this.1, Bool.or_true]
    · show (Nat.lor s.fp e.fp1).testBit id = true
      rw [testBit_lor, ← hfp, this.2, Bool.or_true]

/-- what an entry owes -/
def EntOk (P : Program) (ng : Nat) (e : Ent) : Prop := ∃ (go : Task → X CR), GoS P ng go ∧ e.ok (go (.call e.f e.args) e.st) = true

theorem fits_spec {e : Ent} {f : FuncId} {args : List Value} {s : St} (h : e.fits f args s = true) : e.f = f ∧ s.u = .run ∧ s.n = e.n ∧ e.args = args ∧ subH s.H e.n e.H = true := by
  unfold Ent.fits at h
  simp only [Bool.and_eq_true] at h
  obtain ⟨h1, h2, h3, h4, h5⟩ := h
  refine ⟨Nat.eq_of_beq_eq_true h1, ?_, Nat.eq_of_beq_eq_true h3, sameL_of (sameV_of 9) h4, h5⟩
  unfold isRunU at h2
  split at h2
  · assumption
  · cases h2

theorem ent_call {P : Program} {ng : Nat} {e : Ent} (he : EntOk P ng e) {s : St} (hfit : e.fits e.f e.args s = true) {F : Nat → Prop} {ρ : Rho} {w : World} {args' : Array Value}
    (hc : Cov F ρ s [(CR.returned e.v, e.beh s)]) (hat : At F ρ s w ng) (hl : LRel ρ e.args args'.toList) :
    Calls P e.f args' w (fun en w' => ∃ r s' ρ', (r, s') ∈ [(CR.returned e.v, e.beh s)] ∧ CrRel ρ' r en ∧ PStep F ρ s w ρ' s' w') := by
  obtain ⟨go, hgo, hok⟩ := he
  obtain ⟨s1, hx, hn1, hfp, hwr, hor, hO, hH, hle⟩ := Ent.ok_spec hok
  obtain ⟨_, hu, hn, _, hsub0⟩ := fits_spec hfit
  obtain ⟨hcF, hcn⟩ := hc.one
  have hsub : ∀ (i : Nat) (o : AObj), e.st.H.get i = some o → s.H.get i = some o := fun i o ho => by
    have ho : (mkT e.H .leaf).get i = some o := ho
    rcases mkT_get e.H .leaf i o (fun p hp => by have := (subH_spec hsub0 p.1 p.2 hp).2; omega) ho with h1 | h1
    · exact (subH_spec hsub0 i o h1).1
    · rw [Trie.get_leaf] at h1; cases h1
  have hne : ∀ (i : Nat), e.st.H.get i ≠ none → s.H.get i ≠ none := fun i hi => by
    cases eq : e.st.H.get i with
    | none => exact absurd eq hi
    | some o => rw [hsub i o eq]; simp
  have hat0 : At F ρ e.st w ng := by
    refine ⟨⟨fun id hid => ?_, hle⟩, ⟨fun id o hF ho => hat.inv.rel id o hF (hsub id o ho), fun i j a b hi hj h1 h2 => hat.inv.apart i j a b hi hj (hne i h1) (hne j h2)⟩, hat.glob⟩
    have hid : e.n ≤ id := hid
    cases eq : e.st.H.get id with
    | none => rfl
    | some o => have := hsub id o eq; rw [hat.wf.none id (by omega)] at this; cases this
  have hcov : Cov F ρ e.st [(CR.returned e.v, s1)] := fun x s' hm => by
    cases List.mem_singleton.1 hm
    refine ⟨fun i hi => hcF i ?_, fun i h1 h2 => hcn i (by rw [hn]; exact h1) ?_⟩
    · show (Nat.lor s.fp e.fp1).testBit i = true
      rw [testBit_lor, ← hfp, hi, Bool.or_true]
    · show i < e.n1
      rw [← hn1]; exact h2
  refine (hgo.call hx hcov hat0 hl).mono ?_
  rintro en w' ⟨r, s', ρ', hm, hcr, hp⟩
  cases List.mem_singleton.1 hm
  exact ⟨_, _, ρ', List.mem_singleton.2 rfl, hcr, hp.more hn hsub hat.wf hat.inv hcF hn1 hfp hwr hor hO⟩

theorem lookE_spec {P : Program} {ng : Nat} {f : FuncId} {args : List Value} {s : St} {other : Except String (List (CR × St))} {outs : List (CR × St)} : ∀ {tbl : List Ent}, (∀ e ∈ tbl, EntOk P ng e) → lookE tbl f args s other = .ok outs →
    other = .ok outs ∨ ∃ e ∈ tbl, e.fits f args s = true ∧ outs = [(.returned e.v, e.beh s)]
  | [], _, h => .inl h
  | e :: l, he, h => by
    unfold lookE at h
    cases hf : e.fits f args s with
    | true =>
      rw [hf] at h
      simp only [Ent.behind_eq] at h
      cases h
      exact .inr ⟨e, List.mem_cons_self .., hf, rfl⟩
    | false =>
      rw [hf] at h
      rcases lookE_spec (fun e' h' => he e' (List.mem_cons_of_mem _ h')) h with h1 | ⟨e', h1, h2⟩
      · exact .inl h1
      · exact .inr ⟨e', List.mem_cons_of_mem _ h1, h2⟩

theorem patch_sound {P : Program} {ng : Nat} {tbl : List Ent} (he : ∀ e ∈ tbl, EntOk P ng e) {go : Task → X CR} (hgo : GoS P ng go) : GoS P ng (patch tbl go) where
  call := by
    intro f args s outs h F ρ w args' hc hat hl
    rcases lookE_spec he h with h1 | ⟨e, hm, hf, rfl⟩
    · exact hgo.call h1 hc hat hl
    · obtain ⟨rfl, _, _, rfl, _⟩ := fits_spec hf
      exact ent_call (he e hm) hf hc hat hl
  round := fun h => hgo.round h

theorem callM_sound {P : Program} {ng : Nat} {tbl : List Ent} (he : ∀ e ∈ tbl, EntOk P ng e) (hD : ∀ E : Env, E.P = P → GoS E.P E.ng E.go → DrawS E) : ∀ (n : Nat), GoS P ng (callM tbl P ng n) := by
  intro n
  induction n with
  | zero =>
    constructor
    · intro f args s outs h; cases h
    · intro l f tmps assign body s outs h; cases h
  | succ n ih => exact patch_sound he (stepN_sound hD ih)

/-- **AN ENTRY, BY THE KERNEL.** -/
theorem ent_ok {P : Program} (hm : P.follows .mixedOrders = true) {ng n : Nat} {tbl : List Ent} (he : ∀ e ∈ tbl, EntOk P ng e) {e : Ent} (h : e.ok (callM tbl P ng n (.call e.f e.args) e.st) = true) : EntOk P ng e :=
  ⟨_, callM_sound he (drawS hm) n, h⟩

/-- **A CALL THAT THE ENGINE HAS RUN, WITH A TABLE: it returns true, and leaves alone what lay there.** -/
theorem true_callsM {P : Program} {ng n0 rid n : Nat} {cs : List Value} {tbl : List Ent} (he : ∀ e ∈ tbl, EntOk P ng e) {f : FuncId} {args : List Value} {args' : Array Value} (hm : P.follows .mixedOrders = true) (hr : rid < ng) (hn : ng ≤ n0) (hM : n0 ≤ 1048576) (hpl : cs.all (plainV 9) = true)
    (h : okTrue n0 (callM tbl P ng n (.call f args) (start n0 rid cs)) = true) {w : World} (hrom : RomAt w rid cs) (hargs : LRel (rho0 ng) args args'.toList) :
    Calls P f args' w fun e w' => e = .returned (.bool true) ∧ Below w.heap.size w w' := by
  obtain ⟨s, hx, hw⟩ := okTrue_spec h
  have hat := start_at hr hn hM hpl hrom
  have hc := (callM_sound he (drawS hm) n).call hx (F := fun _ => True) (ρ := rho0 ng) (w := w) (args' := args') (fun x s' _ => ⟨fun _ _ => trivial, fun i a _ => by
    have : n0 ≤ i := a
    simp [rho0, show ¬ i < ng by omega]⟩) hat hargs
  intro cs0
  obtain ⟨e, w', fr, ⟨r, s', ρ', hmem, hcr, hp⟩, h1, h2, h3⟩ := hc cs0
  cases List.mem_singleton.1 hmem
  cases hcr with
  | returned _ v' hv =>
    cases hv
    exact ⟨_, w', fr, ⟨rfl, hp.below hw hat.wf⟩, h1, h2, h3⟩
end Go.Proofs.YthogkihfbjbghaaGreatDoor.Abs
