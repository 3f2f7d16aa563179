/- an interpreter of closed code, and its soundness. -/
import Derived.Test.YthogkihfbjbghaaGreatDoorEd
import Derived.RangeFuncLeaves
namespace Go.Proofs.YthogkihfbjbghaaGreatDoor.Abs

structure EnRel (ρ : Rho) (e e' : PanicEntry) : Prop where
  v : VRel ρ e.v e'.v
  recd : e.recovered = e'.recovered
  ge : e.goexit = e'.goexit

theorem EnRel.mono {ρ ρ' : Rho} (hle : ρ.le ρ') {e e' : PanicEntry} (h : EnRel ρ e e') : EnRel ρ' e e' := ⟨h.v.mono hle, h.recd, h.ge⟩

abbrev ChRel (ρ : Rho) : List PanicEntry → List PanicEntry → Prop := All2 (EnRel ρ)

theorem ChRel.up {ρ ρ' : Rho} (hle : ρ.le ρ') {l l' : List PanicEntry} (h : ChRel ρ l l') : ChRel ρ' l l' := All2.mono h fun _ _ h => h.mono hle

inductive MRel (ρ : Rho) : FrameMode → FrameMode → Prop where
  | run : MRel ρ .run .run
  | returning : MRel ρ .returning .returning
  | panicking (l l' : List PanicEntry) (h : ChRel ρ l l') : MRel ρ (.panicking l) (.panicking l')

theorem MRel.mono {ρ ρ' : Rho} (hle : ρ.le ρ') {m m' : FrameMode} (h : MRel ρ m m') : MRel ρ' m m' := by
  cases h with
  | run => exact .run
  | returning => exact .returning
  | panicking l l' h => exact .panicking l l' (ChRel.up hle h)

structure FrRel (ρ : Rho) (nt : Nat) (fr : Fr) (a : Act) : Prop where
  size : a.tmps.size = nt
  tmps : ∀ (t : Nat) (v : Value), fr.t.get t = some v → VRel ρ v (a.tmps.getD t undef)
  dfr : All2 (DfRel ρ) fr.d a.defers

theorem FrRel.mono {ρ ρ' : Rho} (hle : ρ.le ρ') {nt : Nat} {fr : Fr} {a : Act} (h : FrRel ρ nt fr a) : FrRel ρ' nt fr a :=
  ⟨h.size, fun t v e => (h.tmps t v e).mono hle, h.dfr.mono fun _ _ h => h.mono hle⟩

theorem getD_set (l : Array Value) (d : Nat) (v : Value) (t : Nat) (h : d < l.size) : (l.setIfInBounds d v).getD t undef = if t = d then v else l.getD t undef := by
  simp only [Array.getD_eq_getD_getElem?, Array.getElem?_setIfInBounds]
  by_cases e : t = d
  · subst e; simp [h]
  · rw [if_neg (fun x => e x.symm), if_neg e]

theorem Fr.put_ok {β : Type} {fr : Fr} {nt : Nat} {dst : Option Tmp} {v : Value} {k : Fr → Except String β} {r : β} (h : fr.put nt dst v k = .ok r) {ρ : Rho} {a : Act} (hr : FrRel ρ nt fr a) {v' : Value} (hv : VRel ρ v v') :
    ∃ fr', k fr' = .ok r ∧ FrRel ρ nt fr' (a.put dst v') ∧ fr'.d = fr.d ∧ (∀ t, fr'.t.get t = match dst with | some d => if t = d then some v else fr.t.get t | none => fr.t.get t) := by
  unfold Fr.put at h
  cases dst with
  | none => exact ⟨fr, h, hr, rfl, fun _ => rfl⟩
  | some d =>
    simp only at h
    cases hc : (Nat.blt d nt && Nat.blt d 1048576) with
    | false => rw [hc] at h; cases h
    | true =>
      rw [hc, cond_true, forceV_eq, Trie.setK_eq] at h
      simp only [Bool.and_eq_true, Nat.blt_eq] at hc
      have hg : ∀ t, (Trie.set fr.t d (some v)).get t = if t = d then some v else fr.t.get t := fun t => Trie.get_set _ _ _ _ (by omega)
      refine ⟨_, h, ⟨by simpa [Act.put] using hr.size, fun t x hx => ?_, hr.dfr⟩, rfl, fun t => hg t⟩
      simp only [Act.put]
      rw [getD_set _ _ _ _ (by rw [hr.size]; exact hc.1)]
      have hx' : (Trie.set fr.t d (some v)).get t = some x := hx
      rw [hg] at hx'
      by_cases e : t = d
      · rw [if_pos e] at hx' ⊢; cases hx'; exact hv
      · rw [if_neg e] at hx' ⊢; exact hr.tmps t x hx'

theorem Fr.drop_ok {β : Type} {fr : Fr} {nt : Nat} {dst : Option Tmp} {k : Fr → Except String β} {r : β} (h : fr.drop dst k = .ok r) {ρ : Rho} {a : Act} (hr : FrRel ρ nt fr a) :
    ∃ fr', k fr' = .ok r ∧ FrRel ρ nt fr' a ∧ fr'.d = fr.d := by
  unfold Fr.drop at h
  cases dst with
  | none => exact ⟨fr, h, hr, rfl⟩
  | some d =>
    simp only at h
    cases hc : Nat.blt d 1048576 with
    | false => rw [hc] at h; cases h
    | true =>
      rw [hc, cond_true, Trie.setK_eq] at h
      simp only [Nat.blt_eq] at hc
      have hg : ∀ t, (Trie.set fr.t d none).get t = if t = d then none else fr.t.get t := fun t => Trie.get_set _ _ _ _ (by omega)
      refine ⟨_, h, ⟨hr.size, fun t x hx => ?_, hr.dfr⟩, rfl⟩
      have hx' : (Trie.set fr.t d none).get t = some x := hx
      rw [hg] at hx'
      by_cases e : t = d
      · rw [if_pos e] at hx'; cases hx'
      · rw [if_neg e] at hx'; exact hr.tmps t x hx'

/-- the package variables lie where they lie -/
def GRel (ρ : Rho) (ng : Nat) : Prop := ∀ (g : Nat), g < ng → ∃ k, ρ g = some k ∧ k.b = g ∧ k.sh = 0

theorem GRel.mono {ρ ρ' : Rho} (hle : ρ.le ρ') {ng : Nat} (h : GRel ρ ng) : GRel ρ' ng := fun g hg => let ⟨k, a, b⟩ := h g hg; ⟨k, hle _ _ a, b⟩

theorem FrRel.ev {ρ : Rho} {nt ng : Nat} {fr : Fr} {a : Act} (h : FrRel ρ nt fr a) (hg : GRel ρ ng) (x : Operand) : VRel ρ (fr.ev ng x) (a.eval x) := by
  cases x with
  | tmp t =>
    simp only [Fr.ev, Act.eval]
    cases e : fr.t.get t with
    | none => exact .any _
    | some v => exact h.tmps t v e
  | const v =>
    simp only [Fr.ev, Act.eval]
    cases e : plainV 9 v with
    | false => exact .any _
    | true => exact VRel.plain 9 v e
  | global g =>
    simp only [Fr.ev, Act.eval]
    cases e : Nat.blt g ng with
    | false => exact .any _
    | true =>
      obtain ⟨k, hk, hb, hs⟩ := hg g (by simpa [Nat.blt_eq] using e)
      have := VRel.ptr g 0 k hk
      rw [hb, hs] at this
      exact this
  | func f => exact .func _ _ _ _ _ _ (.func f) rfl rfl (by simp) (by simp)

inductive RnRel (ρ : Rho) : Option Nat → Option Nat → Prop where
  | none : RnRel ρ none none
  | some (l : Nat) (k : Blk) (h : ρ l = some k) : RnRel ρ (some l) (some k.b)

theorem RnRel.mono {ρ ρ' : Rho} (hle : ρ.le ρ') {x y : Option Nat} (h : RnRel ρ x y) : RnRel ρ' x y := by
  cases h with
  | none => exact .none
  | some l k h => exact .some l k (hle _ _ h)

structure BRel (ρ : Rho) (E : Env) (b : Frame) : Prop where
  fn : b.fn = E.fn
  kind : b.kind = if E.dfr then .deferred else .normal
  rnd : RnRel ρ E.rnd b.roundOf
  dfr : E.dfr = true → E.rnd = none

theorem BRel.mono {ρ ρ' : Rho} (hle : ρ.le ρ') {E : Env} {b : Frame} (h : BRel ρ E b) : BRel ρ' E b := ⟨h.fn, h.kind, h.rnd.mono hle, h.dfr⟩

/-- the frames below; of a deferred call the mode of the one below is told -/
def StkOk (dfr : Bool) (ρ : Rho) (u : FrameMode) (cs0 cs : List Frame) : Prop :=
  if dfr then ∃ c r m, cs0 = c :: r ∧ cs = { c with mode := m } :: r ∧ MRel ρ u m else cs = cs0

theorem StkOk.mono {dfr : Bool} {ρ ρ' : Rho} (hle : ρ.le ρ') {u : FrameMode} {cs0 cs : List Frame} (h : StkOk dfr ρ u cs0 cs) : StkOk dfr ρ' u cs0 cs := by
  unfold StkOk at *
  cases dfr with
  | false => exact h
  | true =>
    simp only [if_true] at *
    obtain ⟨c, r, m, a, b, d⟩ := h
    exact ⟨c, r, m, a, b, d.mono hle⟩

inductive CrRel (ρ : Rho) : CR → Ending → Prop where
  | returned (v v' : Value) (h : VRel ρ v v') : CrRel ρ (.returned v) (.returned v')
  | panicked (l l' : List PanicEntry) (h : ChRel ρ l l') : CrRel ρ (.panicked l) (.panicked l')

/-- what the ways of a piece touch is at hand -/
def Cov {α : Type} (F : Nat → Prop) (ρ : Rho) (s : St) (outs : List (α × St)) : Prop :=
  ∀ (x : α) (s' : St), (x, s') ∈ outs → (∀ (i : Nat), s'.fp.testBit i = true → F i) ∧ (∀ (i : Nat), s.n ≤ i → i < s'.n → ρ i = none)

/-- what stands at a piece's start -/
structure At (F : Nat → Prop) (ρ : Rho) (s : St) (w : World) (ng : Nat) : Prop where
  wf : Wf s
  inv : Inv F ρ s.H.get w
  glob : GRel ρ ng

theorem PStep.at {F : Nat → Prop} {ρ ρ' : Rho} {s s' : St} {w w' : World} {ng : Nat} (h : PStep F ρ s w ρ' s' w') (h0 : At F ρ s w ng) : At F ρ' s' w' ng := ⟨h.wf, h.inv, h0.glob.mono h.le⟩

theorem testBit_lor (a b i : Nat) : (Nat.lor a b).testBit i = (a.testBit i || b.testBit i) := Nat.testBit_or a b i

theorem PStep.up {F : Nat → Prop} {ρ ρ' : Rho} {s s' s'' : St} {w w' : World} (h : PStep F ρ s w ρ' s' w') (hH : s''.H = s'.H) (hn : s''.n = s'.n) (hw : s''.wr = s'.wr)
    (hf : ∀ (i : Nat), s'.fp.testBit i = true → s''.fp.testBit i = true) : PStep F ρ s w ρ' s'' w' where
  le := h.le
  dom := by rw [hn]; exact h.dom
  n_le := by rw [hn]; exact h.n_le
  wf := ⟨by rw [hH, hn]; exact h.wf.none, by rw [hn]; exact h.wf.le⟩
  inv := by rw [hH]; exact h.inv
  size := h.size
  keep := by rw [hw]; exact h.keep
  fresh := by rw [hH, hn, hw]; exact h.fresh
  same := by rw [hH, hw]; exact h.same
  live := by rw [hH, hn]; exact h.live
  fp := fun i e => hf i (h.fp i e)
  wr := by rw [hw]; exact h.wr
  wrfp := by rw [hw]; exact fun i e => (h.wrfp i e).imp id (hf i)
  new := by rw [hn, hw]; exact fun i a b => ⟨(h.new i a b).1, hf i (h.new i a b).2⟩
  tape := h.tape
  os := h.os
  output := h.output

section
variable {α β : Type}

theorem land_sub {a b : Nat} (h : Nat.land a b = a) {i : Nat} (hi : a.testBit i = true) : b.testBit i = true := by
  have h2 : (a &&& b).testBit i = (a.testBit i && b.testBit i) := Nat.testBit_and a b i
  rw [show a &&& b = a from h, hi] at h2
  simpa using h2.symm

theorem chkAll_ok {fp n : Nat} : ∀ {l : List (β × St)}, chkAll fp n l = true → ∀ x : β × St, x ∈ l → n ≤ x.2.n ∧ ∀ i, fp.testBit i = true → x.2.fp.testBit i = true
  | [], _, x, hx => by cases hx
  | (b, ⟨H, m, fp', wr, u⟩) :: l, h, x, hx => by
    simp only [chkAll, Bool.and_eq_true] at h
    rcases List.mem_cons.1 hx with rfl | hx
    · exact ⟨Nat.le_of_ble_eq_true h.1, fun i hi => land_sub (Nat.eq_of_beq_eq_true h.2.1) hi⟩
    · exact chkAll_ok h.2.2 x hx

theorem each_ok : ∀ {l : List (α × St)} {k : α → St → Except String (List (β × St))} {outs : List (β × St)}, each l k = .ok outs →
    ∀ x ∈ l, ∃ r : List (β × St), k x.1 x.2 = .ok r ∧ r ≠ [] ∧ ∀ y ∈ r, x.2.n ≤ y.2.n ∧ (∀ i, x.2.fp.testBit i = true → y.2.fp.testBit i = true) ∧ y ∈ outs
  | [], k, outs, _ => by simp
  | (a, s) :: rest, k, outs, h => by
    simp only [each] at h
    split at h
    · cases h
    · cases h
    · rename_i r hne hk
      have hchk : chkAll s.fp s.n r = true := by
        cases e : chkAll s.fp s.n r with
        | true => rfl
        | false => rw [e] at h; cases h
      rw [hchk, cond_true] at h
      have hall := chkAll_ok hchk
      have first : ∀ outs' : List (β × St), (∀ y ∈ r, y ∈ outs') → ∃ r : List (β × St), k a s = .ok r ∧ r ≠ [] ∧ ∀ y ∈ r, s.n ≤ y.2.n ∧ (∀ i, s.fp.testBit i = true → y.2.fp.testBit i = true) ∧ y ∈ outs' := by
        intro outs' ho
        exact ⟨r, hk, hne, fun y hy => ⟨(hall y hy).1, (hall y hy).2, ho y hy⟩⟩
      split at h
      · cases h
        intro x hx
        rcases List.mem_cons.1 hx with rfl | hx
        · exact first _ fun y hy => hy
        · cases hx
      · split at h
        · cases h
        · rename_i r' hr'
          cases h
          intro x hx
          rcases List.mem_cons.1 hx with rfl | hx
          · exact first _ fun y hy => List.mem_append_left _ hy
          · obtain ⟨r2, a2, b2, c2⟩ := each_ok hr' x hx
            exact ⟨r2, a2, b2, fun y hy => ⟨(c2 y hy).1, (c2 y hy).2.1, List.mem_append_right _ (c2 y hy).2.2⟩⟩

theorem oneK_ok {s : St} {r : Except String (List (β × St))} {outs : List (β × St)} (h : oneK s r = .ok outs) : r = .ok outs ∧ outs ≠ [] ∧ chkAll s.fp s.n outs = true := by
  unfold oneK at h
  split at h
  · rename_i b s2
    cases e : chkAll s.fp s.n [(b, s2)] with
    | true => rw [e] at h; cases h; exact ⟨rfl, by simp, e⟩
    | false => rw [e] at h; cases h
  · cases h
  · rename_i l h1 h2
    cases e : chkAll s.fp s.n l with
    | true => rw [e] at h; cases h; exact ⟨rfl, h2, e⟩
    | false => rw [e] at h; cases h
  · cases h

theorem xbind_ok {m : Except String (List (α × St))} {k : α → St → Except String (List (β × St))} {outs : List (β × St)} (h : xbind m k = .ok outs) :
    ∃ l, m = .ok l ∧ ∀ x ∈ l, ∃ r : List (β × St), k x.1 x.2 = .ok r ∧ r ≠ [] ∧ ∀ y ∈ r, x.2.n ≤ y.2.n ∧ (∀ i, x.2.fp.testBit i = true → y.2.fp.testBit i = true) ∧ y ∈ outs := by
  unfold xbind at h
  split at h
  · cases h
  · rename_i a s
    obtain ⟨h1, h2, h3⟩ := oneK_ok h
    refine ⟨_, rfl, fun x hx => ?_⟩
    cases List.mem_singleton.1 hx
    exact ⟨outs, h1, h2, fun y hy => ⟨(chkAll_ok h3 y hy).1, (chkAll_ok h3 y hy).2, hy⟩⟩
  · exact ⟨_, rfl, each_ok h⟩

/-- one piece, then another -/
theorem bind_sound {F : Nat → Prop} {ρ : Rho} {s : St} {m : Except String (List (α × St))} {k : α → St → Except String (List (β × St))} {outs : List (β × St)} (h : xbind m k = .ok outs) (hc : Cov F ρ s outs) :
    ∃ outs1, m = .ok outs1 ∧ Cov F ρ s outs1 ∧ ∀ (a : α) (s1 : St), (a, s1) ∈ outs1 → ∃ r : List (β × St), k a s1 = .ok r ∧ (∀ (b : β) (s2 : St), (b, s2) ∈ r → (b, s2) ∈ outs) ∧
      ∀ (ρ1 : Rho) (w w1 : World), PStep F ρ s w ρ1 s1 w1 → Cov F ρ1 s1 r ∧
        ∀ (b : β) (s2 : St), (b, s2) ∈ r → ∃ s2', (b, s2') ∈ outs ∧ s2'.u = s2.u ∧ ∀ (ρ2 : Rho) (w2 : World), PStep F ρ1 s1 w1 ρ2 s2 w2 → PStep F ρ s w ρ2 s2' w2 := by
  obtain ⟨outs1, hm, he⟩ := xbind_ok h
  refine ⟨outs1, hm, fun x s1 hx => ?_, fun a s1 ha => ?_⟩
  · obtain ⟨r, _, hne, hy⟩ := he _ hx
    obtain ⟨y, ys, rfl⟩ := List.exists_cons_of_ne_nil hne
    obtain ⟨h1, h2, h2'⟩ := hy y (by simp)
    obtain ⟨h3, h4⟩ := hc _ _ h2'
    exact ⟨fun i hi => h3 i (h2 i hi), fun i a b => h4 i a (Nat.lt_of_lt_of_le b h1)⟩
  · obtain ⟨r, hk, _, hy⟩ := he _ ha
    refine ⟨r, hk, fun b s2 hb => (hy _ hb).2.2, fun ρ1 w w1 hp => ⟨fun x s2 hx => ?_, fun b s2 hb => ?_⟩⟩
    · obtain ⟨h1, _, h2⟩ := hy _ hx
      obtain ⟨h3, h4⟩ := hc _ _ h2
      refine ⟨h3, fun i a b => ?_⟩
      cases e : ρ1 i with
      | none => rfl
      | some kk =>
        have := h4 i (Nat.le_trans hp.n_le a) b
        have := hp.dom i this (by rw [e]; simp)
        omega
    · obtain ⟨h1, _, h2⟩ := hy _ hb
      refine ⟨_, h2, rfl, fun ρ2 w2 hp2 => ?_⟩
      obtain ⟨h3, h4⟩ := hc _ _ h2
      exact PStep.trans (s'' := s2) (fun i a b => h4 i a b) hp hp2

theorem lift_ok {m : D α} {s : St} {outs : List (α × St)} (h : lift m s = .ok outs) : ∃ a s', D.run m s = .ok (a, s') ∧ outs = [(a, s')] := by
  unfold lift at h
  split at h
  · cases h
  · cases h; exact ⟨_, _, ‹_›, rfl⟩

theorem Cov.one {F : Nat → Prop} {ρ : Rho} {s s' : St} {a : α} (h : Cov F ρ s [(a, s')]) : (∀ (i : Nat), s'.fp.testBit i = true → F i) ∧ (∀ (i : Nat), s.n ≤ i → i < s'.n → ρ i = none) := h a s' (by simp)
end

end Go.Proofs.YthogkihfbjbghaaGreatDoor.Abs
namespace Go.Proofs.YthogkihfbjbghaaGreatDoor.Abs

/-- what the calls of a frame are good for -/
structure GoS (P : Program) (ng : Nat) (go : Task → X CR) : Prop where
  call : ∀ {f : FuncId} {args : List Value} {s : St} {outs : List (CR × St)}, go (.call f args) s = .ok outs → ∀ {F : Nat → Prop} {ρ : Rho} {w : World} {args' : Array Value}, Cov F ρ s outs → At F ρ s w ng → LRel ρ args args'.toList →
    Calls P f args' w (fun e w' => ∃ r s' ρ', (r, s') ∈ outs ∧ CrRel ρ' r e ∧ PStep F ρ s w ρ' s' w')
  round : ∀ {l : Nat} {f : FuncId} {tmps : List Value} {assign body : Code} {s : St} {outs : List (CR × St)}, go (.round l f tmps assign body) s = .ok outs → ∀ {F : Nat → Prop} {ρ : Rho} {w : World} {k : Blk} {tmps' : Array Value},
    Cov F ρ s outs → At F ρ s w ng → ρ l = some k → LRel ρ tmps tmps'.toList →
    ∀ (c : Frame) (cs : List Frame), ∃ v s' ρ' v' w', (.returned v, s') ∈ outs ∧ VRel ρ' v v' ∧ PStep F ρ s w ρ' s' w' ∧ Steps P (lone (Frame.round k.b f tmps' assign body .normal) (c :: cs) w) (lone (c.finish v') cs w')

theorem opA_defer {P : Program} {ev : Operand → Value} {o : Oper} {c : Call} {s s' : St} {ar : AR} (h : D.run (opA P ev o) s = .ok (ar, s')) (ho : o.op = .defer c) : ∃ d, ar = .dfr d := by
  rw [opA_eq] at h
  unfold opBox at h
  simp only [ho, oDefer] at h
  split at h
  · obtain ⟨_, _, _, h2⟩ := D.bind_ok h
    obtain ⟨rfl, _⟩ := D.pure_ok h2
    exact ⟨_, rfl⟩
  · cases h

theorem pickOne_mem {it : Nat} {s : St} : ∀ {l : List (Value × AObj)} {outs : List (OR × St)}, pickOne l it s = .ok outs → ∀ x ∈ l, ∃ s2, D.run (putB it x.2) s = .ok ((), s2) ∧ (.val x.1, s2) ∈ outs
  | [], outs, h, x, hx => by cases hx
  | (v, o) :: rest, outs, h, x, hx => by
    simp only [pickOne] at h
    split at h
    · cases h
    · rename_i s' hs'
      split at h
      · cases h
      · rename_i r hr
        cases h
        rcases List.mem_cons.1 hx with rfl | hx
        · exact ⟨s', hs', by simp⟩
        · obtain ⟨s2, a, b⟩ := pickOne_mem hr x hx
          exact ⟨s2, a, List.mem_cons_of_mem _ b⟩

/-- what an operation of a frame has come to, and the machine's steps to it -/
inductive Done (P : Program) (b : Frame) (a : Act) (ops : Array Oper) (i : Nat) (rest : List Nat) (k : List Item) (dst : Option Tmp) (cs cs' : List Frame) (w w' : World) (ρ' : Rho) : OR → Prop where
  | val (v v' : Value) (hv : VRel ρ' v v') (hs : Steps P (lone (b.atR a (.inRegion ops (i :: rest) :: k)) cs w) (lone (b.atR (a.put dst v') (.inRegion ops rest :: k)) cs' w')) : Done P b a ops i rest k dst cs cs' w w' ρ' (.val v)
  | dfr (d d' : Deferred) (hv : DfRel ρ' d d') (hs : Steps P (lone (b.atR a (.inRegion ops (i :: rest) :: k)) cs w) (lone (b.atR ({ a with defers := d' :: a.defers }.put dst undef) (.inRegion ops rest :: k)) cs' w')) : Done P b a ops i rest k dst cs cs' w w' ρ' (.dfr d)
  | panic (ch ch' : List PanicEntry) (hv : ChRel ρ' ch ch') (hs : Steps P (lone (b.atR a (.inRegion ops (i :: rest) :: k)) cs w) (lone { b.atR a (.inRegion ops (i :: rest) :: k) with mode := .panicking ch' } cs' w')) : Done P b a ops i rest k dst cs cs' w w' ρ' (.panic ch)

section
variable {E : Env} {F : Nat → Prop} {ρ : Rho} {s : St} {w : World}

theorem runOp_sound {fr : Fr} {o : Oper} {outs : List (OR × St)} (hgo : GoS E.P E.ng E.go) (h : runOp E fr o s = .ok outs) (hc : Cov F ρ s outs) (hat : At F ρ s w E.ng) {b : Frame} (hb : BRel ρ E b)
    {a : Act} (he : ∀ x, VRel ρ (fr.ev E.ng x) (a.eval x)) {cs0 cs : List Frame} (hcs : StkOk E.dfr ρ s.u cs0 cs) {ops : Array Oper} {i : Nat} {rest : List Nat} {k : List Item} (hi : ops[i]? = some o)
    (hw : Region.wanted o (yielded ops a.tmps) = true) :
    ∃ r s' ρ' w' cs', (r, s') ∈ outs ∧ PStep F ρ s w ρ' s' w' ∧ StkOk E.dfr ρ' s'.u cs0 cs' ∧ (isRecover o = false → s'.u = s.u ∧ cs' = cs) ∧ (E.dfr = false → s'.u = s.u) ∧ Done E.P b a ops i rest k o.dst cs cs' w w' ρ' r := by
  unfold runOp at h
  split at h
  · cases h
  · rename_i x hx
    obtain ⟨ar, s1⟩ := x
    have hx : D.run (opA E.P (fr.ev E.ng) o) s = .ok (ar, s1) := hx
    obtain ⟨outs1, ho1, hc1, hall⟩ := bind_sound h hc
    cases ho1
    obtain ⟨hF1, hρ1⟩ := hc1.one
    have hsound := opA_sound hx ⟨hF1, hρ1, hat.wf, hat.inv⟩ he
    obtain ⟨r, hr, hraw, hrest⟩ := hall ar s1 (by simp)
    unfold runRes at hr
    have hsem : o.semAt b.roundOf a.eval = execOp a.eval o ∨ ∃ c, o.op = .defer c := by
      by_cases hd : ∃ c, o.op = .defer c
      · exact .inr hd
      · exact .inl (Oper.semAt_eq _ _ _ fun c e => hd ⟨c, e⟩)
    have hfin : ∀ v, (b.atR a (.inRegion ops (i :: rest) :: k)).finish v = b.atR (a.put o.dst v) (.inRegion ops rest :: k) := by
      intro v; rw [Frame.finish_atR, hi]; rfl
    have hg0 := stepGR_op (P := E.P) (b := b) (k := k) (cs := cs) (w := w) (rest := rest) hi hw
    -- every operation but a defer is carried out as everywhere; a defer is met outside of rounds
    have hg : (∀ d, ar = .dfr d → b.roundOf = none) → stepG E.P true { frame := b.atR a (.inRegion ops (i :: rest) :: k), callers := cs, status := .running, dying := none } w =
        stepG.apply E.P true (b.atR a (.inRegion ops (i :: rest) :: k)) cs none (execOp a.eval o) w := by
      intro hd
      rw [hg0]
      rcases hsem with e | ⟨c, e⟩
      · rw [e]
      · obtain ⟨d, hd'⟩ := opA_defer hx e
        rw [hd d hd', Oper.semAt_none]
    cases hsound with
    | ok _ nx ρ' w' hrun hv hst hu =>
      obtain ⟨hcov2, hfin2⟩ := hrest ρ' w w' hst
      have hcs' : StkOk E.dfr ρ' s1.u cs0 cs := by rw [hu]; exact hcs.mono hst.le
      cases hv with
      | value v v' hv =>
        cases hr
        obtain ⟨s2', m, eu, hp⟩ := hfin2 _ _ (List.mem_singleton.2 rfl)
        refine ⟨_, s2', ρ', w', cs, m, hp ρ' w' (.refl hst.wf hst.inv), by rw [eu]; exact hcs', fun _ => ⟨eu.trans hu, rfl⟩, fun _ => eu.trans hu, .val v v' hv (.one (step_lone_go ?_))⟩
        rw [hg (fun d e => by cases e), ← hfin]; simp [stepG.apply, hrun]
      | skip =>
        cases hr
        obtain ⟨s2', m, eu, hp⟩ := hfin2 _ _ (List.mem_singleton.2 rfl)
        refine ⟨_, s2', ρ', w', cs, m, hp ρ' w' (.refl hst.wf hst.inv), by rw [eu]; exact hcs', fun _ => ⟨eu.trans hu, rfl⟩, fun _ => eu.trans hu, .val _ undef (.any _) (.one (step_lone_go ?_))⟩
        rw [hg (fun d e => by cases e), ← hfin]; simp [stepG.apply, hrun]
      | enter f args args' hl =>
        obtain ⟨outs2, ho2, hc2, hall2⟩ := bind_sound hr hcov2
        have hcalls := hgo.call ho2 hc2 (hst.at hat) hl (b.atR a (.inRegion ops (i :: rest) :: k) :: cs)
        obtain ⟨e, w'', fr', ⟨cr, s2, ρ2, hmem, hcr, hp2⟩, hsteps, hfn, hleave⟩ := hcalls
        obtain ⟨r3, hr3, _, hrest3⟩ := hall2 cr s2 hmem
        obtain ⟨_, hfin3⟩ := hrest3 ρ2 w' w'' hp2
        have henter : step E.P (lone (b.atR a (.inRegion ops (i :: rest) :: k)) cs w) =
            .next (lone (Frame.enter E.P f args' .normal) (b.atR a (.inRegion ops (i :: rest) :: k) :: cs) w') :=
          step_lone_go (by rw [hg (fun d e => by cases e)]; simp [stepG.apply, hrun, Frame.atR])
        cases hcr with
        | returned v v' hv =>
          simp only [backK, St.reU_eq] at hr3
          cases hr3
          obtain ⟨s3, m3, eu3, hp3⟩ := hfin3 _ _ (List.mem_singleton.2 rfl)
          have hp4 := hp3 ρ2 w'' (PStep.up (.refl hp2.wf hp2.inv) rfl rfl rfl (fun i hi => hi))
          obtain ⟨s4, m4, eu4, hp5⟩ := hfin2 _ _ m3
          have hle : ρ'.le ρ2 := hp2.le
          refine ⟨_, s4, ρ2, w'', cs, m4, hp5 ρ2 w'' hp4, by rw [eu4, eu3]; exact hcs'.mono hle, fun _ => ⟨by rw [eu4, eu3]; exact hu, rfl⟩, fun _ => by rw [eu4, eu3]; exact hu, .val v v' hv (.head henter (Steps.trans hsteps (.one ?_)))⟩
          rw [← hfin]; exact step_leave_returned hleave
        | panicked l l' hl2 =>
          simp only [backK, St.reU_eq] at hr3
          cases hr3
          obtain ⟨s3, m3, eu3, hp3⟩ := hfin3 _ _ (List.mem_singleton.2 rfl)
          have hp4 := hp3 ρ2 w'' (PStep.up (.refl hp2.wf hp2.inv) rfl rfl rfl (fun i hi => hi))
          obtain ⟨s4, m4, eu4, hp5⟩ := hfin2 _ _ m3
          have hle : ρ'.le ρ2 := hp2.le
          refine ⟨_, s4, ρ2, w'', cs, m4, hp5 ρ2 w'' hp4, by rw [eu4, eu3]; exact hcs'.mono hle, fun _ => ⟨by rw [eu4, eu3]; exact hu, rfl⟩, fun _ => by rw [eu4, eu3]; exact hu, .panic l l' hl2 (.head henter (Steps.trans hsteps (.one ?_)))⟩
          rw [← Frame.raise_atR]; exact step_leave_panicked hleave
      | round l kk hk f tmps tmps' assign body hl =>
        obtain ⟨outs2, ho2, hc2, hall2⟩ := bind_sound hr hcov2
        obtain ⟨v, s2, ρ2, v', w'', hmem, hv, hp2, hsteps⟩ := hgo.round ho2 hc2 (hst.at hat) hk hl (b.atR a (.inRegion ops (i :: rest) :: k)) cs
        obtain ⟨r3, hr3, _, hrest3⟩ := hall2 _ s2 hmem
        obtain ⟨_, hfin3⟩ := hrest3 ρ2 w' w'' hp2
        have henter : step E.P (lone (b.atR a (.inRegion ops (i :: rest) :: k)) cs w) =
            .next (lone (Frame.round kk.b f tmps' assign body .normal) (b.atR a (.inRegion ops (i :: rest) :: k) :: cs) w') :=
          step_lone_go (by rw [hg (fun d e => by cases e)]; simp [stepG.apply, hrun, Frame.atR])
        simp only [backK, St.reU_eq] at hr3
        cases hr3
        obtain ⟨s3, m3, eu3, hp3⟩ := hfin3 _ _ (List.mem_singleton.2 rfl)
        have hp4 := hp3 ρ2 w'' (PStep.up (.refl hp2.wf hp2.inv) rfl rfl rfl (fun i hi => hi))
        obtain ⟨s4, m4, eu4, hp5⟩ := hfin2 _ _ m3
        have hle : ρ'.le ρ2 := hp2.le
        refine ⟨_, s4, ρ2, w'', cs, m4, hp5 ρ2 w'' hp4, by rw [eu4, eu3]; exact hcs'.mono hle, fun _ => ⟨by rw [eu4, eu3]; exact hu, rfl⟩, fun _ => by rw [eu4, eu3]; exact hu, .val v v' hv (.head henter ?_)⟩
        rw [← hfin]; exact hsteps
      | dfr d d' hd =>
        have hrnd : E.rnd = none := by
          cases e : E.rnd with
          | none => rfl
          | some l => simp only [dfrRes, e] at hr; cases hr
        have hro : b.roundOf = none := by have := hb.rnd; rw [hrnd] at this; generalize b.roundOf = q at this; cases this; rfl
        simp only [dfrRes, hrnd] at hr
        cases hr
        obtain ⟨s2', m, eu, hp⟩ := hfin2 _ _ (List.mem_singleton.2 rfl)
        refine ⟨_, s2', ρ', w', cs, m, hp ρ' w' (.refl hst.wf hst.inv), by rw [eu]; exact hcs', fun _ => ⟨eu.trans hu, rfl⟩, fun _ => eu.trans hu, .dfr d d' hd (.one (step_lone_go ?_))⟩
        have hf2 : ({ b.atR a (.inRegion ops (i :: rest) :: k) with defers := d' :: a.defers } : Frame).finish undef =
            b.atR ({ a with defers := d' :: a.defers }.put o.dst undef) (.inRegion ops rest :: k) := by
          have := Frame.finish_atR b { a with defers := d' :: a.defers } ops i rest k undef
          rw [hi] at this; exact this
        rw [hg (fun _ _ => hro)]; simp only [stepG.apply, Sem.runT_eq, hrun, GStep.bare_after]
        exact congrArg (fun fr => GStep.go { frame := fr, callers := cs, status := .running, dying := none } w') hf2
      | recover =>
        simp only [recRes] at hr
        have hrec : isRecover o = true := by
          cases e : isRecover o with
          | true => rfl
          | false => rw [e] at hr; cases hr
        rw [hrec] at hr
        simp only [Bool.not_true, cond_false] at hr
        have hrnd : E.rnd = none := by
          cases e : E.rnd with
          | none => rfl
          | some l => rw [e] at hr; cases hr
        have hro : b.roundOf = none := by have := hb.rnd; rw [hrnd] at this; generalize b.roundOf = q at this; cases this; rfl
        rw [hrnd] at hr
        simp only at hr
        have nothing : r = [(.val .nilIface, s1)] → tryRecover (b.atR a (.inRegion ops (i :: rest) :: k)) cs = none → ∃ r s' ρ' w' cs', (r, s') ∈ outs ∧ PStep F ρ s w ρ' s' w' ∧ StkOk E.dfr ρ' s'.u cs0 cs' ∧ (isRecover o = false → s'.u = s.u ∧ cs' = cs) ∧ (E.dfr = false → s'.u = s.u) ∧ Done E.P b a ops i rest k o.dst cs cs' w w' ρ' r := by
          intro er htr
          subst er
          obtain ⟨s2', m, eu, hp⟩ := hfin2 _ _ (List.mem_singleton.2 rfl)
          refine ⟨_, s2', ρ', w', cs, m, hp ρ' w' (.refl hst.wf hst.inv), by rw [eu]; exact hcs', fun e => (by rw [hrec] at e; cases e), fun _ => eu.trans hu, .val _ .nilIface .nilIface (.one (step_lone_go ?_))⟩
          rw [hg (fun d e => by cases e), ← hfin]
          simp only [Frame.atR, hro] at htr ⊢
          simp [stepG.apply, hrun, htr]
        rcases Bool.eq_false_or_eq_true E.dfr with hdf | hdf
        rotate_left
        · rw [hdf, cond_false] at hr
          cases hr
          exact nothing rfl (by have := hb.kind; rw [hdf] at this; simp [tryRecover, Frame.atR, this])
        · rw [hdf, cond_true] at hr
          have hkind : b.kind = .deferred := by have := hb.kind; rw [hdf] at this; exact this
          have hcs2 := hcs'
          unfold StkOk at hcs2
          rw [hdf, if_pos rfl] at hcs2
          obtain ⟨c, rr, mm, e0, e1, hm⟩ := hcs2
          split at hr
          · rename_i v older hu1
            rw [hu1] at hm
            generalize hmm : mm = mq at hm
            cases hm with
            | panicking _ l' hch =>
              cases hch with
              | cons hen htl =>
                rename_i en tl
                obtain ⟨v', rc, ge⟩ := en
                obtain ⟨hv, hrc, hge⟩ := hen
                simp only at hv hrc hge
                subst hrc; subst hge
                rw [St.reU_eq] at hr
                cases hr
                obtain ⟨s2', m, eu, hp⟩ := hfin2 _ _ (List.mem_singleton.2 rfl)
                refine ⟨_, s2', ρ', w', { c with mode := .panicking ({ v := v', recovered := true } :: tl) } :: rr, m, hp ρ' w' (PStep.up (.refl hst.wf hst.inv) rfl rfl rfl (fun i hi => hi)), ?_, fun e => (by rw [hrec] at e; cases e), fun e => (by rw [hdf] at e; cases e), .val v v' hv (.one (step_lone_go ?_))⟩
                · unfold StkOk
                  rw [hdf, if_pos rfl, eu]
                  exact ⟨c, rr, _, e0, rfl, .panicking _ _ (.cons ⟨hv, rfl, rfl⟩ htl)⟩
                · have htr : tryRecover (b.atR a (.inRegion ops (i :: rest) :: k)) cs = some (v', { c with mode := .panicking ({ v := v', recovered := true } :: tl) } :: rr) := by
                    rw [e1, hmm]
                    simp [tryRecover, Frame.atR, hkind]
                  rw [hg (fun d e => by cases e), ← hfin]
                  simp only [Frame.atR, hro] at htr ⊢
                  simp [stepG.apply, hrun, htr]
          · rename_i hno
            cases hr
            refine nothing rfl ?_
            rw [e1]
            simp only [tryRecover, Frame.atR, hkind]
            split
            · exfalso
              generalize hq : s1.u = q at hm
              cases hm with
              | panicking l _ hch =>
                cases hch with
                | cons hen htl =>
                  rename_i en tl
                  obtain ⟨v3, rc, ge⟩ := en
                  obtain ⟨hv, hrc, hge⟩ := hen
                  simp only at hv hrc hge
                  subst hrc; subst hge
                  exact hno _ _ hq
            · rfl
    | panic v v' hrun hv hs =>
      subst hs
      cases hr
      obtain ⟨_, hfin2⟩ := hrest ρ w w (.refl hat.wf hat.inv)
      obtain ⟨s2', m, eu, hp⟩ := hfin2 _ _ (List.mem_singleton.2 rfl)
      refine ⟨_, s2', ρ, w, cs, m, hp ρ w (.refl hat.wf hat.inv), by rw [eu]; exact hcs, fun _ => ⟨eu, rfl⟩, fun _ => eu, .panic _ [{ v := v', recovered := false }] (.cons ⟨hv, rfl, rfl⟩ .nil) (.one (step_lone_go ?_))⟩
      rw [hg (fun d e => by cases e), ← Frame.raise_atR]; simp [stepG.apply, hrun]
    | oneOf l it x hxl v' w' hrun hv hst =>
      obtain ⟨s2, hput, hm2⟩ := pickOne_mem hr x hxl
      have hmem := hraw _ _ hm2
      obtain ⟨hF2, hρ2⟩ := hc _ _ hmem
      obtain ⟨hp, hu⟩ := hst hput hF2
      refine ⟨_, _, ρ, w', cs, hmem, hp, (by show StkOk E.dfr ρ s2.u cs0 cs; rw [hu]; exact hcs), fun _ => ⟨hu, rfl⟩, fun _ => hu, .val x.1 v' hv (.one (step_lone_go ?_))⟩
      rw [hg (fun d e => by cases e), ← hfin]; simp [stepG.apply, hrun]
end

end Go.Proofs.YthogkihfbjbghaaGreatDoor.Abs
namespace Go.Proofs.YthogkihfbjbghaaGreatDoor.Abs

inductive ExRel (ρ : Rho) : AExit → Exit → Prop where
  | normal : ExRel ρ .normal .normal
  | exit (id : Nat) : ExRel ρ (.exit id) (.exit id)
  | ret : ExRel ρ .ret .ret
  | panic (l l' : List PanicEntry) (h : ChRel ρ l l') : ExRel ρ (.panic l) (.panic l')

/-- where a piece of code leaves the frame -/
def Arr (P : Program) (m : Machine) (b : Frame) (k : List Item) (cs : List Frame) : Exit → Act → World → Prop
  | .normal, a, w => Steps P m (lone (b.atR a k) cs w)
  | .exit id, a, w => (∀ k', exitTo id k = some k' → Steps P m (lone (b.atR a k') cs w)) ∧ (exitTo id k = none → ∃ k₁, exitTo id k₁ = none ∧ Steps P m (lone (b.atR a (.code (.exit id) :: k₁)) cs w))
  | .ret, a, w => ∃ k₁, Steps P m (lone (b.atR a (.code .ret :: k₁)) cs w)
  | .panic chain, a, w => ∃ todo, Steps P m (lone { b.atR a todo with mode := .panicking chain } cs w)
  | _, _, _ => False

theorem Arr.of_steps {P : Program} {m m₁ : Machine} {b : Frame} {k : List Item} {cs : List Frame} {e : Exit} {a : Act} {w : World} (h : Steps P m m₁) (h' : Arr P m₁ b k cs e a w) : Arr P m b k cs e a w := by
  cases e with
  | normal => exact Steps.trans h h'
  | exit id => exact ⟨fun k' hk => h.trans (h'.1 k' hk), fun hk => let ⟨k₁, a, b⟩ := h'.2 hk; ⟨k₁, a, h.trans b⟩⟩
  | ret => obtain ⟨k₁, h2⟩ := h'; exact ⟨k₁, h.trans h2⟩
  | panic ch => obtain ⟨t, h2⟩ := h'; exact ⟨t, h.trans h2⟩
  | goto l => exact h'
  | outgrown => exact h'

theorem Arr.pass {P : Program} {m : Machine} {b : Frame} {x : Item} {k : List Item} {cs : List Frame} {e : Exit} {a : Act} {w : World} (hx : x.plain = true) (he : e ≠ .normal) (h : Arr P m b (x :: k) cs e a w) : Arr P m b k cs e a w := by
  cases e with
  | normal => exact absurd rfl he
  | exit id => exact ⟨fun k' hk => h.1 k' (by rw [exitTo_plain hx]; exact hk), fun hk => h.2 (by rw [exitTo_plain hx]; exact hk)⟩
  | ret => exact h
  | panic ch => exact h
  | goto l => exact h
  | outgrown => exact h

def ExecS (E : Env) (F : Nat → Prop) (ρ : Rho) (s : St) (w : World) (outs : List ((AExit × Fr) × St)) (m : Machine) (b : Frame) (k : List Item) (cs0 : List Frame) : Prop :=
  ∃ x fr' s' ρ' e a' w' cs', ((x, fr'), s') ∈ outs ∧ ExRel ρ' x e ∧ FrRel ρ' E.nt fr' a' ∧ PStep F ρ s w ρ' s' w' ∧ StkOk E.dfr ρ' s'.u cs0 cs' ∧ (E.dfr = false → s'.u = s.u) ∧ Arr E.P m b k cs' e a' w'

theorem ExecS.of_steps {E : Env} {F : Nat → Prop} {ρ : Rho} {s : St} {w : World} {outs : List ((AExit × Fr) × St)} {m m1 : Machine} {b : Frame} {k : List Item} {cs0 : List Frame} (h : Steps E.P m m1) (h' : ExecS E F ρ s w outs m1 b k cs0) : ExecS E F ρ s w outs m b k cs0 :=
  let ⟨x, fr', s', ρ', e, a', w', cs', h1, h2, h3, h4, h5, h6, h7⟩ := h'; ⟨x, fr', s', ρ', e, a', w', cs', h1, h2, h3, h4, h5, h6, h7.of_steps h⟩

theorem wantedA_ok {ops : Array Oper} {fr : Fr} {o : Oper} {b : Bool} (h : wantedA ops fr o = .ok b) {ρ : Rho} {nt : Nat} {a : Act} (hr : FrRel ρ nt fr a) : Region.wanted o (yielded ops a.tmps) = b := by
  unfold wantedA at h
  unfold Region.wanted
  split at h
  · rename_i hg; cases h; simp [hg]
  · rename_i j want hg
    simp only [hg]
    have key : VRel ρ (yieldedA ops fr j) (match (ops[j]?).bind (·.dst) with | some d => a.tmps.getD d undef | none => undef) := by
      unfold yieldedA
      cases ho : ops[j]? with
      | none => exact .any _
      | some o2 =>
        simp only [Option.bind_some]
        cases hd : o2.dst with
        | none => exact .any _
        | some d =>
          simp only
          cases ht : fr.t.get d with
          | none => exact .any _
          | some v => exact hr.tmps d v ht
    unfold yielded
    cases hd : (ops[j]?).bind (·.dst) with
    | none =>
      rw [hd] at key
      simp only at key
      split at h
      · rename_i x hy; rw [hy] at key; cases key
      · cases h; simp
      · cases h
    | some d =>
      rw [hd] at key
      simp only [Option.bind_some] at key ⊢
      rw [Array.getD_eq_getD_getElem?] at key
      split at h
      · rename_i x hy
        rw [hy] at key
        cases h
        cases hq : a.tmps[d]? with
        | none => rw [hq] at key; cases key
        | some q => rw [hq] at key; simp only [Option.getD_some] at key; cases key; simp
      · rename_i hy
        rw [hy] at key
        cases h
        cases hq : a.tmps[d]? with
        | none => simp
        | some q => rw [hq] at key; simp only [Option.getD_some] at key; cases key; simp
      · cases h

theorem drop_cons {ops : Array Oper} {i : Nat} {o : Oper} {rest : List Oper} (h : ops.toList.drop i = o :: rest) : ops[i]? = some o ∧ ops.toList.drop (i + 1) = rest ∧ List.range' i (ops.size - i) = i :: List.range' (i + 1) (ops.size - (i + 1)) := by
  have hi : i < ops.size := by
    rcases Nat.lt_or_ge i ops.size with h1 | h1
    · exact h1
    · rw [List.drop_eq_nil_of_le (by simpa using h1)] at h; cases h
  rw [List.drop_eq_getElem_cons (by simpa using hi)] at h
  simp only [List.cons.injEq] at h
  refine ⟨by simp [hi]; simpa using h.1, h.2, ?_⟩
  rw [show ops.size - i = (ops.size - (i + 1)) + 1 by omega, List.range'_succ]

section
variable {E : Env} {F : Nat → Prop}

theorem ExecS.trans {ρ ρ1 : Rho} {s s1 : St} {w w1 : World} {outs outs2 : List ((AExit × Fr) × St)} {m : Machine} {b : Frame} {k : List Item} {cs0 : List Frame} (hu : E.dfr = false → s1.u = s.u)
    (hfin : ∀ (x : AExit × Fr) (s2 : St), (x, s2) ∈ outs2 → ∃ s2', (x, s2') ∈ outs ∧ s2'.u = s2.u ∧ ∀ (ρ2 : Rho) (w2 : World), PStep F ρ1 s1 w1 ρ2 s2 w2 → PStep F ρ s w ρ2 s2' w2)
    (h : ExecS E F ρ1 s1 w1 outs2 m b k cs0) : ExecS E F ρ s w outs m b k cs0 := by
  obtain ⟨x, fr', s', ρ', e, a', w', cs', h1, h2, h3, h4, h5, h6, h7⟩ := h
  obtain ⟨s2', m2, eu, hp⟩ := hfin _ _ h1
  exact ⟨x, fr', s2', ρ', e, a', w', cs', m2, h2, h3, hp _ _ h4, by rw [eu]; exact h5, fun hd => by rw [eu, h6 hd, hu hd], h7⟩

theorem chk_self {β : Type} (s : St) (b : β) : chkAll s.fp s.n [(b, s)] = true := by
  obtain ⟨H, n, fp, wr, u⟩ := s
  simp [chkAll]

theorem opGo_eq (E : Env) (o : Oper) (rest : Fr → X (AExit × Fr)) (fr : Fr) (s : St) : opGo E o rest fr (opA E.P (fr.ev E.ng) o s) = xbind (runOp E fr o s) (opK E o.dst rest fr) := by
  unfold runOp
  cases opA E.P (fr.ev E.ng) o s with
  | error e => rfl
  | ok x =>
    obtain ⟨r, s'⟩ := x
    cases r with
    | value v =>
      simp only [opGo, xbind, runRes, oneK, chk_self, cond_true, opK]
    | _ => rfl

theorem opsA_sound (hgo : GoS E.P E.ng E.go) {ops : Array Oper} : ∀ (l : List Oper) (i : Nat), ops.toList.drop i = l → ∀ (fr : Fr) (s : St) (outs : List ((AExit × Fr) × St)), opsA E ops l fr s = .ok outs →
    ∀ (ρ : Rho) (w : World) (a : Act) (b : Frame) (k : List Item) (cs0 cs : List Frame), Cov F ρ s outs → At F ρ s w E.ng → FrRel ρ E.nt fr a → BRel ρ E b → StkOk E.dfr ρ s.u cs0 cs →
    ExecS E F ρ s w outs (lone (b.atR a (.inRegion ops (List.range' i (ops.size - i)) :: k)) cs w) b k cs0
  | [], i, hl, fr, s, outs, h, ρ, w, a, b, k, cs0, cs, hc, hat, hfr, hb, hcs => by
    cases h
    have hsz : ops.size - i = 0 := by
      have := congrArg List.length hl
      simp at this; omega
    rw [hsz]
    exact ⟨_, _, s, ρ, .normal, a, w, cs, List.mem_singleton.2 rfl, .normal, hfr, .refl hat.wf hat.inv, hcs, fun _ => rfl, .one stepR_region_end⟩
  | o :: rest, i, hl, fr, s, outs, h, ρ, w, a, b, k, cs0, cs, hc, hat, hfr, hb, hcs => by
    obtain ⟨ho, hl', hrange⟩ := drop_cons hl
    rw [hrange]
    simp only [opsA, opGo_eq] at h
    split at h
    · cases h
    · rename_i hw
      have hw := wantedA_ok hw hfr
      obtain ⟨fr', h', hfr', _⟩ := Fr.put_ok h hfr .skip
      have hs := stepR_op_skip (P := E.P) (b := b) (a := a) (k := k) (cs := cs) (w := w) (ops := ops) (i := i) (rest := List.range' (i + 1) (ops.size - (i + 1))) (by simp [ho, hw])
      simp only [ho, Option.bind_some] at hs
      exact .of_steps (.one hs) (opsA_sound hgo rest (i + 1) hl' fr' s outs h' ρ w _ b k cs0 cs hc hat hfr' hb hcs)
    · rename_i hw
      have hw := wantedA_ok hw hfr
      obtain ⟨outs1, ho1, hc1, hall⟩ := bind_sound h hc
      obtain ⟨r, s1, ρ1, w1, cs1, hmem, hp1, hcs1, _, hu1, hdone⟩ := runOp_sound hgo ho1 hc1 hat hb (hfr.ev hat.glob) hcs ho hw (rest := List.range' (i + 1) (ops.size - (i + 1))) (k := k)
      obtain ⟨outs2, ho2, _, hrest⟩ := hall r s1 hmem
      obtain ⟨hc2, hfin⟩ := hrest ρ1 w w1 hp1
      simp only [opK] at ho2
      cases hdone with
      | val v v' hv hs =>
        obtain ⟨fr', h', hfr', _⟩ := Fr.put_ok ho2 (hfr.mono hp1.le) hv
        exact .of_steps hs (.trans hu1 hfin (opsA_sound hgo rest (i + 1) hl' fr' s1 outs2 h' ρ1 w1 _ b k cs0 cs1 hc2 (hp1.at hat) hfr' (hb.mono hp1.le) hcs1))
      | dfr d d' hd hs =>
        have hfrd : FrRel ρ1 E.nt { fr with d := d :: fr.d } { a with defers := d' :: a.defers } := ⟨hfr.size, (hfr.mono hp1.le).tmps, .cons hd (hfr.mono hp1.le).dfr⟩
        obtain ⟨fr', h', hfr', _⟩ := Fr.put_ok ho2 hfrd (.any undef)
        exact .of_steps hs (.trans hu1 hfin (opsA_sound hgo rest (i + 1) hl' fr' s1 outs2 h' ρ1 w1 _ b k cs0 cs1 hc2 (hp1.at hat) hfr' (hb.mono hp1.le) hcs1))
      | panic ch ch' hv hs =>
        cases ho2
        obtain ⟨s2', m, eu, hp⟩ := hfin _ _ (List.mem_singleton.2 rfl)
        exact ⟨_, fr, s2', ρ1, .panic ch', a, w1, cs1, m, .panic _ _ hv, hfr.mono hp1.le, hp ρ1 w1 (.refl hp1.wf hp1.inv), by rw [eu]; exact hcs1, fun hd => by rw [eu, hu1 hd], _, hs⟩
end

end Go.Proofs.YthogkihfbjbghaaGreatDoor.Abs
