/- an interpreter of closed code, and its soundness. -/
import Derived.Test.YthogkihfbjbghaaGreatDoorEe
import Derived.RangeFuncRecord
namespace Go.Proofs.YthogkihfbjbghaaGreatDoor.Abs

theorem LRel.getD {ρ : Rho} {l l' : List Value} (h : LRel ρ l l') (i : Nat) : VRel ρ (l.getD i undef) (l'.getD i undef) := by
  rw [List.getD_eq_getElem?_getD, List.getD_eq_getElem?_getD]
  cases e : l[i]? with
  | none => exact .any _
  | some v =>
    obtain ⟨v', a, b⟩ := h.getElem e
    rw [a]; exact b

theorem toTrie_get : ∀ (l : List Value) (i : Nat) (t : Trie Value), i + l.length ≤ 1048576 → ∀ (j : Nat), (toTrie l i t).get j = if i ≤ j ∧ j < i + l.length then l[j - i]? else t.get j
  | [], i, t, h, j => by simp [toTrie]; omega
  | v :: l, i, t, h, j => by
    simp only [toTrie]
    rw [forceV_eq, Trie.setK_eq]
    have hs : Trie.setK 24 t i (some v) id = t.set i (some v) := rfl
    rw [hs, toTrie_get l (i + 1) _ (by simp at h; omega), Trie.get_set _ _ _ _ (by simp at h; omega)]
    by_cases h1 : i + 1 ≤ j ∧ j < i + 1 + l.length
    · rw [if_pos h1, if_pos (by simp; omega)]
      rw [show j - i = (j - (i + 1)) + 1 by omega]
      simp
    · rw [if_neg h1]
      by_cases h2 : j = i
      · subst h2; simp
      · rw [if_neg h2, if_neg (by simp; omega)]

theorem frList_rel {ρ : Rho} {nt : Nat} {fr : Fr} {a : Act} (h : FrRel ρ nt fr a) : LRel ρ (frList fr nt) a.tmps.toList := by
  refine ⟨by simp [frList, h.size], fun i v v' hv hv' => ?_⟩
  unfold frList at hv
  rw [List.getElem?_map] at hv
  cases e : (List.range nt)[i]? with
  | none => rw [e] at hv; cases hv
  | some j =>
    rw [e] at hv
    have hj : j = i := by
      have := (List.getElem?_eq_some_iff.1 e).2
      simpa using this.symm
    subst hj
    simp only [Option.map_some, Option.some.injEq] at hv
    cases e2 : fr.t.get j with
    | none => rw [e2] at hv; subst hv; exact .any _
    | some x =>
      rw [e2] at hv; subst hv
      have := h.tmps j x e2
      have hg : a.tmps.getD j undef = v' := by
        rw [Array.getD_eq_getD_getElem?]
        simp at hv'
        rw [hv']; rfl
      rwa [hg] at this

section
variable {P : Program} {F : Nat → Prop} {ρ : Rho} {s s' : St} {w : World}

theorem loopObj_ok {l : Nat} {r : Loop} (h : D.run (loopObj l) s = .ok (r, s')) : s.H.get l = some (.obj (.loop r)) ∧ s' = { s with fp := Nat.lor s.fp (bit l) } := by
  unfold loopObj at h
  obtain ⟨o, s1, h1, h2⟩ := D.bind_ok h
  obtain ⟨ho, hs1⟩ := objB_ok h1
  split at h2
  · obtain ⟨rfl, rfl⟩ := D.pure_ok h2
    exact ⟨ho, hs1⟩
  · cases h2

theorem loop_at (hp : Pre F ρ s s' w) {l : Nat} {r : Loop} (hF : F l) (ho : s.H.get l = some (.obj (.loop r))) {k : Blk} (hk : ρ l = some k) :
    ∃ r', k.sh = 0 ∧ w.heap[k.b]? = some (.loop r') ∧ LoopRel ρ r r' := by
  obtain ⟨k1, o', hk1, hsh, hb, hr⟩ := hp.inv.obj hF ho
  rw [hk] at hk1; cases hk1
  cases hr with
  | loop _ r' hlr => exact ⟨r', hsh, hb, hlr⟩

theorem beginRoundA_sound {l : Nat} {u : Unit} (h : D.run (beginRoundA l) s = .ok (u, s')) (hp : Pre F ρ s s' w) {k : Blk} (hk : ρ l = some k) :
    ∃ w', (Instr.beginRound k.b).run P w = .ok () w' ∧ PStep F ρ s w ρ s' w' ∧ s'.u = s.u := by
  unfold beginRoundA at h
  obtain ⟨r, s1, h1, h2⟩ := D.bind_ok h
  obtain ⟨ho, hs1⟩ := loopObj_ok h1
  split at h2
  · rename_i hst
    have hro : RO s s1 := by rw [hs1]; exact RO.foot _ _
    have hp1 := hp.ro hro
    obtain ⟨o0, _, hs'⟩ := putB_ok h2
    have hF : F l := hp.hF l (by rw [hs']; exact foot_bit s1 l)
    obtain ⟨r', hsh, hb, hlr⟩ := loop_at hp hF ho hk
    obtain ⟨hu, hst2⟩ := putObj_sound h2 hp1 hk hsh hb (.loop _ { r' with state := .busy } ⟨rfl, hlr.pending, hlr.fn, hlr.tmps, hlr.params, hlr.assign, hlr.body, hlr.defers⟩)
    refine ⟨_, run_beginRound hb (by rw [← hlr.state]; exact hst), PStep.trans hp.hρ (hro.step hp.wf hp.inv) hst2, hu.trans hro.u⟩
  · cases h2

theorem endRoundA_sound {l : Nat} {jump : Option Code} {v : Value} (h : D.run (endRoundA l jump) s = .ok (v, s')) (hp : Pre F ρ s s' w) {k : Blk} (hk : ρ l = some k) :
    v = .bool jump.isNone ∧ ∃ w', (Instr.endRound k.b jump).run P w = .ok (.bool jump.isNone) w' ∧ PStep F ρ s w ρ s' w' ∧ s'.u = s.u := by
  unfold endRoundA at h
  obtain ⟨r, s1, h1, h2⟩ := D.bind_ok h
  obtain ⟨ho, hs1⟩ := loopObj_ok h1
  obtain ⟨u, s2, h3, h4⟩ := D.bind_ok h2
  obtain ⟨rfl, rfl⟩ := D.pure_ok h4
  have hro : RO s s1 := by rw [hs1]; exact RO.foot _ _
  have hp1 := hp.ro hro
  obtain ⟨o0, _, hs'⟩ := putB_ok h3
  have hF : F l := hp.hF l (by rw [hs']; exact foot_bit s1 l)
  obtain ⟨r', hsh, hb, hlr⟩ := loop_at hp hF ho hk
  obtain ⟨hu, hst2⟩ := putObj_sound h3 hp1 hk hsh hb (.loop _ { r' with state := if jump.isNone then .ready else .done, pending := jump } ⟨rfl, rfl, hlr.fn, hlr.tmps, hlr.params, hlr.assign, hlr.body, hlr.defers⟩)
  exact ⟨rfl, _, run_endRound jump hb, PStep.trans hp.hρ (hro.step hp.wf hp.inv) hst2, hu.trans hro.u⟩

theorem endLoopA_sound {l : Nat} {jump : Option Code} (h : D.run (endLoopA l) s = .ok (jump, s')) (hp : Pre F ρ s s' w) {k : Blk} (hk : ρ l = some k) :
    ∃ w', (Instr.endLoop k.b).run P w = .ok jump w' ∧ PStep F ρ s w ρ s' w' ∧ s'.u = s.u := by
  unfold endLoopA at h
  obtain ⟨r, s1, h1, h2⟩ := D.bind_ok h
  obtain ⟨ho, hs1⟩ := loopObj_ok h1
  split at h2
  · cases h2
  · rename_i hst
    obtain ⟨u, s2, h3, h4⟩ := D.bind_ok h2
    obtain ⟨rfl, rfl⟩ := D.pure_ok h4
    have hro : RO s s1 := by rw [hs1]; exact RO.foot _ _
    have hp1 := hp.ro hro
    obtain ⟨o0, _, hs'⟩ := putB_ok h3
    have hF : F l := hp.hF l (by rw [hs']; exact foot_bit s1 l)
    obtain ⟨r', hsh, hb, hlr⟩ := loop_at hp hF ho hk
    obtain ⟨hu, hst2⟩ := putObj_sound h3 hp1 hk hsh hb (.loop _ { r' with state := .exhausted } ⟨rfl, hlr.pending, hlr.fn, hlr.tmps, hlr.params, hlr.assign, hlr.body, hlr.defers⟩)
    refine ⟨_, ?_, PStep.trans hp.hρ (hro.step hp.wf hp.inv) hst2, hu.trans hro.u⟩
    rw [hlr.pending]
    exact run_endLoop hb (by rw [← hlr.state]; exact hst)

theorem enterLoopA_sound {E : Env} {fr : Fr} {params : Array Tmp} {assign body : Code} {l : Nat} {mark : List Deferred} (h : D.run (enterLoopA E fr params assign body) s = .ok ((l, mark), s')) (hp : Pre F ρ s s' w) {a : Act}
    (hfr : FrRel ρ E.nt fr a) {rnd : Option Nat} (hrn : RnRel ρ E.rnd rnd) :
    ∃ k mark' ρ' w', (Instr.enterLoop E.fn a.tmps params assign body rnd).run P w = .ok (k.b, mark') w' ∧ ρ' l = some k ∧ All2 (DfRel ρ') mark mark' ∧ PStep F ρ s w ρ' s' w' ∧ s'.u = s.u := by
  unfold enterLoopA at h
  obtain ⟨⟨defers, mk⟩, s1, h1, h2⟩ := D.bind_ok h
  obtain ⟨l1, s2, h3, h4⟩ := D.bind_ok h2
  obtain ⟨e, rfl⟩ := D.pure_ok h4
  cases e
  obtain ⟨hid, hlt, hs2⟩ := newB_ok h3
  have fin : ∀ (ρ1 : Rho) (w1 : World) (kd : Blk) (mark' : List Deferred), PStep F ρ s w ρ1 s1 w1 → s1.u = s.u → ρ1 defers = some kd → All2 (DfRel ρ1) mark mark' →
      (∀ (k : Nat) (w' : World), (do let x ← newObj (.loop { state := .ready, pending := none, fn := E.fn, tmps := a.tmps, params, assign, body, defers := kd.b }); pure (x, mark') : Sem (Nat × List Deferred)).run P w1 = .ok (k, mark') w' →
        (Instr.enterLoop E.fn a.tmps params assign body rnd).run P w = .ok (k, mark') w') →
      ∃ k mark' ρ' w', (Instr.enterLoop E.fn a.tmps params assign body rnd).run P w = .ok (k.b, mark') w' ∧ ρ' l = some k ∧ All2 (DfRel ρ') mark mark' ∧ PStep F ρ s w ρ' s2 w' ∧ s2.u = s.u := by
    intro ρ1 w1 kd mark' hst hu hkd hmk hrun
    have hp1 : Pre F ρ1 s1 s2 w1 := ⟨hp.hF, fun i a b => by
      cases e : ρ1 i with
      | none => rfl
      | some kk =>
        have := hp.hρ i (Nat.le_trans hst.n_le a) b
        have := hst.dom i this (by rw [e]; simp)
        omega, hst.wf, hst.inv⟩
    have hlr : ∀ ρ', ρ1.le ρ' → ObjRel ρ' (.loop { state := .ready, pending := none, fn := E.fn, tmps := (frList fr E.nt).toArray, params, assign, body, defers }) (.loop { state := .ready, pending := none, fn := E.fn, tmps := a.tmps, params, assign, body, defers := kd.b }) :=
      fun ρ' hle => .loop _ _ ⟨rfl, rfl, rfl, by simpa using (frList_rel hfr).mono (Rho.le_trans hst.le hle), rfl, rfl, rfl, kd, hle _ _ hkd, rfl⟩
    obtain ⟨e1, hu2, hrun2, hst2⟩ := newObj_sound (P := P) h3 hp1 hlr
    exact ⟨⟨w1.heap.size, 0, 0, 0⟩, mark', _, _, hrun _ _ ((run_bind_eq hrun2).trans rfl), by rw [e1]; exact Rho.upd_self _ _ _, hmk.mono fun _ _ h => h.mono hst2.le, PStep.trans hp.hρ hst hst2, hu2.trans hu⟩
  generalize hE : E.rnd = er at hrn h1
  cases hrn with
  | none =>
    simp only at h1
    obtain ⟨r, s0, h5, h6⟩ := D.bind_ok h1
    obtain ⟨e, rfl⟩ := D.pure_ok h6
    cases e
    obtain ⟨e5, _, hs0⟩ := newB_ok h5
    have hp0 : Pre F ρ s s0 w := ⟨fun i hi => hp.hF i (by rw [hs2]; simp only [testBit_lor_bit, hi, Bool.true_or]), fun i a b => hp.hρ i a (by rw [hs2]; exact Nat.lt_succ_of_lt b), hp.wf, hp.inv⟩
    obtain ⟨e1, hu1, hrun1, hst1⟩ := newObj_sound (P := P) h5 hp0 (o' := .deferred (some [])) (fun ρ' _ => .deferred [] [] .nil)
    refine fin _ _ ⟨w.heap.size, 0, 0, 0⟩ [{ target := .collected w.heap.size, args := #[] }] hst1 hu1 (by rw [e1]; exact Rho.upd_self _ _ _) (.cons ⟨?_, .nil _⟩ .nil) ?_
    · have := TgRel.collected (ρ := ρ.upd s.n ⟨w.heap.size, 0, 0, 0⟩) defers ⟨w.heap.size, 0, 0, 0⟩ (by rw [e1]; exact Rho.upd_self _ _ _)
      exact this
    · intro k w' hk
      unfold Instr.enterLoop
      refine (run_bind_eq hrun1).trans ?_
      exact (run_bind_eq (a := (w.heap.size, [{ target := .collected w.heap.size, args := #[] }])) (w' := { w with heap := w.heap.push (.deferred (some [])) }) rfl).trans hk
  | some l0 k0 hk0 =>
    simp only at h1
    obtain ⟨r, s0, h5, h6⟩ := D.bind_ok h1
    obtain ⟨e, rfl⟩ := D.pure_ok h6
    cases e
    obtain ⟨ho, hs0⟩ := loopObj_ok h5
    have hro : RO s s0 := by rw [hs0]; exact RO.foot _ _
    have hF : F l0 := hp.hF l0 (by rw [hs2]; simp only [testBit_lor_bit]; rw [hs0]; rw [foot_bit]; rfl)
    obtain ⟨r', hsh, hb, hlr⟩ := loop_at hp hF ho hk0
    obtain ⟨kd, hkd, hkb⟩ := hlr.defers
    refine fin ρ w kd [] (hro.step hp.wf hp.inv) hro.u hkd .nil ?_
    intro k w' hk
    unfold Instr.enterLoop
    refine (run_bind_eq (run_getLoop hb)).trans ?_
    rw [hkb]
    exact (run_bind_eq (a := (kd.b, [])) (w' := w) rfl).trans hk
end

end Go.Proofs.YthogkihfbjbghaaGreatDoor.Abs
namespace Go.Proofs.YthogkihfbjbghaaGreatDoor.Abs

/-- a piece of code of a frame, abstractly and in the model -/
def CodeS (E : Env) (run : Fr → X (AExit × Fr)) (c : Item) : Prop :=
  ∀ (fr : Fr) (s : St) (outs : List ((AExit × Fr) × St)), run fr s = .ok outs → ∀ (F : Nat → Prop) (ρ : Rho) (w : World) (a : Act) (b : Frame) (k : List Item) (cs0 cs : List Frame),
    Cov F ρ s outs → At F ρ s w E.ng → FrRel ρ E.nt fr a → BRel ρ E b → StkOk E.dfr ρ s.u cs0 cs → ExecS E F ρ s w outs (lone (b.atR a (c :: k)) cs w) b k cs0

def DrawS (E : Env) : Prop := ∀ (id : Nat) (ops : Array Oper), CodeS E (drawA E ops) (.code (.region id ops true))

section
variable {E : Env}

theorem ExecS.one {F : Nat → Prop} {ρ : Rho} {s : St} {w : World} {x : AExit} {e : Exit} {fr : Fr} {a : Act} {m : Machine} {b : Frame} {k : List Item} {cs0 cs : List Frame} (hat : At F ρ s w E.ng) (hx : ExRel ρ x e) (hfr : FrRel ρ E.nt fr a)
    (hcs : StkOk E.dfr ρ s.u cs0 cs) (h : Arr E.P m b k cs e a w) : ExecS E F ρ s w [((x, fr), s)] m b k cs0 :=
  ⟨x, fr, s, ρ, e, a, w, cs, List.mem_singleton.2 rfl, hx, hfr, .refl hat.wf hat.inv, hcs, fun _ => rfl, h⟩

theorem ExRel.ne {ρ : Rho} {x : AExit} {e : Exit} (h : ExRel ρ x e) (hx : x ≠ .normal) : e ≠ .normal := by cases h <;> first | exact absurd rfl hx | (intro e; cases e)

/-- code, then what follows it -/
theorem seqS {F : Nat → Prop} {ρ : Rho} {s : St} {w : World} {outs : List ((AExit × Fr) × St)} {m0 : Except String (List ((AExit × Fr) × St))} {kk : AExit × Fr → St → Except String (List ((AExit × Fr) × St))}
    {m : Machine} {b : Frame} {x : Item} {k : List Item} {cs0 : List Frame} (hx : x.plain = true) (h : xbind m0 kk = .ok outs) (hc : Cov F ρ s outs) (hat : At F ρ s w E.ng) (hb : BRel ρ E b)
    (h1 : ∀ outs1, m0 = .ok outs1 → Cov F ρ s outs1 → ExecS E F ρ s w outs1 m b (x :: k) cs0)
    (hk : ∀ x fr s, x ≠ .normal → kk (x, fr) s = .ok [((x, fr), s)])
    (h2 : ∀ fr1 s1 outs2, kk (.normal, fr1) s1 = .ok outs2 → ∀ (ρ1 : Rho) (w1 : World) (a1 : Act) (cs1 : List Frame), Cov F ρ1 s1 outs2 → At F ρ1 s1 w1 E.ng → FrRel ρ1 E.nt fr1 a1 → BRel ρ1 E b → StkOk E.dfr ρ1 s1.u cs0 cs1 →
      ExecS E F ρ1 s1 w1 outs2 (lone (b.atR a1 (x :: k)) cs1 w1) b k cs0) : ExecS E F ρ s w outs m b k cs0 := by
  obtain ⟨outs1, ho1, hc1, hall⟩ := bind_sound h hc
  obtain ⟨y, fr1, s1, ρ1, e, a1, w1, cs1, hm, hex, hfr1, hp1, hcs1, hu1, harr⟩ := h1 outs1 ho1 hc1
  obtain ⟨outs2, ho2, _, hrest⟩ := hall _ s1 hm
  obtain ⟨hc2, hfin⟩ := hrest ρ1 w w1 hp1
  by_cases hy : y = .normal
  · subst hy
    cases hex
    exact .of_steps harr (.trans hu1 hfin (h2 fr1 s1 outs2 ho2 ρ1 w1 a1 cs1 hc2 (hp1.at hat) hfr1 (hb.mono hp1.le) hcs1))
  · rw [hk y fr1 s1 hy] at ho2
    cases ho2
    obtain ⟨s2', m2, eu, hp⟩ := hfin _ _ (List.mem_singleton.2 rfl)
    exact ⟨y, fr1, s2', ρ1, e, a1, w1, cs1, m2, hex, hfr1, hp ρ1 w1 (.refl hp1.wf hp1.inv), by rw [eu]; exact hcs1, fun hd => by rw [eu, hu1 hd], Arr.pass hx (hex.ne hy) harr⟩

theorem loopA_sound {c : Code} {body : Fr → X (AExit × Fr)} (hbody : CodeS E body (.code c)) : ∀ (n : Nat) (fr : Fr) (s : St) (outs : List ((AExit × Fr) × St)), loopA body n fr s = .ok outs → ∀ (F : Nat → Prop) (ρ : Rho) (w : World) (a : Act) (b : Frame) (k : List Item) (cs0 cs : List Frame),
    Cov F ρ s outs → At F ρ s w E.ng → FrRel ρ E.nt fr a → BRel ρ E b → StkOk E.dfr ρ s.u cs0 cs → ExecS E F ρ s w outs (lone (b.atR a (.code c :: .inLoop c :: k)) cs w) b k cs0
  | 0, fr, s, outs, h, _, _, _, _, _, _, _, _, _, _, _, _, _ => by cases h
  | n + 1, fr, s, outs, h, F, ρ, w, a, b, k, cs0, cs, hc, hat, hfr, hb, hcs => by
    simp only [loopA] at h
    refine seqS (x := .inLoop c) rfl h hc hat hb (fun outs1 h1 hc1 => hbody fr s outs1 h1 F ρ w a b (.inLoop c :: k) cs0 cs hc1 hat hfr hb hcs) (fun x fr s hx => ?_) (fun fr1 s1 outs2 h2 ρ1 w1 a1 cs1 hc2 hat1 hfr1 hb1 hcs1 => ?_)
    · cases x <;> first | exact absurd rfl hx | rfl
    · exact .of_steps (.one stepR_inLoop) (loopA_sound hbody n fr1 s1 outs2 h2 F ρ1 w1 a1 b k cs0 cs1 hc2 hat1 hfr1 hb1 hcs1)

theorem Pre.of {F : Nat → Prop} {ρ : Rho} {s s' : St} {w : World} {ng : Nat} (hat : At F ρ s w ng) (h : (∀ (i : Nat), s'.fp.testBit i = true → F i) ∧ (∀ (i : Nat), s.n ≤ i → i < s'.n → ρ i = none)) : Pre F ρ s s' w := ⟨h.1, h.2, hat.wf, hat.inv⟩

theorem rangeFunc_sound (hgo : GoS E.P E.ng E.go) {f : Operand} {params : Array Tmp} {assign body : Code} : CodeS E (execA E (.rangeFunc f params assign body)) (.code (.rangeFunc f params assign body)) := by
  intro fr s outs h F ρ w a b k cs0 cs hc hat hfr hb hcs
  simp only [execA_range, rangeFuncA] at h
  -- the record
  obtain ⟨outs1, ho1, hc1, hall1⟩ := bind_sound h hc
  obtain ⟨⟨l, mark⟩, s1, hd1, rfl⟩ := lift_ok ho1
  obtain ⟨k1, mark', ρ1, w1, hrun1, hk1, hmark, hp1, hu1⟩ := enterLoopA_sound (P := E.P) hd1 (.of hat hc1.one) hfr hb.rnd
  obtain ⟨outs2, ho2, _, hrest1⟩ := hall1 _ s1 (List.mem_singleton.2 rfl)
  obtain ⟨hc2, hfin1⟩ := hrest1 ρ1 w w1 hp1
  -- the one call
  obtain ⟨outs3, ho3, hc3, hall2⟩ := bind_sound ho2 hc2
  obtain ⟨ar, s2, hd2, rfl⟩ := lift_ok ho3
  unfold rangeCallA at hd2
  split at hd2
  rotate_left
  · cases hd2
  rename_i fn first captured hf
  have hat1 := hp1.at hat
  have hv : VRel ρ1 (fr.ev E.ng f) (a.eval f) := (hfr.ev hat.glob f).mono hp1.le
  have hev : fr.ev E.ng f = Fr.ev E.ng { t := fr.t, d := (l, mark).snd ++ fr.d } f := by cases f <;> rfl
  rw [hev.trans hf] at hv
  generalize hq : a.eval f = q at hv
  cases hv with
  | func _ fn' _ a' _ c' hfn ha hcc ha' hcc' =>
    have hl1 : LRel ρ1 (first.toList ++ [Value.func (.yield l) #[] #[]]) (a' ++ Array.map a.eval #[Operand.const (Value.func (Fn.yield k1.b) #[] #[])]).toList := by
      have := (show LRel ρ1 first.toList a'.toList from ⟨by simpa using ha, fun i v v' h h' => ha' i v v' (by simpa using h) (by simpa using h')⟩).append
        (.cons (.func (.yield l) (.yield k1.b) #[] #[] #[] #[] (.yield l k1 hk1) rfl rfl (by simp) (by simp)) (.nil ρ1))
      simpa [Act.eval] using this
    have ht1 : TgRel ρ1 (.fn fn captured) (.fn fn' c') := .fn _ _ _ _ hfn ⟨by simpa using hcc, fun i v v' h h' => hcc' i v v' (by simpa using h) (by simpa using h')⟩
    have hop := invokeA_sound hd2 (.of hat1 hc3.one) ht1 hl1
    obtain ⟨outs4, ho4, _, hrest2⟩ := hall2 ar s2 (List.mem_singleton.2 rfl)
    have hresolve : (resolve a.eval (rangeCall f k1.b) 0).run E.P w1 = .ok { target := .fn fn' c', args := a' ++ Array.map a.eval #[Operand.const (Value.func (Fn.yield k1.b) #[] #[])] } w1 := by
      unfold resolve rangeCall
      simp only [hq]
      rfl
    cases hop with
    | ok _ nx ρ2 w2 hrun2 hv2 hp2 hu2 =>
      obtain ⟨hc4, hfin2⟩ := hrest2 ρ2 w1 w2 hp2
      cases hv2 with
      | value => cases ho4
      | skip => cases ho4
      | round => cases ho4
      | dfr => cases ho4
      | recover => cases ho4
      | enter g args args' hl2 =>
        have hat2 := hp2.at hat1
        have henter := stepR_rangeFunc (P := E.P) (b := b) (a := a) (k := k) (cs := cs) (w := w) (by rw [hb.fn]; exact hrun1) hresolve hrun2
        obtain ⟨outs5, ho5, hc5, hall3⟩ := bind_sound ho4 hc4
        have hle2 : ρ.le ρ2 := Rho.le_trans hp1.le hp2.le
        obtain ⟨e, w3, fr', ⟨cr, s3, ρ3, hmem, hcr, hp3⟩, hsteps, hfn3, hleave⟩ := hgo.call ho5 hc5 hat2 hl2 (b.atR { a with defers := mark' ++ a.defers } (.inRangeFunc k1.b :: k) :: cs)
        obtain ⟨outs6, ho6, _, hrest3⟩ := hall3 cr s3 hmem
        obtain ⟨hc6, hfin3⟩ := hrest3 ρ3 w2 w3 hp3
        have hle3 : ρ.le ρ3 := Rho.le_trans hle2 hp3.le
        have hfr3 : FrRel ρ3 E.nt { fr with d := mark ++ fr.d } { a with defers := mark' ++ a.defers } :=
          ⟨hfr.size, (hfr.mono hle3).tmps, All2.append (hmark.mono fun _ _ h => h.mono (Rho.le_trans hp2.le hp3.le)) (hfr.mono hle3).dfr⟩
        have hat3 := hp3.at hat2
        have hus : s2.u = s.u := hu2.trans hu1
        have hcs3 : StkOk E.dfr ρ3 s.u cs0 cs := hcs.mono hle3
        -- back through the three
        have back : ∀ (x : AExit × Fr) (s4 : St), (x, s4) ∈ outs6 → ∃ s', (x, s') ∈ outs ∧ s'.u = s4.u ∧ ∀ ρ4 w4, PStep F ρ3 s3 w3 ρ4 s4 w4 → PStep F ρ s w ρ4 s' w4 := by
          intro x s4 hx
          obtain ⟨sa, ma, ua, pa⟩ := hfin3 _ _ hx
          obtain ⟨sb, mb, ub, pb⟩ := hfin2 _ _ ma
          obtain ⟨sc, mc, uc, pc⟩ := hfin1 _ _ mb
          exact ⟨sc, mc, by rw [uc, ub, ua], fun ρ4 w4 h => pc _ _ (pb _ _ (pa _ _ h))⟩
        cases hcr with
        | panicked ch ch' hch =>
          simp only [St.reU_eq] at ho6
          cases ho6
          obtain ⟨s', m', u', p'⟩ := back _ _ (List.mem_singleton.2 rfl)
          refine ⟨_, _, s', ρ3, .panic ch', _, w3, cs, m', .panic _ _ hch, hfr3, p' ρ3 w3 (PStep.up (.refl hp3.wf hp3.inv) rfl rfl rfl fun i h => h), by rw [u', hus]; exact hcs3, fun _ => by rw [u', hus], .inRangeFunc k1.b :: k, ?_⟩
          refine .head henter (Steps.trans hsteps (.one ?_))
          rw [← Frame.raise_atR]; exact step_leave_panicked hleave
        | returned v v' hvv =>
          simp only [St.reU_eq] at ho6
          obtain ⟨outs7, ho7, hc7, hall4⟩ := bind_sound (s := s3) (ρ := ρ3) ho6 hc6
          obtain ⟨jump, s4, hd4, rfl⟩ := lift_ok ho7
          obtain ⟨w4, hrun4, hp4, hu4⟩ := endLoopA_sound (P := E.P) (s := { s3 with u := s2.u }) (w := w3) (ρ := ρ3) hd4 ⟨hc7.one.1, hc7.one.2, ⟨hp3.wf.none, hp3.wf.le⟩, hp3.inv⟩ (hp3.le _ _ (hp2.le _ _ hk1))
          have hp4' : PStep F ρ3 s3 w3 ρ3 s4 w4 := ⟨hp4.le, hp4.dom, hp4.n_le, hp4.wf, hp4.inv, hp4.size, hp4.keep, hp4.fresh, hp4.same, hp4.live, hp4.fp, hp4.wr, hp4.wrfp, hp4.new, hp4.tape, hp4.os, hp4.output⟩
          obtain ⟨outs8, ho8, _, hrest4⟩ := hall4 jump s4 (List.mem_singleton.2 rfl)
          obtain ⟨_, hfin4⟩ := hrest4 ρ3 w3 w4 hp4'
          have hs4 : Steps E.P (lone (b.atR a (.code (.rangeFunc f params assign body) :: k)) cs w) (lone (b.atR { a with defers := mark' ++ a.defers } ((jump.map Item.code).toList ++ k)) cs w4) := by
            refine .head henter (Steps.trans hsteps (.head ?_ (.one (stepR_endRangeFunc hrun4))))
            rw [← finish_atR_inRangeFunc k1.b v']; exact step_leave_returned hleave
          have hu4' : s4.u = s.u := hu4.trans hus
          cases jump with
          | none =>
            cases ho8
            obtain ⟨sz, mz, uz, pz⟩ := hfin4 _ _ (List.mem_singleton.2 rfl)
            obtain ⟨s', m', u', p'⟩ := back _ _ mz
            exact ⟨_, _, s', ρ3, .normal, _, w4, cs, m', .normal, hfr3, p' ρ3 w4 (pz ρ3 w4 (.refl hp4.wf hp4.inv)), by rw [u', uz, hu4']; exact hcs3, fun _ => by rw [u', uz, hu4'], hs4⟩
          | some c =>
            simp only at ho8
            cases c with
            | ret =>
              cases ho8
              obtain ⟨sz, mz, uz, pz⟩ := hfin4 _ _ (List.mem_singleton.2 rfl)
              obtain ⟨s', m', u', p'⟩ := back _ _ mz
              exact ⟨_, _, s', ρ3, .ret, _, w4, cs, m', .ret, hfr3, p' ρ3 w4 (pz ρ3 w4 (.refl hp4.wf hp4.inv)), by rw [u', uz, hu4']; exact hcs3, fun _ => by rw [u', uz, hu4'], _, hs4⟩
            | exit id =>
              cases ho8
              obtain ⟨sz, mz, uz, pz⟩ := hfin4 _ _ (List.mem_singleton.2 rfl)
              obtain ⟨s', m', u', p'⟩ := back _ _ mz
              exact ⟨_, _, s', ρ3, .exit id, _, w4, cs, m', .exit id, hfr3, p' ρ3 w4 (pz ρ3 w4 (.refl hp4.wf hp4.inv)), by rw [u', uz, hu4']; exact hcs3, fun _ => by rw [u', uz, hu4'],
                fun k' hk' => hs4.trans (.one (stepR_exit hk')), fun hk' => ⟨k, hk', hs4⟩⟩
            | _ => cases ho8
    | panic => cases ho4
    | oneOf => cases ho4

theorem execA_sound (hgo : GoS E.P E.ng E.go) (hdraw : DrawS E) : ∀ (c : Code), CodeS E (execA E c) (.code c)
  | .skip => by
    intro fr s outs h F ρ w a b k cs0 cs hc hat hfr hb hcs
    cases h; exact .one hat .normal hfr hcs (.one stepR_skip)
  | .label l => by
    intro fr s outs h F ρ w a b k cs0 cs hc hat hfr hb hcs
    cases h; exact .one hat .normal hfr hcs (.one stepR_label)
  | .region id ops draw => by
    intro fr s outs h F ρ w a b k cs0 cs hc hat hfr hb hcs
    cases draw with
    | true => exact hdraw id ops fr s outs h F ρ w a b k cs0 cs hc hat hfr hb hcs
    | false =>
      have := opsA_sound hgo (ops := ops) ops.toList 0 rfl fr s outs h ρ w a b k cs0 cs hc hat hfr hb hcs
      refine .of_steps (.one stepR_region) ?_
      rw [Nat.sub_zero, ← List.range_eq_range'] at this
      exact this
  | .seq x y => by
    intro fr s outs h F ρ w a b k cs0 cs hc hat hfr hb hcs
    simp only [execA_seq] at h
    refine .of_steps (.one stepR_seq) (seqS (x := .code y) rfl h hc hat hb (fun outs1 h1 hc1 => execA_sound hgo hdraw x fr s outs1 h1 F ρ w a b (.code y :: k) cs0 cs hc1 hat hfr hb hcs) (fun x fr s hx => ?_) (fun fr1 s1 outs2 h2 ρ1 w1 a1 cs1 hc2 hat1 hfr1 hb1 hcs1 => ?_))
    · cases x <;> first | exact absurd rfl hx | rfl
    · exact execA_sound hgo hdraw y fr1 s1 outs2 h2 F ρ1 w1 a1 b k cs0 cs1 hc2 hat1 hfr1 hb1 hcs1
  | .cond c x y => by
    intro fr s outs h F ρ w a b k cs0 cs hc hat hfr hb hcs
    simp only [execA_cond, condA] at h
    have hv := hfr.ev hat.glob c
    split at h
    · rename_i he
      rw [he] at hv
      generalize hq : a.eval c = q at hv
      cases hv
      exact .of_steps (.one (stepR_cond hq)) (execA_sound hgo hdraw x fr s outs h F ρ w a b k cs0 cs hc hat hfr hb hcs)
    · rename_i he
      rw [he] at hv
      generalize hq : a.eval c = q at hv
      cases hv
      exact .of_steps (.one (stepR_cond hq)) (execA_sound hgo hdraw y fr s outs h F ρ w a b k cs0 cs hc hat hfr hb hcs)
    · cases h
  | .block id c => by
    intro fr s outs h F ρ w a b k cs0 cs hc hat hfr hb hcs
    simp only [execA_block] at h
    obtain ⟨outs1, ho1, hc1, hall⟩ := bind_sound h hc
    refine .of_steps (.one stepR_block) ?_
    obtain ⟨y, fr1, s1, ρ1, e, a1, w1, cs1, hm, hex, hfr1, hp1, hcs1, hu1, harr⟩ := execA_sound hgo hdraw c fr s outs1 ho1 F ρ w a b (.inBlock id :: k) cs0 cs hc1 hat hfr hb hcs
    obtain ⟨outs2, ho2, _, hrest⟩ := hall _ s1 hm
    obtain ⟨hc2, hfin⟩ := hrest ρ1 w w1 hp1
    have fin : ∀ (x : AExit) (e' : Exit), outs2 = [((x, fr1), s1)] → ExRel ρ1 x e' → Arr E.P (lone (b.atR a (.code c :: .inBlock id :: k)) cs w) b k cs1 e' a1 w1 → ExecS E F ρ s w outs (lone (b.atR a (.code c :: .inBlock id :: k)) cs w) b k cs0 := by
      intro x e' he hx' harr'
      subst he
      obtain ⟨s2', m2, eu, hp⟩ := hfin _ _ (List.mem_singleton.2 rfl)
      exact ⟨x, fr1, s2', ρ1, e', a1, w1, cs1, m2, hx', hfr1, hp ρ1 w1 (.refl hp1.wf hp1.inv), by rw [eu]; exact hcs1, fun hd => by rw [eu, hu1 hd], harr'⟩
    cases hex with
    | normal =>
      cases ho2
      exact fin _ .normal rfl .normal (Steps.trans harr (.one stepR_inBlock))
    | exit id' =>
      simp only [blockK] at ho2
      by_cases hid : id' = id
      · rw [if_pos hid] at ho2
        cases ho2
        exact fin _ .normal rfl .normal (harr.1 k (by simp [exitTo, hid]))
      · rw [if_neg hid] at ho2
        cases ho2
        have this : (id == id') = false := by simp; exact fun h => hid h.symm
        have hx : exitTo id' (.inBlock id :: k) = exitTo id' k := by simp [exitTo, this]
        exact fin _ (.exit id') rfl (.exit id') ⟨fun k' hk => harr.1 k' (by rw [hx]; exact hk), fun hk => harr.2 (by rw [hx]; exact hk)⟩
    | ret => cases ho2; exact fin _ .ret rfl .ret harr
    | panic l l' hl => cases ho2; exact fin _ (.panic l') rfl (.panic _ _ hl) harr
  | .loop c => by
    intro fr s outs h F ρ w a b k cs0 cs hc hat hfr hb hcs
    simp only [execA_loop] at h
    exact .of_steps (.one stepR_loop) (loopA_sound (execA_sound hgo hdraw c) _ fr s outs h F ρ w a b k cs0 cs hc hat hfr hb hcs)
  | .rangeFunc f params assign body => rangeFunc_sound hgo
  | .exit id => by
    intro fr s outs h F ρ w a b k cs0 cs hc hat hfr hb hcs
    cases h; exact .one hat (.exit id) hfr hcs ⟨fun k' hk => .one (stepR_exit hk), fun hk => ⟨k, hk, .refl _ _⟩⟩
  | .ret => by
    intro fr s outs h F ρ w a b k cs0 cs hc hat hfr hb hcs
    cases h; exact .one hat .ret hfr hcs ⟨k, .refl _ _⟩
  | .goto _ => by intro fr s outs h; cases h
  | .scope _ => by intro fr s outs h; cases h
  | .refuse _ => by intro fr s outs h; cases h
end

end Go.Proofs.YthogkihfbjbghaaGreatDoor.Abs
namespace Go.Proofs.YthogkihfbjbghaaGreatDoor.Abs

section
variable {P : Program} {F : Nat → Prop} {ρ : Rho}

theorem PStep.ofU {s s' : St} {w w' : World} {ρ' : Rho} {u : FrameMode} (h : PStep F ρ { s with u := u } w ρ' s' w') : PStep F ρ s w ρ' s' w' :=
  ⟨h.le, h.dom, h.n_le, h.wf, h.inv, h.size, h.keep, h.fresh, h.same, h.live, h.fp, h.wr, h.wrfp, h.new, h.tape, h.os, h.output⟩

theorem At.setU {s : St} {w : World} {ng : Nat} (h : At F ρ s w ng) (u : FrameMode) : At F ρ { s with u := u } w ng := ⟨⟨h.wf.none, h.wf.le⟩, h.inv, h.glob⟩

/-- the results of a frame, as its temporaries say -/
def resSem (tmps : Array Value) : ResultVar → Sem Value
  | .tmp t => pure (tmps.getD t undef)
  | .cell a t => do loadVar t (← asAddr (tmps.getD a undef))

theorem resultsA_sound {fr : Fr} {tmps : Array Value} (ht : ∀ (t : Nat) (v : Value), fr.t.get t = some v → VRel ρ v (tmps.getD t undef)) {w : World} : ∀ {rs : List ResultVar} {s s' : St} {vs : List Value}, D.run (resultsA P fr rs) s = .ok (vs, s') →
    (∀ i, s'.fp.testBit i = true → F i) → Inv F ρ s.H.get w → RO s s' ∧ ∃ vs', (rs.mapM (resSem tmps)).run P w = .ok vs' w ∧ LRel ρ vs vs'
  | [], s, s', vs, h, hF, hinv => by
    obtain ⟨rfl, rfl⟩ := D.pure_ok h
    exact ⟨.refl _, [], rfl, .nil ρ⟩
  | r :: rs, s, s', vs, h, hF, hinv => by
    simp only [resultsA] at h
    obtain ⟨v, s1, h1, h2⟩ := D.bind_ok h
    obtain ⟨vs2, s2, h3, h4⟩ := D.bind_ok h2
    obtain ⟨rfl, rfl⟩ := D.pure_ok h4
    have tv : ∀ t, VRel ρ (fr.ev 0 (.tmp t)) (tmps.getD t undef) := fun t => by
      simp only [Fr.ev]
      cases e : fr.t.get t with
      | none => exact .any _
      | some v => exact ht t v e
    have one : RO s s1 → (∃ v', (resSem tmps r).run P w = .ok v' w ∧ VRel ρ v v') → RO s s2 ∧ ∃ vs', ((r :: rs).mapM (resSem tmps)).run P w = .ok vs' w ∧ LRel ρ (v :: vs2) vs' := by
      rintro hro ⟨v', hr, hv⟩
      obtain ⟨hro2, vs', hrs, hvs⟩ := resultsA_sound ht h3 hF (by rw [hro.H]; exact hinv)
      refine ⟨hro.trans hro2, v' :: vs', ?_, .cons hv hvs⟩
      rw [List.mapM_cons]
      refine (run_bind_eq hr).trans ?_
      exact (run_bind_eq hrs).trans rfl
    cases r with
    | tmp t =>
      obtain ⟨rfl, rfl⟩ := D.pure_ok h1
      exact one (.refl _) ⟨_, rfl, tv t⟩
    | cell a t =>
      obtain ⟨⟨b, off⟩, s3, h5, h6⟩ := D.bind_ok h1
      obtain ⟨ha, rfl⟩ := addrOf_ok h5
      have hx := tv a
      rw [ha] at hx
      -- the rest only looks
      have hfp : ∀ i, s1.fp.testBit i = true → F i := by
        intro i hi
        refine hF i ?_
        have : ∀ {rs : List ResultVar} {s s' : St} {vs : List Value}, D.run (resultsA P fr rs) s = .ok (vs, s') → ∀ i, s.fp.testBit i = true → s'.fp.testBit i = true := by
          intro rs
          induction rs with
          | nil => intro s s' vs h i hi; obtain ⟨_, rfl⟩ := D.pure_ok h; exact hi
          | cons r rs ih =>
            intro s s' vs h i hi
            simp only [resultsA] at h
            obtain ⟨v, s1, h1, h2⟩ := D.bind_ok h
            obtain ⟨vs2, s2, h3, h4⟩ := D.bind_ok h2
            obtain ⟨_, rfl⟩ := D.pure_ok h4
            refine ih h3 i ?_
            cases r with
            | tmp t => obtain ⟨_, rfl⟩ := D.pure_ok h1; exact hi
            | cell a t =>
              obtain ⟨⟨b, off⟩, s3, h5, h6⟩ := D.bind_ok h1
              obtain ⟨_, rfl⟩ := addrOf_ok h5
              unfold loadA at h6
              obtain ⟨c, s4, h7, h8⟩ := D.bind_ok h6
              obtain ⟨_, rfl⟩ := rowB_ok h7
              obtain ⟨ag, s5, h9, h10⟩ := D.bind_ok h8
              obtain ⟨_, rfl⟩ := aggB_ok h9
              have key : (({ s3 with fp := Nat.lor s3.fp (bit b) } : St)).fp.testBit i = true := by simp only [testBit_lor_bit, hi, Bool.true_or]
              split at h10
              · obtain ⟨inf, s6, h11, h12⟩ := D.bind_ok h10
                obtain ⟨_, rfl⟩ := infoOf_ok h11
                split at h12
                · obtain ⟨_, rfl⟩ := D.pure_ok h12; exact key
                · cases h12
              · split at h10
                · obtain ⟨_, rfl⟩ := D.pure_ok h10; exact key
                · cases h10
        exact this h3 i hi
      obtain ⟨hro, k, v', hk, hr, hv⟩ := loadA_sound (P := P) h6 hfp hinv
      refine one hro ⟨v', ?_, hv⟩
      generalize hq : tmps.getD a undef = q at hx
      cases hx with
      | ptr _ _ k1 hk1 =>
        rw [hk] at hk1; cases hk1
        simp only [resSem, hq]
        exact (run_bind_eq (a := (⟨k.b, k.sh + off, none⟩ : Addr)) (w' := w) rfl).trans hr

theorem results_run {fn : Func} {tmps : Array Value} {vs' : List Value} {w : World} (h : (fn.results.toList.mapM (resSem tmps)).run P w = .ok vs' w) : (results fn tmps).run P w = .ok (oneOrTuple vs') w := by
  have key : ∀ g : ResultVar → Sem Value, (∀ r, g r = resSem tmps r) → (do let vs ← fn.results.mapM g; pure (if h : vs.size = 1 then vs[0] else .tuple vs) : Sem Value).run P w = .ok (oneOrTuple vs') w := by
    intro g hg
    obtain rfl : g = resSem tmps := funext hg
    rw [Array.mapM_eq_mapM_toList]
    refine (run_bind_eq (a := vs'.toArray) (w' := w) ?_).trans ?_
    · simp only [Sem.run_map, h]; rfl
    · cases vs' with
      | nil => rfl
      | cons v l => cases l <;> rfl
  exact key _ fun r => by cases r <;> rfl

theorem one_rel {vs vs' : List Value} (h : LRel ρ vs vs') : VRel ρ (oneOrTuple vs) (oneOrTuple vs') := by
  cases vs with
  | nil => rw [h.nil_inv]; exact .any _
  | cons v l =>
    obtain ⟨v', r, rfl, hv, hr⟩ := h.cons_inv
    cases l with
    | nil => rw [hr.nil_inv]; exact hv
    | cons v2 l =>
      obtain ⟨v2', r2, rfl, hv2, hr2⟩ := hr.cons_inv
      exact VRel.tuple_of (by simpa using (hr2.cons hv2).cons hv)

/-- a deferred call -/
def DefS (P : Program) (ng : Nat) (call : FuncId → List Value → X CR) : Prop :=
  ∀ (f : FuncId) (args : List Value) (s : St) (outs : List (CR × St)), call f args s = .ok outs → ∀ (F : Nat → Prop) (ρ : Rho) (w : World) (args' : Array Value) (c : Frame) (cs : List Frame), Cov F ρ s outs → At F ρ s w ng → LRel ρ args args'.toList → MRel ρ s.u c.mode →
    ∃ r s' ρ' e w' m' X, (r, s') ∈ outs ∧ CrRel ρ' r e ∧ PStep F ρ s w ρ' s' w' ∧ MRel ρ' s'.u m' ∧ Steps P (lone (Frame.enter P f args' .deferred) (c :: cs) w) (lone X ({ c with mode := m' } :: cs) w') ∧ X.kind = .deferred ∧ X.going P w' e

theorem dropWhile_rel {l l' : List PanicEntry} (h : ChRel ρ l l') : ChRel ρ (l.dropWhile (!·.goexit)) (l'.dropWhile (!·.goexit)) := by
  induction h with
  | nil => exact .nil
  | cons h t ih =>
    rename_i a b l l'
    simp only [List.dropWhile_cons, ← h.ge]
    cases a.goexit with
    | true => exact .cons h t
    | false => exact ih

theorem settle_rel {u m : FrameMode} (h : MRel ρ u m) : MRel ρ (settleA u) (settle m) := by
  cases h with
  | run => exact .run
  | returning => exact .returning
  | panicking l l' h =>
    cases h with
    | nil => exact .panicking _ _ .nil
    | cons hx t =>
      rename_i a b l l'
      obtain ⟨av, ar, ag⟩ := a
      obtain ⟨bv, br, bg⟩ := b
      obtain ⟨hv, hr, hg⟩ := hx
      simp only at hv hr hg
      subst hr; subst hg
      cases ar with
      | false => exact .panicking _ _ (.cons ⟨hv, rfl, rfl⟩ t)
      | true =>
        simp only [settleA, settle]
        have := dropWhile_rel t
        generalize List.dropWhile (fun x => !x.goexit) l = q at this
        generalize List.dropWhile (fun x => !x.goexit) l' = q' at this
        cases this with
        | nil => exact .returning
        | cons h t => exact .panicking _ _ (.cons h t)

theorem raised_rel {u m : FrameMode} (h : MRel ρ u m) {ch ch' : List PanicEntry} (hc : ChRel ρ ch ch') : MRel ρ (raisedA u ch) (raised m ch') := by
  cases h with
  | run => exact .panicking _ _ hc
  | returning => exact .panicking _ _ hc
  | panicking l l' h => exact .panicking _ _ (hc.append h)

theorem MRel.ne_run {u m : FrameMode} (h : MRel ρ u m) (hu : u ≠ .run) : m ≠ .run := by
  cases h with
  | run => exact absurd rfl hu
  | returning => intro e; cases e
  | panicking => intro e; cases e

theorem settleA_ne {u : FrameMode} (h : u ≠ .run) : settleA u ≠ .run := by
  unfold settleA
  split
  · split <;> (intro e; cases e)
  · exact h
theorem raisedA_ne {u : FrameMode} {ch : List PanicEntry} : raisedA u ch ≠ .run := by
  unfold raisedA
  split <;> (intro e; cases e)

theorem leaveA_sound {ng : Nat} {fn : Func} {fr : Fr} {call : FuncId → List Value → X CR} (hcall : DefS P ng call) : ∀ (n : Nat) (ds : List Deferred) (u : FrameMode) (s : St) (outs : List (CR × St)), leaveA P fn fr call n ds u s = .ok outs →
    ∀ (ρ : Rho) (w : World) (X : Frame) (ds' : List Deferred) (cs : List Frame), Cov F ρ s outs → At F ρ s w ng → All2 (DfRel ρ) ds ds' → MRel ρ u X.mode → X.defers = ds' →
      (∀ (t : Nat) (v : Value), fr.t.get t = some v → VRel ρ v (X.tmps.getD t undef)) → P.funcs[X.fn]? = some fn → X.kind = .normal →
      ∃ r s' ρ' e w' X', (r, s') ∈ outs ∧ CrRel ρ' r e ∧ PStep F ρ s w ρ' s' w' ∧ Steps P (lone X cs w) (lone X' cs w') ∧ X'.fn = X.fn ∧ X'.leaving P w' e := by
  have nil : ∀ (n : Nat) (u : FrameMode) (s : St) (outs : List (CR × St)), leaveA P fn fr call n [] u s = .ok outs →
    ∀ (ρ : Rho) (w : World) (X : Frame) (ds' : List Deferred) (cs : List Frame), Cov F ρ s outs → At F ρ s w ng → All2 (DfRel ρ) [] ds' → MRel ρ u X.mode → X.defers = ds' →
      (∀ (t : Nat) (v : Value), fr.t.get t = some v → VRel ρ v (X.tmps.getD t undef)) → P.funcs[X.fn]? = some fn → X.kind = .normal →
      ∃ r s' ρ' e w' X', (r, s') ∈ outs ∧ CrRel ρ' r e ∧ PStep F ρ s w ρ' s' w' ∧ Steps P (lone X cs w) (lone X' cs w') ∧ X'.fn = X.fn ∧ X'.leaving P w' e := by
    intro n u s outs h ρ w X ds' cs hc hat hd hm hX ht hf hk
    cases hd
    unfold leaveA at h
    cases u with
    | run => cases h
    | returning =>
      simp only at h
      obtain ⟨outs1, ho1, hc1, hall⟩ := bind_sound h hc
      obtain ⟨vs, s1, hd1, rfl⟩ := lift_ok ho1
      obtain ⟨hro, vs', hrun, hvs⟩ := resultsA_sound ht hd1 hc1.one.1 hat.inv
      obtain ⟨outs2, ho2, _, hrest⟩ := hall vs s1 (List.mem_singleton.2 rfl)
      cases ho2
      obtain ⟨_, hfin⟩ := hrest ρ w w (hro.step hat.wf hat.inv)
      obtain ⟨s', m, _, hp⟩ := hfin _ _ (List.mem_singleton.2 rfl)
      generalize hmm : X.mode = mm at hm
      cases hm
      exact ⟨_, s', ρ, .returned _, w, X, m, .returned _ _ (one_rel hvs), hp ρ w (.refl (hro.wf hat.wf) (by rw [hro.H]; exact hat.inv)), .refl _ _, rfl, hmm, hX, hk, fn, hf, results_run hrun⟩
    | panicking ch =>
      cases h
      generalize hmm : X.mode = mm at hm
      cases hm with
      | panicking _ l' hl => exact ⟨_, s, ρ, .panicked l', w, X, List.mem_singleton.2 rfl, .panicked _ _ hl, .refl hat.wf hat.inv, .refl _ _, rfl, hmm, hX, fn, hf⟩
  intro n
  induction n with
  | zero =>
    intro ds u s outs h ρ w X ds' cs hc hat hd hm hX ht hf hk
    cases ds with
    | nil => exact nil 0 u s outs h ρ w X ds' cs hc hat hd hm hX ht hf hk
    | cons d ds =>
      unfold leaveA at h
      cases u <;> cases h
  | succ n ih =>
    intro ds u s outs h ρ w X ds' cs hc hat hd hm hX ht hf hk
    cases ds with
    | nil => exact nil (n + 1) u s outs h ρ w X ds' cs hc hat hd hm hX ht hf hk
    | cons d ds =>
      cases hd with
      | cons hd1 hds =>
        rename_i d' ds2
        unfold leaveA at h
        have hrunA : isRun u = false := by
          cases e : isRun u with
          | false => rfl
          | true => rw [e] at h; cases h
        rw [hrunA, cond_false] at h
        have hrun : X.mode ≠ .run := hm.ne_run (by rintro rfl; cases hrunA)
        split at h
        · -- a mark
          rename_i r htg
          obtain ⟨outs1, ho1, hc1, hall⟩ := bind_sound h hc
          obtain ⟨l, s1, hdl, rfl⟩ := lift_ok ho1
          obtain ⟨o, s2, h1, h2⟩ := D.bind_ok hdl
          obtain ⟨ho, hs2⟩ := objB_ok h1
          split at h2
          · rename_i l0
            obtain ⟨_, s3, h3, h4⟩ := D.bind_ok h2
            obtain ⟨e4, e5⟩ := D.pure_ok h4
            subst e4; subst e5
            have hro : RO s s2 := by rw [hs2]; exact RO.foot _ _
            have hp : Pre F ρ s s3 w := .of hat hc1.one
            obtain ⟨o0, _, hs3⟩ := putB_ok h3
            have hFr : F r := hp.hF r (by rw [hs3]; exact foot_bit s2 r)
            obtain ⟨k1, o', hk1, hsh, hb, hr⟩ := hp.inv.obj hFr ho
            cases hr with
            | deferred _ l' hl =>
              obtain ⟨hu, hst⟩ := putObj_sound h3 (hp.ro hro) hk1 hsh hb .taken
              have hp1 := PStep.trans hp.hρ (hro.step hp.wf hp.inv) hst
              obtain ⟨outs2, ho2, _, hrest⟩ := hall _ s3 (List.mem_singleton.2 rfl)
              obtain ⟨hc2, hfin⟩ := hrest ρ w _ hp1
              have htd := hd1.target
              rw [htg] at htd
              generalize hq : d'.target = q at htd
              cases htd with
              | collected _ k2 hk2 =>
                rw [hk1] at hk2; cases hk2
                have hstep := step_collected (cs := cs) hrun hX hq (run_takeDeferred (P := P) hb)
                obtain ⟨r', s', ρ', e, w', X', m, hcr, hps, hsteps, hfn, hlv⟩ := ih (l0 ++ ds) u s3 outs2 ho2 ρ _ { X with defers := l' ++ ds2 } (l' ++ ds2) cs hc2 (hp1.at hat) (hl.append hds) hm rfl ht hf hk
                obtain ⟨s4, m4, _, hp4⟩ := hfin _ _ m
                exact ⟨r', s4, ρ', e, w', X', m4, hcr, hp4 _ _ hps, .head hstep hsteps, hfn, hlv⟩
          · cases h2
        · -- a function
          rename_i f captured htg
          split at h
          · cases h
          · rename_i fd hfd
            split at h
            · cases h
            · rename_i body hbody
              have hname : (fd.name == "runtime.NumGoroutine") = false := by
                cases e : fd.name == "runtime.NumGoroutine" with
                | false => rfl
                | true => rw [e] at h; cases h
              rw [hname, cond_false, St.reU_eq] at h
              have htd := hd1.target
              rw [htg] at htd
              generalize hq : d'.target = q at htd
              cases htd with
              | fn _ fn' _ c' hfn hcc =>
                cases hfn
                have hinv : (invoke d'.target d'.args).run P w = .ok (.enter f (d'.args ++ c')) w := by
                  rw [hq]
                  show (callFunc f (d'.args ++ c')).run P w = _
                  unfold callFunc
                  refine (run_bind_eq (a := P) (w' := w) rfl).trans ?_
                  rw [funcK_eq] at hfd
                  simp only [hfd, hname, hbody]
                  rfl
                have h1 := step_defer (P := P) (cs := cs) hrun hX hq hinv
                obtain ⟨outs1, ho1, hc1, hall⟩ := bind_sound (s := { s with u := u }) h hc
                obtain ⟨r, s1, ρ1, e, w1, m1, Y, hmem, hcr, hp1, hm1, hsteps, hYk, hgo⟩ := hcall f _ _ outs1 ho1 F ρ w (d'.args ++ c') { X with defers := ds2 } cs hc1 (hat.setU u) (by simpa using hd1.args.append hcc) hm
                obtain ⟨outs2, ho2, _, hrest⟩ := hall r s1 hmem
                obtain ⟨hc2, hfin⟩ := hrest ρ1 w w1 hp1
                have hds1 : All2 (DfRel ρ1) ds ds2 := hds.mono fun _ _ h => h.mono hp1.le
                have ht1 : ∀ (t : Nat) (v : Value), fr.t.get t = some v → VRel ρ1 v (X.tmps.getD t undef) := fun t v e => (ht t v e).mono hp1.le
                have hat1 : At F ρ1 s1 w1 ng := hp1.at (hat.setU u)
                cases hcr with
                | returned v v' hv =>
                  simp only [St.reU_eq] at ho2
                  have h2 := step_going_returned (P := P) (c := { { X with defers := ds2 } with mode := m1 }) (cs := cs) hYk hgo
                  obtain ⟨r', s', ρ', e', w', X', m, hcr', hps, hsteps', hfn', hlv⟩ := ih ds (settleA s1.u) { s1 with u := s.u } outs2 ho2 ρ1 w1 { { { X with defers := ds2 } with mode := m1 } with mode := settle m1 } ds2 cs hc2 (hat1.setU _) hds1 (settle_rel hm1) rfl ht1 hf hk
                  obtain ⟨s4, m4, _, hp4⟩ := hfin _ _ m
                  exact ⟨r', s4, ρ', e', w', X', m4, hcr', (hp4 _ _ hps.ofU).ofU, .head h1 (Steps.trans hsteps (.head h2 hsteps')), hfn', hlv⟩
                | panicked ch ch' hch =>
                  simp only [St.reU_eq] at ho2
                  have h2 := step_going_panicked (P := P) (c := { { X with defers := ds2 } with mode := m1 }) (cs := cs) hgo
                  obtain ⟨r', s', ρ', e', w', X', m, hcr', hps, hsteps', hfn', hlv⟩ := ih ds (raisedA s1.u ch) { s1 with u := s.u } outs2 ho2 ρ1 w1 { { { X with defers := ds2 } with mode := m1 } with mode := raised m1 ch' } ds2 cs hc2 (hat1.setU _) hds1 (raised_rel hm1 hch) rfl ht1 hf hk
                  obtain ⟨s4, m4, _, hp4⟩ := hfin _ _ m
                  exact ⟨r', s4, ρ', e', w', X', m4, hcr', (hp4 _ _ hps.ofU).ofU, .head h1 (Steps.trans hsteps (.head h2 hsteps')), hfn', hlv⟩
        · cases h

end

end Go.Proofs.YthogkihfbjbghaaGreatDoor.Abs
namespace Go.Proofs.YthogkihfbjbghaaGreatDoor.Abs

theorem beqBytes_of {a b : ByteArray} (h : beqBytes (bs a) (bs b) = true) : a = b := by
  rw [beqBytes_eq] at h
  have : bs a = bs b := by simpa using h
  obtain ⟨⟨x⟩⟩ := a
  obtain ⟨⟨y⟩⟩ := b
  simp only [bs] at this
  rw [this]

theorem sameL_of {n : Nat} (ih : ∀ v w, sameV n v w = true → v = w) : ∀ {l m : List Value}, sameV.sameL n l m = true → l = m
  | [], [], _ => rfl
  | [], _ :: _, h => by simp [sameV.sameL] at h
  | _ :: _, [], h => by simp [sameV.sameL] at h
  | v :: l, w :: m, h => by
    simp only [sameV.sameL, Bool.and_eq_true] at h
    rw [ih _ _ h.1, sameL_of ih h.2]

theorem arr_of {a b : Array Value} (h : a.toList = b.toList) : a = b := Array.ext' h

theorem sameV_of : ∀ (n : Nat) (v w : Value), sameV n v w = true → v = w := by
  intro n
  induction n with
  | zero =>
    intro v w h
    unfold sameV at h
    split at h
    all_goals first
      | (cases h; done)
      | rfl
      | (simp only [beq_iff_eq] at h; simp [h]; done)
      | (simp only [Bool.and_eq_true, beq_iff_eq] at h; simp [h]; done)
      | (simp only [Bool.and_eq_true] at h; rw [beq_iff_eq.1 h.1.1, Nat.eq_of_beq_eq_true h.1.2, Nat.eq_of_beq_eq_true h.2]; done)
      | (rw [beqBytes_of h]; done)
      | (rename_i heq; cases heq; done)
      | skip
  | succ n ih =>
    intro v w h
    unfold sameV at h
    split at h
    all_goals first
      | (cases h; done)
      | rfl
      | (simp only [beq_iff_eq] at h; simp [h]; done)
      | (simp only [Bool.and_eq_true, beq_iff_eq] at h; simp [h]; done)
      | (simp only [Bool.and_eq_true] at h; rw [beq_iff_eq.1 h.1.1, Nat.eq_of_beq_eq_true h.1.2, Nat.eq_of_beq_eq_true h.2]; done)
      | (rw [beqBytes_of h]; done)
      | skip
    · rename_i heq
      cases heq
      simp only [Bool.and_eq_true, decide_eq_true_eq] at h
      rw [h.1.1, arr_of (sameL_of ih h.1.2), arr_of (sameL_of ih h.2)]
    · rename_i heq
      cases heq
      simp only [Bool.and_eq_true] at h
      rw [Nat.eq_of_beq_eq_true h.1, ih _ _ h.2]
    · rename_i heq
      cases heq
      rw [arr_of (sameL_of ih h)]
    · rename_i heq
      cases heq
      rw [arr_of (sameL_of ih h)]

theorem sameE_of : ∀ {l m : List MapEntry}, sameE l m = true → l = m
  | [], [], _ => rfl
  | [], _ :: _, h => by simp [sameE] at h
  | _ :: _, [], h => by simp [sameE] at h
  | e :: l, f :: m, h => by
    simp only [sameE, Bool.and_eq_true] at h
    obtain ⟨ek, ev, eb⟩ := e
    obtain ⟨fk, fv, fb⟩ := f
    obtain ⟨⟨⟨h1, h2⟩, h3⟩, h4⟩ := h
    rw [sameE_of h4]
    rw [show ek = fk from sameV_of _ _ _ h1, show ev = fv from sameV_of _ _ _ h2, show eb = fb from Nat.eq_of_beq_eq_true h3]

theorem sameO_of {o o' : AObj} (h : sameO o o' = true) : o = o' := by
  unfold sameO at h
  split at h
  · simp only [Bool.and_eq_true, beq_iff_eq] at h
    rw [sameL_of (sameV_of 9) h.1.1.1, Nat.eq_of_beq_eq_true h.1.1.2, h.1.2, h.2]
  · simp only [Bool.and_eq_true] at h
    rw [Array.ext' (sameE_of h.1), Nat.eq_of_beq_eq_true h.2]
  · cases h

theorem sameAt_of {H H' : Trie AObj} {i : Nat} (h : sameAt H H' i = true) : H.get i = H'.get i := by
  unfold sameAt at h
  split at h
  · rename_i o o' e e'; rw [e, e', sameO_of h]
  · rename_i e e'; rw [e, e']
  · cases h

theorem sameCR_of {r r' : CR} (h : sameCR r r' = true) : r = r' := by
  unfold sameCR at h
  split at h
  · rw [sameV_of _ _ _ h]
  · cases h

theorem keepIds_get {H1 : Trie AObj} : ∀ {l : List Nat} {H : Trie AObj}, (∀ i ∈ l, i ≤ 1048576) → ∀ (j : Nat), (keepIds H1 l H).get j = if j ∈ l then H1.get j else H.get j
  | [], H, _, j => by simp [keepIds]
  | i :: l, H, h, j => by
    have e : keepIds H1 (i :: l) H = keepIds H1 l (H.set i (H1.get i)) := by
      simp only [keepIds]
      cases H1.get i <;> simp only [setH_eq]
    rw [e]
    rw [keepIds_get (fun x hx => h x (by simp [hx])), Trie.get_set _ _ _ _ (h i (by simp))]
    by_cases h1 : j ∈ l
    · simp [h1]
    · by_cases h2 : j = i
      · subst h2; simp
      · simp [h1, h2]

theorem keepK_eq {β : Type} {H1 : Trie AObj} : ∀ {l : List Nat} {H : Trie AObj} {k : Trie AObj → β}, keepK H1 l H k = k (keepIds H1 l H)
  | [], H, k => rfl
  | i :: l, H, k => by
    simp only [keepK, keepIds]
    cases H1.get i <;> simp only [setH_eq] <;> exact keepK_eq

theorem foldl_lor (f : CR × St → Nat) (i : Nat) : ∀ (l : List (CR × St)) (a : Nat), (l.foldl (fun a x => Nat.lor a (f x)) a).testBit i = true ↔ a.testBit i = true ∨ ∃ x ∈ l, (f x).testBit i = true
  | [], a => by simp
  | x :: l, a => by
    rw [List.foldl_cons, foldl_lor f i l, testBit_lor, Bool.or_eq_true]
    constructor
    · rintro ((h | h) | ⟨y, hy, h⟩)
      · exact .inl h
      · exact .inr ⟨x, by simp, h⟩
      · exact .inr ⟨y, by simp [hy], h⟩
    · rintro (h | ⟨y, hy, h⟩)
      · exact .inl (.inl h)
      · rcases List.mem_cons.1 hy with rfl | hy
        · exact .inl (.inr h)
        · exact .inr ⟨y, hy, h⟩

theorem mergeA_sound {F : Nat → Prop} {ρ : Rho} {s0 : St} {outs : List (CR × St)} (hwf : Wf s0) :
    (Cov F ρ s0 (mergeA s0 outs) → Cov F ρ s0 outs) ∧
    (∀ r' s' ρ' w w', (r', s') ∈ outs → PStep F ρ s0 w ρ' s' w' → ∃ s'', (r', s'') ∈ mergeA s0 outs ∧ PStep F ρ s0 w ρ' s'' w') := by
  have same : (Cov F ρ s0 outs → Cov F ρ s0 outs) ∧ (∀ r' s' ρ' w w', (r', s') ∈ outs → PStep F ρ s0 w ρ' s' w' → ∃ s'', (r', s'') ∈ outs ∧ PStep F ρ s0 w ρ' s'' w') :=
    ⟨id, fun r' s' ρ' w w' hm hp => ⟨s', hm, hp⟩⟩
  cases outs with
  | nil => exact same
  | cons x rest =>
    obtain ⟨r, s⟩ := x
    unfold mergeA
    simp only
    generalize hwr : rest.foldl (fun a x => Nat.lor a x.2.wr) s.wr = wr
    generalize hfp : rest.foldl (fun a x => Nat.lor a x.2.fp) s.fp = fp
    generalize hold : (List.range s0.n).filter (fun i => wr.testBit i) = old
    generalize hseen : reachA s.H s0.n 100000 (idsCR r ++ old.flatMap fun i => match s.H.get i with | some o => idsO o | none => []) 0 = seen
    generalize hnew : (List.range (s.n - s0.n)).filterMap (fun k => if seen.testBit (s0.n + k) then some (s0.n + k) else none) = new
    cases hall : rest.all fun (r', s') => sameCR r r' && Nat.beq s.n s'.n && (old ++ new).all (sameAt s.H s'.H) with
    | false => exact same
    | true =>
      simp only [cond_true]
      rw [List.all_eq_true] at hall
      have hw : ∀ (r' : CR) (s' : St), (r', s') ∈ (r, s) :: rest → ∀ i, s'.wr.testBit i = true → wr.testBit i = true := by
        intro r' s' hm i hi
        rw [← hwr, foldl_lor (fun x => x.2.wr)]
        rcases List.mem_cons.1 hm with e | hm
        · cases e; exact .inl hi
        · exact .inr ⟨_, hm, hi⟩
      have hf : ∀ (r' : CR) (s' : St), (r', s') ∈ (r, s) :: rest → ∀ i, s'.fp.testBit i = true → fp.testBit i = true := by
        intro r' s' hm i hi
        rw [← hfp, foldl_lor (fun x => x.2.fp)]
        rcases List.mem_cons.1 hm with e | hm
        · cases e; exact .inl hi
        · exact .inr ⟨_, hm, hi⟩
      have hs : ∀ (r' : CR) (s' : St), (r', s') ∈ (r, s) :: rest → r = r' ∧ s.n = s'.n ∧ ∀ i ∈ old ++ new, s.H.get i = s'.H.get i := by
        intro r' s' hm
        rcases List.mem_cons.1 hm with e | hm
        · cases e; exact ⟨rfl, rfl, fun _ _ => rfl⟩
        · have := hall _ hm
          simp only [Bool.and_eq_true] at this
          exact ⟨sameCR_of this.1.1, Nat.eq_of_beq_eq_true this.1.2, fun i hi => sameAt_of (List.all_eq_true.1 this.2 i hi)⟩
      refine ⟨fun hc r' s' hm => ?_, fun r' s' ρ' w w' hm hp => ?_⟩
      · have := hc _ _ (List.mem_singleton.2 rfl)
        refine ⟨fun i hi => this.1 i ?_, fun i a b => this.2 i a ?_⟩
        · show (Nat.lor fp wr).testBit i = true
          rw [testBit_lor, hf r' s' hm i hi]; rfl
        · show i < s.n
          rw [(hs r' s' hm).2.1]; exact b
      · obtain ⟨e1, e2, e3⟩ := hs r' s' hm
        subst e1
        refine ⟨_, List.mem_singleton.2 rfl, ?_⟩
        have hids : ∀ i ∈ old ++ new, i ≤ 1048576 := by
          intro i hi
          have hle := hp.wf.le
          rcases List.mem_append.1 hi with h | h
          · rw [← hold] at h
            have := (List.mem_filter.1 h).1
            have := hwf.le
            simp at *; omega
          · rw [← hnew] at h
            obtain ⟨k, hk, hk2⟩ := List.mem_filterMap.1 h
            split at hk2
            · cases hk2; simp at hk; omega
            · cases hk2
        have hget : ∀ j, (keepIds s.H (old ++ new) s0.H).get j = s'.H.get j ∨ s0.n ≤ j ∧ (keepIds s.H (old ++ new) s0.H).get j = none := by
          intro j
          rw [keepIds_get hids]
          by_cases hj : j ∈ old ++ new
          · rw [if_pos hj, e3 j hj]; exact .inl rfl
          · rw [if_neg hj]
            by_cases hlt : j < s0.n
            · left
              have hno : wr.testBit j = false := by
                cases e : wr.testBit j with
                | false => rfl
                | true =>
                  exfalso; apply hj
                  rw [List.mem_append]; left
                  rw [← hold]; exact List.mem_filter.2 ⟨by simpa using hlt, e⟩
              have : s'.wr.testBit j = false := by
                cases e : s'.wr.testBit j with
                | false => rfl
                | true => rw [hw r s' hm j e] at hno; cases hno
              exact (hp.same j this).symm
            · exact .inr ⟨by omega, hwf.none j (by omega)⟩
        have hsome : ∀ j, (keepIds s.H (old ++ new) s0.H).get j ≠ none → s'.H.get j ≠ none ∧ (keepIds s.H (old ++ new) s0.H).get j = s'.H.get j := by
          intro j hj
          rcases hget j with h | h
          · exact ⟨by rw [← h]; exact hj, h⟩
          · exact absurd h.2 hj
        have hbit : ∀ i, s'.fp.testBit i = true → (Nat.lor fp wr).testBit i = true := fun i hi => by rw [testBit_lor, hf r s' hm i hi]; rfl
        refine ⟨hp.le, ?_, ?_, ⟨?_, ?_⟩, ⟨?_, ?_⟩, hp.size, ?_, ?_, ?_, ?_, ?_, ?_, ?_, ?_, hp.tape, hp.os, hp.output⟩
        · intro id a b; rw [e2]; exact hp.dom id a b
        · show s0.n ≤ s.n; rw [e2]; exact hp.n_le
        · intro id hid
          have hid : s'.n ≤ id := by rw [← e2]; exact hid
          rcases hget id with h | h
          · exact h.trans (hp.wf.none id hid)
          · exact h.2
        · show s.n ≤ 1048576; rw [e2]; exact hp.wf.le
        · intro id o hF ho
          have := (hsome id (by rw [show (keepIds s.H (old ++ new) s0.H).get id = some o from ho]; simp)).2
          exact hp.inv.rel id o hF (this.symm.trans ho)
        · intro i j a b hi hj hi2 hj2
          exact hp.inv.apart i j a b hi hj (hsome i hi2).1 (hsome j hj2).1
        · intro b hb hk
          exact hp.keep b hb fun id k a => hk id k (hw r s' hm id a)
        · intro id k a b c d
          have b : id < s'.n := by rw [← e2]; exact b
          rcases hp.fresh id k a b (hsome id c).1 d with h | ⟨id0, k0, h1, h2, h3, h4, h5⟩
          · exact .inl h
          · refine .inr ⟨id0, k0, hw r s' hm id0 h1, h2, ?_, h4, h5⟩
            rcases hget id0 with h | h
            · exact h.trans h3
            · exact h.2
        · intro id a
          have hno : s'.wr.testBit id = false := by
            cases e : s'.wr.testBit id with
            | false => rfl
            | true => exact absurd ((hw r s' hm id e).symm.trans a) (by simp)
          rcases hget id with h | h
          · exact h.trans (hp.same id hno)
          · exact h.2.trans (hwf.none id h.1).symm
        · intro id a
          have := hp.live id (hsome id a).1
          rw [e2]; exact this
        · exact fun id a => hbit id (hp.fp id a)
        · exact fun id a => hw r s' hm id (hp.wr id a)
        · intro id a
          right
          show (Nat.lor fp wr).testBit id = true
          rw [testBit_lor, show wr.testBit id = true from a]; simp
        · intro id a b
          have b : id < s'.n := by rw [← e2]; exact b
          have := hp.new id a b
          exact ⟨hw r s' hm id this.1, hbit id this.2⟩

end Go.Proofs.YthogkihfbjbghaaGreatDoor.Abs
namespace Go.Proofs.YthogkihfbjbghaaGreatDoor.Abs

/-- the frame of a function that is entered -/
theorem enter_rel {ρ : Rho} {args : List Value} {args' : Array Value} (h : LRel ρ args args'.toList) {nt : Nat} (hc : (Nat.ble args.length nt && Nat.ble args.length 1048576) = true) :
    FrRel ρ nt ⟨toTrie args 0 .leaf, []⟩ { tmps := args' ++ Array.replicate (nt - args'.size) undef, defers := [] } := by
  simp only [Bool.and_eq_true] at hc
  have h1 := Nat.le_of_ble_eq_true hc.1
  have h2 := Nat.le_of_ble_eq_true hc.2
  have hsz : args'.size = args.length := by rw [h.1, Array.length_toList]
  refine ⟨by simp [hsz]; omega, fun t v hv => ?_, .nil⟩
  have hv : (toTrie args 0 .leaf).get t = some v := hv
  rw [toTrie_get _ _ _ (by simpa using h2)] at hv
  split at hv
  · rename_i hlt
    simp only [Nat.sub_zero] at hv
    obtain ⟨v', a, b⟩ := h.getElem hv
    have : (args' ++ Array.replicate (nt - args'.size) undef).getD t undef = v' := by
      rw [Array.getD_eq_getD_getElem?, Array.getElem?_append_left (by rw [hsz]; omega)]
      rw [Array.getElem?_toList] at a
      rw [a]; rfl
    rw [show ({ tmps := args' ++ Array.replicate (nt - args'.size) undef, defers := [] } : Act).tmps = args' ++ Array.replicate (nt - args'.size) undef from rfl, this]
    exact b
  · rw [Trie.get_leaf] at hv; cases hv

theorem ok_check {α : Type} {c : Bool} {e : String} {x : Except String α} {r : α} (h : (bif !c then .error e else x) = .ok r) : c = true ∧ x = .ok r := by
  cases c with
  | false => cases h
  | true => exact ⟨rfl, h⟩

theorem deferredA_sound {P : Program} {ng : Nat} {go : Task → X CR} (hgo : GoS P ng go) (hD : ∀ E : Env, E.P = P → GoS E.P E.ng E.go → DrawS E) : DefS P ng (deferredA P ng go) := by
  intro f args s outs h F ρ w args' c cs hc hat hl hm
  unfold deferredA at h
  rw [funcK_eq] at h
  split at h
  · cases h
  rename_i fn hf
  split at h
  · cases h
  rename_i code hb
  obtain ⟨hck, h⟩ := ok_check h
  let E : Env := ⟨P, ng, f, fn.ntmps, none, true, go⟩
  let b : Frame := { (default : Frame) with fn := f, kind := .deferred, roundOf := none }
  have henter : Frame.enter P f args' .deferred = b.atR { tmps := args' ++ Array.replicate (fn.ntmps - args'.size) undef, defers := [] } [.code code] := by
    simp [Frame.enter, Frame.atR, hf, hb, b]
  have hbr : BRel ρ E b := ⟨rfl, rfl, .none, fun _ => rfl⟩
  obtain ⟨outs1, ho1, hc1, hall⟩ := bind_sound h hc
  obtain ⟨x, fr', s1, ρ1, e, a1, w1, cs1, hmem, hex, hfr1, hp1, hcs1, _, harr⟩ := execA_sound (E := E) hgo (hD E rfl hgo) code _ s outs1 ho1 F ρ w _ b [] (c :: cs) (c :: cs) hc1 hat (enter_rel hl hck) hbr ⟨c, cs, c.mode, rfl, rfl, hm⟩
  rw [← henter] at harr
  obtain ⟨c0, r0, m1, e0, e1, hm1⟩ := hcs1
  cases e0
  subst e1
  obtain ⟨outs2, ho2, _, hrest⟩ := hall _ s1 hmem
  obtain ⟨hc2, hfin⟩ := hrest ρ1 w w1 hp1
  have hret : ∀ (k : List Item), (match fr'.d with
        | [] => xbind (lift (resultsA P fr' fn.results.toList) s1) fun vs s => .ok [(CR.returned (oneOrTuple vs), s)]
        | _ => .error "a deferred call that defers") = .ok outs2 → Steps P (lone (Frame.enter P f args' .deferred) (c :: cs) w) (lone { b.atR a1 k with mode := .returning } ({ c with mode := m1 } :: cs) w1) →
      ∃ r s' ρ' e w' m' X, (r, s') ∈ outs ∧ CrRel ρ' r e ∧ PStep F ρ s w ρ' s' w' ∧ MRel ρ' s'.u m' ∧ Steps P (lone (Frame.enter P f args' .deferred) (c :: cs) w) (lone X ({ c with mode := m' } :: cs) w') ∧ X.kind = .deferred ∧ X.going P w' e := by
    intro k hr hsteps
    split at hr
    · rename_i hd
      have hd1 : a1.defers = [] := by have := hfr1.dfr; rw [hd] at this; exact this.nil_inv
      obtain ⟨outs3, ho3, hc3, hall3⟩ := bind_sound hr hc2
      obtain ⟨vs, s2, hd2, rfl⟩ := lift_ok ho3
      obtain ⟨hro, vs', hrun, hvs⟩ := resultsA_sound (P := P) hfr1.tmps hd2 hc3.one.1 hp1.inv
      obtain ⟨outs4, ho4, _, hrest3⟩ := hall3 vs s2 (List.mem_singleton.2 rfl)
      cases ho4
      obtain ⟨_, hfin3⟩ := hrest3 ρ1 w1 w1 (hro.step hp1.wf hp1.inv)
      obtain ⟨s3, m3, u3, hp3⟩ := hfin3 _ _ (List.mem_singleton.2 rfl)
      obtain ⟨s4, m4, u4, hp4⟩ := hfin _ _ m3
      refine ⟨_, s4, ρ1, .returned _, w1, m1, _, m4, .returned _ _ (one_rel hvs), hp4 _ _ (hp3 _ _ (.refl (hro.wf hp1.wf) (by rw [hro.H]; exact hp1.inv))), ?_, hsteps, rfl, rfl, hd1, fn, hf, results_run hrun⟩
      rw [u4, u3, hro.u]; exact hm1
    · cases hr
  cases hex with
  | normal => exact hret [] ho2 (Steps.trans harr (.one (stepR_end rfl)))
  | ret =>
    obtain ⟨k₁, hs⟩ := harr
    exact hret (.code .ret :: k₁) ho2 (hs.trans (.one (stepR_ret rfl)))
  | exit id => cases ho2
  | panic ch ch' hch =>
    obtain ⟨todo, hs⟩ := harr
    simp only at ho2
    split at ho2
    · rename_i hd
      have hd1 : a1.defers = [] := by have := hfr1.dfr; rw [hd] at this; exact this.nil_inv
      cases ho2
      obtain ⟨s4, m4, u4, hp4⟩ := hfin _ _ (List.mem_singleton.2 rfl)
      exact ⟨_, s4, ρ1, .panicked ch', w1, m1, _, m4, .panicked _ _ hch, hp4 _ _ (.refl hp1.wf hp1.inv), by rw [u4]; exact hm1, hs, rfl, rfl, hd1, fn, hf⟩
    · cases ho2

theorem endRoundX_ok {l : Nat} {x : AExit} {s : St} {outs : List (CR × St)} (h : endRoundX l x s = .ok outs) :
    ∃ jump v s', D.run (endRoundA l jump) s = .ok (v, s') ∧ outs = [(.returned v, s')] ∧ (x = .normal ∧ jump = none ∨ x = .ret ∧ jump = some .ret ∨ ∃ id, x = .exit id ∧ jump = some (.exit id)) := by
  have fin : ∀ jump, (match endRoundA l jump s with
    | .error e => Except.error e
    | .ok (v, s) => Except.ok [(CR.returned v, s)]) = Except.ok outs → ∃ v s', D.run (endRoundA l jump) s = .ok (v, s') ∧ outs = [(.returned v, s')] := by
    intro jump hj
    split at hj
    · cases hj
    · cases hj; exact ⟨_, _, ‹_›, rfl⟩
  unfold endRoundX at h
  cases x with
  | normal => obtain ⟨v, s', a, b⟩ := fin _ h; exact ⟨_, v, s', a, b, .inl ⟨rfl, rfl⟩⟩
  | ret => obtain ⟨v, s', a, b⟩ := fin _ h; exact ⟨_, v, s', a, b, .inr (.inl ⟨rfl, rfl⟩)⟩
  | exit id => obtain ⟨v, s', a, b⟩ := fin _ h; exact ⟨_, v, s', a, b, .inr (.inr ⟨id, rfl, rfl⟩)⟩
  | panic ch => cases h

theorem stepN_sound {P : Program} {ng : Nat} (hD : ∀ E : Env, E.P = P → GoS E.P E.ng E.go → DrawS E) {g0 : Task → X CR} (ih : GoS P ng g0) : GoS P ng (stepN P ng g0) := by
  constructor
  · intro f args s outs h F ρ w args' hc hat hl cs
    unfold stepN at h; dsimp only at h
    rw [funcK_eq] at h
    split at h
    · cases h
    rename_i fn hf
    split at h
    · cases h
    rename_i code hb
    obtain ⟨hck, h⟩ := ok_check h
    let E : Env := ⟨P, ng, f, fn.ntmps, none, false, g0⟩
    let b : Frame := { (default : Frame) with fn := f, kind := .normal, roundOf := none }
    have henter : Frame.enter P f args' .normal = b.atR { tmps := args' ++ Array.replicate (fn.ntmps - args'.size) undef, defers := [] } [.code code] := by
      simp [Frame.enter, Frame.atR, hf, hb, b]
    have hbr : BRel ρ E b := ⟨rfl, rfl, .none, fun e => by cases e⟩
    -- from the ways of the body to those that are told
    have main : ∀ outs0, xbind (execA E code ⟨toTrie args 0 .leaf, []⟩ s) (fun r s => match r with
          | (.normal, fr) | (.ret, fr) => leaveA P fn fr (deferredA P ng (g0)) 99 fr.d .returning s
          | (.panic chain, fr) => leaveA P fn fr (deferredA P ng (g0)) 99 fr.d (.panicking chain) s
          | _ => .error "left by a jump") = .ok outs0 → Cov F ρ s outs0 → ∃ r s' ρ' e w' X', (r, s') ∈ outs0 ∧ CrRel ρ' r e ∧ PStep F ρ s w ρ' s' w' ∧ Steps P (lone (Frame.enter P f args' .normal) cs w) (lone X' cs w') ∧ X'.fn = f ∧ X'.leaving P w' e := by
      intro outs0 h0 hc0
      obtain ⟨outs1, ho1, hc1, hall⟩ := bind_sound h0 hc0
      obtain ⟨x, fr', s1, ρ1, e, a1, w1, cs1, hmem, hex, hfr1, hp1, hcs1, _, harr⟩ := execA_sound (E := E) ih (hD E rfl ih) code _ s outs1 ho1 F ρ w _ b [] cs cs hc1 hat (enter_rel hl hck) hbr rfl
      rw [← henter] at harr
      have hcs1 : cs1 = cs := hcs1
      subst hcs1
      obtain ⟨outs2, ho2, _, hrest⟩ := hall _ s1 hmem
      obtain ⟨hc2, hfin⟩ := hrest ρ1 w w1 hp1
      have go : ∀ (u : FrameMode) (X : Frame), leaveA P fn fr' (deferredA P ng (g0)) 99 fr'.d u s1 = .ok outs2 → MRel ρ1 u X.mode → X.defers = a1.defers → X.tmps = a1.tmps → X.fn = f → X.kind = .normal →
          Steps P (lone (Frame.enter P f args' .normal) cs1 w) (lone X cs1 w1) → ∃ r s' ρ' e w' X', (r, s') ∈ outs0 ∧ CrRel ρ' r e ∧ PStep F ρ s w ρ' s' w' ∧ Steps P (lone (Frame.enter P f args' .normal) cs1 w) (lone X' cs1 w') ∧ X'.fn = f ∧ X'.leaving P w' e := by
        intro u X hlv hm hXd hXt hXf hXk hsteps
        obtain ⟨r', s', ρ', e', w', X', m, hcr, hps, hst, hfn, hle⟩ := leaveA_sound (deferredA_sound ih hD) 99 fr'.d u s1 outs2 hlv ρ1 w1 X a1.defers cs1 hc2 (hp1.at hat) hfr1.dfr hm hXd (by rw [hXt]; exact hfr1.tmps) (by rw [hXf]; exact hf) hXk
        obtain ⟨s4, m4, _, hp4⟩ := hfin _ _ m
        exact ⟨r', s4, ρ', e', w', X', m4, hcr, hp4 _ _ hps, hsteps.trans hst, hfn.trans hXf, hle⟩
      cases hex with
      | normal => exact go .returning { b.atR a1 [] with mode := .returning } ho2 .returning rfl rfl rfl rfl (Steps.trans harr (.one (stepR_end rfl)))
      | ret =>
        obtain ⟨k₁, hs⟩ := harr
        exact go .returning { b.atR a1 (.code .ret :: k₁) with mode := .returning } ho2 .returning rfl rfl rfl rfl (hs.trans (.one (stepR_ret rfl)))
      | exit id => cases ho2
      | panic ch ch' hch =>
        obtain ⟨todo, hs⟩ := harr
        exact go (.panicking ch) { b.atR a1 todo with mode := .panicking ch' } ho2 (.panicking _ _ hch) rfl rfl rfl rfl hs
    have wrap : (∃ r s' ρ' e w' X', (r, s') ∈ outs ∧ CrRel ρ' r e ∧ PStep F ρ s w ρ' s' w' ∧ Steps P (lone (Frame.enter P f args' .normal) cs w) (lone X' cs w') ∧ X'.fn = f ∧ X'.leaving P w' e) →
        ∃ e w' fr, (∃ r s' ρ', (r, s') ∈ outs ∧ CrRel ρ' r e ∧ PStep F ρ s w ρ' s' w') ∧ Comes P (lone (Frame.enter P f args' .normal) cs w) (lone fr cs w') e ∧ fr.fn = f ∧ fr.leaving P w' e := by
      rintro ⟨r, s', ρ', e, w', X', m, hcr, hp, hs, hfn, hl⟩
      refine ⟨e, w', X', ⟨r, s', ρ', m, hcr, hp⟩, ?_, hfn, hl⟩
      cases hcr <;> exact hs
    apply wrap
    skip
    split at h
    · cases h
    · rename_i r0 s1 hx
      rw [St.reU_eq] at h
      cases h
      have hc0 : Cov F ρ s [(r0, s1)] := by
        intro x s' hm
        cases List.mem_singleton.1 hm
        exact hc.one
      obtain ⟨r, s', ρ', e, w', X', m, hcr, hp, hs, hfn, hl⟩ := main _ hx hc0
      cases List.mem_singleton.1 m
      exact ⟨_, _, ρ', e, w', X', List.mem_singleton.2 rfl, hcr, hp.up rfl rfl rfl (fun i h => h), hs, hfn, hl⟩
    · rename_i l hne hx
      cases h
      obtain ⟨hcm, hmg⟩ := mergeA_sound (F := F) (ρ := ρ) (s0 := s) (outs := l.map fun (r, s1) => (r, { s1 with u := s.u })) hat.wf
      have hc1 := hcm hc
      have hc0 : Cov F ρ s l := fun x s' hm => hc1 x { s' with u := s.u } (List.mem_map.2 ⟨(x, s'), hm, rfl⟩)
      obtain ⟨r, s', ρ', e, w', X', m, hcr, hp, hs, hfn, hl⟩ := main _ hx hc0
      obtain ⟨s'', m2, hp2⟩ := hmg r { s' with u := s.u } ρ' w w' (List.mem_map.2 ⟨(r, s'), m, rfl⟩) (hp.up rfl rfl rfl (fun i h => h))
      exact ⟨r, s'', ρ', e, w', X', m2, hcr, hp2, hs, hfn, hl⟩
  · intro l f tmps assign body s outs h F ρ w k tmps' hc hat hk hl c cs
    unfold stepN at h; dsimp only at h
    rw [funcK_eq] at h
    split at h
    · cases h
    rename_i fn hf
    have hck : (Nat.beq tmps.length fn.ntmps && Nat.ble tmps.length 1048576) = true := by
      cases e : (Nat.beq tmps.length fn.ntmps && Nat.ble tmps.length 1048576) with
      | true => rfl
      | false => simp only [e] at h; cases h
    simp only [hck, cond_true] at h
    simp only [Bool.and_eq_true] at hck
    have hlen := Nat.eq_of_beq_eq_true hck.1
    let E : Env := ⟨P, ng, f, fn.ntmps, some l, false, g0⟩
    let b : Frame := { (default : Frame) with fn := f, kind := .normal, roundOf := some k.b }
    have hb0 : Frame.round k.b f tmps' assign body .normal = b.atR { tmps := tmps', defers := [] } [.code assign, .beginRound, .code body] := by
      simp [Frame.round, Frame.atR, b]
    have hbr : BRel ρ E b := ⟨rfl, rfl, .some l k hk, fun e => by cases e⟩
    have hsz : tmps'.size = fn.ntmps := by rw [← hlen, hl.1, Array.length_toList]
    have hfr0 : FrRel ρ E.nt ⟨toTrie tmps 0 .leaf, []⟩ { tmps := tmps', defers := [] } := by
      have h2 := Nat.le_of_ble_eq_true hck.2
      refine ⟨hsz, fun t v hv => ?_, .nil⟩
      have hv : (toTrie tmps 0 .leaf).get t = some v := hv
      rw [toTrie_get _ _ _ (by simpa using h2)] at hv
      split at hv
      · simp only [Nat.sub_zero] at hv
        obtain ⟨v', a, b⟩ := hl.getElem hv
        have : tmps'.getD t undef = v' := by
          rw [Array.getD_eq_getD_getElem?]
          rw [Array.getElem?_toList] at a
          rw [a]; rfl
        rw [show ({ tmps := tmps', defers := [] } : Act).tmps = tmps' from rfl, this]
        exact b
      · rw [Trie.get_leaf] at hv; cases hv
    obtain ⟨outs1, ho1, hc1, hall⟩ := bind_sound h hc
    obtain ⟨x, fr', s1, ρ1, e, a1, w1, cs1, hmem, hex, hfr1, hp1, hcs1, _, harr⟩ := execA_sound (E := E) ih (hD E rfl ih) assign _ s outs1 ho1 F ρ w _ b [.beginRound, .code body] (c :: cs) (c :: cs) hc1 hat hfr0 hbr rfl
    rw [← hb0] at harr
    have hcs1 : cs1 = c :: cs := hcs1
    subst hcs1
    obtain ⟨outs2, ho2, _, hrest⟩ := hall _ s1 hmem
    obtain ⟨hc2, hfin⟩ := hrest ρ1 w w1 hp1
    cases hex with
    | exit id => cases ho2
    | ret => cases ho2
    | panic ch ch' hch => cases ho2
    | normal =>
      simp only at ho2
      obtain ⟨outs3, ho3, hc3, hall3⟩ := bind_sound ho2 hc2
      obtain ⟨_, s2, hd2, rfl⟩ := lift_ok ho3
      obtain ⟨w2, hbeg, hp2, hu2⟩ := beginRoundA_sound (P := P) hd2 (.of (hp1.at hat) hc3.one) (hp1.le _ _ hk)
      obtain ⟨outs4, ho4, _, hrest3⟩ := hall3 _ s2 (List.mem_singleton.2 rfl)
      obtain ⟨hc4, hfin3⟩ := hrest3 ρ1 w1 w2 hp2
      obtain ⟨outs5, ho5, hc5, hall5⟩ := bind_sound ho4 hc4
      obtain ⟨x2, fr2, s3, ρ3, e2, a3, w3, cs3, hmem3, hex3, hfr3, hp3, hcs3, _, harr3⟩ := execA_sound (E := E) ih (hD E rfl ih) body fr' s2 outs5 ho5 F ρ1 w2 a1 b [] (c :: cs) (c :: cs) hc5 (hp2.at (hp1.at hat)) hfr1 (hbr.mono hp1.le) rfl
      have hcs3 : cs3 = c :: cs := hcs3
      subst hcs3
      obtain ⟨outs6, ho6, _, hrest5⟩ := hall5 _ s3 hmem3
      obtain ⟨hc6, hfin5⟩ := hrest5 ρ3 w2 w3 hp3
      simp only at ho6
      split at ho6
      rotate_left
      · cases ho6
      obtain ⟨jump, v, s4, hd4, rfl, hj⟩ := endRoundX_ok ho6
      have hkk : ρ3 l = some k := hp3.le _ _ (hp1.le _ _ hk)
      obtain ⟨rfl, w4, hend, hp4, hu4⟩ := endRoundA_sound (P := P) hd4 (.of (hp3.at (hp2.at (hp1.at hat))) hc6.one) hkk
      obtain ⟨sa, ma, _, pa⟩ := hfin5 _ _ (List.mem_singleton.2 rfl)
      obtain ⟨sb, mb, _, pb⟩ := hfin3 _ _ ma
      obtain ⟨sc, mc, _, pc⟩ := hfin _ _ mb
      have hp := pc _ _ (pb _ _ (pa _ _ hp4))
      have s0 : Steps P (lone (Frame.round k.b f tmps' assign body .normal) (c :: cs) w) (lone (b.atR a1 [.code body]) (c :: cs) w2) := Steps.trans harr (.one (stepR_beginRound rfl hbeg))
      rcases hj with ⟨rfl, rfl⟩ | ⟨rfl, rfl⟩ | ⟨id, rfl, rfl⟩
      · cases hex3
        exact ⟨_, sc, ρ3, _, w4, mc, .bool _, hp, s0.trans (Steps.trans harr3 (.one (stepR_round_end rfl rfl hend)))⟩
      · cases hex3
        obtain ⟨k₁, hs⟩ := harr3
        exact ⟨_, sc, ρ3, _, w4, mc, .bool _, hp, s0.trans (hs.trans (.one (stepR_round_ret rfl rfl hend)))⟩
      · cases hex3
        obtain ⟨k₁, hk₁, hs⟩ := harr3.2 rfl
        exact ⟨_, sc, ρ3, _, w4, mc, .bool _, hp, s0.trans (hs.trans (.one (stepR_round_exit rfl rfl hk₁ hend)))⟩

theorem callN_sound {P : Program} {ng : Nat} (hD : ∀ E : Env, E.P = P → GoS E.P E.ng E.go → DrawS E) : ∀ (n : Nat), GoS P ng (callN P ng n) := by
  intro n
  induction n with
  | zero =>
    constructor
    · intro f args s outs h; cases h
    · intro l f tmps assign body s outs h; cases h
  | succ n ih => exact stepN_sound hD ih

end Go.Proofs.YthogkihfbjbghaaGreatDoor.Abs
namespace Go.Proofs.YthogkihfbjbghaaGreatDoor.Abs

section
variable {ops : Array Oper}

/-- i is ahead of j in each order -/
def bef (ops : Array Oper) (j i : Nat) : Bool := befL (Region.before ops).toList j i

def befStep (acc : Array Nat) (o : Oper) : Array Nat :=
  acc.push (o.after.foldl (fun s e => if Region.binds .any e then s ||| 2 ^ e.on ||| acc.getD e.on 0 else s) 0)

theorem bef_fold : ∀ (l : List Oper) (acc : Array Nat), (l.foldl befStep acc).size = acc.size + l.length ∧ (∀ i, i < acc.size → (l.foldl befStep acc)[i]? = acc[i]?)
  | [], acc => ⟨rfl, fun _ _ => rfl⟩
  | o :: l, acc => by
    obtain ⟨h1, h2⟩ := bef_fold l (befStep acc o)
    have hs : (befStep acc o).size = acc.size + 1 := by simp [befStep]
    refine ⟨by rw [List.foldl_cons, h1, hs]; simp; omega, fun i hi => ?_⟩
    rw [List.foldl_cons, h2 i (by omega)]
    simp [befStep, Array.getElem?_push, Nat.ne_of_lt hi]

theorem bef_at : ∀ (l : List Oper) (acc : Array Nat) (k : Nat) (o : Oper), l[k]? = some o →
    ∃ acc' : Array Nat, acc'.size = acc.size + k ∧ (∀ i, i < acc.size + k → (l.foldl befStep acc)[i]? = acc'[i]?) ∧
      (l.foldl befStep acc)[acc.size + k]? = some (o.after.foldl (fun s e => if Region.binds .any e then s ||| 2 ^ e.on ||| acc'.getD e.on 0 else s) 0)
  | [], acc, k, o, h => by simp at h
  | o' :: l, acc, 0, o, h => by
    simp only [List.getElem?_cons_zero, Option.some.injEq] at h
    subst h
    obtain ⟨h1, h2⟩ := bef_fold l (befStep acc o')
    have hs : (befStep acc o').size = acc.size + 1 := by simp [befStep]
    refine ⟨acc, rfl, fun i hi => ?_, ?_⟩
    · exact (bef_fold (o' :: l) acc).2 i (by omega)
    · rw [List.foldl_cons, Nat.add_zero, h2 _ (by omega)]
      simp [befStep]
  | o' :: l, acc, k + 1, o, h => by
    simp only [List.getElem?_cons_succ] at h
    obtain ⟨acc', h1, h2, h3⟩ := bef_at l (befStep acc o') k o h
    have hs : (befStep acc o').size = acc.size + 1 := by simp [befStep]
    rw [hs] at h1 h2 h3
    exact ⟨acc', by omega, fun i hi => by rw [List.foldl_cons]; exact h2 i (by omega), by rw [List.foldl_cons, show acc.size + (k + 1) = acc.size + 1 + k by omega]; exact h3⟩

theorem fold_bits {f : Edge → Nat} (i : Nat) : ∀ (l : List Edge) (s : Nat), (l.foldl (fun s e => if Region.binds .any e then s ||| 2 ^ e.on ||| f e else s) s).testBit i = true →
    s.testBit i = true ∨ ∃ e ∈ l, Region.binds .any e = true ∧ (i = e.on ∨ (f e).testBit i = true)
  | [], s, h => .inl h
  | e :: l, s, h => by
    rw [List.foldl_cons] at h
    rcases fold_bits i l _ h with h1 | ⟨e', he', h2⟩
    · by_cases hb : Region.binds .any e = true
      · rw [if_pos hb] at h1
        simp only [Nat.testBit_or, Bool.or_eq_true] at h1
        rcases h1 with (h1 | h1) | h1
        · exact .inl h1
        · refine .inr ⟨e, by simp, hb, .inl ?_⟩
          have := Nat.testBit_two_pow (n := e.on) (m := i)
          rw [this] at h1
          exact (of_decide_eq_true h1).symm
        · exact .inr ⟨e, by simp, hb, .inr h1⟩
      · rw [if_neg hb] at h1; exact .inl h1
    · exact .inr ⟨e', by simp [he'], h2⟩

/-- what is ahead of an operation is ahead of it by one of its edges -/
theorem bef_spec {j i : Nat} {o : Oper} (ho : ops[j]? = some o) (hback : ∀ e ∈ o.after, Region.binds .any e = true → e.on < j) (h : bef ops j i = true) :
    ∃ e ∈ o.after, Region.binds .any e = true ∧ (i = e.on ∨ bef ops e.on i = true) := by
  have hfold : Region.before ops = ops.toList.foldl befStep #[] := by
    unfold Region.before
    rw [← Array.foldl_toList]
    rfl
  obtain ⟨acc', h1, h2, h3⟩ := bef_at ops.toList #[] j o (by simpa using ho)
  simp only [List.size_toArray, List.length_nil, Nat.zero_add] at h1 h2 h3
  unfold bef befL at h
  rw [List.getD_eq_getElem?_getD, Array.getElem?_toList, hfold, h3, Option.getD_some, ← Array.foldl_toList] at h
  rcases fold_bits (f := fun e => acc'.getD e.on 0) i o.after.toList 0 h with h4 | ⟨e, he, hb, h5⟩
  · simp at h4
  · have he' : e ∈ o.after := by simpa using he
    refine ⟨e, he', hb, h5.imp id fun h6 => ?_⟩
    unfold bef befL
    rw [List.getD_eq_getElem?_getD, Array.getElem?_toList, hfold, h2 _ (hback e he' hb)]
    rw [Array.getD_eq_getD_getElem?] at h6
    exact h6

theorem mem_loose {i j : Nat} (hij : i < j) (hj : j < ops.size) (h : bef ops j i = false) : (i, j) ∈ loose ops := by
  unfold loose
  simp only [List.mem_flatMap, List.mem_range, List.mem_filterMap]
  refine ⟨j, hj, i, hij, ?_⟩
  unfold bef befL at h
  rw [h]; rfl

structure DOk (ops : Array Oper) : Prop where
  back : ∀ (i : Nat) (o : Oper), ops[i]? = some o → ∀ e ∈ o.after, Region.binds .any e = true → e.on < i
  apart : ∀ (i j : Nat) (x y : Oper), i < j → ops[i]? = some x → ops[j]? = some y → bef ops j i = false → (∀ t, x.dst = some t → t ∉ names ops y) ∧ (∀ t, y.dst = some t → t ∉ names ops x)

theorem drawOk_spec (h : drawOk ops = true) : DOk ops := by
  unfold drawOk at h
  simp only [Bool.and_eq_true] at h
  obtain ⟨h1, h2⟩ := h
  constructor
  · intro i o ho e he hb
    have hm : (o, i) ∈ ops.toList.zipIdx := by
      rw [List.mem_zipIdx_iff_getElem?]; simpa using ho
    have := List.all_eq_true.1 h1 _ hm
    simp only [Bool.and_eq_true] at this
    have := List.all_eq_true.1 this.1.1 e (by simpa using he)
    simp only [hb, Bool.not_true, Bool.or_false, Nat.blt_eq] at this
    exact this
  · intro i j x y hij hx hy hb
    have hj : j < ops.size := (Array.getElem?_eq_some_iff.1 hy).1
    have := List.all_eq_true.1 h2 _ (mem_loose hij hj hb)
    simp only [hx, hy, Bool.and_eq_true] at this
    constructor
    · intro t ht hm
      have := List.all_eq_true.1 this.1 t (by simp [writes, ht])
      simp only [Bool.not_eq_true', List.any_eq_false] at this
      exact this t hm (by simp)
    · intro t ht hm
      have := List.all_eq_true.1 this.2 t (by simp [writes, ht])
      simp only [Bool.not_eq_true', List.any_eq_false] at this
      exact this t hm (by simp)

theorem pairsOk_spec {l : List Foot} : ∀ {ps : List (Nat × Nat)}, pairsOk l ps = true → ∀ i j, (i, j) ∈ ps → Nat.land (footOf l i).2 (footOf l j).1 = 0 ∧ Nat.land (footOf l j).2 (footOf l i).1 = 0
  | [], _, i, j, hm => by cases hm
  | (a, b) :: ps, h, i, j, hm => by
    simp only [pairsOk, Bool.and_eq_true] at h
    obtain ⟨⟨h1, h2⟩, h3⟩ := h
    rcases List.mem_cons.1 hm with e | hm
    · cases e; exact ⟨Nat.eq_of_beq_eq_true h1, Nat.eq_of_beq_eq_true h2⟩
    · exact pairsOk_spec h3 i j hm

theorem land_zero {a b i : Nat} (h : Nat.land a b = 0) (ha : a.testBit i = true) (hb : b.testBit i = true) : False := by
  have : (a &&& b).testBit i = true := by rw [Nat.testBit_and, ha, hb]; rfl
  rw [show a &&& b = 0 from h] at this
  simp at this

/-! ### the bits of a number -/
theorem bitsOf_spec : ∀ (k n : Nat), n < 2 ^ k → ∀ i, i ∈ bitsOf k n ↔ n.testBit i = true
  | 0, n, h, i => by
    have : n = 0 := by simpa using h
    subst this; simp [bitsOf]
  | k + 1, n, h, i => by
    simp only [bitsOf, log2F_eq]
    by_cases h0 : n = 0
    · subst h0; simp
    · rw [beq_false_of h0, cond_false, fnat_eq, fnat_eq]
      have hb : bit (Nat.log2 n) = 2 ^ Nat.log2 n := by unfold bit; show 1 <<< _ = _; rw [Nat.shiftLeft_eq, Nat.one_mul]
      have hle : 2 ^ Nat.log2 n ≤ n := Nat.log2_self_le h0
      have hlt : n < 2 ^ (Nat.log2 n + 1) := Nat.lt_log2_self
      have hk : Nat.log2 n ≤ k := by
        have := (Nat.log2_lt h0).2 h
        omega
      have hsub : n - 2 ^ Nat.log2 n < 2 ^ Nat.log2 n := by rw [Nat.pow_succ] at hlt; omega
      have hsub2 : n - 2 ^ Nat.log2 n < 2 ^ k := Nat.lt_of_lt_of_le hsub (Nat.pow_le_pow_right (by omega) hk)
      rw [List.mem_cons, show Nat.sub n (bit (Nat.log2 n)) = n - 2 ^ Nat.log2 n by rw [hb]; rfl, bitsOf_spec k _ hsub2 i]
      have hn : n = 2 ^ Nat.log2 n + (n - 2 ^ Nat.log2 n) := by omega
      generalize Nat.log2 n = b at *
      generalize n - 2 ^ b = r at *
      subst hn
      constructor
      · rintro (rfl | h1)
        · rw [Nat.testBit_two_pow_add_eq, Nat.testBit_lt_two_pow hsub]; rfl
        · by_cases e : i = b
          · subst e; rw [Nat.testBit_lt_two_pow hsub] at h1; cases h1
          · by_cases e2 : i < b
            · rw [Nat.testBit_two_pow_add_gt e2]; exact h1
            · rw [Nat.testBit_lt_two_pow (Nat.lt_of_lt_of_le hsub (Nat.pow_le_pow_right (by omega) (by omega)))] at h1; cases h1
      · intro h1
        by_cases e : i = b
        · exact .inl e
        · right
          by_cases e2 : i < b
          · rw [Nat.testBit_two_pow_add_gt e2] at h1; exact h1
          · have : 2 ^ b + r < 2 ^ i := by
              have := Nat.pow_le_pow_right (n := 2) (by omega) (show b + 1 ≤ i by omega)
              rw [Nat.pow_succ] at this; omega
            rw [Nat.testBit_lt_two_pow this] at h1; cases h1

theorem lt_bit {a n i : Nat} (h : Nat.blt a (bit n) = true) (hi : a.testBit i = true) : i < n := by
  have hb : bit n = 2 ^ n := by unfold bit; show 1 <<< _ = _; rw [Nat.shiftLeft_eq, Nat.one_mul]
  rw [Nat.blt_eq, hb] at h
  rcases Nat.lt_or_ge i n with h1 | h1
  · exact h1
  · rw [Nat.testBit_lt_two_pow (Nat.lt_of_lt_of_le h (Nat.pow_le_pow_right (by omega) h1))] at hi; cases hi

/-- the state behind an operation, out of that ahead of it -/
theorem kept_get {s s1 : St} (hn : s1.n ≤ 1048576) (hm : Nat.blt s1.wr (bit s1.n) = true) (id : Nat) :
    (keepIds s1.H (bitsOf 1048576 s1.wr) s.H).get id = if s1.wr.testBit id then s1.H.get id else s.H.get id := by
  have hb : bit s1.n = 2 ^ s1.n := by unfold bit; show 1 <<< _ = _; rw [Nat.shiftLeft_eq, Nat.one_mul]
  have hspec : ∀ i, i ∈ bitsOf 1048576 s1.wr ↔ s1.wr.testBit i = true := by
    have hm' := hm
    rw [Nat.blt_eq, hb] at hm'
    obtain ⟨K, hK⟩ : ∃ K, K = 1048576 := ⟨_, rfl⟩
    rw [← hK] at hn ⊢
    intro i; exact bitsOf_spec K s1.wr (Nat.lt_of_lt_of_le hm' (Nat.pow_le_pow_right (by decide) hn)) i
  rw [keepIds_get (fun i hi => by have := lt_bit hm ((hspec i).1 hi); omega)]
  by_cases h : s1.wr.testBit id = true
  · rw [if_pos ((hspec id).2 h), if_pos h]
  · rw [if_neg (fun e => h ((hspec id).1 e)), if_neg h]
end

end Go.Proofs.YthogkihfbjbghaaGreatDoor.Abs
namespace Go.Proofs.YthogkihfbjbghaaGreatDoor.Abs

def PutR (nt : Nat) (fr : Fr) (dst : Option Tmp) (v : Value) (fr' : Fr) : Prop :=
  fr'.d = fr.d ∧ (∀ d, dst = some d → d < nt) ∧ ∀ t, fr'.t.get t = match dst with | some d => if t = d then some v else fr.t.get t | none => fr.t.get t

theorem Fr.put_R {β : Type} {fr : Fr} {nt : Nat} {dst : Option Tmp} {v : Value} {k : Fr → Except String β} {r : β} (h : fr.put nt dst v k = .ok r) : ∃ fr', k fr' = .ok r ∧ PutR nt fr dst v fr' := by
  unfold Fr.put at h
  cases dst with
  | none => exact ⟨fr, h, rfl, (fun d e => by cases e), fun _ => rfl⟩
  | some d =>
    simp only at h
    cases hc : (Nat.blt d nt && Nat.blt d 1048576) with
    | false => rw [hc] at h; cases h
    | true =>
      rw [hc, cond_true, forceV_eq, Trie.setK_eq] at h
      simp only [Bool.and_eq_true, Nat.blt_eq] at hc
      exact ⟨_, h, rfl, (fun d' e => by cases e; exact hc.1), fun t => Trie.get_set _ _ _ _ (by omega)⟩

theorem Fr.drop_R {β : Type} {fr : Fr} {dst : Option Tmp} {k : Fr → Except String β} {r : β} (h : fr.drop dst k = .ok r) : ∃ fr', k fr' = .ok r ∧ fr'.d = fr.d ∧ ∀ t, dst ≠ some t → fr'.t.get t = fr.t.get t := by
  unfold Fr.drop at h
  cases dst with
  | none => exact ⟨fr, h, rfl, fun _ _ => rfl⟩
  | some d =>
    simp only at h
    cases hc : Nat.blt d 1048576 with
    | false => rw [hc] at h; cases h
    | true =>
      rw [hc, cond_true, Trie.setK_eq] at h
      simp only [Nat.blt_eq] at hc
      refine ⟨_, h, rfl, fun t ht => ?_⟩
      show (Trie.set fr.t d none).get t = _
      rw [Trie.get_set _ _ _ _ (by omega), if_neg (fun e => ht (by rw [e]))]

/-- what became of an operation -/
inductive Kd where
  | skip
  | drop
  | ran (s1 : St) (v : Value)
  | boom (s1 : St) (ch : List PanicEntry)

def Kd.st : Kd → Option St
  | .ran s1 _ | .boom s1 _ => some s1
  | _ => none

def Kd.calm : Kd → Bool
  | .skip | .ran _ _ => true
  | _ => false

def Ran (ss : Nat → St) (j : Nat) (s1 : St) : Prop := (ss j).n ≤ s1.n ∧ s1.n ≤ 1048576 ∧ Nat.blt s1.wr (bit s1.n) = true ∧ ss (j + 1) = ⟨keepIds s1.H (bitsOf 1048576 s1.wr) (ss j).H, s1.n, 0, 0, (ss j).u⟩

def DropR (fr : Fr) (dst : Option Tmp) (fr' : Fr) : Prop := fr'.d = fr.d ∧ ∀ t, dst ≠ some t → fr'.t.get t = fr.t.get t

/-- the run in the text's order -/
inductive Trace (E : Env) (ops : Array Oper) (bl : List Nat) (pan : Option (Nat × List PanicEntry)) (frs : Nat → Fr) (ss : Nat → St) (kd : Nat → Kd) (j : Nat) : Prop where
  | skip (o : Oper) (ho : ops[j]? = some o) (hk : kd j = .skip) (hw : wantedA ops (frs j) o = .ok false) (hs : ss (j + 1) = ss j) (hp : PutR E.nt (frs j) o.dst skipV (frs (j + 1)))
  | drop (o : Oper) (ho : ops[j]? = some o) (hk : kd j = .drop) (pj : Nat) (ch : List PanicEntry) (hpan : pan = some (pj, ch)) (hb : befL bl j pj = true) (hs : ss (j + 1) = ss j) (hp : DropR (frs j) o.dst (frs (j + 1)))
  | ran (o : Oper) (ho : ops[j]? = some o) (s1 : St) (v : Value) (hk : kd j = .ran s1 v) (hw : wantedA ops (frs j) o = .ok true)
      (hr : runOp E ⟨pickTmps (frs j).t o.op.operands.toList .leaf, []⟩ o { ss j with fp := 0, wr := 0 } = .ok [(.val v, s1)]) (hs : Ran ss j s1) (hp : PutR E.nt (frs j) o.dst v (frs (j + 1)))
  | boom (o : Oper) (ho : ops[j]? = some o) (s1 : St) (ch : List PanicEntry) (hk : kd j = .boom s1 ch) (hw : wantedA ops (frs j) o = .ok true)
      (hr : runOp E ⟨pickTmps (frs j).t o.op.operands.toList .leaf, []⟩ o { ss j with fp := 0, wr := 0 } = .ok [(.panic ch, s1)]) (hs : Ran ss j s1) (hpan : pan = some (j, ch)) (hp : DropR (frs j) o.dst (frs (j + 1)))

theorem Trace.congr {E : Env} {ops : Array Oper} {bl : List Nat} {pan : Option (Nat × List PanicEntry)} {frs frs' : Nat → Fr} {ss ss' : Nat → St} {kd kd' : Nat → Kd} {j : Nat} (h : Trace E ops bl pan frs ss kd j)
    (h1 : frs' j = frs j) (h2 : frs' (j + 1) = frs (j + 1)) (h3 : ss' j = ss j) (h4 : ss' (j + 1) = ss (j + 1)) (h5 : kd' j = kd j) : Trace E ops bl pan frs' ss' kd' j := by
  cases h with
  | skip o ho hk hw hs hp => exact .skip o ho (h5.trans hk) (by rw [h1]; exact hw) (by rw [h3, h4]; exact hs) (by rw [h1, h2]; exact hp)
  | drop o ho hk pj ch hpan hb hs hp => exact .drop o ho (h5.trans hk) pj ch hpan hb (by rw [h3, h4]; exact hs) (by rw [h1, h2]; exact hp)
  | ran o ho s1 v hk hw hr hs hp => exact .ran o ho s1 v (h5.trans hk) (by rw [h1]; exact hw) (by rw [h1, h3]; exact hr) (by unfold Ran at *; rw [h3, h4]; exact hs) (by rw [h1, h2]; exact hp)
  | boom o ho s1 ch hk hw hr hs hpan hp => exact .boom o ho s1 ch (h5.trans hk) (by rw [h1]; exact hw) (by rw [h1, h3]; exact hr) (by unfold Ran at *; rw [h3, h4]; exact hs) hpan (by rw [h1, h2]; exact hp)

theorem drawRun_trace {E : Env} {ops : Array Oper} {bl : List Nat} : ∀ (l : List Oper) (i : Nat), ops.toList.drop i = l → ∀ (fr : Fr) (s : St) (l0 : List Foot) (p : Option (Nat × List PanicEntry)) (fr' : Fr) (s' : St) (l' : List Foot) (p' : Option (Nat × List PanicEntry)), drawRun E ops bl l i fr s l0 p = .ok (fr', s', l', p') →
    ∃ (frs : Nat → Fr) (ss : Nat → St) (kd : Nat → Kd), frs i = fr ∧ ss i = s ∧ (∀ j, i ≤ j → j < ops.size → Trace E ops bl p' frs ss kd j) ∧ (i ≤ ops.size → frs ops.size = fr' ∧ ss ops.size = s') ∧
      (∀ j, j < i → footOf l' j = footOf l0 j) ∧ (∀ j s1, i ≤ j → j < ops.size → (kd j).st = some s1 → footOf l' j = (s1.fp, s1.wr) ∧ ⟨j, s1.fp, s1.wr⟩ ∈ l') ∧
      (∀ f, f ∈ l0 → f ∈ l') ∧ (∀ f, f ∈ l' → f ∈ l0 ∨ ∃ j s1, i ≤ j ∧ j < ops.size ∧ (kd j).st = some s1 ∧ f = ⟨j, s1.fp, s1.wr⟩) ∧
      (∀ x, p = some x → p' = some x) ∧ (∀ j ch, p' = some (j, ch) → p = some (j, ch) ∨ (i ≤ j ∧ j < ops.size ∧ ∃ s1, kd j = .boom s1 ch))
  | [], i, hl, fr, s, l0, p, fr', s', l', p', h => by
    simp only [drawRun, Except.ok.injEq, Prod.mk.injEq] at h
    obtain ⟨rfl, rfl, rfl, rfl⟩ := h
    have hsz : ops.size ≤ i := by have := congrArg List.length hl; simp at this; omega
    exact ⟨fun _ => fr, fun _ => s, fun _ => .skip, rfl, rfl, (fun j a b => by omega), fun _ => ⟨rfl, rfl⟩, fun _ _ => rfl, (fun j s1 a b c => by cases c), fun _ h => h, fun _ h => .inl h, fun _ h => h, fun _ _ h => .inl h⟩
  | o :: rest, i, hl, fr, s, l0, p, fr', s', l', p', h => by
    obtain ⟨ho, hl', _⟩ := drop_cons hl
    have hi : i < ops.size := (Array.getElem?_eq_some_iff.1 ho).1
    -- the rest, and this operation ahead of it
    have fin : ∀ (fr1 : Fr) (s1 : St) (l1 : List Foot) (p1 : Option (Nat × List PanicEntry)) (k : Kd), drawRun E ops bl rest (i + 1) fr1 s1 l1 p1 = .ok (fr', s', l', p') →
        ((∀ x, p1 = some x → p' = some x) → ∀ (frs : Nat → Fr) (ss : Nat → St) (kd : Nat → Kd), frs i = fr → frs (i + 1) = fr1 → ss i = s → ss (i + 1) = s1 → kd i = k → Trace E ops bl p' frs ss kd i) →
        (match k.st with | some x => l1 = ⟨i, x.fp, x.wr⟩ :: l0 | none => l1 = l0) → (p1 = p ∨ p = none ∧ ∃ x ch, k = .boom x ch ∧ p1 = some (i, ch)) →
        ∃ (frs : Nat → Fr) (ss : Nat → St) (kd : Nat → Kd), frs i = fr ∧ ss i = s ∧ (∀ j, i ≤ j → j < ops.size → Trace E ops bl p' frs ss kd j) ∧ (i ≤ ops.size → frs ops.size = fr' ∧ ss ops.size = s') ∧
          (∀ j, j < i → footOf l' j = footOf l0 j) ∧ (∀ j s1, i ≤ j → j < ops.size → (kd j).st = some s1 → footOf l' j = (s1.fp, s1.wr) ∧ ⟨j, s1.fp, s1.wr⟩ ∈ l') ∧
          (∀ f, f ∈ l0 → f ∈ l') ∧ (∀ f, f ∈ l' → f ∈ l0 ∨ ∃ j s1, i ≤ j ∧ j < ops.size ∧ (kd j).st = some s1 ∧ f = ⟨j, s1.fp, s1.wr⟩) ∧
          (∀ x, p = some x → p' = some x) ∧ (∀ j ch, p' = some (j, ch) → p = some (j, ch) ∨ (i ≤ j ∧ j < ops.size ∧ ∃ s1, kd j = .boom s1 ch)) := by
      intro fr1 s1 l1 p1 k h1 htrace hl1 hp1
      obtain ⟨frs, ss, kd, e1, e2, htr, hend, hf1, hf2, hm1, hm2, hq1, hq2⟩ := drawRun_trace rest (i + 1) hl' fr1 s1 l1 p1 fr' s' l' p' h1
      have hl01 : ∀ f, f ∈ l0 → f ∈ l1 := by
        intro f hf
        cases e : k.st with
        | none => rw [e] at hl1; rw [hl1]; exact hf
        | some x => rw [e] at hl1; rw [hl1]; exact List.mem_cons_of_mem _ hf
      refine ⟨fun j => if j = i then fr else frs j, fun j => if j = i then s else ss j, fun j => if j = i then k else kd j, by simp, by simp, ?_, ?_, ?_, ?_, fun f hf => hm1 f (hl01 f hf), ?_, ?_, ?_⟩
      · intro j a b
        by_cases e : j = i
        · subst e
          exact htrace hq1 _ _ _ (by simp) (by simp [e1]) (by simp) (by simp [e2]) (by simp)
        · exact (htr j (by omega) b).congr (by simp [e]) (by simp [show j + 1 ≠ i by omega]) (by simp [e]) (by simp [show j + 1 ≠ i by omega]) (by simp [e])
      · intro _
        have := hend (by omega)
        simpa [show ops.size ≠ i by omega] using this
      · intro j hj
        rw [hf1 j (by omega)]
        cases e : k.st with
        | none => rw [e] at hl1; rw [hl1]
        | some x => rw [e] at hl1; rw [hl1]; simp only [footOf]; rw [beq_false_of (by omega)]; rfl
      · intro j x a b c
        by_cases e : j = i
        · subst e
          simp only [if_true] at c
          rw [c] at hl1
          simp only at hl1
          refine ⟨?_, hm1 _ (by rw [hl1]; simp)⟩
          rw [hf1 j (by omega), hl1]
          simp [footOf]
        · simp only [e, if_false] at c; exact hf2 j x (by omega) b c
      · intro f hf
        rcases hm2 f hf with h | ⟨j, x, a, b, c, d⟩
        · cases e : k.st with
          | none => rw [e] at hl1; rw [hl1] at h; exact .inl h
          | some x =>
            rw [e] at hl1; simp only at hl1
            rw [hl1] at h
            rcases List.mem_cons.1 h with rfl | h
            · exact .inr ⟨i, x, Nat.le_refl _, hi, by simpa using e, rfl⟩
            · exact .inl h
        · exact .inr ⟨j, x, by omega, b, by simpa [show j ≠ i by omega] using c, d⟩
      · intro x hx
        rcases hp1 with e | ⟨e, _⟩
        · exact hq1 x (by rw [e]; exact hx)
        · rw [e] at hx; cases hx
      · intro j ch hj
        rcases hq2 j ch hj with h | ⟨a, b, x, c⟩
        · rcases hp1 with e | ⟨e, x, ch2, e2, e3⟩
          · exact .inl (by rw [← e]; exact h)
          · rw [e3] at h; cases h
            exact .inr ⟨Nat.le_refl _, hi, x, by simpa using e2⟩
        · exact .inr ⟨by omega, b, x, by simpa [show j ≠ i by omega] using c⟩
    simp only [drawRun] at h
    cases hdrop : hangs bl i p with
    | true =>
      rw [hdrop, cond_true] at h
      obtain ⟨fr1, h1, hd⟩ := Fr.drop_R h
      refine fin fr1 s l0 p .drop h1 (fun hp frs ss kd a1 a2 a3 a4 a5 => ?_) rfl (.inl rfl)
      cases p with
      | none => cases hdrop
      | some x =>
        obtain ⟨pj, ch⟩ := x
        exact .drop o ho a5 pj ch (hp _ rfl) hdrop (by rw [a3, a4]) (by rw [a1, a2]; exact hd)
    | false =>
      rw [hdrop, cond_false] at h
      split at h
      · cases h
      · rename_i hw
        obtain ⟨fr1, h1, hput⟩ := Fr.put_R h
        exact fin fr1 s l0 p .skip h1 (fun hp frs ss kd a1 a2 a3 a4 a5 => .skip o ho a5 (by rw [a1]; exact hw) (by rw [a3, a4]) (by rw [a1, a2]; exact hput)) rfl (.inl rfl)
      · rename_i hw
        simp only [St.bare_eq] at h
        split at h
        · rename_i v s1 hrun
          have hck : (Nat.ble s.n s1.n && Nat.ble s1.n 1048576 && Nat.blt s1.wr (bit s1.n)) = true := by
            cases e : (Nat.ble s.n s1.n && Nat.ble s1.n 1048576 && Nat.blt s1.wr (bit s1.n)) with
            | true => rfl
            | false => rw [e] at h; cases h
          rw [hck] at h
          simp only [Bool.not_true, cond_false] at h
          simp only [Bool.and_eq_true] at hck
          obtain ⟨fr1, h1, hput⟩ := Fr.put_R h
          simp only [keepK_eq] at h1
          exact fin fr1 _ _ p (.ran s1 v) h1 (fun hp frs ss kd a1 a2 a3 a4 a5 => .ran o ho s1 v a5 (by rw [a1]; exact hw) (by rw [a1, a3]; exact hrun)
            ⟨by rw [a3]; exact Nat.le_of_ble_eq_true hck.1.1, Nat.le_of_ble_eq_true hck.1.2, hck.2, by rw [a4, a3]⟩ (by rw [a1, a2]; exact hput)) rfl (.inl rfl)
        · rename_i chain s1 hrun
          have hck : (Nat.ble s.n s1.n && Nat.ble s1.n 1048576 && Nat.blt s1.wr (bit s1.n)) = true ∧ p = none := by
            cases e : (Nat.ble s.n s1.n && Nat.ble s1.n 1048576 && Nat.blt s1.wr (bit s1.n)) with
            | true =>
              refine ⟨rfl, ?_⟩
              cases p with
              | none => rfl
              | some x => rw [e] at h; cases h
            | false => rw [e] at h; cases h
          obtain ⟨hck, hpn⟩ := hck
          rw [hck, hpn] at h
          simp only [Bool.not_true, Option.isSome_none, Bool.or_self, cond_false] at h
          simp only [Bool.and_eq_true] at hck
          obtain ⟨fr1, h1, hd⟩ := Fr.drop_R h
          simp only [keepK_eq] at h1
          exact fin fr1 _ _ _ (.boom s1 chain) h1 (fun hp frs ss kd a1 a2 a3 a4 a5 => .boom o ho s1 chain a5 (by rw [a1]; exact hw) (by rw [a1, a3]; exact hrun)
            ⟨by rw [a3]; exact Nat.le_of_ble_eq_true hck.1.1, Nat.le_of_ble_eq_true hck.1.2, hck.2, by rw [a4, a3]⟩ (hp _ rfl) (by rw [a1, a2]; exact hd)) rfl (.inr ⟨hpn, s1, chain, rfl, rfl⟩)
        · cases h
        · cases h
        · cases h

/-- all that is known of the run in the text's order -/
structure Runs (E : Env) (ops : Array Oper) (pan : Option (Nat × List PanicEntry)) (frs : Nat → Fr) (ss : Nat → St) (kd : Nat → Kd) : Prop where
  ok : DOk ops
  tr : ∀ j, j < ops.size → Trace E ops (Region.before ops).toList pan frs ss kd j
  apart : ∀ i j s1 s2, i < j → j < ops.size → bef ops j i = false → (kd i).st = some s1 → (kd j).st = some s2 → ∀ id, (s1.wr.testBit id = true → s2.fp.testBit id = true → False) ∧ (s2.wr.testBit id = true → s1.fp.testBit id = true → False)
  pan : ∀ j ch, pan = some (j, ch) → j < ops.size ∧ ∃ s1, kd j = .boom s1 ch

section
variable {E : Env} {ops : Array Oper} {pan : Option (Nat × List PanicEntry)} {frs : Nat → Fr} {ss : Nat → St} {kd : Nat → Kd} (R : Runs E ops pan frs ss kd)
include R

theorem Runs.some {j : Nat} (hj : j < ops.size) {s1 : St} (h : (kd j).st = some s1) : Ran ss j s1 := by
  cases R.tr j hj with
  | skip o ho hk => rw [hk] at h; cases h
  | drop o ho hk => rw [hk] at h; cases h
  | ran o ho s2 v hk hw hr hs hp => rw [hk] at h; cases h; exact hs
  | boom o ho s2 ch hk hw hr hs => rw [hk] at h; cases h; exact hs

theorem Runs.none {j : Nat} (hj : j < ops.size) (h : (kd j).st = none) : ss (j + 1) = ss j := by
  cases R.tr j hj with
  | skip o ho hk hw hs => exact hs
  | drop o ho hk pj ch hpan hb hs => exact hs
  | ran o ho s2 v hk => rw [hk] at h; cases h
  | boom o ho s2 ch hk => rw [hk] at h; cases h

theorem Runs.get {j : Nat} (hj : j < ops.size) (id : Nat) : (ss (j + 1)).H.get id = match (kd j).st with | Option.some s1 => if s1.wr.testBit id then s1.H.get id else (ss j).H.get id | Option.none => (ss j).H.get id := by
  cases h : (kd j).st with
  | none => rw [R.none hj h]
  | some s1 =>
    obtain ⟨_, h2, h3, h4⟩ := R.some hj h
    rw [h4]
    exact kept_get h2 h3 id

theorem Runs.n_le {j : Nat} (hj : j < ops.size) : (ss j).n ≤ (ss (j + 1)).n := by
  cases h : (kd j).st with
  | none => rw [R.none hj h]; exact Nat.le_refl _
  | some s1 =>
    obtain ⟨h1, h2, h3, h4⟩ := R.some hj h
    rw [h4]; exact h1

theorem Runs.n_mono : ∀ {i j : Nat}, i ≤ j → j ≤ ops.size → (ss i).n ≤ (ss j).n := by
  intro i j hij
  induction hij with
  | refl => intro _; exact Nat.le_refl _
  | step _ ih => intro hj; exact Nat.le_trans (ih (by omega)) (R.n_le (by omega))

theorem Runs.n_some {j : Nat} (hj : j < ops.size) {s1 : St} (h : (kd j).st = Option.some s1) : (ss (j + 1)).n = s1.n := by
  obtain ⟨h1, h2, h3, h4⟩ := R.some hj h
  rw [h4]

theorem Runs.u_eq : ∀ {j : Nat}, j ≤ ops.size → (ss j).u = (ss 0).u := by
  intro j
  induction j with
  | zero => intro _; rfl
  | succ j ih =>
    intro hj
    cases h : (kd j).st with
    | none => rw [R.none (by omega) h]; exact ih (by omega)
    | some s1 =>
      obtain ⟨h1, h2, h3, h4⟩ := R.some (by omega) h
      rw [h4]; exact ih (by omega)

theorem Runs.wf (h0 : Wf (ss 0)) : ∀ {j : Nat}, j ≤ ops.size → Wf (ss j) := by
  intro j
  induction j with
  | zero => intro _; exact h0
  | succ j ih =>
    intro hj
    have hw := ih (by omega)
    cases h : (kd j).st with
    | none => rw [R.none (by omega) h]; exact hw
    | some s1 =>
      obtain ⟨h1, h2, h3, h4⟩ := R.some (by omega) h
      constructor
      · intro id hid
        have hid : s1.n ≤ id := by rw [R.n_some (by omega) h] at hid; exact hid
        rw [R.get (by omega) id, h]
        simp only
        have : s1.wr.testBit id = false := by
          cases e : s1.wr.testBit id with
          | false => rfl
          | true => have := lt_bit h3 e; omega
        rw [this]
        exact hw.none id (by omega)
      · rw [R.n_some (by omega) h]; exact h2

/-! what another order finds -/
omit R in
noncomputable def HD (ss : Nat → St) (kd : Nat → Kd) (D : Nat → Bool) : Nat → Nat → Option AObj
  | 0 => (ss 0).H.get
  | i + 1 => fun id => match (kd i).st with
    | Option.some s1 => if D i && s1.wr.testBit id then s1.H.get id else HD ss kd D i id
    | Option.none => HD ss kd D i id

noncomputable def TD (ops : Array Oper) (frs : Nat → Fr) (D : Nat → Bool) : Nat → Nat → Option Value
  | 0 => (frs 0).t.get
  | i + 1 => fun t => if D i = true ∧ (ops[i]?).bind (·.dst) = Option.some t then (frs (i + 1)).t.get t else TD ops frs D i t

/-- done are with each operation those ahead of it -/
def Down (ops : Array Oper) (D : Nat → Bool) : Prop := ∀ j, j < ops.size → D j = true → ∀ i, bef ops j i = true → D i = true

theorem Runs.find {D : Nat → Bool} (hd : Down ops D) {j : Nat} (hj : j < ops.size) (hD : D j = false) (hb : ∀ i, bef ops j i = true → D i = true) {s1 : St} (ho : (kd j).st = Option.some s1) {id : Nat} (hid : s1.fp.testBit id = true) :
    HD ss kd D ops.size id = (ss j).H.get id := by
  have h1 : ∀ i, i ≤ j → HD ss kd D i id = (ss i).H.get id := by
    intro i
    induction i with
    | zero => intro _; rfl
    | succ i ih =>
      intro hi
      rw [R.get (by omega) id]
      simp only [HD]
      cases h : (kd i).st with
      | none => exact ih (by omega)
      | some s2 =>
        simp only
        by_cases hw : s2.wr.testBit id = true
        · have : D i = true := by
            cases hbb : bef ops j i with
            | true => exact hb i hbb
            | false => exact ((R.apart i j s2 s1 (by omega) hj hbb h ho id).1 hw hid).elim
          simp [this, hw]
        · simp only [hw, Bool.and_false, Bool.false_eq_true, if_false]; exact ih (by omega)
  have h2 : ∀ i, j ≤ i → i ≤ ops.size → HD ss kd D i id = HD ss kd D j id := by
    intro i hi
    induction hi with
    | refl => intro _; rfl
    | step hi ih =>
      rename_i i
      intro hi2
      simp only [HD]
      cases h : (kd i).st with
      | none => exact ih (by omega)
      | some s2 =>
        simp only
        by_cases hw : (D i && s2.wr.testBit id) = true
        · simp only [Bool.and_eq_true] at hw
          have hij : i ≠ j := by rintro rfl; rw [hD] at hw; exact absurd hw.1 (by simp)
          exfalso
          cases hbb : bef ops i j with
          | true => have := hd i (by omega) hw.1 j hbb; rw [hD] at this; cases this
          | false => exact (R.apart j i s1 s2 (by have : j ≤ i := hi; omega) (by omega) hbb ho h id).2 hw.2 hid
        · rw [if_neg hw]; exact ih (by omega)
  rw [h2 ops.size (by omega) (Nat.le_refl _), h1 j (Nat.le_refl _)]

theorem Runs.more {D : Nat → Bool} (hd : Down ops D) {j : Nat} (hj : j < ops.size) (hD : D j = false) {s1 : St} (ho : (kd j).st = Option.some s1) (hwf : ∀ id, s1.wr.testBit id = true → s1.fp.testBit id = true) (id : Nat) :
    HD ss kd (fun i => D i || i == j) ops.size id = if s1.wr.testBit id then s1.H.get id else HD ss kd D ops.size id := by
  have key : ∀ i, i ≤ ops.size → HD ss kd (fun i => D i || i == j) i id = if j < i ∧ s1.wr.testBit id = true then s1.H.get id else HD ss kd D i id := by
    intro i
    induction i with
    | zero => intro _; simp [HD]
    | succ i ih =>
      intro hi
      have ih := ih (by omega)
      simp only [HD]
      cases h : (kd i).st with
      | none =>
        simp only
        rw [ih]
        have : i ≠ j := by rintro rfl; rw [ho] at h; cases h
        by_cases hlt : j < i
        · simp [hlt, show j < i + 1 by omega]
        · simp [hlt, show ¬ j < i + 1 by omega]
      | some s2 =>
        simp only
        by_cases hij : i = j
        · subst hij
          rw [ho] at h
          cases h
          simp only [BEq.rfl, Bool.or_true, Bool.true_and, hD, Bool.false_and, Bool.false_eq_true, if_false, Nat.lt_succ_self, true_and]
          rw [ih]
          simp
        · have hne : (i == j) = false := by simpa using hij
          simp only [hne, Bool.or_false]
          by_cases hw : (D i && s2.wr.testBit id) = true
          · rw [if_pos hw, if_pos hw]
            simp only [Bool.and_eq_true] at hw
            rw [if_neg]
            rintro ⟨hlt, hw1⟩
            cases hbb : bef ops i j with
            | true => have := hd i (by omega) hw.1 j hbb; rw [hD] at this; cases this
            | false => exact (R.apart j i s1 s2 (by omega) (by omega) hbb ho h id).2 hw.2 (hwf id hw1)
          · rw [if_neg hw, if_neg hw, ih]
            by_cases hlt : j < i
            · simp [hlt, show j < i + 1 by omega]
            · simp [hlt, show ¬ j < i + 1 by omega]
  rw [key ops.size (Nat.le_refl _)]
  simp [hj]

omit R in
theorem Runs.same {D : Nat → Bool} {j : Nat} (ho : (kd j).st = Option.none) (id : Nat) : ∀ i, HD ss kd (fun i => D i || i == j) i id = HD ss kd D i id := by
  intro i
  induction i with
  | zero => rfl
  | succ i ih =>
    simp only [HD]
    cases h : (kd i).st with
    | none => exact ih
    | some s2 =>
      have hij : (i == j) = false := by
        cases e : i == j with
        | false => rfl
        | true => have : i = j := by simpa using e
                  subst this; rw [ho] at h; cases h
      simp only [hij, Bool.or_false, ih]

/-- where all that wrote are done -/
theorem Runs.all (D : Nat → Bool) (id : Nat) (hD : ∀ i s1, i < ops.size → (kd i).st = Option.some s1 → s1.wr.testBit id = true → D i = true) : ∀ i, i ≤ ops.size → HD ss kd D i id = (ss i).H.get id := by
  intro i
  induction i with
  | zero => intro _; rfl
  | succ i ih =>
    intro hi
    rw [R.get (by omega) id]
    simp only [HD]
    cases h : (kd i).st with
    | none => exact ih (by omega)
    | some s1 =>
      simp only [ih (by omega)]
      by_cases hw : s1.wr.testBit id = true
      · simp [hw, hD i s1 (by omega) h hw]
      · simp [hw]

/-! temporaries -/
theorem Runs.putX {j : Nat} (hj : j < ops.size) : ∃ o, ops[j]? = Option.some o ∧ (frs (j + 1)).d = (frs j).d ∧ ∀ t, o.dst ≠ Option.some t → (frs (j + 1)).t.get t = (frs j).t.get t := by
  have put : ∀ (o : Oper) (v : Value), PutR E.nt (frs j) o.dst v (frs (j + 1)) → (frs (j + 1)).d = (frs j).d ∧ ∀ t, o.dst ≠ Option.some t → (frs (j + 1)).t.get t = (frs j).t.get t := by
    rintro o v ⟨h1, _, h2⟩
    refine ⟨h1, fun t ht => ?_⟩
    rw [h2 t]
    cases hd : o.dst with
    | none => rfl
    | some d => simp only; rw [if_neg]; rintro rfl; exact ht hd
  cases R.tr j hj with
  | skip o ho hk hw hs hp => exact ⟨o, ho, put o _ hp⟩
  | drop o ho hk pj ch hpan hb hs hp => exact ⟨o, ho, hp⟩
  | ran o ho s2 v hk hw hr hs hp => exact ⟨o, ho, put o _ hp⟩
  | boom o ho s2 ch hk hw hr hs hpan hp => exact ⟨o, ho, hp⟩

theorem Runs.putN {j : Nat} (hj : j < ops.size) {t : Nat} (h : (ops[j]?).bind (·.dst) ≠ Option.some t) : (frs (j + 1)).t.get t = (frs j).t.get t := by
  obtain ⟨o, ho, _, hp⟩ := R.putX hj
  rw [ho] at h
  exact hp t h

theorem Runs.d_eq : ∀ {j : Nat}, j ≤ ops.size → (frs j).d = (frs 0).d := by
  intro j
  induction j with
  | zero => intro _; rfl
  | succ j ih =>
    intro hj
    obtain ⟨o, ho, hp, _⟩ := R.putX (j := j) (by omega)
    rw [hp]; exact ih (by omega)

theorem Runs.findT {D : Nat → Bool} (hd : Down ops D) {j : Nat} (hj : j < ops.size) (hD : D j = false) (hb : ∀ i, bef ops j i = true → D i = true) {o : Oper} (ho : ops[j]? = Option.some o) {t : Nat} (ht : t ∈ names ops o) :
    TD ops frs D ops.size t = (frs j).t.get t := by
  have h1 : ∀ i, i ≤ j → TD ops frs D i t = (frs i).t.get t := by
    intro i
    induction i with
    | zero => intro _; rfl
    | succ i ih =>
      intro hi
      simp only [TD]
      by_cases hdst : (ops[i]?).bind (·.dst) = Option.some t
      · have : D i = true := by
          cases hbb : bef ops j i with
          | true => exact hb i hbb
          | false =>
            exfalso
            cases hx : ops[i]? with
            | none => rw [hx] at hdst; cases hdst
            | some x =>
              rw [hx] at hdst
              exact (R.ok.apart i j x o (by omega) hx ho hbb).1 t hdst ht
        rw [if_pos ⟨this, hdst⟩]
      · rw [if_neg (fun e => hdst e.2), R.putN (by omega) hdst]; exact ih (by omega)
  have h2 : ∀ i, j ≤ i → i ≤ ops.size → TD ops frs D i t = TD ops frs D j t := by
    intro i hi
    induction hi with
    | refl => intro _; rfl
    | step hi ih =>
      rename_i i
      intro hi2
      simp only [TD]
      rw [if_neg]
      · exact ih (by omega)
      · rintro ⟨hDi, hdst⟩
        have hij : i ≠ j := by rintro rfl; rw [hD] at hDi; cases hDi
        cases hbb : bef ops i j with
        | true => have := hd i (by omega) hDi j hbb; rw [hD] at this; cases this
        | false =>
          cases hx : ops[i]? with
          | none => rw [hx] at hdst; cases hdst
          | some x =>
            rw [hx] at hdst
            exact (R.ok.apart j i o x (by have : j ≤ i := hi; omega) ho hx hbb).2 t hdst ht
  rw [h2 ops.size (by omega) (Nat.le_refl _), h1 j (Nat.le_refl _)]

theorem Runs.moreT {D : Nat → Bool} (hd : Down ops D) {j : Nat} (hj : j < ops.size) (hD : D j = false) (t : Nat) :
    TD ops frs (fun i => D i || i == j) ops.size t = if (ops[j]?).bind (·.dst) = Option.some t then (frs (j + 1)).t.get t else TD ops frs D ops.size t := by
  have key : ∀ i, i ≤ ops.size → TD ops frs (fun i => D i || i == j) i t = if j < i ∧ (ops[j]?).bind (·.dst) = Option.some t then (frs (j + 1)).t.get t else TD ops frs D i t := by
    intro i
    induction i with
    | zero => intro _; simp [TD]
    | succ i ih =>
      intro hi
      have ih := ih (by omega)
      simp only [TD]
      by_cases hij : i = j
      · subst hij
        by_cases hdst : (ops[i]?).bind (·.dst) = Option.some t
        · simp [hdst]
        · simp only [hdst, and_false, if_false]
          rw [ih]; simp
      · have hne : (i == j) = false := by simpa using hij
        simp only [hne, Bool.or_false]
        by_cases hw : D i = true ∧ (ops[i]?).bind (·.dst) = Option.some t
        · rw [if_pos hw, if_pos hw, if_neg]
          rintro ⟨hlt, hdst⟩
          cases hbb : bef ops i j with
          | true => have := hd i (by omega) hw.1 j hbb; rw [hD] at this; cases this
          | false =>
            cases hx : ops[i]? with
            | none => rw [hx] at hw; cases hw.2
            | some x =>
              cases hy : ops[j]? with
              | none => rw [hy] at hdst; cases hdst
              | some y =>
                rw [hx] at hw; rw [hy] at hdst
                have hyd : y.dst = Option.some t := hdst
                exact (R.ok.apart j i y x (by omega) hy hx hbb).1 t hyd (by
                  unfold names
                  have hxd : x.dst = Option.some t := hw.2
                  simp [hxd])
        · rw [if_neg hw, if_neg hw, ih]
          by_cases hlt : j < i
          · simp [hlt, show j < i + 1 by omega]
          · simp [hlt, show ¬ j < i + 1 by omega]
  rw [key ops.size (Nat.le_refl _)]
  simp [hj]

theorem Runs.allT (D : Nat → Bool) (hD : ∀ i, i < ops.size → D i = true) (t : Nat) : ∀ i, i ≤ ops.size → TD ops frs D i t = (frs i).t.get t := by
  intro i
  induction i with
  | zero => intro _; rfl
  | succ i ih =>
    intro hi
    simp only [TD, hD i (by omega), true_and]
    by_cases hdst : (ops[i]?).bind (·.dst) = Option.some t
    · rw [if_pos hdst]
    · rw [if_neg hdst, R.putN (by omega) hdst]; exact ih (by omega)
end

end Go.Proofs.YthogkihfbjbghaaGreatDoor.Abs
