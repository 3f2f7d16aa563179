/- an interpreter of closed code, and its soundness. -/
import Derived.Test.YthogkihfbjbghaaGreatDoorEf
import Derived.Orders
namespace Go.Proofs.YthogkihfbjbghaaGreatDoor.Abs

/-- 'PStep' by the blocks that were made, whichever they are -/
structure GStep (F : Nat → Prop) (ρ0 : Rho) (H0 : Nat → Option AObj) (w0 : World) (N W : Nat → Prop) (ρ : Rho) (H : Nat → Option AObj) (w : World) : Prop where
  le : ρ0.le ρ
  dom : ∀ (id : Nat), ρ0 id = none → ρ id ≠ none → N id
  inv : Inv F ρ H w
  size : w0.heap.size ≤ w.heap.size
  keep : ∀ (b : Nat), b < w0.heap.size → (∀ (id : Nat) (k : Blk), W id → H0 id ≠ none → ρ0 id = some k → k.b ≠ b) → w.heap[b]? = w0.heap[b]?
  fresh : ∀ (id : Nat) (k : Blk), N id → H id ≠ none → ρ id = some k → w0.heap.size ≤ k.b ∨ ∃ id0 k0, W id0 ∧ H0 id0 ≠ none ∧ H id0 = none ∧ ρ0 id0 = some k0 ∧ k0.b = k.b
  live : ∀ (id : Nat), H id ≠ none → H0 id ≠ none ∨ N id
  tape : w.tape = w0.tape
  os : w.os = w0.os
  output : w.output = w0.output

theorem GStep.congr {F : Nat → Prop} {ρ0 ρ : Rho} {H0 H H' : Nat → Option AObj} {w0 w : World} {N N' W W' : Nat → Prop} (h : GStep F ρ0 H0 w0 N W ρ H w) (hN : ∀ id, N id ↔ N' id) (hW : ∀ id, W id ↔ W' id) (hH : ∀ id, H' id = H id) : GStep F ρ0 H0 w0 N' W' ρ H' w := by
  obtain rfl : N = N' := funext fun id => propext (hN id)
  obtain rfl : W = W' := funext fun id => propext (hW id)
  obtain rfl : H' = H := funext hH
  exact h

theorem gstep_op {F : Nat → Prop} {ρ0 ρ ρ' : Rho} {H0 H : Nat → Option AObj} {w0 w w' : World} {N W : Nat → Prop} {s s1 : St} (G : GStep F ρ0 H0 w0 N W ρ H w) (h : PStep (fun id => s1.fp.testBit id = true) ρ s w ρ' s1 w')
    (hF : ∀ id, s1.fp.testBit id = true → F id) (hag : ∀ id, s1.fp.testBit id = true → H id = s.H.get id) (hwr : ∀ id, s1.wr.testBit id = true → s1.fp.testBit id = true)
    (hN0 : ∀ id, s.n ≤ id → id < s1.n → ρ0 id = none) (hNN : ∀ id, s.n ≤ id → id < s1.n → ¬ N id) (_hNH : ∀ id, s.n ≤ id → id < s1.n → H0 id = none) (hNρ : ∀ id, N id → ρ0 id = none) :
    GStep F ρ0 H0 w0 (fun id => N id ∨ s.n ≤ id ∧ id < s1.n) (fun id => W id ∨ s1.wr.testBit id = true) ρ' (fun id => if s1.wr.testBit id then s1.H.get id else H id) w' := by
  have hρn : ∀ id, s.n ≤ id → id < s1.n → ρ id = none := fun id a b => by
    cases e : ρ id with
    | none => rfl
    | some k => exact absurd (G.dom id (hN0 id a b) (by rw [e]; simp)) (hNN id a b)
  -- what is written was there, or is new
  have was : ∀ id, s1.wr.testBit id = true → s1.H.get id ≠ none → H id ≠ none ∨ s.n ≤ id ∧ id < s1.n := by
    intro id hw hl
    rcases h.live id hl with h1 | h1
    · left; rw [hag id (hwr id hw)]; exact h1
    · exact .inr h1
  -- an elder block that is gone stays gone
  have gone : ∀ id k, H id = none → ρ0 id = some k → (if s1.wr.testBit id then s1.H.get id else H id) = none := by
    intro id k hn hk
    by_cases hw : s1.wr.testBit id = true
    · rw [if_pos hw]
      cases e : s1.H.get id with
      | none => rfl
      | some o =>
        rcases was id hw (by rw [e]; simp) with h1 | h1
        · exact absurd hn h1
        · rw [hN0 id h1.1 h1.2] at hk; cases hk
    · rw [if_neg hw]; exact hn
  refine ⟨Rho.le_trans G.le h.le, ?_, ⟨?_, ?_⟩, Nat.le_trans G.size h.size, ?_, ?_, ?_, h.tape.trans G.tape, h.os.trans G.os, h.output.trans G.output⟩
  · intro id hn hs
    by_cases e : ρ id = none
    · exact .inr (h.dom id e hs)
    · exact .inl (G.dom id hn e)
  · intro id o hFi ho
    by_cases hw : s1.wr.testBit id = true
    · rw [if_pos hw] at ho
      exact h.inv.rel id o (hwr id hw) ho
    · rw [if_neg hw] at ho
      obtain ⟨k, hk, hr⟩ := G.inv.rel id o hFi ho
      refine ⟨k, h.le _ _ hk, hr.keep h.le (h.keep k.b hr.lt fun id2 k2 hw2 hl2 hk2 e => hw ?_)⟩
      have hH2 : H id2 ≠ none := by rw [hag id2 (hwr id2 hw2)]; exact hl2
      have := G.inv.apart id2 id k2 k (hF _ (hwr id2 hw2)) hFi hH2 (by rw [ho]; simp) hk2 hk e
      rw [← this]; exact hw2
  · intro i j a b hi hj hli hlj ha hb hab
    -- one that is written, one that isn't
    have mixed : ∀ i j (a b : Blk), F i → F j → s1.wr.testBit i = true → s1.H.get i ≠ none → H j ≠ none → ρ' i = some a → ρ' j = some b → a.b = b.b → i = j ∨ s1.wr.testBit j = true := by
      intro i j a b hi hj hwi hli hlj ha hb hab
      obtain ⟨o, ho⟩ := Option.ne_none_iff_exists'.1 hlj
      obtain ⟨k, hk, hr⟩ := G.inv.rel j o hj ho
      have : k = b := by have := h.le _ _ hk; rw [hb] at this; exact (Option.some.inj this).symm
      subst this
      rcases h.live i hli with h1 | h1
      · have hHi : H i ≠ none := by rw [hag i (hwr i hwi)]; exact h1
        obtain ⟨oi, hoi⟩ := Option.ne_none_iff_exists'.1 hHi
        obtain ⟨ki, hki, _⟩ := G.inv.rel i oi hi hoi
        have : ki = a := by have := h.le _ _ hki; rw [ha] at this; exact (Option.some.inj this).symm
        subst this
        exact .inl (G.inv.apart i j ki k hi hj hHi hlj hki hk hab)
      · rcases h.fresh i a h1.1 h1.2 hli ha with h2 | ⟨id0, k0, h2, h3, h4, h5, h6⟩
        · have := hr.lt; omega
        · have hH0 : H id0 ≠ none := by rw [hag id0 (hwr id0 h2)]; exact h3
          have := G.inv.apart id0 j k0 k (hF _ (hwr id0 h2)) hj hH0 hlj h5 hk (h6.trans hab)
          right; rw [← this]; exact h2
    by_cases hwi : s1.wr.testBit i = true <;> by_cases hwj : s1.wr.testBit j = true
    · rw [if_pos hwi] at hli; rw [if_pos hwj] at hlj
      exact h.inv.apart i j a b (hwr i hwi) (hwr j hwj) hli hlj ha hb hab
    · rw [if_pos hwi] at hli; rw [if_neg hwj] at hlj
      exact (mixed i j a b hi hj hwi hli hlj ha hb hab).resolve_right hwj
    · rw [if_neg hwi] at hli; rw [if_pos hwj] at hlj
      exact ((mixed j i b a hj hi hwj hlj hli hb ha hab.symm).resolve_right hwi).symm
    · rw [if_neg hwi] at hli; rw [if_neg hwj] at hlj
      obtain ⟨oi, hoi⟩ := Option.ne_none_iff_exists'.1 hli
      obtain ⟨ki, hki, _⟩ := G.inv.rel i oi hi hoi
      obtain ⟨oj, hoj⟩ := Option.ne_none_iff_exists'.1 hlj
      obtain ⟨kj, hkj, _⟩ := G.inv.rel j oj hj hoj
      have e1 : ki = a := by have := h.le _ _ hki; rw [ha] at this; exact (Option.some.inj this).symm
      have e2 : kj = b := by have := h.le _ _ hkj; rw [hb] at this; exact (Option.some.inj this).symm
      subst e1; subst e2
      exact G.inv.apart i j ki kj hi hj hli hlj hki hkj hab
  · intro b hb hk
    have h1 : w.heap[b]? = w0.heap[b]? := G.keep b hb fun id k hw => hk id k (.inl hw)
    refine (h.keep b (Nat.lt_of_lt_of_le hb G.size) fun id k hw hl hr => ?_).trans h1
    have hH : H id ≠ none := by rw [hag id (hwr id hw)]; exact hl
    have fr : N id → k.b ≠ b := fun hn => by
      rcases G.fresh id k hn hH hr with h2 | ⟨id0, k0, a1, a2, _, a4, a5⟩
      · omega
      · rw [← a5]; exact hk id0 k0 (.inl a1) a2 a4
    rcases G.live id hH with h2 | h2
    · cases e : ρ0 id with
      | some k0 => have := G.le _ _ e; rw [hr] at this; cases this; exact hk id k (.inr hw) h2 e
      | none => exact fr (G.dom id e (by rw [hr]; simp))
    · exact fr h2
  · intro id k hn hl hr
    rcases hn with hn | hn
    · have hnr : ¬ (s.n ≤ id ∧ id < s1.n) := fun e => hNN id e.1 e.2 hn
      have hr0 : ρ id = some k := by
        cases e : ρ id with
        | some k0 => have := h.le _ _ e; rw [hr] at this; exact this.symm
        | none => exact absurd (h.dom id e (by rw [hr]; simp)) hnr
      have hH : H id ≠ none := by
        by_cases hw : s1.wr.testBit id = true
        · rw [if_pos hw] at hl
          exact (was id hw hl).resolve_right hnr
        · rw [if_neg hw] at hl; exact hl
      rcases G.fresh id k hn hH hr0 with h2 | ⟨id0, k0, a1, a2, a3, a4, a5⟩
      · exact .inl h2
      · exact .inr ⟨id0, k0, .inl a1, a2, gone id0 k0 a3 a4, a4, a5⟩
    · have hw := (h.new id hn.1 hn.2).1
      rw [if_pos hw] at hl
      rcases h.fresh id k hn.1 hn.2 hl hr with h2 | ⟨id0, k0, a1, a2, a3, a4, a5⟩
      · exact .inl (Nat.le_trans G.size h2)
      · have hH0 : H id0 ≠ none := by rw [hag id0 (hwr id0 a1)]; exact a2
        cases e : ρ0 id0 with
        | some k1 =>
          have : k1 = k0 := by have := G.le _ _ e; rw [a4] at this; exact (Option.some.inj this).symm
          subst this
          rcases G.live id0 hH0 with h3 | h3
          · exact .inr ⟨id0, k1, .inr a1, h3, by rw [if_pos a1]; exact a3, e, a5⟩
          · rw [hNρ id0 h3] at e; cases e
        | none =>
          have hd := G.dom id0 e (by rw [a4]; simp)
          rcases G.fresh id0 k0 hd hH0 a4 with h3 | ⟨id1, k1, b1, b2, b3, b4, b5⟩
          · exact .inl (by omega)
          · exact .inr ⟨id1, k1, .inl b1, b2, gone id1 k1 b3 b4, b4, b5.trans a5⟩
  · intro id hl
    by_cases hw : s1.wr.testBit id = true
    · rw [if_pos hw] at hl
      rcases was id hw hl with h1 | h1
      · exact (G.live id h1).imp_right .inl
      · exact .inr (.inr h1)
    · rw [if_neg hw] at hl
      exact (G.live id hl).imp_right .inl

theorem wantedA_ok' {ops : Array Oper} {fr : Fr} {o : Oper} {b : Bool} (h : wantedA ops fr o = .ok b) {ρ : Rho} {a : Act} (hr : ∀ t v, t ∈ names ops o → fr.t.get t = some v → VRel ρ v (a.tmps.getD t undef)) : Region.wanted o (yielded ops a.tmps) = b := by
  unfold wantedA at h
  unfold Region.wanted
  split at h
  · rename_i hg; cases h; simp [hg]
  · rename_i j want hg
    simp only [hg]
    have key : VRel ρ (yieldedA ops fr j) (match (ops[j]?).bind (·.dst) with | some d => a.tmps.getD d undef | none => undef) := by
      unfold yieldedA
      cases ho : ops[j]? with
      | none => exact .any _
      | some o2 =>
        simp only [Option.bind_some]
        cases hd : o2.dst with
        | none => exact .any _
        | some d =>
          simp only
          cases ht : fr.t.get d with
          | none => exact .any _
          | some v => exact hr d v (by unfold names; simp [hg, ho, hd]) ht
    unfold yielded
    cases hd : (ops[j]?).bind (·.dst) with
    | none =>
      rw [hd] at key
      simp only at key
      split at h
      · rename_i x hy; rw [hy] at key; cases key
      · cases h; simp
      · cases h
    | some d =>
      rw [hd] at key
      simp only [Option.bind_some] at key ⊢
      rw [Array.getD_eq_getD_getElem?] at key
      split at h
      · rename_i x hy
        rw [hy] at key
        cases h
        cases hq : a.tmps[d]? with
        | none => rw [hq] at key; cases key
        | some q => rw [hq] at key; simp only [Option.getD_some] at key; cases key; simp
      · rename_i hy
        rw [hy] at key
        cases h
        cases hq : a.tmps[d]? with
        | none => simp
        | some q => rw [hq] at key; simp only [Option.getD_some] at key; cases key; simp
      · cases h

theorem pickTmps_get (t : Trie Value) : ∀ (l : List Operand) (r : Trie Value) (i : Nat) (v : Value), (pickTmps t l r).get i = some v → r.get i = some v ∨ (Operand.tmp i ∈ l ∧ t.get i = some v)
  | [], r, i, v, h => .inl h
  | .tmp j :: l, r, i, v, h => by
    simp only [pickTmps] at h
    by_cases hj : j < 1048576
    · have hb : Nat.blt j 1048576 = true := by rw [Nat.blt_eq]; exact hj
      rw [hb, cond_true, Trie.setK_eq] at h
      rcases pickTmps_get t l _ i v h with h1 | h1
      · have h1 : (r.set j (t.get j)).get i = some v := h1
        rw [Trie.get_set _ _ _ _ (Nat.le_of_lt hj)] at h1
        by_cases e : i = j
        · subst e; rw [if_pos rfl] at h1; exact .inr ⟨by simp, h1⟩
        · rw [if_neg e] at h1; exact .inl h1
      · exact .inr ⟨List.mem_cons_of_mem _ h1.1, h1.2⟩
    · have hb : Nat.blt j 1048576 = false := by
        cases e : Nat.blt j 1048576 with
        | false => rfl
        | true => rw [Nat.blt_eq] at e; exact absurd e hj
      rw [hb, cond_false] at h
      rcases pickTmps_get t l _ i v h with h1 | h1
      · exact .inl h1
      · exact .inr ⟨List.mem_cons_of_mem _ h1.1, h1.2⟩
  | .const _ :: l, r, i, v, h => (pickTmps_get t l r i v h).imp_right fun x => ⟨List.mem_cons_of_mem _ x.1, x.2⟩
  | .global _ :: l, r, i, v, h => (pickTmps_get t l r i v h).imp_right fun x => ⟨List.mem_cons_of_mem _ x.1, x.2⟩
  | .func _ :: l, r, i, v, h => (pickTmps_get t l r i v h).imp_right fun x => ⟨List.mem_cons_of_mem _ x.1, x.2⟩

def NN (m : Nat) (ss : Nat → St) (kd : Nat → Kd) (D : Nat → Bool) (id : Nat) : Prop := ∃ i s1, i < m ∧ D i = true ∧ (kd i).st = some s1 ∧ (ss i).n ≤ id ∧ id < s1.n
def WW (m : Nat) (kd : Nat → Kd) (D : Nat → Bool) (id : Nat) : Prop := ∃ i s1, i < m ∧ D i = true ∧ (kd i).st = some s1 ∧ s1.wr.testBit id = true

/-- what stands, some operations being done -/
structure J (E : Env) (ops : Array Oper) (frs : Nat → Fr) (ss : Nat → St) (kd : Nat → Kd) (F : Nat → Prop) (ρ0 : Rho) (w0 : World) (a0 : Act) (D : Nat → Bool) (ρ : Rho) (a : Act) (w : World) : Prop where
  g : GStep F ρ0 (ss 0).H.get w0 (NN ops.size ss kd D) (WW ops.size kd D) ρ (HD ss kd D ops.size) w
  tm : ∀ t v, TD ops frs D ops.size t = some v → VRel ρ v (a.tmps.getD t undef)
  size : a.tmps.size = E.nt
  dfr : a.defers = a0.defers
  nw : ∀ i, i < ops.size → D i = true → ∀ s1, (kd i).st = some s1 → (∀ id, (ss i).n ≤ id → id < s1.n → s1.wr.testBit id = true ∧ s1.fp.testBit id = true) ∧ (∀ id, s1.wr.testBit id = true → s1.fp.testBit id = true)
  calm : ∀ i, i < ops.size → D i = true → (kd i).calm = true

theorem count_le {p q : Nat → Bool} (h : ∀ i, q i = true → p i = true) : ∀ l : List Nat, l.countP q ≤ l.countP p
  | [] => by simp
  | x :: l => by
    rw [List.countP_cons, List.countP_cons]
    have := count_le h l
    by_cases hq : q x = true
    · simp [hq, h x hq]; exact this
    · simp [hq]; omega

theorem count_lt {p q : Nat → Bool} (h : ∀ i, q i = true → p i = true) {x : Nat} (hp : p x = true) (hq : q x = false) : ∀ l : List Nat, x ∈ l → l.countP q < l.countP p
  | [], hx => by cases hx
  | y :: l, hx => by
    rw [List.countP_cons, List.countP_cons]
    by_cases e : x = y
    · subst e
      have := count_le h l
      simp [hp, hq]; omega
    · have := count_lt h hp hq l ((List.mem_cons.1 hx).resolve_left e)
      by_cases hqy : q y = true
      · simp [hqy, h y hqy]; exact this
      · simp [hqy]; omega

section
variable {E : Env} {ops : Array Oper} {pan : Option (Nat × List PanicEntry)} {frs : Nat → Fr} {ss : Nat → St} {kd : Nat → Kd} {F : Nat → Prop} {ρ0 : Rho} {w0 : World} {a0 : Act}

/-- what a whole region is handed -/
structure Hand (E : Env) (ops : Array Oper) (pan : Option (Nat × List PanicEntry)) (frs : Nat → Fr) (ss : Nat → St) (kd : Nat → Kd) (F : Nat → Prop) (ρ0 : Rho) (b : Frame) (cs0 cs : List Frame) : Prop where
  go : GoS E.P E.ng E.go
  R : Runs E ops pan frs ss kd
  wf : Wf (ss 0)
  glob : GRel ρ0 E.ng
  b : BRel ρ0 E b
  cs : StkOk E.dfr ρ0 (ss 0).u cs0 cs
  noRec : E.dfr = true → ∀ o, o ∈ ops.toList → isRecover o = false
  F : ∀ i s1, i < ops.size → (kd i).st = some s1 → ∀ id, s1.fp.testBit id = true → F id
  ρ : ∀ id, (ss 0).n ≤ id → id < (ss ops.size).n → ρ0 id = none

/-- one operation that is ready, carried out -/
theorem draw_op {b : Frame} {cs0 cs : List Frame} (h : Hand E ops pan frs ss kd F ρ0 b cs0 cs)
    {D : Nat → Bool} {ρ : Rho} {a : Act} {w : World} (hJ : J E ops frs ss kd F ρ0 w0 a0 D ρ a w) (hd : Down ops D) {j : Nat} (hj : j < ops.size) (hD : D j = false) (hbe : ∀ i, bef ops j i = true → D i = true)
    {o : Oper} (ho : ops[j]? = some o) {s1 : St} (hk : (kd j).st = some s1) {r : OR} (hrun : runOp E ⟨pickTmps (frs j).t o.op.operands.toList .leaf, []⟩ o { ss j with fp := 0, wr := 0 } = .ok [(r, s1)]) (hwant : wantedA ops (frs j) o = .ok true) (rest : List Nat) (k : List Item) :
    ∃ ρ' w', GStep F ρ0 (ss 0).H.get w0 (NN ops.size ss kd (fun i => D i || i == j)) (WW ops.size kd (fun i => D i || i == j)) ρ' (HD ss kd (fun i => D i || i == j) ops.size) w' ∧ ρ.le ρ' ∧
      ((∀ id, (ss j).n ≤ id → id < s1.n → s1.wr.testBit id = true ∧ s1.fp.testBit id = true) ∧ (∀ id, s1.wr.testBit id = true → s1.fp.testBit id = true)) ∧
      Done E.P b a ops j rest k o.dst cs cs w w' ρ' r := by
  obtain ⟨hgo, R, hwf, hglob, hb, hcs, hrec, hF, hρ0⟩ := h
  have htmp : ∀ t x, t ∈ names ops o → (frs j).t.get t = some x → VRel ρ x (a.tmps.getD t undef) := fun t x ht hx => hJ.tm t x (by rw [R.findT hd hj hD hbe ho ht]; exact hx)
  have hw := wantedA_ok' hwant htmp
  obtain ⟨hn1, hn2, hn3, hs1⟩ := R.some hj hk
  have hwfj := R.wf hwf (Nat.le_of_lt hj)
  have hns : (ss (j + 1)).n = s1.n := R.n_some hj hk
  have hle0 : (ss 0).n ≤ (ss j).n := R.n_mono (Nat.zero_le _) (Nat.le_of_lt hj)
  have hleM : s1.n ≤ (ss ops.size).n := by rw [← hns]; exact R.n_mono (by omega) (Nat.le_refl _)
  -- the ranges of new blocks lie apart
  have hNN : ∀ id, (ss j).n ≤ id → id < s1.n → ¬ NN ops.size ss kd D id := by
    rintro id a1 a2 ⟨i, s2, b1, b2, b3, b4, b5⟩
    have hi : (ss (i + 1)).n = s2.n := R.n_some b1 b3
    rcases Nat.lt_trichotomy i j with h | h | h
    · have := R.n_mono (i := i + 1) (j := j) (by omega) (by omega); omega
    · subst h; rw [hD] at b2; cases b2
    · have := R.n_mono (i := j + 1) (j := i) (by omega) (by omega); omega
  have hag : ∀ id, s1.fp.testBit id = true → HD ss kd D ops.size id = (ss j).H.get id := fun id hid => R.find hd hj hD hbe hk hid
  have hinvj : Inv (fun id => s1.fp.testBit id = true) ρ (ss j).H.get w := by
    constructor
    · intro id o2 h1 h2
      exact hJ.g.inv.rel id o2 (hF j s1 hj hk id h1) (by rw [hag id h1]; exact h2)
    · intro i2 j2 x y h1 h2 h3 h4
      exact hJ.g.inv.apart i2 j2 x y (hF j s1 hj hk i2 h1) (hF j s1 hj hk j2 h2) (by rw [hag i2 h1]; exact h3) (by rw [hag j2 h2]; exact h4)
  have hρj : ∀ id, (ss j).n ≤ id → id < s1.n → ρ id = none := fun id a1 a2 => by
    cases e : ρ id with
    | none => rfl
    | some kk => exact absurd (hJ.g.dom id (hρ0 id (by omega) (by omega)) (by rw [e]; simp)) (hNN id a1 a2)
  have hcov : Cov (fun id => s1.fp.testBit id = true) ρ { ss j with fp := 0, wr := 0 } [(r, s1)] := by
    intro x s' hm
    cases List.mem_singleton.1 hm
    exact ⟨fun i h => h, hρj⟩
  have hat : At (fun id => s1.fp.testBit id = true) ρ { ss j with fp := 0, wr := 0 } w E.ng := ⟨⟨hwfj.none, hwfj.le⟩, hinvj, hglob.mono hJ.g.le⟩
  have he : ∀ x, VRel ρ (Fr.ev E.ng ⟨pickTmps (frs j).t o.op.operands.toList .leaf, []⟩ x) (a.eval x) := by
    intro x
    cases x with
    | tmp t =>
      simp only [Fr.ev, Act.eval]
      cases e : (pickTmps (frs j).t o.op.operands.toList .leaf).get t with
      | none => exact .any _
      | some y =>
        rcases pickTmps_get _ _ _ _ _ e with h1 | ⟨h1, h2⟩
        · rw [Trie.get_leaf] at h1; cases h1
        · refine htmp t y ?_ h2
          unfold names
          simp only [List.mem_append, List.mem_filterMap]
          exact .inl (.inr ⟨_, h1, rfl⟩)
    | const y =>
      simp only [Fr.ev, Act.eval]
      cases e : plainV 9 y with
      | false => exact .any _
      | true => exact VRel.plain 9 y e
    | global g =>
      have := FrRel.ev (ρ := ρ) (nt := a.tmps.size) (fr := ⟨.leaf, []⟩) (a := { tmps := a.tmps, defers := [] }) ⟨rfl, fun t v h => (by rw [Trie.get_leaf] at h; cases h), .nil⟩ hat.glob (.global g)
      exact this
    | func f => exact .func _ _ _ _ _ _ (.func f) rfl rfl (by simp) (by simp)
  have hu : (ss j).u = (ss 0).u := R.u_eq (Nat.le_of_lt hj)
  have hcsj : StkOk E.dfr ρ ({ ss j with fp := 0, wr := 0 } : St).u cs0 cs := by
    show StkOk E.dfr ρ (ss j).u cs0 cs
    rw [hu]; exact hcs.mono hJ.g.le
  obtain ⟨r', s', ρ', w', cs', hmem, hp, hcs', hur, hud, hdone⟩ := runOp_sound hgo hrun hcov hat (hb.mono hJ.g.le) he hcsj ho hw (rest := rest) (k := k)
  cases List.mem_singleton.1 hmem
  have hcse : cs' = cs := by
    by_cases hdf : E.dfr = true
    · exact (hur (hrec hdf o (by rw [Array.mem_toList_iff]; exact Array.mem_of_getElem? ho))).2
    · have h1 : cs' = cs0 := by unfold StkOk at hcs'; rw [if_neg hdf] at hcs'; exact hcs'
      have h2 : cs = cs0 := by unfold StkOk at hcs; rw [if_neg hdf] at hcs; exact hcs
      rw [h1, h2]
  subst hcse
  have hwrfp : ∀ id, s1.wr.testBit id = true → s1.fp.testBit id = true := fun id h => by
    rcases hp.wrfp id h with h1 | h1
    · simp at h1
    · exact h1
  refine ⟨ρ', w', ?_, hp.le, ⟨fun id a1 a2 => hp.new id a1 a2, hwrfp⟩, hdone⟩
  have hg := gstep_op (s := { ss j with fp := 0, wr := 0 }) hJ.g hp (hF j s1 hj hk) hag hwrfp (fun id a1 a2 => hρ0 id (by show (ss 0).n ≤ id; have : (ss j).n ≤ id := a1; omega) (by omega)) (fun id a1 a2 => hNN id a1 a2)
    (fun id a1 a2 => hwf.none id (by have : (ss j).n ≤ id := a1; omega)) (fun id hid => by
      obtain ⟨i, s2, b1, b2, b3, b4, b5⟩ := hid
      have hi : (ss (i + 1)).n = s2.n := R.n_some b1 b3
      have h1 := R.n_mono (i := 0) (j := i) (Nat.zero_le _) (by omega)
      have h2 := R.n_mono (i := i + 1) (j := ops.size) (by omega) (Nat.le_refl _)
      exact hρ0 id (by omega) (by omega))
  refine hg.congr (fun id => ?_) (fun id => ?_) (fun id => R.more hd hj hD hk hwrfp id)
  · constructor
    · rintro (⟨i, s2, b1, b2, b3, b4⟩ | h1)
      · exact ⟨i, s2, b1, by simp [b2], b3, b4⟩
      · exact ⟨j, s1, hj, by simp, hk, h1⟩
    · rintro ⟨i, s2, b1, b2, b3, b4⟩
      simp only [Bool.or_eq_true, beq_iff_eq] at b2
      rcases b2 with b2 | rfl
      · exact .inl ⟨i, s2, b1, b2, b3, b4⟩
      · rw [hk] at b3; cases b3; exact .inr b4
  · constructor
    · rintro (⟨i, s2, b1, b2, b3, b4⟩ | h1)
      · exact ⟨i, s2, b1, by simp [b2], b3, b4⟩
      · exact ⟨j, s1, hj, by simp, hk, h1⟩
    · rintro ⟨i, s2, b1, b2, b3, b4⟩
      simp only [Bool.or_eq_true, beq_iff_eq] at b2
      rcases b2 with b2 | rfl
      · exact .inl ⟨i, s2, b1, b2, b3, b4⟩
      · rw [hk] at b3; cases b3; exact .inr b4

/-- one operation that is ready, and does not panic -/
theorem draw_step {b : Frame} {cs0 cs : List Frame} (h : Hand E ops pan frs ss kd F ρ0 b cs0 cs)
    {D : Nat → Bool} {ρ : Rho} {a : Act} {w : World} (hJ : J E ops frs ss kd F ρ0 w0 a0 D ρ a w) (hd : Down ops D) {j : Nat} (hj : j < ops.size) (hD : D j = false) (hbe : ∀ i, bef ops j i = true → D i = true) (hcalm : (kd j).calm = true) (rest : List Nat) (k : List Item) :
    ∃ ρ' a' w', J E ops frs ss kd F ρ0 w0 a0 (fun i => D i || i == j) ρ' a' w' ∧ Steps E.P (lone (b.atR a (.inRegion ops (j :: rest) :: k)) cs w) (lone (b.atR a' (.inRegion ops rest :: k)) cs w') := by
  have R := h.R
  have calm' : ∀ i, i < ops.size → (D i || i == j) = true → (kd i).calm = true := by
    intro i hi hDi
    simp only [Bool.or_eq_true, beq_iff_eq] at hDi
    rcases hDi with h2 | rfl
    · exact hJ.calm i hi h2
    · exact hcalm
  -- the temporaries behind it
  have htm' : ∀ (o : Oper) (v : Value), ops[j]? = some o → PutR E.nt (frs j) o.dst v (frs (j + 1)) → ∀ (ρ' : Rho) (v' : Value), ρ.le ρ' → VRel ρ' v v' → ∀ t x, TD ops frs (fun i => D i || i == j) ops.size t = some x → VRel ρ' x ((a.put o.dst v').tmps.getD t undef) := by
    intro o v ho hput ρ' v' hle hvv t x hx
    have hdstlt : ∀ d, o.dst = some d → d < E.nt := hput.2.1
    rw [R.moreT hd hj hD t] at hx
    by_cases e : (ops[j]?).bind (·.dst) = some t
    · rw [if_pos e] at hx
      have hdd : o.dst = some t := by rw [ho] at e; exact e
      rw [hput.2.2 t, hdd] at hx
      simp only [if_true, Option.some.injEq] at hx
      subst hx
      rw [hdd]
      simp only [Act.put]
      rw [getD_set _ _ _ _ (by rw [hJ.size]; exact hdstlt t hdd), if_pos rfl]
      exact hvv
    · rw [if_neg e] at hx
      have hold := (hJ.tm t x hx).mono hle
      cases hdd : o.dst with
      | none => exact hold
      | some d =>
        simp only [Act.put]
        rw [getD_set _ _ _ _ (by rw [hJ.size]; exact hdstlt d hdd), if_neg]
        · exact hold
        · rintro rfl; exact e (by rw [ho]; exact hdd)
  have hsize' : ∀ (o : Oper) v', (a.put o.dst v').tmps.size = E.nt := fun o v' => by
    cases o.dst <;> simp [Act.put, hJ.size]
  have hdfr' : ∀ (o : Oper) v', (a.put o.dst v').defers = a0.defers := fun o v' => by
    cases o.dst <;> exact hJ.dfr
  cases R.tr j hj with
  | drop o ho hk => rw [hk] at hcalm; cases hcalm
  | boom o ho s2 ch hk => rw [hk] at hcalm; cases hcalm
  | skip o ho hk hw0 hs hput =>
    have hst : (kd j).st = none := by rw [hk]; rfl
    have htmp : ∀ t x, t ∈ names ops o → (frs j).t.get t = some x → VRel ρ x (a.tmps.getD t undef) := fun t x ht hx => hJ.tm t x (by rw [R.findT hd hj hD hbe ho ht]; exact hx)
    have hw := wantedA_ok' hw0 htmp
    have hs := stepR_op_skip (P := E.P) (b := b) (a := a) (k := k) (cs := cs) (w := w) (ops := ops) (i := j) (rest := rest) (by simp [ho, hw])
    simp only [ho, Option.bind_some] at hs
    refine ⟨ρ, a.put o.dst undef, w, ⟨?_, htm' o skipV ho hput ρ undef (Rho.le_refl ρ) .skip, hsize' _ _, hdfr' _ _, ?_, calm'⟩, .one hs⟩
    · refine hJ.g.congr (fun id => ?_) (fun id => ?_) (fun id => Runs.same hst id ops.size)
      · constructor
        · rintro ⟨i, s1, a1, a2, a3, a4⟩; exact ⟨i, s1, a1, by simp [a2], a3, a4⟩
        · rintro ⟨i, s1, a1, a2, a3, a4⟩
          simp only [Bool.or_eq_true, beq_iff_eq] at a2
          rcases a2 with a2 | rfl
          · exact ⟨i, s1, a1, a2, a3, a4⟩
          · rw [hst] at a3; cases a3
      · constructor
        · rintro ⟨i, s1, a1, a2, a3, a4⟩; exact ⟨i, s1, a1, by simp [a2], a3, a4⟩
        · rintro ⟨i, s1, a1, a2, a3, a4⟩
          simp only [Bool.or_eq_true, beq_iff_eq] at a2
          rcases a2 with a2 | rfl
          · exact ⟨i, s1, a1, a2, a3, a4⟩
          · rw [hst] at a3; cases a3
    · intro i hi hDi s1 h1
      simp only [Bool.or_eq_true, beq_iff_eq] at hDi
      rcases hDi with h2 | rfl
      · exact hJ.nw i hi h2 s1 h1
      · rw [hst] at h1; cases h1
  | ran o ho s1 v hk hwant hrun hs1 hput =>
    have hst : (kd j).st = some s1 := by rw [hk]; rfl
    obtain ⟨ρ', w', hg, hle, hnw, hdone⟩ := draw_op h hJ hd hj hD hbe ho hst hrun hwant rest k
    cases hdone with
    | val _ v' hvv hsteps =>
      refine ⟨ρ', a.put o.dst v', w', ⟨hg, htm' o v ho hput ρ' v' hle hvv, hsize' _ _, hdfr' _ _, ?_, calm'⟩, hsteps⟩
      intro i hi hDi s2 h1
      simp only [Bool.or_eq_true, beq_iff_eq] at hDi
      rcases hDi with h2 | rfl
      · exact hJ.nw i hi h2 s2 h1
      · rw [hst] at h1; cases h1; exact hnw

theorem getD_one {listed : Array Bool} {j : Nat} (hj : j < listed.size) (i : Nat) : (listed.setIfInBounds j true).getD i false = (listed.getD i false || i == j) := by
  simp only [Array.getD_eq_getD_getElem?, Array.getElem?_setIfInBounds]
  by_cases e : i = j
  · subst e; simp [hj]
  · have : (i == j) = false := by simpa using e
    rw [if_neg (fun x => e x.symm), this, Bool.or_false]

theorem getD_tf {listed : Array Bool} {i : Nat} (hi : i < listed.size) : listed.getD i true = listed.getD i false := by
  simp [Array.getD_eq_getD_getElem?, hi]

/-- the panic of a region -/
structure Boom (E : Env) (ops : Array Oper) (pan : Option (Nat × List PanicEntry)) (frs : Nat → Fr) (ss : Nat → St) (kd : Nat → Kd) (F : Nat → Prop) (ρ0 : Rho) (w0 : World) (a0 : Act) (b : Frame) (cs : List Frame) (m : Machine) : Prop where
  it : ∃ (j : Nat) (ch ch' : List PanicEntry) (D : Nat → Bool) (ρ : Rho) (a : Act) (w : World) (todo : List Item), pan = some (j, ch) ∧ D j = true ∧ (∀ i, bef ops j i = true → D i = true) ∧ ChRel ρ ch ch' ∧
    GStep F ρ0 (ss 0).H.get w0 (NN ops.size ss kd D) (WW ops.size kd D) ρ (HD ss kd D ops.size) w ∧ (∀ (t : Nat) (v : Value), (∀ (i : Nat) (o : Oper), ops[i]? = some o → o.dst ≠ some t) → (frs 0).t.get t = some v → VRel ρ v (a.tmps.getD t undef)) ∧ a.tmps.size = E.nt ∧ a.defers = a0.defers ∧
    Steps E.P m (lone { b.atR a todo with mode := .panicking ch' } cs w)

theorem TD_none {D : Nat → Bool} {t : Nat} (h : ∀ (i : Nat) (o : Oper), ops[i]? = some o → o.dst ≠ some t) : ∀ i, TD ops frs D i t = (frs 0).t.get t
  | 0 => rfl
  | i + 1 => by
    simp only [TD]
    rw [if_neg, TD_none h i]
    rintro ⟨_, h2⟩
    cases e : ops[i]? with
    | none => rw [e] at h2; cases h2
    | some o => rw [e] at h2; exact h i o e h2

theorem draw_go {b : Frame} {cs0 cs : List Frame} (h : Hand E ops pan frs ss kd F ρ0 b cs0 cs) (k : List Item) : ∀ (fuel t : Nat) (listed : Array Bool) (ρ : Rho) (a : Act) (w : World), listed.size = ops.size →
      (List.range ops.size).countP (fun i => !listed.getD i false) ≤ fuel → Down ops (fun i => listed.getD i false) → J E ops frs ss kd F ρ0 w0 a0 (fun i => listed.getD i false) ρ a w →
      Boom E ops pan frs ss kd F ρ0 w0 a0 b cs (lone (b.atR a (.inRegion ops (Region.linearise.go .any ops fuel t listed []) :: k)) cs w) ∨
      ∃ (D : Nat → Bool) (ρ' : Rho) (a' : Act) (w' : World), (∀ i, i < ops.size → D i = true) ∧ J E ops frs ss kd F ρ0 w0 a0 D ρ' a' w' ∧
        Steps E.P (lone (b.atR a (.inRegion ops (Region.linearise.go .any ops fuel t listed []) :: k)) cs w) (lone (b.atR a' k) cs w') := by
  have R := h.R
  intro fuel
  induction fuel with
  | zero =>
    intro t listed ρ a w hsz hcnt hd hJ
    refine .inr ⟨_, ρ, a, w, fun i hi => ?_, hJ, .one stepR_region_end⟩
    have hz : (List.range ops.size).countP (fun i => !listed.getD i false) = 0 := by omega
    have := List.countP_eq_zero.1 hz i (by simpa using hi)
    simpa using this
  | succ fuel ih =>
    intro t listed ρ a w hsz hcnt hd hJ
    simp only [Region.linearise.go]
    change Boom E ops pan frs ss kd F ρ0 w0 a0 b cs (lone (b.atR a (.inRegion ops (match (Region.ready .any ops listed)[t % (Region.ready .any ops listed).length]? with
      | some i => Region.linearise.go .any ops fuel (t / (Region.ready .any ops listed).length) (listed.setIfInBounds i true) [i]
      | none => [].reverse) :: k)) cs w) ∨ ∃ (D : Nat → Bool) (ρ' : Rho) (a' : Act) (w' : World), (∀ i, i < ops.size → D i = true) ∧ J E ops frs ss kd F ρ0 w0 a0 D ρ' a' w' ∧
        Steps E.P (lone (b.atR a (.inRegion ops (match (Region.ready .any ops listed)[t % (Region.ready .any ops listed).length]? with
      | some i => Region.linearise.go .any ops fuel (t / (Region.ready .any ops listed).length) (listed.setIfInBounds i true) [i]
      | none => [].reverse) :: k)) cs w) (lone (b.atR a' k) cs w')
    cases hi : (Region.ready .any ops listed)[t % (Region.ready .any ops listed).length]? with
    | none =>
      have hnil : Region.ready .any ops listed = [] := by
        cases hr : Region.ready .any ops listed with
        | nil => rfl
        | cons x xs =>
          rw [hr] at hi
          have hlt : t % (x :: xs).length < (x :: xs).length := Nat.mod_lt _ (by simp)
          simp at hi
          simp at hlt
          omega
      -- all are done: the first that isn't would be ready
      have hall : ∀ i, i < ops.size → listed.getD i false = true := by
        intro i
        induction i using Nat.strongRecOn with
        | _ i ih2 =>
          intro hlt
          cases e : listed.getD i false with
          | true => rfl
          | false =>
            exfalso
            have ho : ops[i]? = some ops[i] := by simp [hlt]
            have : i ∈ Region.ready .any ops listed := by
              rw [mem_ready]
              refine ⟨by rw [getD_tf (by omega)]; exact e, ops[i], ho, fun ed hed hbd => ?_⟩
              have hlt2 := R.ok.back i _ ho ed hed hbd
              exact ih2 ed.on hlt2 (by omega)
            rw [hnil] at this; cases this
      exact .inr ⟨_, ρ, a, w, hall, hJ, .one stepR_region_end⟩
    | some j =>
      simp only []
      rw [linearise_go_acc, List.reverse_singleton, List.singleton_append]
      obtain ⟨hj0, o, ho, hready⟩ := mem_ready.1 (List.mem_of_getElem? hi)
      have hj : j < ops.size := (Array.getElem?_eq_some_iff.1 ho).1
      have hD : listed.getD j false = false := by rw [← getD_tf (by omega)]; exact hj0
      have hbe : ∀ i, bef ops j i = true → listed.getD i false = true := by
        intro i hbi
        obtain ⟨ed, hed, hbd, h1⟩ := bef_spec ho (R.ok.back j o ho) hbi
        have hon := hready ed hed hbd
        rcases h1 with rfl | h1
        · exact hon
        · have hlt := R.ok.back j o ho ed hed hbd
          exact hd ed.on (by omega) hon i h1
      cases hcalm : (kd j).calm with
      | false =>
        left
        cases R.tr j hj with
        | skip o ho hk => rw [hk] at hcalm; cases hcalm
        | ran o ho s2 v hk => rw [hk] at hcalm; cases hcalm
        | drop o ho hk pj ch hpan hb =>
          exfalso
          obtain ⟨hpj, s1, hkp⟩ := R.pan pj ch hpan
          have := hJ.calm pj hpj (hbe pj hb)
          rw [hkp] at this; cases this
        | boom o ho s1 ch hk hwant hrun hs1 hpan =>
          have hst : (kd j).st = some s1 := by rw [hk]; rfl
          obtain ⟨ρ', w', hg, hle, hnw, hdone⟩ := draw_op h hJ hd hj hD hbe ho hst hrun hwant (Region.linearise.go .any ops fuel (t / (Region.ready .any ops listed).length) (listed.setIfInBounds j true) []) k
          cases hdone with
          | panic _ ch' hch hsteps =>
            refine ⟨j, ch, ch', _, ρ', a, w', _, hpan, by simp, fun i hb => by simp only [hbe i hb, Bool.true_or], hch, hg, fun t v ht hv => ?_, hJ.size, hJ.dfr, hsteps⟩
            exact (hJ.tm t v (by rw [TD_none ht]; exact hv)).mono hle
      | true =>
        obtain ⟨ρ1, a1, w1, hJ1, hs1⟩ := draw_step h hJ hd hj hD hbe hcalm (Region.linearise.go .any ops fuel (t / (Region.ready .any ops listed).length) (listed.setIfInBounds j true) []) k
        have hDe : (fun i => (listed.setIfInBounds j true).getD i false) = fun i => listed.getD i false || i == j := funext fun i => getD_one (by omega) i
        have := ih (t / (Region.ready .any ops listed).length) (listed.setIfInBounds j true) ρ1 a1 w1 (by simp [hsz]) (by
          have := count_lt (p := fun i => !listed.getD i false) (q := fun i => !(listed.setIfInBounds j true).getD i false) (x := j) (fun i h => by
            simp only [getD_one (show j < listed.size by omega), Bool.not_eq_true', Bool.or_eq_false_iff] at h
            simp only [Bool.not_eq_true']; exact h.1) (by simp only [hD, Bool.not_false]) (by simp only [getD_one (show j < listed.size by omega), BEq.rfl, Bool.or_true, Bool.not_true]) (List.range ops.size) (by simpa using hj)
          omega) (by
          rw [hDe]
          intro i hi2 hDi i2 hb2
          simp only [Bool.or_eq_true, beq_iff_eq] at hDi ⊢
          rcases hDi with h | rfl
          · exact .inl (hd i hi2 h i2 hb2)
          · exact .inl (hbe i2 hb2)) (by rw [hDe]; exact hJ1)
        rcases this with ⟨j2, ch, ch', D, ρ2, a2, w2, todo, c1, c2, c3, c4, c5, c6, c7, c8, c9⟩ | ⟨D, ρ2, a2, w2, h1, h2, h3⟩
        · exact .inl ⟨j2, ch, ch', D, ρ2, a2, w2, todo, c1, c2, c3, c4, c5, c6, c7, c8, hs1.trans c9⟩
        · exact .inr ⟨D, ρ2, a2, w2, h1, h2, hs1.trans h3⟩
end

theorem lorAll_fp (i : Nat) : ∀ l : List Foot, (lorAll l).1.testBit i = true ↔ ∃ f ∈ l, f.fp.testBit i = true
  | [] => by simp [lorAll]
  | f :: l => by
    simp only [lorAll, testBit_lor, Bool.or_eq_true, lorAll_fp i l, List.mem_cons]
    constructor
    · rintro (h | ⟨g, hg, h⟩)
      · exact ⟨f, .inl rfl, h⟩
      · exact ⟨g, .inr hg, h⟩
    · rintro ⟨g, rfl | hg, h⟩
      · exact .inl h
      · exact .inr ⟨g, hg, h⟩

theorem lorAll_wr (i : Nat) : ∀ l : List Foot, (lorAll l).2.testBit i = true ↔ ∃ f ∈ l, f.wr.testBit i = true
  | [] => by simp [lorAll]
  | f :: l => by
    simp only [lorAll, testBit_lor, Bool.or_eq_true, lorAll_wr i l, List.mem_cons]
    constructor
    · rintro (h | ⟨g, hg, h⟩)
      · exact ⟨f, .inl rfl, h⟩
      · exact ⟨g, .inr hg, h⟩
    · rintro ⟨g, rfl | hg, h⟩
      · exact .inl h
      · exact .inr ⟨g, hg, h⟩

theorem lorTwo_spec (bl : List Nat) (j : Nat) (i : Nat) : ∀ l : List Foot,
    ((lorTwo bl j l).1.testBit i = true ↔ ∃ f ∈ l, (f.i = j ∨ befL bl j f.i = true) ∧ f.wr.testBit i = true) ∧
    ((lorTwo bl j l).2.testBit i = true ↔ ∃ f ∈ l, ¬ (f.i = j ∨ befL bl j f.i = true) ∧ f.wr.testBit i = true)
  | [] => by simp [lorTwo]
  | f :: l => by
    obtain ⟨h1, h2⟩ := lorTwo_spec bl j i l
    have hc : (Nat.beq f.i j || befL bl j f.i) = true ↔ (f.i = j ∨ befL bl j f.i = true) := by simp
    simp only [lorTwo]
    by_cases hx : f.i = j ∨ befL bl j f.i = true
    · rw [hc.2 hx]
      simp only [cond_true, testBit_lor, Bool.or_eq_true, h1, h2, List.mem_cons]
      constructor
      · constructor
        · rintro (h | ⟨g, hg, h⟩)
          · exact ⟨f, .inl rfl, hx, h⟩
          · exact ⟨g, .inr hg, h⟩
        · rintro ⟨g, rfl | hg, h⟩
          · exact .inl h.2
          · exact .inr ⟨g, hg, h⟩
      · constructor
        · rintro ⟨g, hg, h⟩; exact ⟨g, .inr hg, h⟩
        · rintro ⟨g, rfl | hg, h⟩
          · exact absurd hx h.1
          · exact ⟨g, hg, h⟩
    · have hf : (Nat.beq f.i j || befL bl j f.i) = false := by
        cases e : (Nat.beq f.i j || befL bl j f.i) with
        | false => rfl
        | true => exact absurd (hc.1 e) hx
      rw [hf]
      simp only [cond_false, testBit_lor, Bool.or_eq_true, h1, h2, List.mem_cons]
      constructor
      · constructor
        · rintro ⟨g, hg, h⟩; exact ⟨g, .inr hg, h⟩
        · rintro ⟨g, rfl | hg, h⟩
          · exact absurd h.1 hx
          · exact ⟨g, hg, h⟩
      · constructor
        · rintro (h | ⟨g, hg, h⟩)
          · exact ⟨f, .inl rfl, hx, h⟩
          · exact ⟨g, .inr hg, h⟩
        · rintro ⟨g, rfl | hg, h⟩
          · exact .inl h.2
          · exact .inr ⟨g, hg, h⟩

theorem mask_bit (a b i : Nat) : (maskOf a b).testBit i = (decide (a ≤ i) && decide (i < b)) := by
  unfold maskOf
  have hb : bit (b - a) = 2 ^ (b - a) := by unfold bit; show 1 <<< _ = _; rw [Nat.shiftLeft_eq, Nat.one_mul]
  show ((Nat.sub (bit (b - a)) 1) <<< a).testBit i = _
  rw [hb]
  show ((2 ^ (b - a) - 1) <<< a).testBit i = _
  rw [Nat.testBit_shiftLeft, Nat.testBit_two_pow_sub_one]
  by_cases h : a ≤ i
  · simp only [ge_iff_le, h, decide_true, Bool.true_and]
    rw [Bool.eq_iff_iff]; simp; omega
  · simp [h]

theorem low_free {lw n : Nat} (h : Nat.beq (Nat.mod lw (bit n)) 0 = true) {i : Nat} (hi : i < n) : lw.testBit i = false := by
  have hb : bit n = 2 ^ n := by unfold bit; show 1 <<< _ = _; rw [Nat.shiftLeft_eq, Nat.one_mul]
  have := Nat.eq_of_beq_eq_true h
  rw [hb] at this
  have h2 : (lw % 2 ^ n).testBit i = (decide (i < n) && lw.testBit i) := Nat.testBit_mod_two_pow lw n i
  rw [show lw % 2 ^ n = 0 from this] at h2
  simpa [hi] using h2.symm

theorem dropAll_get : ∀ (l : List Oper) (fr : Fr), (∀ o ∈ l, ∀ d, o.dst = some d → d < 1048576) → (dropAll l fr).d = fr.d ∧ ∀ t v, (dropAll l fr).t.get t = some v → fr.t.get t = some v ∧ ∀ o ∈ l, o.dst ≠ some t
  | [], fr, _ => ⟨rfl, fun t v h => ⟨h, fun o ho => by cases ho⟩⟩
  | o :: l, fr, h => by
    unfold dropAll
    cases hd : o.dst with
    | none =>
      simp only
      obtain ⟨h1, h2⟩ := dropAll_get l fr fun o' ho' => h o' (by simp [ho'])
      refine ⟨h1, fun t v hv => ⟨(h2 t v hv).1, fun o' ho' => ?_⟩⟩
      rcases List.mem_cons.1 ho' with rfl | ho'
      · rw [hd]; simp
      · exact (h2 t v hv).2 o' ho'
    | some d =>
      simp only
      rw [Trie.setK_eq]
      obtain ⟨h1, h2⟩ := dropAll_get l { fr with t := fr.t.set d none } fun o' ho' => h o' (by simp [ho'])
      refine ⟨h1, fun t v hv => ?_⟩
      obtain ⟨h3, h4⟩ := h2 t v hv
      have h3 : (fr.t.set d none).get t = some v := h3
      rw [Trie.get_set _ _ _ _ (Nat.le_of_lt (h o (by simp) d hd))] at h3
      by_cases e : t = d
      · rw [if_pos e] at h3; cases h3
      · rw [if_neg e] at h3
        refine ⟨h3, fun o' ho' => ?_⟩
        rcases List.mem_cons.1 ho' with rfl | ho'
        · rw [hd]; simp; exact fun x => e x.symm
        · exact h4 o' ho'

theorem drawOk_dst {ops : Array Oper} (h : drawOk ops = true) : ∀ o ∈ ops.toList, ∀ d, o.dst = some d → d < 1048576 := by
  intro o ho d hd
  unfold drawOk at h
  simp only [Bool.and_eq_true] at h
  obtain ⟨i, hi⟩ := List.getElem?_of_mem ho
  have hm : (o, i) ∈ ops.toList.zipIdx := by rw [List.mem_zipIdx_iff_getElem?]; exact hi
  have := List.all_eq_true.1 h.1 _ hm
  simp only [Bool.and_eq_true, hd] at this
  simpa [Nat.blt_eq] using this.2


theorem drawA_sound {E : Env} (hgo : GoS E.P E.ng E.go) (hm : E.P.follows .mixedOrders = true) : DrawS E := by
  intro rid ops fr s outs h F ρ w a b k cs0 cs hc hat hfr hb hcs
  unfold drawA at h
  have hok : drawOk ops = true ∧ (E.dfr && ops.toList.any isRecover) = false := by
    cases e1 : drawOk ops <;> cases e2 : (E.dfr && ops.toList.any isRecover) <;> first | exact ⟨rfl, rfl⟩ | (rw [e1, e2] at h; cases h)
  rw [hok.1, hok.2] at h
  simp only [Bool.not_true, Bool.false_or, cond_false] at h
  split at h
  · cases h
  rename_i fr' s' l pan hrun
  have hpairs : pairsOk l (loose ops) = true := by
    cases e : pairsOk l (loose ops) with
    | true => rfl
    | false => rw [e] at h; cases h
  rw [hpairs] at h
  simp only [Bool.not_true, cond_false] at h
  obtain ⟨frs, ss, kd, e1, e2, htr, hend, hf1, hf2, hm1, hm2, _, hpan⟩ := drawRun_trace ops.toList 0 rfl fr s [] none fr' s' l pan hrun
  obtain ⟨e3, e4⟩ := hend (Nat.zero_le _)
  have R : Runs E ops pan frs ss kd := ⟨drawOk_spec hok.1, fun j hj => htr j (Nat.zero_le _) hj, fun i j s1 s2 hij hj hbb h1 h2 id => by
    have := pairsOk_spec hpairs i j (mem_loose hij hj hbb)
    rw [(hf2 i s1 (Nat.zero_le _) (by omega) h1).1, (hf2 j s2 (Nat.zero_le _) hj h2).1] at this
    exact ⟨fun x y => land_zero this.1 x y, fun x y => land_zero this.2 x y⟩, fun j ch hp => by
      rcases hpan j ch hp with h | ⟨_, a, b⟩
      · cases h
      · exact ⟨a, b⟩⟩
  subst e1; subst e2; subst e3; subst e4
  have hrec : E.dfr = true → ∀ o, o ∈ ops.toList → isRecover o = false := by
    intro hd o ho
    have := hok.2
    rw [hd, Bool.true_and] at this
    cases e : isRecover o with
    | false => rfl
    | true => exact absurd (List.any_eq_true.2 ⟨o, ho, e⟩) (by rw [this]; simp)
  have hwfM := R.wf hat.wf (Nat.le_refl _)
  -- the rest, once the footprints are known to be at hand
  have main : (∀ i, (lorAll l).1.testBit i = true → F i) → (∀ i, (ss 0).n ≤ i → i < (ss ops.size).n → ρ i = none) →
      Boom E ops pan frs ss kd F ρ { w with drawn := w.drawn + 1 } a b cs (lone (b.atR a (.code (.region rid ops true) :: k)) cs w) ∨
      ∃ (D : Nat → Bool) (ρ' : Rho) (a' : Act) (w' : World), (∀ i, i < ops.size → D i = true) ∧ J E ops frs ss kd F ρ { w with drawn := w.drawn + 1 } a D ρ' a' w' ∧
        Steps E.P (lone (b.atR a (.code (.region rid ops true) :: k)) cs w) (lone (b.atR a' k) cs w') := by
    intro hcF hcρ
    have hFi : ∀ i s1, i < ops.size → (kd i).st = some s1 → ∀ id, s1.fp.testBit id = true → F id := by
      intro i s1 hi ho id hid
      exact hcF id ((lorAll_fp id l).2 ⟨_, (hf2 i s1 (Nat.zero_le _) hi ho).2, hid⟩)
    have hrepl : ∀ i, (Array.replicate ops.size false).getD i false = false := fun i => by
      rw [Array.getD_eq_getD_getElem?, Array.getElem?_replicate]
      by_cases h : i < ops.size <;> simp [h]
    have hDe : (fun i => (Array.replicate ops.size false).getD i false) = fun _ => false := funext hrepl
    have hHD0 : ∀ i id, HD ss kd (fun _ => false) i id = (ss 0).H.get id := by
      intro i id
      induction i with
      | zero => rfl
      | succ i ih =>
        simp only [HD]
        cases (kd i).st with
        | none => exact ih
        | some x => simp only [Bool.false_and, Bool.false_eq_true, if_false]; exact ih
    have hTD0 : ∀ i t, TD ops frs (fun _ => false) i t = (frs 0).t.get t := by
      intro i t
      induction i with
      | zero => rfl
      | succ i ih => simp only [TD, Bool.false_eq_true, false_and, if_false]; exact ih
    have hJ0 : J E ops frs ss kd F ρ { w with drawn := w.drawn + 1 } a (fun i => (Array.replicate ops.size false).getD i false) ρ a { w with drawn := w.drawn + 1 } := by
      rw [hDe]
      refine ⟨⟨Rho.le_refl ρ, fun id h1 h2 => absurd h1 h2, ?_, Nat.le_refl _, fun _ _ _ => rfl, ?_, ?_, rfl, rfl, rfl⟩, ?_, hfr.size, rfl, ?_, ?_⟩
      · rw [show HD ss kd (fun _ => false) ops.size = (ss 0).H.get from funext (hHD0 ops.size)]
        exact ⟨hat.inv.rel, hat.inv.apart⟩
      · rintro id kk ⟨i, s1, _, h1, _⟩; cases h1
      · intro id hl
        rw [hHD0] at hl
        exact .inl hl
      · intro t v ht
        rw [hTD0] at ht
        exact hfr.tmps t v ht
      · intro i _ h1; cases h1
      · intro i _ h1; cases h1
    have hgo2 := draw_go (F := F) (ρ0 := ρ) (w0 := { w with drawn := w.drawn + 1 }) (a0 := a) (cs0 := cs0) (cs := cs) (b := b) ⟨hgo, R, hat.wf, hat.glob, hb, hcs, hrec, hFi, hcρ⟩ k ops.size (w.tape w.drawn (.order b.fn rid)) (Array.replicate ops.size false) ρ a { w with drawn := w.drawn + 1 } (by simp) (by
      have := List.countP_le_length (p := fun i => !(Array.replicate ops.size false).getD i false) (l := List.range ops.size)
      simpa using this) (by rw [hDe]; intro j _ h1; cases h1) hJ0
    have hstep0 := stepR_region_draw (P := E.P) (b := b) (a := a) (k := k) (cs := cs) (w := w) (ops := ops) (id := rid)
    have hsched : Region.schedule (E.P.follows .mixedOrders) ops (w.tape w.drawn (.order b.fn rid)) = Region.linearise.go .any ops ops.size (w.tape w.drawn (.order b.fn rid)) (Array.replicate ops.size false) [] := by
      simp only [Region.schedule, hm, Bool.true_or, if_true]; rfl
    rw [hsched] at hstep0
    rcases hgo2 with ⟨j2, ch, ch', D, ρ2, a2, w2, todo, c1, c2, c3, c4, c5, c6, c7, c8, c9⟩ | ⟨D, ρ2, a2, w2, h1, h2, h3⟩
    · exact .inl ⟨j2, ch, ch', D, ρ2, a2, w2, todo, c1, c2, c3, c4, c5, c6, c7, c8, .head hstep0 c9⟩
    · exact .inr ⟨D, ρ2, a2, w2, h1, h2, .head hstep0 h3⟩
  -- which blocks are new, at most
  have hNNle : ∀ D id, NN ops.size ss kd D id → (ss 0).n ≤ id ∧ id < (ss ops.size).n := by
    rintro D id ⟨i, s1, b1, b2, b3, b4, b5⟩
    have hi : (ss (i + 1)).n = s1.n := R.n_some b1 b3
    have h1 := R.n_mono (i := 0) (j := i) (Nat.zero_le _) (by omega)
    have h2 := R.n_mono (i := i + 1) (j := ops.size) (by omega) (Nat.le_refl _)
    omega
  have hwrb : ∀ i s1, i < ops.size → (kd i).st = some s1 → ∀ id, s1.wr.testBit id = true → (Nat.lor (ss 0).wr (lorAll l).2).testBit id = true := by
    intro i s1 b1 b3 id b4
    rw [testBit_lor, Bool.or_eq_true]
    exact .inr ((lorAll_wr id l).2 ⟨_, (hf2 i s1 (Nat.zero_le _) b1 b3).2, b4⟩)
  have hfpb : ∀ i s1, i < ops.size → (kd i).st = some s1 → ∀ id, s1.fp.testBit id = true → (Nat.lor (ss 0).fp (lorAll l).1).testBit id = true := by
    intro i s1 b1 b3 id b4
    rw [testBit_lor, Bool.or_eq_true]
    exact .inr ((lorAll_fp id l).2 ⟨_, (hf2 i s1 (Nat.zero_le _) b1 b3).2, b4⟩)
  -- what nobody wrote is as it was
  have hsame : ∀ id, (∀ i s1, i < ops.size → (kd i).st = some s1 → s1.wr.testBit id = false) → ∀ m, m ≤ ops.size → (ss m).H.get id = (ss 0).H.get id := by
    intro id hno m
    induction m with
    | zero => intro _; rfl
    | succ m ih =>
      intro hm2
      rw [R.get (by omega) id]
      cases ho : (kd m).st with
      | none => exact ih (by omega)
      | some s1 =>
        simp only [hno m s1 (by omega) ho, Bool.false_eq_true, if_false]
        exact ih (by omega)
  cases pan with
  | none =>
    simp only [fnat_eq, Except.ok.injEq] at h
    subst h
    obtain ⟨hcF, hcρ⟩ := hc _ _ (List.mem_singleton.2 rfl)
    rcases main (fun i hi => hcF i (by rw [testBit_lor, hi, Bool.or_true])) hcρ with ⟨j2, ch, ch', D, ρ2, a2, w2, todo, c1, _⟩ | ⟨D, ρ', a', w', hall, hJ, hsteps⟩
    · cases c1
    have hHD : ∀ id, HD ss kd D ops.size id = (ss ops.size).H.get id := fun id => R.all D id (fun i s1 hi _ _ => hall i hi) ops.size (Nat.le_refl _)
    have hNN : ∀ id, NN ops.size ss kd D id ↔ (ss 0).n ≤ id ∧ id < (ss ops.size).n := by
      intro id
      refine ⟨hNNle D id, ?_⟩
      rintro ⟨h1, h2⟩
      have key : ∀ m, m ≤ ops.size → id < (ss m).n → NN ops.size ss kd D id := by
        intro m
        induction m with
        | zero => intro _ h; omega
        | succ m ih =>
          intro hm2 hlt
          by_cases h3 : id < (ss m).n
          · exact ih (by omega) h3
          · cases ho : (kd m).st with
            | none => rw [R.none (by omega) ho] at hlt; exact absurd hlt h3
            | some s1 => exact ⟨m, s1, by omega, hall m (by omega), ho, by omega, by rw [← R.n_some (by omega) ho]; exact hlt⟩
      exact key ops.size (Nat.le_refl _) h2
    have hcsu : StkOk E.dfr ρ' (ss ops.size).u cs0 cs := by rw [R.u_eq (Nat.le_refl _)]; exact hcs.mono hJ.g.le
    refine ⟨.normal, frs ops.size, _, ρ', .normal, a', w', cs, List.mem_singleton.2 rfl, .normal, ⟨hJ.size, fun t v ht => hJ.tm t v (by rw [R.allT D hall t ops.size (Nat.le_refl _)]; exact ht), ?_⟩, ?_, hcsu, fun _ => R.u_eq (Nat.le_refl _), hsteps⟩
    · rw [R.d_eq (Nat.le_refl _), hJ.dfr]
      exact hfr.dfr.mono fun _ _ h => h.mono hJ.g.le
    · refine ⟨hJ.g.le, fun id h1 h2 => (hNN id).1 (hJ.g.dom id h1 h2), R.n_mono (Nat.zero_le _) (Nat.le_refl _), ⟨hwfM.none, hwfM.le⟩, ?_, hJ.g.size, ?_, ?_, ?_, ?_, ?_, ?_, ?_, ?_, hJ.g.tape, hJ.g.os, hJ.g.output⟩
      · have := hJ.g.inv
        rw [show HD ss kd D ops.size = (ss ops.size).H.get from funext hHD] at this
        exact this
      · intro b2 hb2 hk
        exact hJ.g.keep b2 hb2 fun id kk ⟨i, s1, c1, c2, c3, c4⟩ => hk id kk (hwrb i s1 c1 c3 id c4)
      · intro id kk h1 h2 h3 h4
        rcases hJ.g.fresh id kk ((hNN id).2 ⟨h1, h2⟩) (by rw [hHD]; exact h3) h4 with h5 | ⟨id0, k0, ⟨i, s1, d1, d2, d3, d4⟩, c2, c3, c4, c5⟩
        · exact .inl h5
        · exact .inr ⟨id0, k0, hwrb i s1 d1 d3 id0 d4, c2, (hHD id0).symm.trans c3, c4, c5⟩
      · intro id hno
        refine hsame id (fun i s1 h1 h2 => ?_) ops.size (Nat.le_refl _)
        cases e : s1.wr.testBit id with
        | false => rfl
        | true => exact absurd ((hwrb i s1 h1 h2 id e).symm.trans hno) (by simp)
      · intro id hl
        rcases hJ.g.live id (by rw [hHD]; exact hl) with h1 | h1
        · exact .inl h1
        · exact .inr ((hNN id).1 h1)
      · intro id h1
        show (Nat.lor (ss 0).fp (lorAll l).1).testBit id = true
        rw [testBit_lor, h1]; rfl
      · intro id h1
        show (Nat.lor (ss 0).wr (lorAll l).2).testBit id = true
        rw [testBit_lor, h1]; rfl
      · intro id h1
        have h1 : (Nat.lor (ss 0).wr (lorAll l).2).testBit id = true := h1
        rw [testBit_lor, Bool.or_eq_true] at h1
        rcases h1 with h1 | h1
        · exact .inl h1
        · obtain ⟨f, hf, h2⟩ := (lorAll_wr id l).1 h1
          rcases hm2 f hf with h3 | ⟨j, s1, _, c2, c3, rfl⟩
          · cases h3
          · exact .inr (hfpb j s1 c2 c3 id ((hJ.nw j c2 (hall j c2) s1 c3).2 id h2))
      · intro id h1 h2
        obtain ⟨i, s1, b1, b2, b3, b4, b5⟩ := (hNN id).2 ⟨h1, h2⟩
        have := (hJ.nw i b1 b2 s1 b3).1 id b4 b5
        exact ⟨hwrb i s1 b1 b3 id this.1, hfpb i s1 b1 b3 id this.2⟩
  | some x =>
    obtain ⟨j, chain⟩ := x
    have hck : (Nat.beq (Nat.mod (lorTwo (Region.before ops).toList j l).2 (bit (ss 0).n)) 0 && Nat.blt (lorTwo (Region.before ops).toList j l).1 (bit (ss ops.size).n)) = true := by
      cases e : (Nat.beq (Nat.mod (lorTwo (Region.before ops).toList j l).2 (bit (ss 0).n)) 0 && Nat.blt (lorTwo (Region.before ops).toList j l).1 (bit (ss ops.size).n)) with
      | true => rfl
      | false => simp only [e] at h; cases h
    simp only [hck, Bool.not_true, cond_false, fnat_eq, keepK_eq, Except.ok.injEq] at h
    subst h
    obtain ⟨hcF, hcρ⟩ := hc _ _ (List.mem_singleton.2 rfl)
    rcases main (fun i hi => hcF i (by simp only [testBit_lor, hi, Bool.or_true, Bool.true_or])) hcρ with ⟨j2, ch, ch', D, ρ', a', w', todo, c1, cD, c3, c4, g, c6, c7, c8, hsteps⟩ | ⟨D, ρ', a', w', hall, hJ, _⟩
    rotate_left
    · exfalso
      obtain ⟨hj, s1, hk⟩ := R.pan j chain rfl
      have := hJ.calm j hj (hall j hj)
      rw [hk] at this; cases this
    cases c1
    simp only [Bool.and_eq_true] at hck
    obtain ⟨hlw, hgw⟩ := hck
    have hb0 : bit (ss ops.size).n = 2 ^ (ss ops.size).n := by unfold bit; show 1 <<< _ = _; rw [Nat.shiftLeft_eq, Nat.one_mul]
    have hspec : ∀ i, i ∈ bitsOf 1048576 (lorTwo (Region.before ops).toList j l).1 ↔ (lorTwo (Region.before ops).toList j l).1.testBit i = true := by
      have hm' := hgw
      have hn := hwfM.le
      rw [Nat.blt_eq, hb0] at hm'
      obtain ⟨K, hK⟩ : ∃ K, K = 1048576 := ⟨_, rfl⟩
      rw [← hK] at hn ⊢
      intro i; exact bitsOf_spec K _ (Nat.lt_of_lt_of_le hm' (Nat.pow_le_pow_right (by decide) hn)) i
    have hget : ∀ id, (keepIds (ss ops.size).H ((bitsOf 1048576 (lorTwo (Region.before ops).toList j l).1).filter fun id => !(lorTwo (Region.before ops).toList j l).2.testBit id) (ss 0).H).get id =
        if (lorTwo (Region.before ops).toList j l).1.testBit id = true ∧ (lorTwo (Region.before ops).toList j l).2.testBit id = false then (ss ops.size).H.get id else (ss 0).H.get id := by
      intro id
      rw [keepIds_get (fun i hi => by
        have h1 := (hspec i).1 (List.mem_filter.1 hi).1
        have h2 := lt_bit hgw h1
        have := hwfM.le
        omega)]
      by_cases hx : (lorTwo (Region.before ops).toList j l).1.testBit id = true ∧ (lorTwo (Region.before ops).toList j l).2.testBit id = false
      · rw [if_pos hx, if_pos (List.mem_filter.2 ⟨(hspec id).2 hx.1, by simp [hx.2]⟩)]
      · rw [if_neg hx, if_neg]
        intro hmem
        obtain ⟨h1, h2⟩ := List.mem_filter.1 hmem
        exact hx ⟨(hspec id).1 h1, by simpa using h2⟩
    -- of each block: as it stands, or nothing of a new one
    have hrel : ∀ id, (keepIds (ss ops.size).H ((bitsOf 1048576 (lorTwo (Region.before ops).toList j l).1).filter fun id => !(lorTwo (Region.before ops).toList j l).2.testBit id) (ss 0).H).get id = HD ss kd D ops.size id ∨
        ((keepIds (ss ops.size).H ((bitsOf 1048576 (lorTwo (Region.before ops).toList j l).1).filter fun id => !(lorTwo (Region.before ops).toList j l).2.testBit id) (ss 0).H).get id = none ∧ (ss 0).n ≤ id) := by
      intro id
      rw [hget id]
      obtain ⟨hl1, hl2⟩ := lorTwo_spec (Region.before ops).toList j id l
      by_cases hw2 : (lorTwo (Region.before ops).toList j l).2.testBit id = true
      · right
        rw [if_neg (by rw [hw2]; simp)]
        have hid : (ss 0).n ≤ id := by
          rcases Nat.lt_or_ge id (ss 0).n with h | h
          · rw [low_free hlw h] at hw2; cases hw2
          · exact h
        exact ⟨hat.wf.none id hid, hid⟩
      · left
        have hno : ∀ f ∈ l, f.wr.testBit id = true → f.i = j ∨ befL (Region.before ops).toList j f.i = true := by
          intro f hf hfw
          by_cases hx : f.i = j ∨ befL (Region.before ops).toList j f.i = true
          · exact hx
          · exact absurd (hl2.2 ⟨f, hf, hx, hfw⟩) hw2
        have hDw : ∀ i s1, i < ops.size → (kd i).st = some s1 → s1.wr.testBit id = true → D i = true := by
          intro i s1 hi hs hw
          rcases hno _ (hf2 i s1 (Nat.zero_le _) hi hs).2 hw with h | h
          · have h : i = j := h
            rw [h]; exact cD
          · exact c3 i h
        have hall := R.all D id hDw ops.size (Nat.le_refl _)
        rw [hall]
        by_cases hw1 : (lorTwo (Region.before ops).toList j l).1.testBit id = true
        · rw [if_pos ⟨hw1, by simpa using hw2⟩]
        · rw [if_neg (fun e => hw1 e.1)]
          refine (hsame id (fun i s1 h1 h2 => ?_) ops.size (Nat.le_refl _)).symm
          cases e : s1.wr.testBit id with
          | false => rfl
          | true =>
            have hf := (hf2 i s1 (Nat.zero_le _) h1 h2).2
            exact absurd (hl1.2 ⟨_, hf, hno _ hf e, e⟩) hw1
    have hsome : ∀ id, (keepIds (ss ops.size).H ((bitsOf 1048576 (lorTwo (Region.before ops).toList j l).1).filter fun id => !(lorTwo (Region.before ops).toList j l).2.testBit id) (ss 0).H).get id ≠ none →
        (keepIds (ss ops.size).H ((bitsOf 1048576 (lorTwo (Region.before ops).toList j l).1).filter fun id => !(lorTwo (Region.before ops).toList j l).2.testBit id) (ss 0).H).get id = HD ss kd D ops.size id := by
      intro id h
      rcases hrel id with h1 | h1
      · exact h1
      · exact absurd h1.1 h
    have hnone : ∀ id, HD ss kd D ops.size id = none → (keepIds (ss ops.size).H ((bitsOf 1048576 (lorTwo (Region.before ops).toList j l).1).filter fun id => !(lorTwo (Region.before ops).toList j l).2.testBit id) (ss 0).H).get id = none := by
      intro id h
      rcases hrel id with h1 | h1
      · rw [h1]; exact h
      · exact h1.1
    generalize (keepIds (ss ops.size).H ((bitsOf 1048576 (lorTwo (Region.before ops).toList j l).1).filter fun id => !(lorTwo (Region.before ops).toList j l).2.testBit id) (ss 0).H) = H2 at *
    have hcsu : StkOk E.dfr ρ' (ss ops.size).u cs0 cs := by rw [R.u_eq (Nat.le_refl _)]; exact hcs.mono g.le
    obtain ⟨hdd, hdt⟩ := dropAll_get ops.toList (frs 0) (drawOk_dst hok.1)
    refine ⟨.panic chain, dropAll ops.toList (frs 0), _, ρ', .panic ch', a', w', cs, List.mem_singleton.2 rfl, .panic _ _ c4, ⟨c7, fun t v ht => ?_, ?_⟩, ?_, hcsu, fun _ => R.u_eq (Nat.le_refl _), todo, hsteps⟩
    · obtain ⟨h1, h2⟩ := hdt t v ht
      exact c6 t v (fun i o ho => h2 o (by rw [Array.mem_toList_iff]; exact Array.mem_of_getElem? ho)) h1
    · rw [hdd, c8]
      exact hfr.dfr.mono fun _ _ h => h.mono g.le
    · have hmask : ∀ id, (ss 0).n ≤ id → id < (ss ops.size).n → (maskOf (ss 0).n (ss ops.size).n).testBit id = true := fun id h1 h2 => by rw [mask_bit]; simp [h1, h2]
      have hwr2 : ∀ id, WW ops.size kd D id → (Nat.lor (Nat.lor (ss 0).wr (lorAll l).2) (maskOf (ss 0).n (ss ops.size).n)).testBit id = true := by
        rintro id ⟨i, s1, d1, d2, d3, d4⟩
        rw [testBit_lor, hwrb i s1 d1 d3 id d4]; rfl
      refine ⟨g.le, fun id h1 h2 => hNNle D id (g.dom id h1 h2), R.n_mono (Nat.zero_le _) (Nat.le_refl _), ⟨fun id hid => ?_, hwfM.le⟩, ⟨fun id o hF ho => ?_, fun i1 i2 x y h1 h2 h3 h4 => ?_⟩, g.size, ?_, ?_, ?_, ?_, ?_, ?_, ?_, ?_, g.tape, g.os, g.output⟩
      · refine hnone id ?_
        cases e : HD ss kd D ops.size id with
        | none => rfl
        | some o =>
          rcases g.live id (by rw [e]; simp) with h1 | h1
          · have hn := R.n_mono (i := 0) (j := ops.size) (Nat.zero_le _) (Nat.le_refl _)
            exact absurd (hat.wf.none id (by have : (ss ops.size).n ≤ id := hid; omega)) h1
          · have := hNNle D id h1
            have : (ss ops.size).n ≤ id := hid
            omega
      · exact g.inv.rel id o hF ((hsome id (by rw [show H2.get id = some o from ho]; simp)).symm.trans ho)
      · exact g.inv.apart i1 i2 x y h1 h2 (by rw [← hsome i1 h3]; exact h3) (by rw [← hsome i2 h4]; exact h4)
      · intro b2 hb2 hk
        exact g.keep b2 hb2 fun id kk hW => hk id kk (hwr2 id hW)
      · intro id kk h1 h2 h3 h4
        have h3' : HD ss kd D ops.size id ≠ none := by rw [← hsome id h3]; exact h3
        have hn : NN ops.size ss kd D id := by
          rcases g.live id h3' with h | h
          · exact absurd (hat.wf.none id h1) h
          · exact h
        rcases g.fresh id kk hn h3' h4 with h5 | ⟨id0, k0, d1, d2, d3, d4, d5⟩
        · exact .inl h5
        · exact .inr ⟨id0, k0, hwr2 id0 d1, d2, hnone id0 d3, d4, d5⟩
      · intro id hno
        have hno : (Nat.lor (Nat.lor (ss 0).wr (lorAll l).2) (maskOf (ss 0).n (ss ops.size).n)).testBit id = false := hno
        rw [testBit_lor, Bool.or_eq_false_iff] at hno
        have hnw : ∀ i s1, i < ops.size → (kd i).st = some s1 → s1.wr.testBit id = false := by
          intro i s1 h1 h2
          cases e : s1.wr.testBit id with
          | false => rfl
          | true => exact absurd ((hwrb i s1 h1 h2 id e).symm.trans hno.1) (by simp)
        have hall := R.all D id (fun i s1 h1 h2 h3 => absurd ((hnw i s1 h1 h2).symm.trans h3) (by simp)) ops.size (Nat.le_refl _)
        rcases hrel id with h1 | h1
        · exact h1.trans (hall.trans (hsame id hnw ops.size (Nat.le_refl _)))
        · exact h1.1.trans (hat.wf.none id h1.2).symm
      · intro id hl
        rcases g.live id (by rw [← hsome id hl]; exact hl) with h1 | h1
        · exact .inl h1
        · exact .inr (hNNle D id h1)
      · intro id h1
        show (Nat.lor (Nat.lor (ss 0).fp (lorAll l).1) _).testBit id = true
        simp only [testBit_lor, h1, Bool.true_or]
      · intro id h1
        show (Nat.lor (Nat.lor (ss 0).wr (lorAll l).2) _).testBit id = true
        simp only [testBit_lor, h1, Bool.true_or]
      · intro id h1
        right
        show (Nat.lor (Nat.lor (ss 0).fp (lorAll l).1) (Nat.lor (Nat.lor (ss 0).wr (lorAll l).2) (maskOf (ss 0).n (ss ops.size).n))).testBit id = true
        rw [testBit_lor, Bool.or_eq_true]
        exact .inr h1
      · intro id h1 h2
        have := hmask id h1 h2
        refine ⟨?_, ?_⟩
        · show (Nat.lor (Nat.lor (ss 0).wr (lorAll l).2) (maskOf (ss 0).n (ss ops.size).n)).testBit id = true
          rw [testBit_lor, this, Bool.or_true]
        · show (Nat.lor (Nat.lor (ss 0).fp (lorAll l).1) (Nat.lor (Nat.lor (ss 0).wr (lorAll l).2) (maskOf (ss 0).n (ss ops.size).n))).testBit id = true
          simp only [testBit_lor, this, Bool.or_true]

end Go.Proofs.YthogkihfbjbghaaGreatDoor.Abs
