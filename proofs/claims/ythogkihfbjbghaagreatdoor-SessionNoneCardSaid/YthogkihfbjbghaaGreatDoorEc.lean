/- an interpreter of closed code, and its soundness. -/
import Derived.Test.YthogkihfbjbghaaGreatDoorEb
import Derived.Laws.Cells
import Derived.ChangeKeysEq
namespace Go.Proofs.YthogkihfbjbghaaGreatDoor.Abs

/-- nothing but footprints has grown -/
structure RO (s s' : St) : Prop where
  H : s'.H = s.H
  n : s'.n = s.n
  wr : s'.wr = s.wr
  u : s'.u = s.u
  fp : ∀ (id : Nat), s.fp.testBit id = true → s'.fp.testBit id = true

theorem RO.refl (s : St) : RO s s := ⟨rfl, rfl, rfl, rfl, fun _ h => h⟩
theorem RO.trans {a b c : St} (h : RO a b) (k : RO b c) : RO a c := ⟨k.H.trans h.H, k.n.trans h.n, k.wr.trans h.wr, k.u.trans h.u, fun i x => k.fp i (h.fp i x)⟩
theorem RO.foot (s : St) (id : Nat) : RO s { s with fp := Nat.lor s.fp (bit id) } := ⟨rfl, rfl, rfl, rfl, fun i h => by simp only [testBit_lor_bit, h, Bool.true_or]⟩
theorem RO.step {F : Nat → Prop} {ρ : Rho} {s s' : St} {w : World} (h : RO s s') (hwf : Wf s) (hinv : Inv F ρ s.H.get w) : PStep F ρ s w ρ s' w := .read hwf hinv h.H h.n h.wr h.fp
theorem RO.wf {s s' : St} (h : RO s s') (hwf : Wf s) : Wf s' := ⟨by rw [h.H, h.n]; exact hwf.none, by rw [h.n]; exact hwf.le⟩

section
variable {P : Program}

theorem descOf_ok {t : TypeId} {d : TypeDesc} {s s' : St} (h : D.run (descOf P t) s = .ok (d, s')) : P.underlying t = some d ∧ s' = s := by
  unfold descOf at h
  rw [undK_eq] at h
  split at h
  · obtain ⟨rfl, rfl⟩ := D.pure_ok h; exact ⟨‹_›, rfl⟩
  · cases h
theorem infoOf_ok {t : TypeId} {d : TypeInfo} {s s' : St} (h : D.run (infoOf P t) s = .ok (d, s')) : P.info? t = some d ∧ s' = s := by
  unfold infoOf at h
  rw [infoK_eq] at h
  split at h
  · obtain ⟨rfl, rfl⟩ := D.pure_ok h; exact ⟨‹_›, rfl⟩
  · cases h
theorem zeroOf_ok {t : TypeId} {z : Value} {s s' : St} (h : D.run (zeroOf P t) s = .ok (z, s')) : (∀ w, (zeroValue t).run P w = .ok z w) ∧ (∀ ρ, VRel ρ z z) ∧ s' = s ∧ z.cells.toList.all isCell = true := by
  obtain ⟨i, s1, h1, h2⟩ := D.bind_ok h
  obtain ⟨hi, rfl⟩ := infoOf_ok h1
  split at h2
  · rename_i v hv
    obtain ⟨hp, h2⟩ := D.guard_ok h2
    obtain ⟨rfl, rfl⟩ := D.pure_ok h2
    simp only [Bool.and_eq_true] at hp
    exact ⟨fun w => by simp [zeroValue, run_typeInfo w hi, hv], fun ρ => VRel.plain 9 _ hp.1, rfl, hp.2⟩
  · cases h2
theorem aggB_ok {t : TypeId} {b : Bool} {s s' : St} (h : D.run (aggB P t) s = .ok (b, s')) : (∀ w, (isAgg t).run P w = .ok b w) ∧ s' = s := by
  obtain ⟨d, s1, h1, h2⟩ := D.bind_ok h
  obtain ⟨hd, rfl⟩ := descOf_ok h1
  have key : ∀ w, (isAgg t).run P w = .ok (match d with | .struct _ | .array _ _ => true | _ => false) w := fun w => by
    simp only [isAgg, Sem.run_bind, run_underlying hd, Result.andThen_ok]
    cases d <;> rfl
  cases d <;> (obtain ⟨rfl, rfl⟩ := D.pure_ok h2; exact ⟨key, rfl⟩)
theorem run_sizeOf {t : TypeId} {i : TypeInfo} (h : P.info? t = some i) (w : World) : (sizeOf t).run P w = .ok i.size w := by
  simp [sizeOf, run_typeInfo w h]

theorem addrOf_ok {v : Value} {id off : Nat} {s s' : St} (h : D.run (addrOf v) s = .ok ((id, off), s')) : v = .pointer (some ⟨id, off, none⟩) ∧ s' = s := by
  unfold addrOf at h
  split at h
  · obtain ⟨e, rfl⟩ := D.pure_ok h; cases e; exact ⟨rfl, rfl⟩
  · cases h

theorem cellsB_ok {id : Nat} {x : List Value × TypeId × Bool × Bool} {s s' : St} (h : D.run (cellsB id) s = .ok (x, s')) :
    s.H.get id = some (.cells x.1 x.2.1 x.2.2.1 x.2.2.2) ∧ s' = { s with fp := Nat.lor s.fp (bit id) } := by
  obtain ⟨y, s1, h1, h2⟩ := D.bind_ok h
  obtain ⟨hx, rfl⟩ := getB_ok h1
  split at h2
  · obtain ⟨e, rfl⟩ := D.pure_ok h2; cases e; exact ⟨hx, rfl⟩
  · cases h2

theorem rowB_ok {id : Nat} {c : List Value} {s s' : St} (h : D.run (rowB id) s = .ok (c, s')) :
    (s.H.get id = some (.rom c) ∨ ∃ e m o, s.H.get id = some (.cells c e m o)) ∧ s' = { s with fp := Nat.lor s.fp (bit id) } := by
  obtain ⟨y, s1, h1, h2⟩ := D.bind_ok h
  obtain ⟨hx, rfl⟩ := getB_ok h1
  split at h2
  · obtain ⟨e, rfl⟩ := D.pure_ok h2; cases e; exact ⟨.inr ⟨_, _, _, hx⟩, rfl⟩
  · obtain ⟨e, rfl⟩ := D.pure_ok h2; cases e; exact ⟨.inl hx, rfl⟩
  · cases h2

theorem objB_ok {id : Nat} {o : Obj} {s s' : St} (h : D.run (objB id) s = .ok (o, s')) :
    s.H.get id = some (.obj o) ∧ s' = { s with fp := Nat.lor s.fp (bit id) } := by
  obtain ⟨x, s1, h1, h2⟩ := D.bind_ok h
  obtain ⟨hx, rfl⟩ := getB_ok h1
  split at h2
  · obtain ⟨e, rfl⟩ := D.pure_ok h2; cases e; exact ⟨hx, rfl⟩
  · cases h2

theorem foot_bit (s : St) (id : Nat) : (Nat.lor s.fp (bit id)).testBit id = true := by rw [testBit_lor_bit]; simp

theorem addr_add (b o j : Nat) : (⟨b, o, none⟩ : Addr).add j = ⟨b, o + j, none⟩ := by
  unfold Addr.add
  split
  · simp [*]
  · rfl

theorem cell_of_heap {w : World} {b o : Nat} {c : Array Value} {e : TypeId} {f : Nat × Nat} (h : w.heap[b]? = some (.cells c e f)) : w.cell? ⟨b, o, none⟩ = c[o]? := by
  simp [World.cell?, h]

theorem window_ok {c r : List Value} {off n : Nat} (h : window c off n = some r) : r = (c.drop off).take n ∧ r.length = n := by
  unfold window at h
  cases hb : Nat.beq ((c.drop off).take n).length n
  · simp only [hb, cond_false] at h; cases h
  · simp only [hb, cond_true, Option.some.injEq] at h
    exact ⟨h.symm, by rw [← h]; exact Nat.eq_of_beq_eq_true hb⟩

/-- a window of a row that lies -/
theorem WRel.window {ρ : Rho} {k : Blk} {c : List Value} {c' : Array Value} (h : WRel ρ k c c') {off n : Nat} {r : List Value}
    (hr : Go.Proofs.YthogkihfbjbghaaGreatDoor.Abs.window c off n = some r) : ∃ r' : List Value, r'.length = n ∧ LRel ρ r r' ∧ ∀ j v, r'[j]? = some v → c'[k.sh + off + j]? = some v := by
  obtain ⟨rfl, hn⟩ := window_ok hr
  have hlen : ∀ j, j < n → off + j < c.length := fun j hj => by simp at hn; omega
  refine ⟨(c'.toList.drop (k.sh + off)).take n, ?_, ⟨?_, fun i v v' hv hv' => ?_⟩, fun j v hj => ?_⟩
  · have := h.fits; simp at hn ⊢
    by_cases h0 : n = 0
    · omega
    · have := hlen (n - 1) (by omega); omega
  · have := h.fits; simp at hn ⊢
    by_cases h0 : n = 0
    · omega
    · have := hlen (n - 1) (by omega); omega
  · rw [List.getElem?_take] at hv hv'
    split at hv
    · rw [if_pos ‹_›] at hv'
      rw [List.getElem?_drop] at hv hv'
      obtain ⟨v2, h1, h2⟩ := h.cells _ _ hv
      have : c'.toList[k.sh + off + i]? = some v2 := by rw [Array.getElem?_toList, Nat.add_assoc]; exact h1
      rw [this] at hv'; cases hv'; exact h2
    · cases hv
  · rw [List.getElem?_take] at hj
    split at hj
    · rw [List.getElem?_drop, Array.getElem?_toList] at hj; exact hj
    · cases hj

theorem CRel.window {ρ : Rho} {k : Blk} {c : List Value} {e : TypeId} {m : Bool} {c' : Array Value} {e' : TypeId} {frz : Nat × Nat} (h : CRel ρ k c e m c' e' frz) {off n : Nat} {r : List Value}
    (hr : Go.Proofs.YthogkihfbjbghaaGreatDoor.Abs.window c off n = some r) : ∃ r' : List Value, r'.length = n ∧ LRel ρ r r' ∧ ∀ j v, r'[j]? = some v → c'[k.sh + off + j]? = some v := h.row.window hr

theorem run_loadCells_row {w : World} {b : Nat} {c' : Array Value} {e : TypeId} {f : Nat × Nat} (hb : w.heap[b]? = some (.cells c' e f)) {o n : Nat} {r' : List Value} (hn : r'.length = n)
    (h : ∀ j v, r'[j]? = some v → c'[o + j]? = some v) : (loadCells ⟨b, o, none⟩ n).run P w = .ok r'.toArray w := by
  subst hn
  refine run_loadCells_list w _ r' fun j v hj => ?_
  rw [addr_add, cell_of_heap hb]; exact h j v hj

/-- the block that a block of the heap's lies in -/
theorem Inv.cells {F : Nat → Prop} {ρ : Rho} {H : Nat → Option AObj} {w : World} (h : Inv F ρ H w) {id : Nat} {c : List Value} {e : TypeId} {m o : Bool} (hF : F id) (hH : H id = some (.cells c e m o)) :
    ∃ k c' e' frz, ρ id = some k ∧ w.heap[k.b]? = some (.cells c' e' frz) ∧ CRel ρ k c e m c' e' frz := by
  obtain ⟨k, hk, c', e', frz, a, b⟩ := h.rel id _ hF hH
  exact ⟨k, c', e', frz, hk, a, b⟩

theorem Inv.row {F : Nat → Prop} {ρ : Rho} {H : Nat → Option AObj} {w : World} (h : Inv F ρ H w) {id : Nat} {c : List Value} (hF : F id) (hH : H id = some (.rom c) ∨ ∃ e m o, H id = some (.cells c e m o)) :
    ∃ k c' e' frz, ρ id = some k ∧ w.heap[k.b]? = some (.cells c' e' frz) ∧ WRel ρ k c c' := by
  rcases hH with hH | ⟨e, m, o, hH⟩
  · obtain ⟨k, hk, c', e', frz, a, b⟩ := h.rel id _ hF hH
    exact ⟨k, c', e', frz, hk, a, b⟩
  · obtain ⟨k, c', e', frz, hk, a, b⟩ := h.cells hF hH
    exact ⟨k, c', e', frz, hk, a, b.row⟩

theorem loadA_sound {t : TypeId} {id off : Nat} {s s' : St} {v : Value} (h : D.run (loadA P t id off) s = .ok (v, s')) {F : Nat → Prop} {ρ : Rho} {w : World} (hF : ∀ i, s'.fp.testBit i = true → F i)
    (hinv : Inv F ρ s.H.get w) : RO s s' ∧ ∃ k v', ρ id = some k ∧ (loadVar t ⟨k.b, k.sh + off, none⟩).run P w = .ok v' w ∧ VRel ρ v v' := by
  unfold loadA at h
  obtain ⟨c, s1, h1, h2⟩ := D.bind_ok h
  obtain ⟨hc, rfl⟩ := rowB_ok h1
  obtain ⟨b, s2, h3, h4⟩ := D.bind_ok h2
  obtain ⟨hagg, rfl⟩ := aggB_ok h3
  cases b with
  | true =>
    simp only at h4
    obtain ⟨i, s3, h5, h6⟩ := D.bind_ok h4
    obtain ⟨hi, rfl⟩ := infoOf_ok h5
    split at h6
    · rename_i r hr
      obtain ⟨rfl, rfl⟩ := D.pure_ok h6
      obtain ⟨k, c', e', frz, hk, hb, hrel⟩ := hinv.row (hF id (foot_bit s id)) hc
      obtain ⟨r', hn, hl, hcell⟩ := hrel.window hr
      refine ⟨RO.foot s id, k, .agg r'.toArray, hk, ?_, VRel.agg_iff.2 ⟨_, rfl, by simpa using hl⟩⟩
      simp [loadVar, hagg, run_sizeOf hi, run_loadCells_row hb hn hcell]
    · cases h6
  | false =>
    simp only at h4
    split at h4
    · rename_i v1 hv
      obtain ⟨rfl, rfl⟩ := D.pure_ok h4
      obtain ⟨k, c', e', frz, hk, hb, hrel⟩ := hinv.row (hF id (foot_bit s id)) hc
      obtain ⟨v', h5, h6⟩ := hrel.cells _ _ hv
      refine ⟨RO.foot s id, k, v', hk, ?_, h6⟩
      simp [loadVar, hagg, cell_of_heap hb, h5]
    · cases h4

end
end Go.Proofs.YthogkihfbjbghaaGreatDoor.Abs
namespace Go.Proofs.YthogkihfbjbghaaGreatDoor.Abs

theorem setList_eq {β : Type} : ∀ (c : List Value) (i : Nat) (vs : List Value) (k : List Value → β), setList c i vs k = k (setList c i vs id)
  | c, 0, [], k => by cases c <;> rfl
  | [], 0, v :: vs, k => rfl
  | [], i + 1, [], k => rfl
  | [], i + 1, v :: vs, k => rfl
  | x :: c, 0, v :: vs, k => by
    simp only [setList, forceV_eq]; rw [setList_eq c 0 vs (fun c => k (v :: c)), setList_eq c 0 vs (fun c => id (v :: c))]; rfl
  | x :: c, i + 1, vs, k => by
    cases vs with
    | nil => simp only [setList]; rw [setList_eq c i [] (fun c => k (x :: c)), setList_eq c i [] (fun c => id (x :: c))]; rfl
    | cons v vs => simp only [setList]; rw [setList_eq c i (v :: vs) (fun c => k (x :: c)), setList_eq c i (v :: vs) (fun c => id (x :: c))]; rfl

def setL (c : List Value) (i : Nat) (vs : List Value) : List Value := setList c i vs id

theorem setL_length : ∀ (c : List Value) (i : Nat) (vs : List Value), i + vs.length ≤ c.length → (setL c i vs).length = c.length
  | c, 0, [], _ => by cases c <;> rfl
  | [], 0, v :: vs, h => by simp at h
  | [], i + 1, vs, h => by simp at h
  | x :: c, 0, v :: vs, h => by
    unfold setL; simp only [setList]; rw [forceV_eq, setList_eq]
    have := setL_length c 0 vs (by simp at h ⊢; omega)
    simp only [setL] at this; simp [this]
  | x :: c, i + 1, vs, h => by
    have := setL_length c i vs (by simp at h ⊢; omega)
    unfold setL at this ⊢
    cases vs <;> (simp only [setList]; rw [setList_eq]; simp [this])

theorem setL_get : ∀ (c : List Value) (i : Nat) (vs : List Value) (j : Nat), i + vs.length ≤ c.length → (setL c i vs)[j]? = if i ≤ j ∧ j < i + vs.length then vs[j - i]? else c[j]?
  | c, 0, [], j, _ => by
    have : setL c 0 [] = c := by cases c <;> rfl
    rw [this, if_neg (by simp)]
  | [], 0, v :: vs, j, h => by simp at h
  | [], i + 1, vs, j, h => by simp at h
  | x :: c, 0, v :: vs, j, h => by
    have ih := setL_get c 0 vs
    unfold setL at ih ⊢; simp only [setList]; rw [forceV_eq, setList_eq]
    cases j with
    | zero => simp
    | succ j =>
      simp only [id, List.getElem?_cons_succ]
      rw [ih j (by simp at h ⊢; omega)]
      simp
  | x :: c, i + 1, vs, j, h => by
    have ih := setL_get c i vs
    have e : setL (x :: c) (i + 1) vs = x :: setL c i vs := by
      unfold setL; cases vs <;> (simp only [setList]; rw [setList_eq]; rfl)
    rw [e]
    cases j with
    | zero => simp
    | succ j =>
      simp only [List.getElem?_cons_succ]
      rw [ih j (by simp at h ⊢; omega)]
      by_cases hc : i ≤ j ∧ j < i + vs.length
      · rw [if_pos hc, if_pos (by omega)]; congr 1; omega
      · rw [if_neg hc, if_neg (by omega)]

/-- cells put one behind the other -/
def spl (c : Array Value) (o : Nat) : List Value → Array Value
  | [] => c
  | v :: vs => spl (c.setIfInBounds o v) (o + 1) vs

theorem spl_size : ∀ (vs : List Value) (c : Array Value) (o : Nat), (spl c o vs).size = c.size
  | [], c, o => rfl
  | v :: vs, c, o => by rw [spl, spl_size vs]; simp

theorem spl_get : ∀ (vs : List Value) (c : Array Value) (o j : Nat), o + vs.length ≤ c.size → (spl c o vs)[j]? = if o ≤ j ∧ j < o + vs.length then vs[j - o]? else c[j]?
  | [], c, o, j, _ => by simp [spl]; intro a b; omega
  | v :: vs, c, o, j, h => by
    rw [spl, spl_get vs _ _ _ (by simp at h ⊢; omega)]
    by_cases e : j = o
    · subst e
      rw [if_neg (by omega), if_pos (by simp)]
      simp at h
      have hlt : j < c.size := by omega
      simp [hlt]
    · by_cases hc : o + 1 ≤ j ∧ j < o + 1 + vs.length
      · rw [if_pos hc, if_pos (by simp; omega)]
        obtain ⟨m, rfl⟩ : ∃ m, j = o + 1 + m := ⟨j - (o + 1), by omega⟩
        simp [show o + 1 + m - o = m + 1 by omega]
      · rw [if_neg hc, if_neg (by simp; omega), Array.getElem?_setIfInBounds_ne (by omega)]

theorem isCell_one {v : Value} (h : isCell v = true) : v.oneCell' = true := by cases v <;> first | rfl | cases h

section
variable {P : Program}

/-- a world in which one block alone is turned -/
structure Turned (w w' : World) (b : Nat) : Prop where
  size : w'.heap.size = w.heap.size
  same : ∀ (i : Nat), i ≠ b → w'.heap[i]? = w.heap[i]?
  tape : w'.tape = w.tape
  os : w'.os = w.os
  output : w'.output = w.output

theorem Turned.refl (w : World) (b : Nat) : Turned w w b := ⟨rfl, fun _ _ => rfl, rfl, rfl, rfl⟩
theorem Turned.trans {a b c : World} {i : Nat} (h : Turned a b i) (k : Turned b c i) : Turned a c i :=
  ⟨k.size.trans h.size, fun j hj => (k.same j hj).trans (h.same j hj), k.tape.trans h.tape, k.os.trans h.os, k.output.trans h.output⟩

theorem run_store_row {w : World} {b : Nat} {c : Array Value} {e : TypeId} {f : Nat × Nat} (hb : w.heap[b]? = some (.cells c e f)) {o : Nat} {v : Value} (ho : o < c.size)
    (hf : ¬ (f.1 ≤ o ∧ o < f.2)) (hv : v.oneCell' = true) : ∃ w', (store ⟨b, o, none⟩ v).run P w = .ok () w' ∧ w'.heap[b]? = some (.cells (c.setIfInBounds o v) e f) ∧ Turned w w' b := by
  have hfz : w.frozen? ⟨b, o, none⟩ = false := by
    simp only [World.frozen?, hb]
    simp only [Bool.and_eq_false_iff, decide_eq_false_iff_not]
    rcases Decidable.not_and_iff_or_not.1 hf with h | h
    · exact .inl h
    · exact .inr h
  refine ⟨w.setCell ⟨b, o, none⟩ v, ?_, ?_, ?_⟩
  · rw [run_store P w _ v _ hv, cell_of_heap hb]
    simp [ho, hfz]
  · have hlt : b < w.heap.size := (Array.getElem?_eq_some_iff.1 hb).1
    simp only [World.setCell]
    rw [Array.getElem?_eq_getElem (by rw [Array.size_modify]; exact hlt), Array.getElem_modify_self]
    have : w.heap[b] = .cells c e f := (Array.getElem?_eq_some_iff.1 hb).2
    rw [this]; simp
  · refine ⟨by simp [World.setCell], fun i hi => ?_, rfl, rfl, rfl⟩
    simp only [World.setCell]
    by_cases hlt : i < w.heap.size
    · rw [Array.getElem?_eq_getElem (by rw [Array.size_modify]; exact hlt), Array.getElem_modify_of_ne (by omega), Array.getElem?_eq_getElem hlt]
    · rw [Array.getElem?_eq_none (by rw [Array.size_modify]; omega), Array.getElem?_eq_none (by omega)]

theorem run_storeCells_row {b : Nat} {e : TypeId} {f : Nat × Nat} {o : Nat} : ∀ (vs : List Value) (i : Nat) (c : Array Value) (w : World), w.heap[b]? = some (.cells c e f) → o + i + vs.length ≤ c.size →
    (∀ j, o + i ≤ j → j < o + i + vs.length → ¬ (f.1 ≤ j ∧ j < f.2)) → (∀ v ∈ vs, v.oneCell' = true) →
    ∃ w', (storeCells ⟨b, o, none⟩ vs i).run P w = .ok () w' ∧ w'.heap[b]? = some (.cells (spl c (o + i) vs) e f) ∧ Turned w w' b
  | [], i, c, w, hb, _, _, _ => ⟨w, by simp [storeCells], hb, .refl w b⟩
  | v :: vs, i, c, w, hb, hs, hf, hv => by
    obtain ⟨w1, h1, h2, h3⟩ := run_store_row (P := P) hb (o := o + i) (v := v) (by simp at hs; omega) (hf _ (Nat.le_refl _) (by simp)) (hv v (by simp))
    obtain ⟨w2, h4, h5, h6⟩ := run_storeCells_row (o := o) vs (i + 1) _ w1 h2 (by simp at hs ⊢; omega) (fun j a b => hf j (by omega) (by simp only [List.length_cons]; omega)) (fun x hx => hv x (by simp [hx]))
    refine ⟨w2, ?_, by rw [spl]; exact h5, h3.trans h6⟩
    simp only [storeCells, Sem.run_bind, addr_add, h1, Result.andThen_ok, h4]

theorem frz_free {f : Nat × Nat} {size j : Nat} (hf : f = (0, 0) ∨ f = (size, size + 1)) (h : j < size) : ¬ (f.1 ≤ j ∧ j < f.2) := by
  rcases hf with rfl | rfl <;> simp <;> omega

theorem isCell_rel {ρ : Rho} {v v' : Value} (hc : isCell v = true) (h : VRel ρ v v') : v'.oneCell' = true := by
  cases h <;> first | rfl | cases hc

theorem cells_rel {ρ : Rho} {vs vs' : List Value} (hc : vs.all isCell = true) (h : LRel ρ vs vs') : ∀ v ∈ vs', v.oneCell' = true := fun v hv => by
  obtain ⟨i, hi⟩ := List.getElem?_of_mem hv
  have hlt : i < vs.length := h.1 ▸ (List.getElem?_eq_some_iff.1 hi).1
  exact isCell_rel (List.all_eq_true.1 hc _ (List.getElem_mem hlt)) (h.2 i vs[i] v (by simp [hlt]) hi)

/-- the values of a value's cells -/
theorem value_cells {ρ : Rho} {v v' : Value} (hall : v.cells.toList.all isCell = true) (h : VRel ρ v v') : LRel ρ v.cells.toList v'.cells.toList := by
  have one : ∀ (a b : Value), VRel ρ a b → LRel ρ [a] [b] := fun a b h => .cons h (.nil ρ)
  cases h with
  | agg a a' ha ha' => exact ⟨by simpa [Value.cells] using ha, fun i v v' x y => ha' i v v' (by simpa [Value.cells] using x) (by simpa [Value.cells] using y)⟩
  | any v => simp [Value.cells, isCell] at hall
  | skip => simp [Value.cells, isCell] at hall
  | tuple a a' ha ha' => simp [Value.cells, isCell] at hall
  | bool b => exact one _ _ (.bool b)
  | int k n => exact one _ _ (.int k n)
  | float k n => exact one _ _ (.float k n)
  | string s => exact one _ _ (.string s)
  | ptrNil => exact one _ _ .ptrNil
  | ptr id off k h => exact one _ _ (.ptr id off k h)
  | sliceNil l c h => exact one _ _ (.sliceNil l c h)
  | slice id off l c k h hc => exact one _ _ (.slice id off l c k h hc)
  | slice0 id off k h a => exact one _ _ (.slice0 id off k h a)
  | sliceU id off l i k h hi hl => exact one _ _ (.sliceU id off l i k h hi hl)
  | sliceE id off k h ho a => exact one _ _ (.sliceE id off k h ho a)
  | mapNil => exact one _ _ .mapNil
  | map r k h => exact one _ _ (.map r k h)
  | nilFunc => exact one _ _ .nilFunc
  | nilIface => exact one _ _ .nilIface
  | func fn fn' a a' c c' hf ha hc ha' hc' => exact one _ _ (.func fn fn' a a' c c' hf ha hc ha' hc')
  | iface t v v' h => exact one _ _ (.iface t v v' h)

/-- a row of which a piece is turned -/
theorem CRel.splice {ρ : Rho} {k : Blk} {c : List Value} {e : TypeId} {m : Bool} {c' : Array Value} {e' : TypeId} {frz : Nat × Nat} (h : CRel ρ k c e m c' e' frz) {off : Nat} {vs vs' : List Value}
    (hle : off + vs.length ≤ c.length) (hvs : LRel ρ vs vs') : CRel ρ k (setL c off vs) e m (spl c' (k.sh + off) vs') e' frz where
  elem := h.elem
  frz := by rw [spl_size]; exact h.frz
  size := by rw [spl_size]; exact h.size
  fits := by rw [spl_size, setL_length _ _ _ hle]; exact h.fits
  cells i v hv := by
    rw [setL_get _ _ _ _ hle] at hv
    have hfit := h.fits
    rw [spl_get _ _ _ _ (by rw [← hvs.1]; omega)]
    by_cases hc : off ≤ i ∧ i < off + vs.length
    · rw [if_pos hc] at hv
      rw [if_pos (by rw [← hvs.1]; omega)]
      obtain ⟨v', a, b⟩ := hvs.getElem hv
      exact ⟨v', by rw [← a]; congr 1; omega, b⟩
    · rw [if_neg hc] at hv
      rw [if_neg (by rw [← hvs.1]; omega)]
      exact h.cells i v hv

theorem storeCellsA_sound {id off : Nat} {vs : List Value} {s s' : St} {u : Unit} (h : D.run (storeCellsA id off vs) s = .ok (u, s')) {F : Nat → Prop} {ρ : Rho} {w : World} (hF : ∀ i, s'.fp.testBit i = true → F i)
    (hwf : Wf s) (hinv : Inv F ρ s.H.get w) {vs' : List Value} (hvs : LRel ρ vs vs') : ∃ k w', ρ id = some k ∧ (storeCells ⟨k.b, k.sh + off, none⟩ vs').run P w = .ok () w' ∧ PStep F ρ s w ρ s' w' ∧ s'.u = s.u := by
  unfold storeCellsA at h
  obtain ⟨⟨c, e, m, o⟩, s1, h1, h2⟩ := D.bind_ok h
  obtain ⟨hc, hs1⟩ := cellsB_ok h1
  simp only at hc h2
  obtain ⟨hg, h2⟩ := D.guard_ok h2
  rw [setList_eq] at h2
  obtain ⟨o0, ho0, hs'⟩ := putB_ok h2
  simp only [Bool.and_eq_true] at hg
  have hle : off + vs.length ≤ c.length := Nat.le_of_ble_eq_true hg.1
  have hro : RO s s1 := by rw [hs1]; exact RO.foot s id
  have hFid : F id := hF id (by rw [hs']; exact foot_bit s1 id)
  obtain ⟨k, c', e', frz, hk, hb, hrel⟩ := hinv.cells hFid hc
  have hfit := hrel.fits
  obtain ⟨w', h3, h4, h5⟩ := run_storeCells_row (P := P) (o := k.sh + off) vs' 0 c' w hb (by rw [← hvs.1]; omega) (fun j a b => frz_free hrel.frz (by rw [← hvs.1] at b; omega)) (cells_rel hg.2 hvs)
  refine ⟨k, w', hk, h3, ?_, by rw [hs', hs1]⟩
  have hinv1 : Inv F ρ s1.H.get w := by rw [hro.H]; exact hinv
  have st := PStep.put (hro.wf hwf) hinv1 hFid ho0 hs' hk h5.size h5.same ⟨_, _, _, h4, hrel.splice hle hvs⟩ h5.tape h5.os h5.output
  exact PStep.trans (fun i a b => by have := st.n_le; rw [hs', hs1] at b; simp at b; omega) (hro.step hwf hinv) st

theorem storeA_sound {t : TypeId} {id off : Nat} {v v' : Value} {s s' : St} {u : Unit} (h : D.run (storeA P t id off v) s = .ok (u, s')) {F : Nat → Prop} {ρ : Rho} {w : World} (hF : ∀ i, s'.fp.testBit i = true → F i)
    (hwf : Wf s) (hinv : Inv F ρ s.H.get w) (hv : VRel ρ v v') {k : Blk} (hk : ρ id = some k) : ∃ w', (storeVar t ⟨k.b, k.sh + off, none⟩ v').run P w = .ok () w' ∧ PStep F ρ s w ρ s' w' ∧ s'.u = s.u := by
  unfold storeA at h
  obtain ⟨i, s1, h1, h2⟩ := D.bind_ok h
  obtain ⟨hi, rfl⟩ := infoOf_ok h1
  obtain ⟨hg, h2⟩ := D.guard_ok h2
  have hsz : v.cells.toList.length = i.size := Nat.eq_of_beq_eq_true hg
  split at h2
  · rename_i hnil
    obtain ⟨_, rfl⟩ := D.pure_ok h2
    have hl := value_cells (v := v) (v' := v') (ρ := ρ) (by rw [hnil]; rfl) hv
    rw [hnil] at hl hsz
    have hnil' : v'.cells.toList = [] := hl.nil_inv
    refine ⟨w, ?_, .refl hwf hinv, rfl⟩
    have h0 : v'.cells.size = i.size := by rw [← Array.length_toList, hnil']; simpa using hsz
    simp [storeVar, run_sizeOf hi, h0, hnil', storeCells]
  · rename_i hne
    have hall : v.cells.toList.all isCell = true := by
      unfold storeCellsA at h2
      obtain ⟨x, s2, _, h4⟩ := D.bind_ok h2
      obtain ⟨hg, _⟩ := D.guard_ok h4
      simp only [Bool.and_eq_true] at hg
      exact hg.2
    have hl := value_cells (v := v) (v' := v') (ρ := ρ) hall hv
    obtain ⟨k', w', hk', hrun, hst⟩ := storeCellsA_sound (P := P) h2 hF hwf hinv hl
    rw [hk] at hk'; cases hk'
    refine ⟨w', ?_, hst⟩
    have h0 : v'.cells.size = i.size := by rw [← Array.length_toList, ← hl.1]; exact hsz
    simp [storeVar, run_sizeOf hi, h0, hrun]

/-- a new row -/
theorem newRow_sound {c c' : List Value} {e : TypeId} {o : Bool} {s s' : St} {id : Nat} (h : D.run (newB (.cells c e false o)) s = .ok (id, s')) {F : Nat → Prop} {ρ : Rho} {w : World}
    (hρ : ∀ i, s.n ≤ i → i < s'.n → ρ i = none) (hwf : Wf s) (hinv : Inv F ρ s.H.get w) (hl : LRel ρ c c') {w' : World} (more : List Value) (sz cap : Nat) (hcap : c.length + more.length = sz * cap)
    (hw : w'.heap = w.heap.push (.cells (c' ++ more).toArray e (0, 0))) (ht : w'.tape = w.tape := by rfl) (hos : w'.os = w.os := by rfl) (hp : w'.output = w.output := by rfl) :
    id = s.n ∧ s'.u = s.u ∧ PStep F ρ s w (ρ.upd s.n ⟨w.heap.size, 0, sz, cap⟩) s' w' := by
  obtain ⟨hid, hlt, hs'⟩ := newB_ok h
  have hn : ρ s.n = none := hρ s.n (Nat.le_refl _) (by rw [hs']; simp)
  refine ⟨hid, by rw [hs'], .made hwf hinv hlt hs' hn (k := ⟨w.heap.size, 0, sz, cap⟩) rfl hw ?_ ht hos hp⟩
  refine ⟨(c' ++ more).toArray, e, (0, 0), by rw [hw]; simp, ⟨rfl, .inl rfl, ?_, ?_, fun i v hv => ?_⟩⟩
  · simp [← hl.1, hcap]
  · simp [← hl.1]
  · obtain ⟨v', a, b⟩ := hl.getElem hv
    refine ⟨v', ?_, b.mono (Rho.le_upd hn)⟩
    have hlt' : i < c'.length := (List.getElem?_eq_some_iff.1 a).1
    simp [List.getElem?_append_left hlt', a]

theorem newVarA_sound {t : TypeId} {v v' x : Value} {s s' : St} (h : D.run (newVarA t v) s = .ok (x, s')) {F : Nat → Prop} {ρ : Rho} {w : World}
    (hρ : ∀ i, s.n ≤ i → i < s'.n → ρ i = none) (hwf : Wf s) (hinv : Inv F ρ s.H.get w) (hv : VRel ρ v v') :
    ∃ a ρ' w', (newVar t v').run P w = .ok a w' ∧ VRel ρ' x (.pointer (some a)) ∧ PStep F ρ s w ρ' s' w' ∧ s'.u = s.u := by
  unfold newVarA at h
  obtain ⟨hg, h⟩ := D.guardn_ok h
  rw [forceVL_eq] at h
  obtain ⟨id, s1, h1, h2⟩ := D.bind_ok h
  obtain ⟨rfl, rfl⟩ := D.pure_ok h2
  have hl := value_cells (v := v) (v' := v') (ρ := ρ) (by simpa using hg) hv
  obtain ⟨rfl, hu, hst⟩ := newRow_sound h1 hρ hwf hinv hl (w' := { w with heap := w.heap.push (.cells v'.cells t) }) [] 1 v.cells.toList.length (by simp) (by simp)
  refine ⟨⟨w.heap.size, 0, none⟩, _, _, ?_, .ptr _ _ ⟨w.heap.size, 0, 1, v.cells.toList.length⟩ (Rho.upd_self _ _ _), hst, hu⟩
  simp [newVar, newRow]

end
end Go.Proofs.YthogkihfbjbghaaGreatDoor.Abs
namespace Go.Proofs.YthogkihfbjbghaaGreatDoor.Abs

section
variable {P : Program}

theorem foldl_spl (off : Nat) : ∀ (l : List Value) (n : Nat) (c : Array Value), (l.zipIdx n).foldl (fun (cs : Array Value) (p : Value × Nat) => cs.setIfInBounds (off + p.2) p.1) c = spl c (off + n) l
  | [], n, c => rfl
  | v :: l, n, c => by simp only [List.zipIdx_cons, List.foldl_cons, spl]; rw [foldl_spl off l (n + 1)]; rfl

theorem foldl_cells (off : Nat) (a c : Array Value) : a.zipIdx.foldl (fun (cs : Array Value) (x : Value × Nat) => match x with | (v, j) => cs.setIfInBounds (off + j) v) c = spl c off a.toList := by
  rw [← Array.foldl_toList, Array.toList_zipIdx]
  exact foldl_spl off a.toList 0 c

/-- parts, one by one -/
inductive PRel (ρ : Rho) : List (Nat × Value) → List (Nat × Value) → Prop where
  | nil : PRel ρ [] []
  | cons (i : Nat) (v v' : Value) (l l' : List (Nat × Value)) (h : VRel ρ v v') (t : PRel ρ l l') : PRel ρ ((i, v) :: l) ((i, v') :: l')

theorem splice_rel {ρ : Rho} {c c' : List Value} {off : Nat} {vs vs' : List Value} (hle : off + vs.length ≤ c.length) (h : LRel ρ c c') (hvs : LRel ρ vs vs') : LRel ρ (setL c off vs) (spl c'.toArray off vs').toList := by
  have hl' : off + vs'.length ≤ c'.toArray.size := by rw [← hvs.1]; simpa [← h.1] using hle
  refine ⟨by simp [setL_length _ _ _ hle, spl_size, h.1], fun i v v' hv hv' => ?_⟩
  rw [setL_get _ _ _ _ hle] at hv
  rw [Array.getElem?_toList, spl_get _ _ _ _ hl'] at hv'
  by_cases hc : off ≤ i ∧ i < off + vs.length
  · rw [if_pos hc] at hv
    rw [if_pos (by rw [← hvs.1]; exact hc)] at hv'
    exact hvs.2 _ _ _ hv hv'
  · rw [if_neg hc] at hv
    rw [if_neg (by rw [← hvs.1]; exact hc)] at hv'
    exact h.2 _ _ _ hv (by simpa using hv')

theorem fill_sound {ρ : Rho} {place place' : Nat → Option (Nat × Nat)} (hp : ∀ i, place' i = place i) : ∀ {parts parts' : List (Nat × Value)} {c r : List Value} {c' : Array Value}, fillA place c parts = some r → LRel ρ c c'.toList → PRel ρ parts parts' →
    ∃ r', Instr.fill place' c' parts' = some r' ∧ LRel ρ r r'.toList
  | [], parts', c, r, c', h, hc, hparts => by
    cases hparts
    simp only [fillA, Option.some.injEq] at h
    subst h
    exact ⟨c', rfl, hc⟩
  | (i, v) :: rest, parts', c, r, c', h, hc, hparts => by
    cases hparts with
    | cons _ _ v' _ rest' hv hrest =>
    simp only [fillA] at h
    cases hpl : place i with
    | none => rw [hpl] at h; cases h
    | some x =>
      obtain ⟨off, size⟩ := x
      rw [hpl] at h
      simp only at h
      cases hb : (Nat.beq v.cells.toList.length size && Nat.ble (off + size) c.length && v.cells.toList.all isCell) with
      | false => rw [hb] at h; cases h
      | true =>
        rw [hb, cond_true, setList_eq] at h
        simp only [Bool.and_eq_true] at hb
        obtain ⟨⟨h1, h2⟩, h3⟩ := hb
        have h1 := Nat.eq_of_beq_eq_true h1
        have h2 := Nat.le_of_ble_eq_true h2
        have hl := value_cells h3 hv
        have hsz : v'.cells.size = size := by rw [← Array.length_toList, ← hl.1]; exact h1
        have hcs : c'.size = c.length := by rw [← Array.length_toList, hc.1]
        obtain ⟨r', a, b⟩ := fill_sound hp (c' := spl c' off v'.cells.toList) h (splice_rel (c' := c'.toList) (by rw [h1]; exact h2) hc hl) hrest
        refine ⟨r', ?_, b⟩
        rw [Instr.fill, hp, hpl]
        simp only
        rw [if_neg (by simp [hsz, hcs]; omega), foldl_cells]
        exact a

theorem run_places {w : World} : ∀ {fs : List Field} {places : List (Nat × Nat)}, sizesOf P fs = some places → (fs.mapM fun f => Prod.mk f.offset <$> sizeOf f.type).run P w = .ok places w
  | [], places, h => by simp only [sizesOf, Option.some.injEq] at h; subst h; rfl
  | f :: fs, places, h => by
    simp only [sizesOf, infoK_eq] at h
    split at h
    · rename_i i r hi hr
      simp only [Option.some.injEq] at h; subst h
      simp [List.mapM_cons, run_sizeOf hi, run_places hr]
    · cases h

theorem buildA_sound {t : TypeId} {parts parts' : List (Nat × Value)} {s s' : St} {v : Value} (h : D.run (buildA P t parts) s = .ok (v, s')) {ρ : Rho} (hp : PRel ρ parts parts') (w : World) :
    s' = s ∧ ∃ v', (Instr.build t parts'.toArray).run P w = .ok v' w ∧ VRel ρ v v' := by
  unfold buildA at h
  obtain ⟨z, s1, h1, h2⟩ := D.bind_ok h
  obtain ⟨hz, hzr, rfl, hcell⟩ := zeroOf_ok h1
  obtain ⟨d, s2, h3, h4⟩ := D.bind_ok h2
  obtain ⟨hd, rfl⟩ := descOf_ok h3
  split at h4
  · rename_i fields
    split at h4
    · rename_i places hpl
      split at h4
      · rename_i c hc
        obtain ⟨rfl, rfl⟩ := D.pure_ok h4
        obtain ⟨r', a, b⟩ := fill_sound (ρ := ρ) (place' := (places.toArray[·]?)) (by intro i; simp) (c' := z.cells) hc (value_cells hcell (hzr ρ)) hp
        refine ⟨rfl, .agg r', ?_, VRel.agg_iff.2 ⟨_, rfl, by simpa using b⟩⟩
        simp [Instr.build, hz, run_underlying hd, Array.mapM_eq_mapM_toList, run_places hpl] at a ⊢
        rw [a]; rfl
      · cases h4
    · cases h4
  · rename_i n elem
    obtain ⟨i, s3, h5, h6⟩ := D.bind_ok h4
    obtain ⟨hi, rfl⟩ := infoOf_ok h5
    split at h6
    · rename_i c hc
      obtain ⟨rfl, rfl⟩ := D.pure_ok h6
      obtain ⟨r', a, b⟩ := fill_sound (ρ := ρ) (place' := fun j => some (j * i.size, i.size)) (by intro j; rfl) (c' := z.cells) hc (value_cells hcell (hzr ρ)) hp
      refine ⟨rfl, .agg r', ?_, VRel.agg_iff.2 ⟨_, rfl, by simpa using b⟩⟩
      simp [Instr.build, hz, run_underlying hd, run_sizeOf hi, a]
    · cases h6
  · cases h4

theorem replA_rel {ρ : Rho} {z : List Value} (h : LRel ρ z z) : ∀ n, LRel ρ (replA z n) (replA z n)
  | 0 => .nil ρ
  | n + 1 => h.append (replA_rel h n)

theorem replA_length (z : List Value) : ∀ n, (replA z n).length = n * z.length
  | 0 => by simp [replA]
  | n + 1 => by rw [replA, List.length_append, replA_length z n, Nat.succ_mul]; omega

theorem replA_get (z : List Value) : ∀ (n i : Nat), i < n * z.length → (replA z n)[i]? = z[i % z.length]?
  | 0, i, h => by simp at h
  | n + 1, i, h => by
    rw [replA]
    by_cases hi : i < z.length
    · rw [List.getElem?_append_left hi, Nat.mod_eq_of_lt hi]
    · rw [List.getElem?_append_right (by omega), replA_get z n _ (by rw [Nat.succ_mul] at h; omega)]
      congr 1
      rw [← Nat.mod_eq_sub_mod (by omega)]

theorem zeros_eq (z : Array Value) (n : Nat) : ((Array.range (n * z.size)).map (fun i => z[i % z.size]!)) = (replA z.toList n).toArray := by
  apply Array.ext'
  simp only [Array.toList_map, Array.toList_range]
  apply List.ext_getElem?
  intro i
  by_cases h : i < n * z.size
  · have hpos : 0 < z.size := by
      rcases Nat.eq_zero_or_pos z.size with e | e
      · rw [e] at h; simp at h
      · exact e
    rw [replA_get _ _ _ (by simpa using h)]
    have hm : i % z.size < z.size := Nat.mod_lt _ hpos
    simp [h, hm, getElem!_pos]
  · rw [List.getElem?_eq_none (by simpa using h), List.getElem?_eq_none (by rw [replA_length]; simpa using h)]

theorem buildSliceA_sound {t : TypeId} {len : Nat} {parts parts' : List (Nat × Value)} {s s' : St} {v : Value} (h : D.run (buildSliceA P t len parts) s = .ok (v, s')) {F : Nat → Prop} {ρ : Rho} {w : World}
    (hρ : ∀ i, s.n ≤ i → i < s'.n → ρ i = none) (hwf : Wf s) (hinv : Inv F ρ s.H.get w) (hp : PRel ρ parts parts') :
    ∃ v' ρ' w', (Instr.buildSlice t len parts'.toArray).run P w = .ok v' w' ∧ VRel ρ' v v' ∧ PStep F ρ s w ρ' s' w' ∧ s'.u = s.u := by
  unfold buildSliceA at h
  obtain ⟨d, s1, h1, h2⟩ := D.bind_ok h
  obtain ⟨hd, rfl⟩ := descOf_ok h1
  split at h2
  · rename_i elem
    obtain ⟨i, s3, h5, h6⟩ := D.bind_ok h2
    obtain ⟨hi, rfl⟩ := infoOf_ok h5
    obtain ⟨z, s4, h7, h8⟩ := D.bind_ok h6
    obtain ⟨hz, hzr, rfl, hcell⟩ := zeroOf_ok h7
    obtain ⟨hg, h8⟩ := D.guard_ok h8
    simp only [Bool.and_eq_true] at hg
    have hlen := Nat.le_of_ble_eq_true hg.1.1
    have hlen2 := Nat.le_of_ble_eq_true hg.2
    have hsz : z.cells.size = i.size := by have := Nat.eq_of_beq_eq_true hg.1.2; simpa using this
    split at h8
    · rename_i c hc
      obtain ⟨id, s5, h9, h10⟩ := D.bind_ok h8
      obtain ⟨rfl, rfl⟩ := D.pure_ok h10
      have hzz := value_cells hcell (hzr ρ)
      have hcells : ((Array.range (len * i.size)).map ((if len * i.size = 0 then #[] else z.cells)[· % (if len * i.size = 0 then #[] else z.cells : Array Value).size]!)) = (replA z.cells.toList len).toArray := by
        by_cases h0 : len * i.size = 0
        · rw [if_pos h0, h0]
          apply Array.ext'
          have : (replA z.cells.toList len).length = 0 := by rw [replA_length, Array.length_toList, hsz]; exact h0
          simp [List.eq_nil_of_length_eq_zero this]
        · rw [if_neg h0]
          have := zeros_eq z.cells len
          rw [hsz] at this
          rw [hsz]; exact this
      obtain ⟨r', a, b⟩ := fill_sound (ρ := ρ) (place' := fun j => some (j * i.size, i.size)) (by intro j; rfl) (c' := (replA z.cells.toList len).toArray) hc (by simpa using replA_rel hzz len) hp
      have hrl : c.length = len * i.size := by
        have : ∀ (ps : List (Nat × Value)) (x y : List Value), fillA (fun j => some (j * i.size, i.size)) x ps = some y → y.length = x.length := by
          intro ps
          induction ps with
          | nil => intro x y h; simp only [fillA, Option.some.injEq] at h; rw [h]
          | cons p ps ih =>
            intro x y h
            obtain ⟨j, u⟩ := p
            simp only [fillA] at h
            cases hb : (Nat.beq u.cells.toList.length i.size && Nat.ble (j * i.size + i.size) x.length && u.cells.toList.all isCell) with
            | false => rw [hb] at h; cases h
            | true =>
              rw [hb, cond_true, setList_eq] at h
              simp only [Bool.and_eq_true] at hb
              have e1 := Nat.eq_of_beq_eq_true hb.1.1
              have e2 := Nat.le_of_ble_eq_true hb.1.2
              have := ih _ _ h
              rw [this]
              exact setL_length _ _ _ (by rw [e1]; exact e2)
        rw [this _ _ _ hc, replA_length]; simp [hsz]
      obtain ⟨rfl, hu, hst⟩ := newRow_sound h9 hρ hwf hinv b (w' := { w with heap := w.heap.push (.cells r' elem) }) [] 1 c.length (by simp) (by simp)
      refine ⟨.slice (some ⟨w.heap.size, 0, none⟩) len len, _, _, ?_, ?_, hst, hu⟩
      · simp only [Instr.buildSlice, Sem.run_bind, run_underlying hd, Result.andThen_ok, run_sizeOf hi]
        rw [if_neg (by have : (2 : Nat) ^ 24 = 16777216 := by decide
                       omega)]
        by_cases h0 : len * i.size = 0
        · rw [if_pos h0] at hcells ⊢
          simp only [Sem.run_bind, Sem.run_pure, Result.andThen_ok, hcells, a, newRow, run_newObj]
        · rw [if_neg h0] at hcells ⊢
          simp only [Sem.run_bind, Sem.run_pure, Result.andThen_ok, hz, hcells, a, newRow, run_newObj]
      · exact VRel.slice (ρ := ρ.upd s4.n ⟨w.heap.size, 0, 1, c.length⟩) s4.n 0 len len _ (Rho.upd_self _ _ _) (by unfold capU; omega)
    · cases h8
  · cases h2
end
end Go.Proofs.YthogkihfbjbghaaGreatDoor.Abs
namespace Go.Proofs.YthogkihfbjbghaaGreatDoor.Abs

theorem wrap_i64 {n : Int} (h1 : -9223372036854775808 ≤ n) (h2 : n ≤ 9223372036854775807) : IntKind.i64.wrap n = n := by
  have e64 : (2 : Int) ^ 64 = 18446744073709551616 := by decide
  have e63 : (2 : Int) ^ 63 = 9223372036854775808 := by decide
  simp only [IntKind.wrap, IntKind.bits, IntKind.signed, Bool.true_and, e64, e63, show (64 - 1 : Nat) = 63 from rfl]
  split
  · rename_i h
    simp only [ge_iff_le, decide_eq_true_eq] at h
    omega
  · rename_i h
    simp only [ge_iff_le, decide_eq_true_eq] at h
    omega

theorem wrapA_eq (k : IntKind) (n : Int) {β : Type} (c : Int → β) : wrapA k n c = c (k.wrap n) := by
  unfold wrapA
  split
  · cases h : (decide (-9223372036854775808 ≤ n) && decide (n ≤ 9223372036854775807)) with
    | true =>
      simp only [Bool.and_eq_true, decide_eq_true_eq] at h
      rw [cond_true, fint_eq, wrap_i64 h.1 h.2]
    | false => rw [cond_false, fint_eq]
  · rw [fint_eq]

theorem beqBytes_eq : ∀ (a b : List UInt8), beqBytes a b = (a == b)
  | [], [] => rfl
  | [], _ :: _ => rfl
  | _ :: _, [] => rfl
  | x :: a, y :: b => by
    rw [beqBytes, beqBytes_eq a b, List.cons_beq_cons]
    congr 1
    by_cases h : x = y
    · subst h; simp
    · have : x.toNat ≠ y.toNat := fun e => h (UInt8.toNat_inj.1 e)
      rw [beq_false_of this]; simp [h]

theorem lessBytes_eq : ∀ (a b : List UInt8), lessBytes a b = Op.bytesLess a b
  | _, [] => by unfold lessBytes Op.bytesLess; rfl
  | [], _ :: _ => rfl
  | x :: a, y :: b => by
    rw [lessBytes, Op.bytesLess, lessBytes_eq a b]
    congr 1
    · rw [Bool.eq_iff_iff]; simp [Nat.blt_eq, UInt8.lt_iff_toNat_lt]
    · congr 1
      by_cases h : x = y
      · subst h; simp
      · have : x.toNat ≠ y.toNat := fun e => h (UInt8.toNat_inj.1 e)
        rw [beq_false_of this]; simp [h]

def descAgg : TypeDesc → Bool
  | .struct _ | .array _ _ => true
  | _ => false

theorem bytes_beq (a b : ByteArray) : (a == b) = (bs a == bs b) := by
  show (a.data == b.data) = (a.data.toList == b.data.toList)
  rw [Bool.eq_iff_iff, beq_iff_eq, beq_iff_eq, Array.toList_inj]

section
variable {P : Program}

theorem makeSliceA_sound {t : TypeId} {len cap len' cap' : Value} {s s' : St} {v : Value} (h : D.run (makeSliceA P t len cap) s = .ok (v, s')) {F : Nat → Prop} {ρ : Rho} {w : World}
    (hρ : ∀ i, s.n ≤ i → i < s'.n → ρ i = none) (hwf : Wf s) (hinv : Inv F ρ s.H.get w) (hl : VRel ρ len len') (hc : VRel ρ cap cap') :
    ∃ v' ρ' w', (Instr.makeSlice t len' cap').run P w = .ok v' w' ∧ VRel ρ' v v' ∧ PStep F ρ s w ρ' s' w' ∧ s'.u = s.u := by
  unfold makeSliceA at h
  obtain ⟨d, s1, h1, h2⟩ := D.bind_ok h
  obtain ⟨hd, rfl⟩ := descOf_ok h1
  split at h2
  · rename_i elem
    obtain ⟨i, s3, h5, h6⟩ := D.bind_ok h2
    obtain ⟨hi, rfl⟩ := infoOf_ok h5
    obtain ⟨z, s4, h7, h8⟩ := D.bind_ok h6
    obtain ⟨hz, hzr, rfl, hcell⟩ := zeroOf_ok h7
    split at h8
    · rename_i l c
      obtain ⟨hg, h8⟩ := D.guard_ok h8
      simp only [Bool.and_eq_true, decide_eq_true_eq, Bool.not_eq_true'] at hg
      obtain ⟨⟨⟨⟨⟨g1, g2⟩, g3⟩, g4⟩, g5⟩, g6⟩ := hg
      rw [fnat_eq, fnat_eq] at h8
      obtain ⟨id, s5, h9, h10⟩ := D.bind_ok h8
      obtain ⟨rfl, rfl⟩ := D.pure_ok h10
      cases hl; cases hc
      have hb := Nat.le_of_ble_eq_true g4
      have hsz : z.cells.size = i.size := by have := Nat.eq_of_beq_eq_true g5; simpa using this
      have hz0 : i.size ≠ 0 := fun e => by rw [e] at g6; cases g6
      have hzz := value_cells hcell (hzr ρ)
      obtain ⟨c, rfl⟩ := Int.eq_ofNat_of_zero_le (Int.le_trans g1 g2)
      obtain ⟨l, rfl⟩ := Int.eq_ofNat_of_zero_le g1
      obtain ⟨rfl, hu, hst⟩ := newRow_sound h9 hρ hwf hinv (replA_rel hzz _) (w' := { w with heap := w.heap.push (.cells (replA z.cells.toList c).toArray elem) }) [] 1 (replA z.cells.toList c).length (by simp) (by simp)
      refine ⟨.slice (some ⟨w.heap.size, 0, none⟩) l c, _, _, ?_, ?_, hst, hu⟩
      · have wl : IntKind.i64.wrap (l : Int) = l := wrap_i64 (by omega) (by omega)
        have wc : IntKind.i64.wrap (c : Int) = c := wrap_i64 (by omega) (by omega)
        have hbytes : (i.bytes : Int) * c ≤ 4294967296 := by
          have h1 : i.bytes * c ≤ 4294967296 := Nat.le_trans (Nat.mul_le_mul hb (show c ≤ 65536 by omega)) (by decide)
          rw [← Int.natCast_mul]; omega
        have e48 : (2 : Int) ^ 48 = 281474976710656 := by decide
        have hzeros := zeros_eq z.cells c
        rw [hsz] at hzeros
        simp only [Instr.makeSlice, Sem.run_bind, run_underlying hd, Result.andThen_ok, asInt, asIntOf, Sem.run_pure, run_typeInfo w hi, wl, wc]
        rw [if_neg (by simp only [Bool.or_eq_true, decide_eq_true_eq, e48]; omega)]
        by_cases h0 : c * i.size = 0
        · have hc0 : c = 0 := by rcases Nat.mul_eq_zero.1 h0 with e | e <;> omega
          subst hc0
          simp [run_sizeOf hi, newRow, replA, show Array.range 0 = #[] from rfl]
        · simp [run_sizeOf hi, h0, hz, newRow, hsz, hzeros]
      · refine VRel.slice (ρ := ρ.upd s4.n _) s4.n 0 _ _ _ (Rho.upd_self _ _ _) ?_
        unfold capU; simp only [Int.toNat_natCast]; omega
    · cases h8
  · cases h2

theorem vint_ok {k : IntKind} {n : Int} {v : Value} {s s' : St} (h : D.run (vint k n) s = .ok (v, s')) : v = .int k n ∧ s' = s := by
  unfold vint at h; rw [fint_eq] at h; obtain ⟨rfl, rfl⟩ := D.pure_ok h; exact ⟨rfl, rfl⟩
theorem vstr_ok {l : List UInt8} {v : Value} {s s' : St} (h : D.run (vstr l) s = .ok (v, s')) : v = .string ⟨⟨l⟩⟩ ∧ s' = s := by
  unfold vstr at h; rw [forceL_eq] at h; obtain ⟨rfl, rfl⟩ := D.pure_ok h; exact ⟨rfl, rfl⟩

theorem ite_ok {α : Type} {c : Prop} [Decidable c] {x : D α} {e : String} {s s' : St} {b : α} (h : D.run (if c then x else D.fail e) s = .ok (b, s')) : c ∧ D.run x s = .ok (b, s') := by
  split at h
  · exact ⟨‹_›, h⟩
  · cases h
theorem iten_ok {α : Type} {c : Prop} [Decidable c] {x : D α} {e : String} {s s' : St} {b : α} (h : D.run (if c then D.fail e else x) s = .ok (b, s')) : ¬ c ∧ D.run x s = .ok (b, s') := by
  split at h
  · cases h
  · exact ⟨‹_›, h⟩

theorem toList_bs (s : ByteArray) : s.toList = bs s := ByteArray.toList_eq s


theorem run_part {t : TypeId} {cs : List Value} {off : Nat} {v : Value} {s s' : St} (h : D.run (partA P t cs off) s = .ok (v, s')) {ρ : Rho} {cs' : List Value} (hl : LRel ρ cs cs') (w : World) :
    s' = s ∧ ∃ v', (part t cs'.toArray off).run P w = .ok v' w ∧ VRel ρ v v' := by
  unfold partA at h
  obtain ⟨b, s1, h1, h2⟩ := D.bind_ok h
  obtain ⟨hagg, rfl⟩ := aggB_ok h1
  cases b with
  | true =>
    obtain ⟨i, s2, h3, h4⟩ := D.bind_ok h2
    obtain ⟨hi, rfl⟩ := infoOf_ok h3
    obtain ⟨rfl, rfl⟩ := D.pure_ok h4
    refine ⟨rfl, .agg (cs'.toArray.extract off (off + i.size)), by simp [part, hagg, run_sizeOf hi], VRel.agg_iff.2 ⟨_, rfl, ?_⟩⟩
    have : (cs'.toArray.extract off (off + i.size)).toList = (cs'.drop off).take i.size := by
      simp [List.extract_eq_take_drop, Nat.add_sub_cancel_left]
    rw [this]
    exact (hl.drop off).take i.size
  | false =>
    simp only at h2
    split at h2
    · rename_i x hx
      obtain ⟨rfl, rfl⟩ := D.pure_ok h2
      obtain ⟨v', a, b⟩ := hl.getElem hx
      exact ⟨rfl, v', by simp [part, hagg, a], b⟩
    · cases h2

theorem underlying_plain_agg {t : TypeId} {d : TypeDesc} (h : P.underlying t = some d) (hd : descAgg d = false) (w : World) : (isAgg t).run P w = .ok false w := by
  simp only [isAgg, Sem.run_bind, run_underlying h, Result.andThen_ok]
  cases d <;> first | rfl | cases hd

/-- '==' of fields -/
theorem equalFields_sound {d : Nat} : ∀ {fs : List Field} {xs ys xs' ys' : Array Value} {b : Bool} {s s' : St}, D.run (equalA.equalFields P d fs xs ys) s = .ok (b, s') → ∀ {ρ : Rho}, LRel ρ xs.toList xs'.toList → LRel ρ ys.toList ys'.toList → ∀ (w : World) (n : Nat),
    s' = s ∧ (forIn fs ((none : Option Bool), ()) (fun f _ =>
        if f.name ≠ "_" then do
          let x ← part f.type xs' f.offset
          let y ← part f.type ys' f.offset
          let r ← Op.equalIn (n + 1) f.type x y
          if (!r) = true then pure (ForInStep.done (some false, ())) else pure (ForInStep.yield (none, ()))
        else pure (ForInStep.yield (none, ()))) : Sem (Option Bool × Unit)).run P w = .ok (if b then (none, ()) else (some false, ())) w
  | [], xs, ys, xs', ys', b, s, s', h, ρ, hx, hy, w, n => by
    unfold equalA.equalFields at h
    obtain ⟨rfl, rfl⟩ := D.pure_ok h
    exact ⟨rfl, rfl⟩
  | f :: fs, xs, ys, xs', ys', b, s, s', h, ρ, hx, hy, w, n => by
    unfold equalA.equalFields at h
    obtain ⟨hname, h0⟩ := iten_ok h
    clear h
    rw [undK_eq] at h0
    have key : ∀ (x y : Value) (e : Bool) (desc : TypeDesc), P.underlying f.type = some desc → descAgg desc = false → xs'[f.offset]? = some x → ys'[f.offset]? = some y →
        (∀ n, (Op.equalIn (n + 1) f.type x y).run P w = .ok e w) →
        (forIn (f :: fs) ((none : Option Bool), ()) (fun f _ =>
        if f.name ≠ "_" then do
          let x ← part f.type xs' f.offset
          let y ← part f.type ys' f.offset
          let r ← Op.equalIn (n + 1) f.type x y
          if (!r) = true then pure (ForInStep.done (some false, ())) else pure (ForInStep.yield (none, ()))
        else pure (ForInStep.yield (none, ()))) : Sem (Option Bool × Unit)).run P w = (if e then (forIn fs ((none : Option Bool), ()) (fun f _ =>
        if f.name ≠ "_" then do
          let x ← part f.type xs' f.offset
          let y ← part f.type ys' f.offset
          let r ← Op.equalIn (n + 1) f.type x y
          if (!r) = true then pure (ForInStep.done (some false, ())) else pure (ForInStep.yield (none, ()))
        else pure (ForInStep.yield (none, ()))) : Sem (Option Bool × Unit)).run P w else .ok (some false, ()) w) := by
      intro x y e desc hd hagg hxo hyo heq
      rw [List.forIn_cons]
      have hp1 : (part f.type xs' f.offset).run P w = .ok x w := by simp [part, underlying_plain_agg hd hagg, hxo]
      have hp2 : (part f.type ys' f.offset).run P w = .ok y w := by simp [part, underlying_plain_agg hd hagg, hyo]
      rw [if_pos hname]
      simp only [Sem.run_bind, hp1, hp2, Result.andThen_ok, heq n]
      cases e <;> simp
    split at h0
    · rename_i kk k a k' b' hu h1 h2
      obtain ⟨hk, hz⟩ := ite_ok h0
      clear h0
      subst hk
      have h0 := hz
      clear hz
      obtain ⟨x', e1, r1⟩ := hx.getElem h1
      obtain ⟨y', e2, r2⟩ := hy.getElem h2
      cases r1; cases r2
      rw [Array.getElem?_toList] at e1 e2
      rw [key _ _ (a == b') _ hu rfl e1 e2 (fun n => by simp [Op.equalIn, run_underlying hu])]
      rcases D.cond_ok h0 with ⟨hc, h⟩ | ⟨hc, h⟩
      · obtain ⟨rfl, ih⟩ := equalFields_sound h hx hy w n
        rw [hc]; exact ⟨rfl, ih⟩
      · obtain ⟨rfl, rfl⟩ := D.pure_ok h
        rw [hc]; exact ⟨rfl, rfl⟩
    · rename_i a b' hu h1 h2
      obtain ⟨x', e1, r1⟩ := hx.getElem h1
      obtain ⟨y', e2, r2⟩ := hy.getElem h2
      cases r1; cases r2
      rw [Array.getElem?_toList] at e1 e2
      rw [beqBytes_eq] at h0
      rw [key _ _ (bs a == bs b') _ hu rfl e1 e2 (fun n => by
        simp only [Op.equalIn, Sem.run_bind, run_underlying hu, Result.andThen_ok, Sem.run_pure]
        rw [bytes_beq])]
      rcases D.cond_ok h0 with ⟨hc, h⟩ | ⟨hc, h⟩
      · obtain ⟨rfl, ih⟩ := equalFields_sound h hx hy w n
        rw [hc]; exact ⟨rfl, ih⟩
      · obtain ⟨rfl, rfl⟩ := D.pure_ok h
        rw [hc]; exact ⟨rfl, rfl⟩
    · rename_i a b' hu h1 h2
      obtain ⟨x', e1, r1⟩ := hx.getElem h1
      obtain ⟨y', e2, r2⟩ := hy.getElem h2
      cases r1; cases r2
      rw [Array.getElem?_toList] at e1 e2
      rw [key _ _ (a == b') _ hu rfl e1 e2 (fun n => by simp [Op.equalIn, run_underlying hu])]
      rcases D.cond_ok h0 with ⟨hc, h⟩ | ⟨hc, h⟩
      · obtain ⟨rfl, ih⟩ := equalFields_sound h hx hy w n
        rw [hc]; exact ⟨rfl, ih⟩
      · obtain ⟨rfl, rfl⟩ := D.pure_ok h
        rw [hc]; exact ⟨rfl, rfl⟩
    · cases h0

theorem equalA_sound {t : TypeId} {x y x' y' : Value} {b : Bool} {s s' : St} {d : Nat} (h : D.run (equalA P (d + 1) t x y) s = .ok (b, s')) {ρ : Rho} (hx : VRel ρ x x') (hy : VRel ρ y y') (w : World) (n : Nat) :
    s' = s ∧ (Op.equalIn (n + 2) t x' y').run P w = .ok b w := by
  unfold equalA at h
  obtain ⟨desc, s1, h1, h2⟩ := D.bind_ok h
  obtain ⟨hd, rfl⟩ := descOf_ok h1
  split at h2
  · cases hx; cases hy; obtain ⟨rfl, rfl⟩ := D.pure_ok h2; refine ⟨rfl, ?_⟩; rw [Op.equalIn]; simp only [Sem.run_bind, run_underlying hd, Result.andThen_ok]; rfl
  · cases hx; cases hy; obtain ⟨hk, h3⟩ := ite_ok h2; obtain ⟨rfl, rfl⟩ := D.pure_ok h3; refine ⟨rfl, ?_⟩; rw [Op.equalIn]; simp only [Sem.run_bind, run_underlying hd, Result.andThen_ok]; rw [if_pos hk]; rfl
  · cases hx; cases hy; obtain ⟨rfl, rfl⟩ := D.pure_ok h2; refine ⟨rfl, ?_⟩; rw [Op.equalIn, beqBytes_eq, ← bytes_beq]; simp only [Sem.run_bind, run_underlying hd, Result.andThen_ok]; rfl
  · cases hx; obtain ⟨rfl, rfl⟩ := D.pure_ok h2; refine ⟨rfl, ?_⟩; cases hy <;> (rw [Op.equalIn]; simp only [Sem.run_bind, run_underlying hd, Result.andThen_ok]; rfl)
  · cases hx; cases hy; obtain ⟨rfl, rfl⟩ := D.pure_ok h2; refine ⟨rfl, ?_⟩; rw [Op.equalIn]; simp only [Sem.run_bind, run_underlying hd, Result.andThen_ok]; rfl
  · cases hx; obtain ⟨rfl, rfl⟩ := D.pure_ok h2; refine ⟨rfl, ?_⟩; cases hy <;> (rw [Op.equalIn]; simp only [Sem.run_bind, run_underlying hd, Result.andThen_ok]; rfl)
  · cases hy; obtain ⟨rfl, rfl⟩ := D.pure_ok h2; refine ⟨rfl, ?_⟩; cases hx <;> (rw [Op.equalIn]; simp only [Sem.run_bind, run_underlying hd, Result.andThen_ok]; rfl)
  · cases hx; obtain ⟨rfl, rfl⟩ := D.pure_ok h2; refine ⟨rfl, ?_⟩; cases hy <;> (rw [Op.equalIn]; simp only [Sem.run_bind, run_underlying hd, Result.andThen_ok]; rfl)
  · cases hx; cases hy; obtain ⟨rfl, rfl⟩ := D.pure_ok h2; refine ⟨rfl, ?_⟩; rw [Op.equalIn]; simp only [Sem.run_bind, run_underlying hd, Result.andThen_ok]; rfl
  · cases hx; cases hy; obtain ⟨rfl, rfl⟩ := D.pure_ok h2; refine ⟨rfl, ?_⟩; rw [Op.equalIn]; simp only [Sem.run_bind, run_underlying hd, Result.andThen_ok]; rfl
  · cases hx; cases hy; obtain ⟨rfl, rfl⟩ := D.pure_ok h2; refine ⟨rfl, ?_⟩; rw [Op.equalIn]; simp only [Sem.run_bind, run_underlying hd, Result.andThen_ok]; rfl
  · cases hx; cases hy; obtain ⟨rfl, rfl⟩ := D.pure_ok h2; refine ⟨rfl, ?_⟩; rw [Op.equalIn]; simp only [Sem.run_bind, run_underlying hd, Result.andThen_ok]; rfl
  · cases hx; cases hy; obtain ⟨rfl, rfl⟩ := D.pure_ok h2; refine ⟨rfl, ?_⟩; rw [Op.equalIn]; simp only [Sem.run_bind, run_underlying hd, Result.andThen_ok]; rfl
  · cases hx; cases hy; obtain ⟨rfl, rfl⟩ := D.pure_ok h2; refine ⟨rfl, ?_⟩; rw [Op.equalIn]; simp only [Sem.run_bind, run_underlying hd, Result.andThen_ok]; rfl
  · cases hx; cases hy; obtain ⟨rfl, rfl⟩ := D.pure_ok h2; refine ⟨rfl, ?_⟩; rw [Op.equalIn]; simp only [Sem.run_bind, run_underlying hd, Result.andThen_ok]; rfl
  · obtain ⟨xs', rfl, hxl⟩ := VRel.agg_iff.1 hx
    obtain ⟨ys', rfl, hyl⟩ := VRel.agg_iff.1 hy
    obtain ⟨hs, h2⟩ := D.guardn_ok h2
    obtain ⟨rfl, hrun⟩ := equalFields_sound h2 hxl hyl w n
    refine ⟨rfl, ?_⟩
    rw [Op.equalIn]
    simp only [Sem.run_bind, run_underlying hd, Result.andThen_ok, run_program, hs]
    rw [if_neg (by simp)]
    simp only [← Array.forIn_toList, Sem.run_bind]
    rw [hrun]
    cases b <;> rfl
  · cases h2

end
end Go.Proofs.YthogkihfbjbghaaGreatDoor.Abs
namespace Go.Proofs.YthogkihfbjbghaaGreatDoor.Abs
section
variable {P : Program}

theorem eqGuard_run {op : BinOp} {t : TypeId} {x y : Operand} {a b a' b' : Value} {s s' : St} {u : Unit} (h : D.run (binA0.eqGuardA P ((x matches .const _) || (y matches .const _)) t a b) s = .ok (u, s')) {ρ : Rho} (ha : VRel ρ a a') (hb : VRel ρ b b')
    (hop : op = .eql ∨ op = .neq) {r : Bool} {d : Nat} {s2 s3 : St} (he : D.run (equalA P (d + 1) t a b) s2 = .ok (r, s3)) (w : World) : s' = s ∧ (eqGuard op t x y a' b').run P w = .ok () w := by
  unfold binA0.eqGuardA at h
  split at h
  · obtain ⟨hg, h⟩ := D.guard_ok h
    obtain ⟨_, rfl⟩ := D.pure_ok h
    obtain ⟨xs', rfl, hxl⟩ := VRel.agg_iff.1 ha
    obtain ⟨ys', rfl, hyl⟩ := VRel.agg_iff.1 hb
    refine ⟨rfl, ?_⟩
    unfold binA0.Op.eqGuardNot at hg
    simp only [Bool.not_eq_true'] at hg
    rcases hop with rfl | rfl <;> (unfold eqGuard; rw [if_neg (by intro h; cases h)]; simp only [Sem.run_bind, Result.andThen_ok, run_program, hg]; rfl)
  · cases ha; cases hb
    obtain ⟨hg, h⟩ := D.guard_ok h
    obtain ⟨_, rfl⟩ := D.pure_ok h
    refine ⟨rfl, ?_⟩
    rcases hop with rfl | rfl <;> (unfold eqGuard; rw [if_neg (by intro h; cases h)]; cases x <;> cases y <;> first | rfl | cases hg)
  · rename_i n1 n2
    obtain ⟨_, rfl⟩ := D.pure_ok h
    refine ⟨rfl, ?_⟩
    have key : ∀ {z z' : Value}, VRel ρ z z' → (∀ c, z' = .agg c → ∃ c', z = .agg c' ∨ z = .tuple #[]) ∧ (z' = .nilIface → z = .nilIface ∨ z = .tuple #[]) := by
      intro z z' hz
      constructor
      · intro c e; subst e; cases hz <;> first | exact ⟨#[], .inr rfl⟩ | exact ⟨_, .inl rfl⟩
      · intro e; subst e; cases hz <;> first | exact .inr rfl | exact .inl rfl
    have hpois : a ≠ .tuple #[] ∧ b ≠ .tuple #[] := by
      unfold equalA at he
      obtain ⟨desc, s4, h1, h2⟩ := D.bind_ok he
      constructor
      · intro e; subst e; cases desc <;> cases h2
      · intro e; subst e; cases desc <;> cases a <;> first | cases h2 | (rename_i o; cases o <;> cases h2) | (rename_i o _ _; cases o <;> cases h2)
    rcases hop with rfl | rfl <;> (unfold eqGuard; rw [if_neg (by intro h; cases h)]; cases a' <;> cases b' <;> first | rfl | skip)
    all_goals
      first
      | (have h1 := (key ha).2 rfl
         have h2 := (key hb).2 rfl
         rcases h1 with h1 | h1
         · rcases h2 with h2 | h2
           · exact absurd h2 (n2 h1)
           · exact absurd h2 hpois.2
         · exact absurd h1 hpois.1)
      | (obtain ⟨d1, h1⟩ := (key ha).1 _ rfl
         obtain ⟨d2, h2⟩ := (key hb).1 _ rfl
         rcases h1 with h1 | h1
         · rcases h2 with h2 | h2
           · exact absurd h2 (n1 _ _ h1)
           · exact absurd h2 hpois.2
         · exact absurd h1 hpois.1)


/-- what '==' does not ask of this road -/
def Kinds (a b : Value) : Prop := (∀ k n k' n', ¬ (a = .int k n ∧ b = .int k' n')) ∧ (∀ k n k' n', ¬ (a = .float k n ∧ b = .float k' n')) ∧ (∀ k n m k' n' m', ¬ (a = .complex k n m ∧ b = .complex k' n' m')) ∧ (∀ s s', ¬ (a = .string s ∧ b = .string s'))

theorem binOp_eql {t : TypeId} {a b : Value} (h : Kinds a b) : binOp .eql t a b = (do pure (.bool (← Op.equal t a b))) := by
  obtain ⟨h1, h2, h3, h4⟩ := h
  cases a <;> cases b <;> first | rfl | exact absurd ⟨rfl, rfl⟩ (h1 _ _ _ _) | exact absurd ⟨rfl, rfl⟩ (h2 _ _ _ _) | exact absurd ⟨rfl, rfl⟩ (h3 _ _ _ _ _ _) | exact absurd ⟨rfl, rfl⟩ (h4 _ _)

theorem binOp_neq {t : TypeId} {a b : Value} (h : Kinds a b) : binOp .neq t a b = (do pure (.bool (!(← Op.equal t a b)))) := by
  obtain ⟨h1, h2, h3, h4⟩ := h
  cases a <;> cases b <;> first | rfl | exact absurd ⟨rfl, rfl⟩ (h1 _ _ _ _) | exact absurd ⟨rfl, rfl⟩ (h2 _ _ _ _) | exact absurd ⟨rfl, rfl⟩ (h3 _ _ _ _ _ _) | exact absurd ⟨rfl, rfl⟩ (h4 _ _)

theorem equalA_poison {d : Nat} {t : TypeId} {a b : Value} {r : Bool} {s s' : St} (he : D.run (equalA P (d + 1) t a b) s = .ok (r, s')) : a ≠ .tuple #[] ∧ b ≠ .tuple #[] ∧ (∀ k n, a ≠ .float k n) := by
  unfold equalA at he
  obtain ⟨desc, s4, h1, h2⟩ := D.bind_ok he
  refine ⟨?_, ?_, ?_⟩
  · intro e; subst e; cases desc <;> cases h2
  · intro e; subst e; cases desc <;> cases a <;> first | cases h2 | (rename_i o; cases o <;> cases h2) | (rename_i o _ _; cases o <;> cases h2)
  · intro k n e; subst e; cases desc <;> cases h2

theorem equalA_kinds {d : Nat} {t : TypeId} {a b a' b' : Value} {r : Bool} {s s' : St} (he : D.run (equalA P (d + 1) t a b) s = .ok (r, s')) {ρ : Rho} (ha : VRel ρ a a') (hb : VRel ρ b b')
    (n1 : ∀ k n k' n', a = .int k n → b = .int k' n' → False) (n2 : ∀ s s', a = .string s → b = .string s' → False) : Kinds a' b' := by
  obtain ⟨p1, p2, p3⟩ := equalA_poison he
  refine ⟨?_, ?_, ?_, ?_⟩
  · rintro k n k' n' ⟨rfl, rfl⟩
    cases ha with
    | any => exact p1 rfl
    | int => cases hb with
      | any => exact p2 rfl
      | int => exact n1 _ _ _ _ rfl rfl
  · rintro k n k' n' ⟨rfl, rfl⟩
    cases ha with
    | any => exact p1 rfl
    | float => exact p3 _ _ rfl
  · rintro k n m k' n' m' ⟨rfl, rfl⟩
    cases ha with
    | any => exact p1 rfl
  · rintro s s' ⟨rfl, rfl⟩
    cases ha with
    | any => exact p1 rfl
    | string => cases hb with
      | any => exact p2 rfl
      | string => exact n2 _ _ rfl rfl

theorem binA_eq (cst : Bool) (op : BinOp) (t : TypeId) (x y : Value) : binA P cst op t x y = binA0 P cst op t x y := by
  unfold binA
  cases x with
  | int k a =>
    cases y with
    | int k' b => cases op <;> rfl
    | _ => rfl
  | _ => rfl

/-- an operator on ints of one kind, another one on strings .. -/
theorem binA_sound {op : BinOp} {t : TypeId} {x y : Operand} {a b a' b' : Value} {s s' : St} {v : Value} (h : D.run (binA P ((x matches .const _) || (y matches .const _)) op t a b) s = .ok (v, s')) {ρ : Rho} (ha : VRel ρ a a') (hb : VRel ρ b b') (w : World) :
    s' = s ∧ ∃ v', (do eqGuard op t x y a' b'; binOp op t a' b' : Sem Value).run P w = .ok v' w ∧ VRel ρ v v' := by
  have nog : ∀ (op : BinOp) (c d : Value), op ≠ .eql → op ≠ .neq → (eqGuard op t x y c d).run P w = .ok () w := by
    intro op c d h1 h2
    unfold eqGuard
    rw [if_pos (by cases op <;> first | rfl | exact absurd rfl h1 | exact absurd rfl h2)]
    rfl
  have gint : ∀ (op : BinOp) (k : IntKind) (c d : Int), (eqGuard op t x y (.int k c) (.int k d)).run P w = .ok () w := by
    intro op k c d; unfold eqGuard; split <;> rfl
  have gstr : ∀ (op : BinOp) (c d : ByteArray), (eqGuard op t x y (.string c) (.string d)).run P w = .ok () w := by
    intro op c d; unfold eqGuard; split <;> rfl
  rw [binA_eq] at h
  unfold binA0 at h
  split at h
  · obtain ⟨hk, h1⟩ := ite_ok h; subst hk; rw [wrapA_eq] at h1; obtain ⟨rfl, rfl⟩ := D.pure_ok h1; cases ha; cases hb
    exact ⟨rfl, _, by simp only [Sem.run_bind, gint, Result.andThen_ok, binOp, ne_eq, not_true_eq_false, if_false]; rfl, .int _ _⟩
  · obtain ⟨hk, h1⟩ := ite_ok h; subst hk; rw [wrapA_eq] at h1; obtain ⟨rfl, rfl⟩ := D.pure_ok h1; cases ha; cases hb
    exact ⟨rfl, _, by simp only [Sem.run_bind, gint, Result.andThen_ok, binOp, ne_eq, not_true_eq_false, if_false]; rfl, .int _ _⟩
  · obtain ⟨hk, h1⟩ := ite_ok h; subst hk; rw [wrapA_eq] at h1; obtain ⟨rfl, rfl⟩ := D.pure_ok h1; cases ha; cases hb
    exact ⟨rfl, _, by simp only [Sem.run_bind, gint, Result.andThen_ok, binOp, ne_eq, not_true_eq_false, if_false]; rfl, .int _ _⟩
  · obtain ⟨hk, h1⟩ := ite_ok h; subst hk; obtain ⟨h0, h2⟩ := iten_ok h1; rw [wrapA_eq] at h2; obtain ⟨rfl, rfl⟩ := D.pure_ok h2; cases ha; cases hb
    exact ⟨rfl, _, by simp only [Sem.run_bind, gint, Result.andThen_ok, binOp, ne_eq, not_true_eq_false, if_false, Op.intDiv, if_neg h0]; rfl, .int _ _⟩
  · obtain ⟨hk, h1⟩ := ite_ok h; subst hk; obtain ⟨h0, h2⟩ := iten_ok h1; obtain ⟨rfl, rfl⟩ := vint_ok h2; cases ha; cases hb
    exact ⟨rfl, _, by simp only [Sem.run_bind, gint, Result.andThen_ok, binOp, ne_eq, not_true_eq_false, if_false, Op.intDiv, if_neg h0]; rfl, .int _ _⟩
  · obtain ⟨hk, h1⟩ := ite_ok h; subst hk; obtain ⟨rfl, rfl⟩ := vint_ok h1; cases ha; cases hb
    exact ⟨rfl, _, by simp only [Sem.run_bind, gint, Result.andThen_ok, binOp, ne_eq, not_true_eq_false, if_false]; rfl, .int _ _⟩
  · obtain ⟨hk, h1⟩ := ite_ok h; subst hk; obtain ⟨rfl, rfl⟩ := vint_ok h1; cases ha; cases hb
    exact ⟨rfl, _, by simp only [Sem.run_bind, gint, Result.andThen_ok, binOp, ne_eq, not_true_eq_false, if_false]; rfl, .int _ _⟩
  · obtain ⟨hk, h1⟩ := ite_ok h; subst hk; obtain ⟨rfl, rfl⟩ := vint_ok h1; cases ha; cases hb
    exact ⟨rfl, _, by simp only [Sem.run_bind, gint, Result.andThen_ok, binOp, ne_eq, not_true_eq_false, if_false]; rfl, .int _ _⟩
  · obtain ⟨hk, h1⟩ := ite_ok h; subst hk; obtain ⟨rfl, rfl⟩ := vint_ok h1; cases ha; cases hb
    exact ⟨rfl, _, by simp only [Sem.run_bind, gint, Result.andThen_ok, binOp, ne_eq, not_true_eq_false, if_false]; rfl, .int _ _⟩
  · obtain ⟨h0, h2⟩ := iten_ok h; obtain ⟨rfl, rfl⟩ := vint_ok h2; cases ha; cases hb
    exact ⟨rfl, _, by simp only [Sem.run_bind, nog .shl _ _ (by intro h; cases h) (by intro h; cases h), Result.andThen_ok, binOp, Op.shift, if_neg h0]; rfl, .int _ _⟩
  · obtain ⟨h0, h2⟩ := iten_ok h; obtain ⟨rfl, rfl⟩ := vint_ok h2; cases ha; cases hb
    exact ⟨rfl, _, by simp only [Sem.run_bind, nog .shr _ _ (by intro h; cases h) (by intro h; cases h), Result.andThen_ok, binOp, Op.shift, if_neg h0]; rfl, .int _ _⟩
  · obtain ⟨hk, h1⟩ := ite_ok h; subst hk; obtain ⟨rfl, rfl⟩ := D.pure_ok h1; cases ha; cases hb
    exact ⟨rfl, _, by simp only [Sem.run_bind, gint, Result.andThen_ok, binOp, ne_eq, not_true_eq_false, if_false]; rfl, .bool _⟩
  · obtain ⟨hk, h1⟩ := ite_ok h; subst hk; obtain ⟨rfl, rfl⟩ := D.pure_ok h1; cases ha; cases hb
    exact ⟨rfl, _, by simp only [Sem.run_bind, gint, Result.andThen_ok, binOp, ne_eq, not_true_eq_false, if_false]; rfl, .bool _⟩
  · obtain ⟨hk, h1⟩ := ite_ok h; subst hk; obtain ⟨rfl, rfl⟩ := D.pure_ok h1; cases ha; cases hb
    exact ⟨rfl, _, by simp only [Sem.run_bind, gint, Result.andThen_ok, binOp, ne_eq, not_true_eq_false, if_false]; rfl, .bool _⟩
  · obtain ⟨hk, h1⟩ := ite_ok h; subst hk; obtain ⟨rfl, rfl⟩ := D.pure_ok h1; cases ha; cases hb
    exact ⟨rfl, _, by simp only [Sem.run_bind, gint, Result.andThen_ok, binOp, ne_eq, not_true_eq_false, if_false]; rfl, .bool _⟩
  · obtain ⟨hk, h1⟩ := ite_ok h; subst hk; obtain ⟨rfl, rfl⟩ := D.pure_ok h1; cases ha; cases hb
    exact ⟨rfl, _, by simp only [Sem.run_bind, gint, Result.andThen_ok, binOp, ne_eq, not_true_eq_false, if_false]; rfl, .bool _⟩
  · obtain ⟨hk, h1⟩ := ite_ok h; subst hk; obtain ⟨rfl, rfl⟩ := D.pure_ok h1; cases ha; cases hb
    exact ⟨rfl, _, by simp only [Sem.run_bind, gint, Result.andThen_ok, binOp, ne_eq, not_true_eq_false, if_false]; rfl, .bool _⟩
  · obtain ⟨hg, h1⟩ := D.guard_ok h; obtain ⟨rfl, rfl⟩ := vstr_ok h1; cases ha; cases hb
    rename_i a b
    have hle := Nat.le_of_ble_eq_true hg
    refine ⟨rfl, .string (a ++ b), ?_, ?_⟩
    · simp only [Sem.run_bind, gstr, Result.andThen_ok, binOp, Op.stringOp]
      rw [if_neg (by
        have e1 : a.size = (bs a).length := rfl
        have e2 : b.size = (bs b).length := rfl
        have e3 : IntKind.i64.max = 9223372036854775807 := by decide
        rw [e1, e2, e3]; omega)]
      rfl
    · have : a ++ b = ⟨⟨bs a ++ bs b⟩⟩ := by apply ByteArray.ext; apply Array.ext'; simp [bs]
      rw [this]; exact .string _
  · obtain ⟨rfl, rfl⟩ := D.pure_ok h; cases ha; cases hb
    refine ⟨rfl, _, by simp only [Sem.run_bind, gstr, Result.andThen_ok, binOp, Op.stringOp, toList_bs]; rfl, ?_⟩
    rw [beqBytes_eq]; exact .bool _
  · obtain ⟨rfl, rfl⟩ := D.pure_ok h; cases ha; cases hb
    refine ⟨rfl, _, by simp only [Sem.run_bind, gstr, Result.andThen_ok, binOp, Op.stringOp, toList_bs]; rfl, ?_⟩
    rw [beqBytes_eq]; exact .bool _
  · obtain ⟨rfl, rfl⟩ := D.pure_ok h; cases ha; cases hb
    refine ⟨rfl, _, by simp only [Sem.run_bind, gstr, Result.andThen_ok, binOp, Op.stringOp, toList_bs]; rfl, ?_⟩
    rw [lessBytes_eq]; exact .bool _
  · obtain ⟨rfl, rfl⟩ := D.pure_ok h; cases ha; cases hb
    refine ⟨rfl, _, by simp only [Sem.run_bind, gstr, Result.andThen_ok, binOp, Op.stringOp, toList_bs]; rfl, ?_⟩
    rw [lessBytes_eq, beqBytes_eq]; exact .bool _
  · obtain ⟨rfl, rfl⟩ := D.pure_ok h; cases ha; cases hb
    refine ⟨rfl, _, by simp only [Sem.run_bind, gstr, Result.andThen_ok, binOp, Op.stringOp, toList_bs]; rfl, ?_⟩
    rw [lessBytes_eq, beqBytes_eq]; exact .bool _
  · obtain ⟨rfl, rfl⟩ := D.pure_ok h; cases ha; cases hb
    refine ⟨rfl, _, by simp only [Sem.run_bind, gstr, Result.andThen_ok, binOp, Op.stringOp, toList_bs]; rfl, ?_⟩
    rw [lessBytes_eq]; exact .bool _
  · rename_i n1 n2
    obtain ⟨u, s1, h1, h2⟩ := D.bind_ok h
    obtain ⟨b, s2, h3, h4⟩ := D.bind_ok h2
    obtain ⟨rfl, rfl⟩ := D.pure_ok h4
    obtain ⟨rfl, hg⟩ := eqGuard_run (x := x) (y := y) h1 ha hb (op := .eql) (by simp) h3 w
    obtain ⟨rfl, he⟩ := equalA_sound h3 ha hb w 9998
    refine ⟨rfl, _, ?_, .bool _⟩
    simp only [Sem.run_bind, hg, Result.andThen_ok]
    rw [binOp_eql (equalA_kinds h3 ha hb n1 n2)]
    simp only [Sem.run_bind, Op.equal, Op.maxDepth, he, Result.andThen_ok, Sem.run_pure]
  · rename_i n1 n2
    obtain ⟨u, s1, h1, h2⟩ := D.bind_ok h
    obtain ⟨b, s2, h3, h4⟩ := D.bind_ok h2
    obtain ⟨rfl, rfl⟩ := D.pure_ok h4
    obtain ⟨rfl, hg⟩ := eqGuard_run (x := x) (y := y) h1 ha hb (op := .neq) (by simp) h3 w
    obtain ⟨rfl, he⟩ := equalA_sound h3 ha hb w 9998
    refine ⟨rfl, _, ?_, .bool _⟩
    simp only [Sem.run_bind, hg, Result.andThen_ok]
    rw [binOp_neq (equalA_kinds h3 ha hb n1 n2)]
    simp only [Sem.run_bind, Op.equal, Op.maxDepth, he, Result.andThen_ok, Sem.run_pure]
  · cases h

end
end Go.Proofs.YthogkihfbjbghaaGreatDoor.Abs
namespace Go.Proofs.YthogkihfbjbghaaGreatDoor.Abs

/-- an optional operand -/
def ORelV (ρ : Rho) (v v' : Option Value) : Prop := (∀ x, v = some x → ∃ x', v' = some x' ∧ VRel ρ x x') ∧ (v = none → v' = none)

/-- a bound that was told, or is the one that stands for none -/
def Bnd (v : Option Value) (dflt hi n : Nat) : Prop := v = none ∧ n = dflt ∨ ∃ k, v = some (.int k (n : Int)) ∧ n ≤ hi

theorem boundA_ok {v : Option Value} {dflt hi n : Nat} {s s' : St} (h : D.run (boundA v dflt hi) s = .ok (n, s')) {ρ : Rho} {v' : Option Value} (hv : ORelV ρ v v') : s' = s ∧ Bnd v' dflt hi n := by
  unfold boundA at h
  split at h
  · obtain ⟨rfl, rfl⟩ := D.pure_ok h
    exact ⟨rfl, .inl ⟨hv.2 rfl, rfl⟩⟩
  · obtain ⟨hg, h1⟩ := D.guard_ok h
    rw [fnat_eq] at h1
    obtain ⟨rfl, rfl⟩ := D.pure_ok h1
    obtain ⟨x', rfl, hx⟩ := hv.1 _ rfl
    cases hx
    simp only [Bool.and_eq_true, decide_eq_true_eq] at hg
    exact ⟨rfl, .inr ⟨_, by rw [Int.toNat_of_nonneg hg.1], by omega⟩⟩
  · cases h

section
variable {P : Program}

theorem run_bound (k : IntKind) (n y : Nat) (code : BoundsCode) (h : n ≤ y) (w : World) : (Instr.sliceBound (.int k n) y code).run P w = .ok n w := by
  simp only [Instr.sliceBound, Sem.run_bind, asIntOf, Sem.run_pure, Result.andThen_ok]
  rw [if_pos ⟨by omega, by omega⟩]; rfl

theorem run_bounds {sl : Bool} {len cap l h m : Nat} {lo hi mx : Option Value} (hm : Bnd mx cap cap m) (hh : Bnd hi len m h) (hl : Bnd lo 0 h l) (hx : hi = none → mx = none) (w : World) :
    (Instr.sliceBounds sl len cap lo hi mx).run P w = .ok (l, h, m) w := by
  unfold Instr.sliceBounds
  rcases hm with ⟨rfl, rfl⟩ | ⟨km, rfl, hm⟩ <;> rcases hh with ⟨rfl, rfl⟩ | ⟨kh, rfl, hh⟩ <;> rcases hl with ⟨rfl, rfl⟩ | ⟨kl, rfl, hl⟩ <;>
    first
    | (cases hx rfl; done)
    | simp [run_bound, *]

theorem extract_eq (s : ByteArray) (l h : Nat) : s.extract l h = ⟨⟨((bs s).drop l).take (h - l)⟩⟩ := by
  apply ByteArray.ext
  apply Array.ext'
  simp [ByteArray.data_extract, bs, List.extract_eq_take_drop]

theorem Bnd.le {v : Option Value} {dflt hi n : Nat} (h : Bnd v dflt hi n) (hd : dflt ≤ hi) : n ≤ hi := by
  rcases h with ⟨_, rfl⟩ | ⟨_, _, h⟩
  · exact hd
  · exact h

theorem VRel.slice_inv {ρ : Rho} {id off len cap : Nat} {v' : Value} (h : VRel ρ (.slice (some ⟨id, off, none⟩) len cap) v') :
    (cap < capU ∧ ∃ k, ρ id = some k ∧ v' = .slice (some ⟨k.b, k.sh + off, none⟩) len cap) ∨ (len = 0 ∧ cap = 0 ∧ (∃ k, ρ id = some k) ∧ ∃ a, v' = .slice (some a) 0 0) ∨
    (∃ k i, ρ id = some k ∧ cap = capU + k.sz ∧ off = k.sz * i ∧ i + len ≤ k.cap ∧ v' = .slice (some ⟨k.b, k.sh + off, none⟩) len (k.cap - i)) ∨
    (∃ k a, ρ id = some k ∧ cap = capU + k.sz ∧ len = 0 ∧ off = k.sz * k.cap ∧ v' = .slice (some a) 0 0) := by
  cases h with
  | slice _ _ _ _ k h hc => exact .inl ⟨hc, k, h, rfl⟩
  | slice0 _ _ k h a => exact .inr (.inl ⟨rfl, rfl, ⟨k, h⟩, a, rfl⟩)
  | sliceU _ _ _ i k h hi hl => exact .inr (.inr (.inl ⟨k, i, h, rfl, hi, hl, rfl⟩))
  | sliceE _ _ k h ho a => exact .inr (.inr (.inr ⟨k, a, h, rfl, rfl, ho, rfl⟩))

theorem Bnd.mono {v : Option Value} {dflt hi hi' n : Nat} (h : Bnd v dflt hi n) (hle : hi ≤ hi') : Bnd v dflt hi' n := by
  rcases h with h | ⟨k, a, b⟩
  · exact .inl h
  · exact .inr ⟨k, a, by omega⟩

theorem run_slice_slice {t elem : TypeId} {i : TypeInfo} (hd : P.underlying t = some (.slice elem)) (hi : P.info? elem = some i) {a : Option Addr} {len cap l h m : Nat} {lo hi' mx : Option Value} (hm : Bnd mx cap cap m) (hh : Bnd hi' len m h) (hl : Bnd lo 0 h l)
    (hx : hi' = none → mx = none) (w : World) : (Instr.sliceAt t (.slice a len cap) lo hi' mx).run P w = .ok (.slice (if m = l then a else a.map (·.add (l * i.size))) (h - l) (m - l)) w := by
  unfold Instr.sliceAt Instr.slice
  simp [run_underlying hd, run_bounds hm hh hl hx, run_sizeOf hi]

theorem sliceA_sound {t : TypeId} {x x' : Value} {lo hi0 mx lo' hi' mx' : Option Value} {v : Value} {s s' : St} (h : D.run (sliceA P t x lo hi0 mx) s = .ok (v, s')) {ρ : Rho}
    (hx : VRel ρ x x') (hlo : ORelV ρ lo lo') (hhi : ORelV ρ hi0 hi') (hmx : ORelV ρ mx mx') (w : World) :
    s' = s ∧ ∃ v', (Instr.sliceAt t x' lo' hi' mx').run P w = .ok v' w ∧ VRel ρ v v' := by
  unfold sliceA at h
  obtain ⟨desc, s1, h1, h2⟩ := D.bind_ok h
  obtain ⟨hd, rfl⟩ := descOf_ok h1
  split at h2
  · -- a string
    rename_i st
    cases hx
    split at h2
    · cases h2
    · obtain ⟨hh, s2, h3, h4⟩ := D.bind_ok h2
      obtain ⟨ll, s3, h5, h6⟩ := D.bind_ok h4
      obtain ⟨rfl, rfl⟩ := vstr_ok h6
      obtain ⟨rfl, b1⟩ := boundA_ok h3 hhi
      obtain ⟨rfl, b2⟩ := boundA_ok h5 hlo
      rw [hmx.2 rfl]
      refine ⟨rfl, _, ?_, .string _⟩
      rw [← extract_eq st ll hh]
      have e2 : (bs st).length = st.size := rfl
      rw [e2] at b1
      unfold Instr.sliceAt Instr.slice
      simp [run_underlying hd, run_bounds (sl := false) (cap := st.size) (mx := none) (m := st.size) (.inl ⟨rfl, rfl⟩) b1 b2 (fun _ => rfl)]
  · -- a slice
    rename_i elem a len cap
    obtain ⟨i, s2, h3, h4⟩ := D.bind_ok h2
    obtain ⟨hi, rfl⟩ := infoOf_ok h3
    obtain ⟨hz, h5⟩ := D.guardn_ok h4
    rcases D.cond_ok h5 with ⟨hc, h6⟩ | ⟨hc, h6⟩
    · have hc := Nat.eq_of_beq_eq_true hc
      split at h6
      · -- no capacity, no max
        rename_i b off
        obtain ⟨hh, s3, h7, h8⟩ := D.bind_ok h6
        obtain ⟨ll, s4, h9, h10⟩ := D.bind_ok h8
        obtain ⟨rfl, b1⟩ := boundA_ok h7 hhi
        obtain ⟨rfl, b2⟩ := boundA_ok h9 hlo
        rw [fnat_eq, fnat_eq] at h10
        obtain ⟨rfl, rfl⟩ := D.pure_ok h10
        rw [hmx.2 rfl]
        have hhl := b1.le (Nat.le_refl _)
        have hll := b2.le (Nat.zero_le _)
        rcases hx.slice_inv with ⟨hcc, _⟩ | ⟨_, hcc, _⟩ | ⟨k, i0, hk, hcap, hoff, hlen, rfl⟩ | ⟨k, a', hk, hcap, hlen, hoff, rfl⟩
        · omega
        · have : 0 < capU := by decide
          omega
        · have hsz : k.sz = i.size := by omega
          refine ⟨rfl, _, run_slice_slice hd hi (.inl ⟨rfl, rfl⟩) (b1.mono (by omega)) b2 (fun _ => rfl) w, ?_⟩
          by_cases he : k.cap - i0 = ll
          · rw [if_pos he, hcap]
            have e0 : hh - ll = 0 := by omega
            have e1 : k.cap - i0 - ll = 0 := by omega
            rw [e0, e1]
            exact .sliceE _ _ k hk (by rw [hoff, ← hsz, Nat.mul_comm ll, ← Nat.mul_add]; congr 1; omega) _
          · rw [if_neg he, hcap]
            have := VRel.sliceU (ρ := ρ) b (off + ll * i.size) (hh - ll) (i0 + ll) k hk (by rw [hoff, ← hsz, Nat.mul_add, Nat.mul_comm ll]) (by omega)
            rw [← Nat.sub_sub, ← Nat.add_assoc] at this
            simpa [addr_add] using this
        · subst hlen
          have e0 : hh = 0 := by omega
          have e1 : ll = 0 := by omega
          subst e0; subst e1
          refine ⟨rfl, _, run_slice_slice hd hi (.inl ⟨rfl, rfl⟩) b1 b2 (fun _ => rfl) w, ?_⟩
          simp only [Nat.zero_mul, Nat.add_zero, Nat.sub_self, if_true, hcap]
          exact .sliceE _ _ k hk hoff a'
      · -- no capacity, a max
        rename_i mv b off
        obtain ⟨hnone, h59⟩ := D.guardn_ok h6
        obtain ⟨mm, s0, h60, h61⟩ := D.bind_ok h59
        obtain ⟨hh, s3, h7, h8⟩ := D.bind_ok h61
        obtain ⟨ll, s4, h9, h99⟩ := D.bind_ok h8
        obtain ⟨hbig, h10⟩ := D.guardn_ok h99
        obtain ⟨rfl, b0⟩ := boundA_ok h60 hmx
        obtain ⟨rfl, b1⟩ := boundA_ok h7 hhi
        obtain ⟨rfl, b2⟩ := boundA_ok h9 hlo
        rw [fnat_eq, fnat_eq, fnat_eq] at h10
        obtain ⟨rfl, rfl⟩ := D.pure_ok h10
        have hm1 : mm < capU := by
          simp only [Bool.not_eq_false', Nat.blt_eq] at hbig; exact hbig
        obtain ⟨hx0, hxe⟩ : ∃ x, hi0 = some x := by
          cases e : hi0 with
          | none => rw [e] at hnone; cases hnone
          | some x => exact ⟨x, rfl⟩
        obtain ⟨hx', hxe', _⟩ := hhi.1 _ hxe
        obtain ⟨mv', hmv', _⟩ := hmx.1 _ rfl
        have hno : hi' = none → mx' = none := fun e => by rw [hxe'] at e; cases e
        have hml : mm ≤ len := b0.le (Nat.le_refl _)
        have hb0 : ∀ c, len ≤ c → Bnd mx' c c mm := fun c hc => by
          rcases b0 with ⟨e, _⟩ | ⟨k, e, _⟩
          · rw [hmv'] at e; cases e
          · exact .inr ⟨k, e, by omega⟩
        have hhm : hh ≤ mm := by
          rcases b1 with ⟨e, _⟩ | ⟨k, e, h⟩
          · rw [hxe'] at e; cases e
          · exact h
        have hlh : ll ≤ hh := b2.le (Nat.zero_le _)
        rcases hx.slice_inv with ⟨hcc, _⟩ | ⟨_, hcc, _⟩ | ⟨k, i0, hk, hcap, hoff, hlen, rfl⟩ | ⟨k, a', hk, hcap, hlen, hoff, rfl⟩
        · omega
        · have : 0 < capU := by decide
          omega
        · refine ⟨rfl, _, run_slice_slice hd hi (hb0 _ (by omega)) b1 b2 hno w, ?_⟩
          by_cases he : mm = ll
          · rw [if_pos he, if_pos he]; exact .slice _ _ _ _ k hk (by omega)
          · rw [if_neg he, if_neg he]
            have := VRel.slice (ρ := ρ) b (off + ll * i.size) (hh - ll) (mm - ll) k hk (by omega)
            rw [← Nat.add_assoc] at this
            simpa [addr_add] using this
        · subst hlen
          have e2 : mm = 0 := by omega
          have e0 : hh = 0 := by omega
          have e1 : ll = 0 := by omega
          subst e2; subst e0; subst e1
          refine ⟨rfl, _, run_slice_slice hd hi (hb0 _ (Nat.le_refl _)) b1 b2 hno w, ?_⟩
          simp only [Nat.sub_self, if_true]
          exact .slice0 _ _ k hk a'
      · cases h6
    · obtain ⟨hcc, h7⟩ := D.guardn_ok h6
      have hcap : cap < capU := by simp only [Bool.not_eq_false', Nat.blt_eq] at hcc; exact hcc
      split at h7
      · cases h7
      · rename_i hno0
        have hno : hi' = none → mx' = none := fun e => by
          cases e1 : hi0 with
          | some x => obtain ⟨y, e2, _⟩ := hhi.1 _ e1; rw [e] at e2; cases e2
          | none =>
            cases e2 : mx with
            | none => exact hmx.2 e2
            | some y => exact absurd e2 (hno0 _ e1)
        obtain ⟨mm, s0, h60, h61⟩ := D.bind_ok h7
        obtain ⟨hh, s3, h70, h8⟩ := D.bind_ok h61
        obtain ⟨ll, s4, h9, h10⟩ := D.bind_ok h8
        obtain ⟨rfl, b0⟩ := boundA_ok h60 hmx
        obtain ⟨rfl, b1⟩ := boundA_ok h70 hhi
        obtain ⟨rfl, b2⟩ := boundA_ok h9 hlo
        have hml : mm ≤ cap := b0.le (Nat.le_refl _)
        split at h10
        · rw [fnat_eq, fnat_eq] at h10
          obtain ⟨rfl, rfl⟩ := D.pure_ok h10
          cases hx with
          | sliceNil _ _ hc =>
            refine ⟨rfl, _, run_slice_slice hd hi b0 b1 b2 hno w, ?_⟩
            by_cases he : mm = ll
            · rw [if_pos he]; exact .sliceNil _ _ (by omega)
            · rw [if_neg he]; exact .sliceNil _ _ (by omega)
        · rename_i b off
          rw [fnat_eq, fnat_eq, fnat_eq] at h10
          obtain ⟨rfl, rfl⟩ := D.pure_ok h10
          rcases hx.slice_inv with ⟨_, k, hk, rfl⟩ | ⟨hl0, hc0, ⟨k, hk⟩, a', rfl⟩ | ⟨k, i0, hk, hcap', _⟩ | ⟨k, a', hk, hcap', _⟩
          · refine ⟨rfl, _, run_slice_slice hd hi b0 b1 b2 hno w, ?_⟩
            by_cases he : mm = ll
            · rw [if_pos he, if_pos he]; exact .slice _ _ _ _ k hk (by omega)
            · rw [if_neg he, if_neg he]
              have := VRel.slice (ρ := ρ) b (off + ll * i.size) (hh - ll) (mm - ll) k hk (by omega)
              rw [← Nat.add_assoc] at this
              simpa [addr_add] using this
          · subst hl0; subst hc0
            have e2 : mm = 0 := by omega
            have e0 : hh = 0 := by
              rcases b1 with ⟨_, e⟩ | ⟨_, _, e⟩ <;> omega
            have e1 : ll = 0 := by
              have := b2.le (Nat.zero_le _)
              omega
            subst e2; subst e0; subst e1
            refine ⟨rfl, _, run_slice_slice hd hi b0 b1 b2 hno w, ?_⟩
            simp only [Nat.sub_self, if_true]
            exact .slice0 _ _ k hk a'
          · omega
          · omega
        · cases h10
  · -- an array's address
    rename_i n elem b off
    obtain ⟨i, s2, h3, h4⟩ := D.bind_ok h2
    obtain ⟨hi, rfl⟩ := infoOf_ok h3
    split at h4
    · cases h4
    · obtain ⟨hh, s3, h7, h8⟩ := D.bind_ok h4
      obtain ⟨ll, s4, h9, h99⟩ := D.bind_ok h8
      obtain ⟨hbig, h10⟩ := D.guardn_ok h99
      obtain ⟨rfl, b1⟩ := boundA_ok h7 hhi
      obtain ⟨rfl, b2⟩ := boundA_ok h9 hlo
      rw [fnat_eq, fnat_eq, fnat_eq] at h10
      obtain ⟨rfl, rfl⟩ := D.pure_ok h10
      have hm1 : n < capU := by
        simp only [Bool.not_eq_false', Nat.blt_eq] at hbig; exact hbig
      rw [hmx.2 rfl]
      cases hx with
      | ptr _ _ k hk =>
        refine ⟨rfl, .slice (some (if n = ll then ⟨k.b, k.sh + off, none⟩ else (⟨k.b, k.sh + off, none⟩ : Addr).add (ll * i.size))) (hh - ll) (n - ll), ?_, ?_⟩
        · unfold Instr.sliceAt
          simp [run_underlying hd, Instr.sureAddr, run_bounds (sl := false) (cap := n) (mx := none) (m := n) (.inl ⟨rfl, rfl⟩) b1 b2 (fun _ => rfl), run_sizeOf hi]
        · by_cases he : n = ll
          · rw [if_pos he, if_pos he]; exact .slice _ _ _ _ k hk (by omega)
          · rw [if_neg he, if_neg he]
            have := VRel.slice (ρ := ρ) b (off + ll * i.size) (hh - ll) (n - ll) k hk (by omega)
            rw [← Nat.add_assoc] at this
            simpa [addr_add] using this
  · cases h2
end
end Go.Proofs.YthogkihfbjbghaaGreatDoor.Abs
