/- the walks. -/
import Derived.Test.YtimphpiofoepgaaGreatDoorWj
import Derived.Deep.Slices
import Derived.Deep.Fields
import Derived.ChangeSame
import Derived.SizedLaws
namespace Go.Proofs.YtimphpiofoepgaaGreatDoor
open Go Go.RowKit Go.ChangeShapes Go.WideShapes Go.Deep

section
variable {H : Type} {enc : TypeId × Value → H} {P : Program} {w : World} {base : Nat} {spare : Nat → Bool} {held : Bool}
theorem open_slice_fields {t e : TypeId} {fs : Array Field} {fuel : Nat} {cs : List Value} {x : DataW H × List MemPlace} (ht : P.underlying t = some (.slice e)) (he : P.underlying e = some (.struct fs))
    (hone : oneCellFields P fs = true) (hC : P.cellsOf e = fs.size) (h : DataW.trod enc P w base spare held fuel t cs = some x) :
    (cs = [.slice none 0 0] ∧ x = (.nil, [])) ∨
    ∃ (a : Addr) (len cap m : Nat) (D : Nat → DataW H) (Pl : Nat → List MemPlace), cs = [.slice (some a) len cap] ∧ base ≤ a.block ∧ len ≤ cap ∧ cap ≤ maxLen ∧ m = (if spare a.block then cap else len) ∧
      x = (.slice ((List.range len).map D) ((List.range (m - len)).map fun j => D (len + j)), MemPlace.row a (m * fs.size) ++ (List.range m).flatMap Pl) ∧
      ∀ i, i < m → ∃ (ys : List (DataW H × List MemPlace)) (n : Nat), D i = .agg (ys.map (·.1)) ∧ Pl i = ys.flatMap (·.2) ∧ ys.length = fs.size ∧
        ∀ (j : Nat) (f : Field), fs[j]? = some f → ∃ (v : Value) (y : DataW H × List MemPlace), w.cell? (a.add (i * fs.size + j)) = some v ∧ ys[j]? = some y ∧ DataW.trod enc P w base spare held n f.type [v] = some y := by
  rcases open_slice ht h with h0 | ⟨a, len, cap, m, n, D, Pl, hcs, hb, hl, hm, hmm, hx, hi⟩
  · exact .inl h0
  · refine .inr ⟨a, len, cap, m, D, Pl, hcs, hb, hl, hm, hmm, by rw [hC] at hx; exact hx, fun i him => ?_⟩
    obtain ⟨cs', hc, ht'⟩ := hi i him
    rw [hC] at hc
    obtain ⟨ys, n', hn', hy, hlen, hyl, hf⟩ := DataW.trod_struct he ht'
    obtain ⟨_, hcl, hat⟩ := World.cells?_some hc
    simp only [Prod.mk.injEq] at hy
    refine ⟨ys, n', hy.1, hy.2, hyl, fun j f hj => ?_⟩
    obtain ⟨ho, hk⟩ := hone_of hone j f hj
    have hjl : j < fs.size := (Array.getElem?_eq_some_iff.1 hj).1
    have hcell := hat j hjl
    have hv : cs'[j]? = some (cs'[j]'(by omega)) := List.getElem?_eq_getElem (by omega)
    have h1 := hf j f hj
    rw [ho, hk] at h1
    have hone' : (cs'.drop j).take 1 = [cs'[j]'(by omega)] := by
      rw [List.drop_eq_getElem_cons (by omega)]
      rfl
    rw [hone'] at h1
    have hys : ys[j]? = some (ys[j]'(by omega)) := List.getElem?_eq_getElem (by omega)
    refine ⟨_, _, ?_, hys, h1.trans hys⟩
    rw [← Go.Deep.add_add, hcell, hv]
end

section
variable {H : Type} {enc : TypeId × Value → H} {w : World} {base : Nat} {spare : Nat → Bool} {held : Bool}

theorem u8_wf {k : Int} (h : (Lit.int .u8 k).wf = true) : 0 ≤ k ∧ k ≤ 255 := by
  simp only [Lit.wf, Bool.and_eq_true, decide_eq_true_eq] at h
  have e1 : IntKind.u8.min = 0 := by decide
  have e2 : IntKind.u8.max = 255 := by decide
  rw [e1, e2] at h
  exact h

/-- a slice of bytes -/
theorem open_text {fuel : Nat} {v : Value} {x : DataW H × List MemPlace} (h : DataW.trod enc Tryz.prog w base spare held fuel 24 [v] = some x) :
    ∃ (a : Option Addr) (c : Nat) (tx : List UInt8), v = .slice a tx.length c ∧ Reads w w.heap.size 1 a tx.length (bv tx) ∧ ((x.1 = .nil ∧ tx = []) ∨ ∃ el sp, x.1 = .slice el sp ∧ el.length = tx.length) := by
  rcases open_slice Tryz.underlying24 h with ⟨hv, rfl⟩ | ⟨a, len, cap, m, n, D, Pl, hv, hb, hl, hm, hmm, hx, hi⟩
  · cases hv
    exact ⟨none, 0, [], rfl, Reads.none_, .inl ⟨rfl, rfl⟩⟩
  · cases hv
    have hC : Tryz.prog.cellsOf 5 = 1 := by kernel_rfl
    rw [hC] at hx hi
    have hlm : len ≤ m := by rw [hmm]; split <;> omega
    have key : ∀ i, i < len → ∃ b : UInt8, w.cell? (a.add i) = some (.int .u8 b.toNat) := fun i hil => by
      obtain ⟨cs', hc, ht'⟩ := hi i (by omega)
      obtain ⟨k, e1, e2, hw⟩ := DataW.trod_int Tryz.underlying5 ht'
      obtain ⟨_, _, hat⟩ := World.cells?_some hc
      have h0 := hat 0 (by omega)
      rw [e1] at h0
      obtain ⟨h1, h2⟩ := u8_wf hw
      refine ⟨UInt8.ofNat k.toNat, ?_⟩
      rw [Nat.mul_one, add_of_add, Nat.add_zero] at h0
      rw [h0]
      have e3 : ((UInt8.ofNat k.toNat).toNat : Int) = k := by
        rw [UInt8.toNat_ofNat']
        omega
      rw [e3]
      rfl
    obtain ⟨f, hf⟩ : ∃ f : Nat → UInt8, ∀ i, i < len → w.cell? (a.add i) = some (.int .u8 (f i).toNat) := by
      refine ⟨fun i => if h : i < len then Classical.choose (key i h) else 0, fun i h => ?_⟩
      show w.cell? (a.add i) = some (.int .u8 (if h : i < len then Classical.choose (key i h) else 0).toNat)
      rw [dif_pos h]
      exact Classical.choose_spec (key i h)
    have hlen : ((List.range len).map f).length = len := by simp
    refine ⟨some a, cap, (List.range len).map f, by rw [hlen], ?_, .inr ⟨_, _, congrArg Prod.fst hx, by simp⟩⟩
    refine ⟨by rw [bv_length]; omega, fun hpos => ⟨a, rfl, ?_, fun j u hu => ?_⟩⟩
    · have := World.block_lt_of_cell? w _ (hf 0 (by omega))
      rwa [block_of_add] at this
    · have hj : j < len := by have := (List.getElem?_eq_some_iff.1 hu).1; rw [bv_length] at this; omega
      rw [hf j hj]
      rw [← hu]
      simp [bv, hj]

theorem weightsAll_mem {P : Program} {e : TypeId} {l : List (DataW H)} {d : DataW H} (hd : d ∈ l) {k : Nat} (hk : k ∈ d.weights P e) : k ∈ DataW.weightsAll P e l := by
  induction l with
  | nil => cases hd
  | cons x l ih =>
    simp only [DataW.weightsAll, List.mem_append]
    rcases List.mem_cons.1 hd with rfl | hd
    · exact .inl hk
    · exact .inr (ih hd)
theorem flat4_len (xs : List Stp) : (xs.flatMap Stp.cells).length = xs.length * 4 := by
  induction xs with
  | nil => rfl
  | cons x xs ih => rw [List.flatMap_cons, List.length_append, ih, List.length_cons]; simp [Stp.cells]; omega

set_option maxRecDepth 100000 in
/-- a slice of steps -/
theorem open_steps {v : Value} {x : DataW H × List MemPlace} {r : Reach} {b0 : Nat} (hv : Value.okWide Tryz.prog w r b0 22 v) (h : DataW.Trod enc Tryz.prog w base spare held 22 v x.1 x.2) (hsz : ∀ k ∈ x.1.weights Tryz.prog 22, k ≤ reachBytes) :
    ∃ (A : Option Addr) (c : Nat) (xs : List Stp), v = .slice A xs.length c ∧ Steps4 w w.heap.size A xs ∧ xs.length ≤ 140737488355328 ∧ ∀ x ∈ xs, x.nm.size ≤ 140737488355328 ∧ x.to.size ≤ 140737488355328 ∧ x.tx.length ≤ 140737488355328 := by
  obtain ⟨a0, len, cap, rfl⟩ := okWide_slice Tryz.underlying22 hv
  obtain ⟨fuel', hf⟩ := h
  have hf : DataW.trod enc Tryz.prog w base spare held fuel' 22 [.slice a0 len cap] = some (x.1, x.2) := hf
  rcases open_slice_fields Tryz.underlying22 Tryz.underlying26 (by kernel_rfl) (by kernel_rfl) hf with ⟨hv, hx⟩ | ⟨a, len1, cap1, m, D, Pl, hv, hb, hl, hm, hmm, hx, hi⟩
  · cases hv
    exact ⟨none, 0, [], rfl, ⟨Reads.none_, fun y hy => absurd hy (by simp)⟩, by simp, fun y hy => absurd hy (by simp)⟩
  · cases hv
    have hlm : len ≤ m := by rw [hmm]; split <;> omega
    have hx1 : x.1 = DataW.slice ((List.range len).map D) ((List.range (m - len)).map fun j => D (len + j)) := congrArg Prod.fst hx
    have key : ∀ i, i < len → ∃ y : Stp, (∀ j v, y.cells[j]? = some v → w.cell? (a.add (i * 4 + j)) = some v) ∧ Reads w w.heap.size 1 y.ta y.tx.length (bv y.tx) ∧ y.nm.size ≤ 140737488355328 ∧ y.to.size ≤ 140737488355328 ∧ y.tx.length ≤ 140737488355328 := fun i hil => by
      obtain ⟨ys, n, hD, hPl, hyl, hfld⟩ := hi i (by omega)
      obtain ⟨v0, y0, c0, g0, t0⟩ := hfld 0 _ rfl
      obtain ⟨v1, y1, c1, g1, t1⟩ := hfld 1 _ rfl
      obtain ⟨v2, y2, c2, g2, t2⟩ := hfld 2 _ rfl
      obtain ⟨v3, y3, c3, g3, t3⟩ := hfld 3 _ rfl
      obtain ⟨l, e0, _, _⟩ := DataW.trod_int Tryz.underlying5 t0
      obtain ⟨nm, e1, x1, _⟩ := DataW.trod_string Tryz.underlying9 t1
      obtain ⟨to, e2, x2, _⟩ := DataW.trod_string Tryz.underlying9 t2
      obtain ⟨ta, tc, tx, e3, hr, x3⟩ := open_text t3
      simp only [List.cons.injEq, and_true] at e0 e1 e2
      subst e0; subst e1; subst e2; subst e3
      have hys : ys = [y0, y1, y2, y3] := by
        match ys, hyl, g0, g1, g2, g3 with
        | [z0, z1, z2, z3], _, g0, g1, g2, g3 =>
          simp at g0 g1 g2 g3
          rw [g0, g1, g2, g3]
      have hw : ∀ k ∈ (D i).weights Tryz.prog 26, k ≤ reachBytes := fun k hk => hsz k (by
        rw [hx1]
        simp only [DataW.weights, Tryz.underlying22]
        exact List.mem_cons_of_mem _ (List.mem_append_left _ (weightsAll_mem (List.mem_map.2 ⟨i, List.mem_range.2 hil, rfl⟩) hk)))
      rw [hD, hys] at hw
      simp only [DataW.weights, Tryz.underlying26, List.map_cons, List.map_nil, DataW.weightsEach] at hw
      have hr47 := reachBytes_lt
      refine ⟨⟨l, nm, to, ta, tc, tx⟩, fun j v hv => ?_, hr, ?_, ?_, ?_⟩
      · match j, hv with
        | 0, hv => cases hv; exact c0
        | 1, hv => cases hv; exact c1
        | 2, hv => cases hv; exact c2
        | 3, hv => cases hv; exact c3
      · have := hw nm.size (by rw [x1]; simp [DataW.weights])
        show nm.size ≤ _
        omega
      · have := hw to.size (by rw [x2]; simp [DataW.weights])
        show to.size ≤ _
        omega
      · rcases x3 with ⟨_, rfl⟩ | ⟨el, sp, x3, hel⟩
        · simp
        · have hb5 : Tryz.prog.bytesOf 5 = 1 := by kernel_rfl
          have := hw ((el.length + sp.length) * Tryz.prog.bytesOf 5) (by rw [x3]; simp [DataW.weights, Tryz.underlying24])
          rw [hb5] at this
          show tx.length ≤ _
          omega
    obtain ⟨f, hf⟩ : ∃ f : Nat → Stp, ∀ i, i < len → (∀ j v, (f i).cells[j]? = some v → w.cell? (a.add (i * 4 + j)) = some v) ∧ Reads w w.heap.size 1 (f i).ta (f i).tx.length (bv (f i).tx) ∧ (f i).nm.size ≤ 140737488355328 ∧ (f i).to.size ≤ 140737488355328 ∧ (f i).tx.length ≤ 140737488355328 := by
      refine ⟨fun i => if h : i < len then Classical.choose (key i h) else ⟨0, ⟨#[]⟩, ⟨#[]⟩, none, 0, []⟩, fun i h => ?_⟩
      simp only [dif_pos h]
      exact Classical.choose_spec (key i h)
    have hlen : ((List.range len).map f).length = len := by simp
    have hb26 : Tryz.prog.bytesOf 26 = 64 := by kernel_rfl
    have hcap : (len + (m - len)) * 64 ≤ reachBytes := by
      have := hsz ((len + (m - len)) * Tryz.prog.bytesOf 26) (by rw [hx1]; simp [DataW.weights, Tryz.underlying22])
      rwa [hb26] at this
    have hr47 := reachBytes_lt
    refine ⟨some a, cap, (List.range len).map f, by rw [hlen], ⟨⟨?_, fun hpos => ⟨a, rfl, ?_, ?_⟩⟩, fun y hy => ?_⟩, by rw [hlen]; omega, fun y hy => ?_⟩
    · exact flat4_len _
    · have hpos : 0 < len := by rw [hlen] at hpos; exact hpos
      have := World.block_lt_of_cell? w _ ((hf 0 hpos).1 0 _ rfl)
      rwa [block_of_add] at this
    · intro j u hu
      have hj : j < len * 4 := by have := (List.getElem?_eq_some_iff.1 hu).1; rw [flat4_len, hlen] at this; exact this
      have hq : j / 4 < len := by omega
      have e4 := flat4_get ((List.range len).map f) (j / 4) (f (j / 4)) (by simp [hq]) (j % 4) (by omega)
      rw [show j / 4 * 4 + j % 4 = j by omega] at e4
      have := (hf (j / 4) hq).1 (j % 4) u (e4.symm.trans hu)
      rwa [show j / 4 * 4 + j % 4 = j by omega] at this
    · obtain ⟨i, hi', rfl⟩ := List.mem_map.1 hy
      exact (hf i (List.mem_range.1 hi')).2.1
    · obtain ⟨i, hi', rfl⟩ := List.mem_map.1 hy
      exact (hf i (List.mem_range.1 hi')).2.2
end
end Go.Proofs.YtimphpiofoepgaaGreatDoor
