/- an interpreter of closed code, and its soundness. -/
import Derived.Test.YthogkihfbjbghaaGreatDoorEc
namespace Go.Proofs.YthogkihfbjbghaaGreatDoor.Abs

theorem growBy_le (newLen : Nat) (h : newLen ≤ 65536) : ∀ (rounds c : Nat), c ≤ 82112 → Builtin.growBy newLen rounds c ≤ 82112
  | 0, c, hc => hc
  | rounds + 1, c, hc => by
    rw [Builtin.growBy]
    split
    · exact hc
    · exact growBy_le newLen h rounds _ (by omega)

theorem nextslicecap_le {need old : Nat} (h : need ≤ 65536) (ho : old < need) : Builtin.nextslicecap need old ≤ 131072 := by
  unfold Builtin.nextslicecap
  split
  · omega
  · split
    · omega
    · have := growBy_le need h 4 old (by omega); omega

def isIntD : TypeDesc → Bool
  | .int _ => true
  | _ => false

section
variable {P : Program}

theorem Inv.heap {F : Nat → Prop} {ρ : Rho} {H : Nat → Option AObj} {w w' : World} (h : Inv F ρ H w) (e : w'.heap = w.heap) : Inv F ρ H w' :=
  ⟨fun id o a b => let ⟨k, c, d⟩ := h.rel id o a b; ⟨k, c, d.keep ρ.le_refl (by rw [e])⟩, h.apart⟩

theorem lenA_ok {x x' : Value} {n : Nat} {s s' : St} (h : D.run (lenA x) s = .ok (n, s')) {ρ : Rho} (hx : VRel ρ x x') (w : World) : s' = s ∧ (Builtin.lenOf x').run P w = .ok n w := by
  unfold lenA at h
  split at h
  · obtain ⟨rfl, rfl⟩ := D.pure_ok h; cases hx <;> exact ⟨rfl, rfl⟩
  · obtain ⟨rfl, rfl⟩ := D.pure_ok h; cases hx; exact ⟨rfl, rfl⟩
  · cases h

theorem firstA_sound {size n : Nat} {x x' : Value} {new : List Value} {s s' : St} (h : D.run (firstA size n x) s = .ok (new, s')) {F : Nat → Prop} {ρ : Rho} {w : World} (hF : ∀ i, s'.fp.testBit i = true → F i)
    (hinv : Inv F ρ s.H.get w) (hx : VRel ρ x x') (hn : 0 < n) (hnil : n = 0 ∨ ∀ l c, x ≠ .slice none l c) (hl : ∀ a l c, x = .slice a l c → n ≤ l) :
    RO s s' ∧ ∃ new', (Builtin.firstCells size n x').run P w = .ok (List.toArray new') w ∧ LRel ρ new new' := by
  unfold firstA at h
  split at h
  · rename_i b off l c
    obtain ⟨⟨cc, e, m, o⟩, s1, h1, h2⟩ := D.bind_ok h
    obtain ⟨hc, rfl⟩ := cellsB_ok h1
    simp only at hc h2
    split at h2
    · rename_i r hr
      obtain ⟨rfl, rfl⟩ := D.pure_ok h2
      obtain ⟨k, c', e', frz, hk, hb, hrel⟩ := hinv.cells (hF b (foot_bit s b)) hc
      obtain ⟨r', hn', hlr, hcell⟩ := hrel.window hr
      refine ⟨RO.foot s b, r', ?_, hlr⟩
      rcases hx.slice_inv with ⟨_, k1, hk1, rfl⟩ | ⟨hl0, hc0, ⟨k1, hk1⟩, a', rfl⟩ | ⟨k1, i0, hk1, hcap', ho, hl1, rfl⟩ | ⟨k1, a', hk1, hcap', hl0, ho, rfl⟩
      · rw [hk] at hk1; cases hk1
        exact run_loadCells_row hb hn' hcell
      · subst hl0; have := hl _ _ _ rfl; omega
      · rw [hk] at hk1; cases hk1
        exact run_loadCells_row hb hn' hcell
      · subst hl0; have := hl _ _ _ rfl; omega
    · cases h2
  · obtain ⟨rfl, rfl⟩ := D.pure_ok h
    rcases hnil with h | h
    · omega
    · exact absurd rfl (h _ _)
  · rename_i st
    obtain ⟨rfl, rfl⟩ := D.pure_ok h
    cases hx
    refine ⟨.refl s, ((bs st).take n).map fun b => .int .u8 b.toNat, ?_, LRel.map _ fun b _ => .int _ _⟩
    simp only [Builtin.firstCells, extract_eq, Sem.run_pure]
    congr 1
    apply Array.ext'
    simp
  · cases h


theorem choose_cap (need old : Nat) (elem : TypeId) (w : World) : ∃ cap, need ≤ cap ∧ (choose (.appendCap need old elem)).run P w = .ok cap { w with drawn := w.drawn + 1 } := by
  refine ⟨need + w.tape w.drawn (.appendCap need old elem) % (2 ^ 63 - need), by omega, ?_⟩
  rw [run_choose]
  rfl

theorem isIntT_ok {t : TypeId} (h : isIntT P t = false) : ∃ d, P.underlying t = some d ∧ isIntD d = false := by
  unfold isIntT at h
  rw [undK_eq] at h
  split at h
  · cases h
  · rename_i d hx hd
    exact ⟨d, hd, by cases d <;> first | rfl | exact absurd rfl (hx _)⟩
  · cases h

theorem run_bind_eq {α β : Type} {x : Sem α} {f : α → Sem β} {a : α} {w w' : World} (h : x.run P w = .ok a w') : (x >>= f).run P w = (f a).run P w' := by
  rw [Sem.run_bind, h]; rfl
theorem run_append_in {sT xT ty elem : TypeId} {i : TypeInfo} (hd : P.underlying sT = some (.slice elem)) (hi : P.info? elem = some i) {d : TypeDesc} (hxd : P.underlying xT = some d) (hxm : isIntD d = false) {base : Option Addr} {sLen sCap n : Nat} {x' : Value} (w : World) (hn : (Builtin.lenOf x').run P w = .ok n w) (hle : sLen + n ≤ sCap) :
   (Builtin.append_ #[sT, xT] ty #[.slice base sLen sCap, x']).run P w = (do
      let new ← Builtin.firstCells i.size n x'
      if let some a := base then storeCells (a.add (sLen * i.size)) new.toList
      pure (.slice base (sLen + n) sCap) : Sem Value).run P w := by
  unfold Builtin.append_
  simp only [List.getElem?_toArray, List.getElem?_cons_zero, List.getElem?_cons_succ]
  refine (run_bind_eq (run_underlying hd w)).trans ?_
  simp only
  refine (run_bind_eq (run_sizeOf hi w)).trans ?_
  refine (run_bind_eq (run_underlying hxd w)).trans ?_
  refine (run_bind_eq (a := false) (w' := w) (by cases d <;> first | rfl | cases hxm)).trans ?_
  rw [if_neg (by simp)]
  refine (run_bind_eq hn).trans ?_
  rw [if_pos hle]
  rfl

theorem run_append_out {sT xT ty elem : TypeId} {i : TypeInfo} {z : Value} (hd : P.underlying sT = some (.slice elem)) (hi : P.info? elem = some i) {d : TypeDesc} (hxd : P.underlying xT = some d) (hxm : isIntD d = false) {base : Option Addr} {sLen sCap n : Nat} {x' : Value} (w : World) (hn : (Builtin.lenOf x').run P w = .ok n w) (hlt : sCap < sLen + n)
    (hz : ∀ w, (zeroValue elem).run P w = .ok z w) (hb2 : ¬ (Builtin.nextslicecap (sLen + n) sCap * i.bytes > 2 ^ 48)) (hneed : sLen + n ≤ 65536) {cap : Nat} (hch : (choose (.appendCap (sLen + n) sCap elem)).run P w = .ok cap { w with drawn := w.drawn + 1 }) :
   (Builtin.append_ #[sT, xT] ty #[.slice base sLen sCap, x']).run P w = (do
      let old ← Builtin.firstCells i.size sLen (.slice base sLen sCap)
      let new ← Builtin.firstCells i.size n x'
      pure (.slice (some (← newRow elem (old ++ new ++ Builtin.zeroCells z.cells (cap - (sLen + n))))) (sLen + n) cap) : Sem Value).run P { w with drawn := w.drawn + 1 } := by
  unfold Builtin.append_
  simp only [List.getElem?_toArray, List.getElem?_cons_zero, List.getElem?_cons_succ]
  refine (run_bind_eq (run_underlying hd w)).trans ?_
  simp only
  refine (run_bind_eq (run_sizeOf hi w)).trans ?_
  refine (run_bind_eq (run_underlying hxd w)).trans ?_
  refine (run_bind_eq (a := false) (w' := w) (by cases d <;> first | rfl | cases hxm)).trans ?_
  rw [if_neg (by simp)]
  refine (run_bind_eq hn).trans ?_
  rw [if_neg (by omega)]
  refine (run_bind_eq (run_typeInfo w hi)).trans ?_
  have emax : IntKind.i64.max = 9223372036854775807 := by decide
  rw [if_neg (by rw [emax]; omega)]
  refine (run_bind_eq (run_typeInfo w hi)).trans ?_
  rw [if_neg hb2]
  refine (run_bind_eq hch).trans ?_
  refine (run_bind_eq (run_typeInfo _ hi)).trans ?_
  refine (run_bind_eq (run_askRoom _ _ _)).trans ?_
  rw [Sem.run_bind, Sem.run_bind]
  congr 1
  funext old w1
  rw [Sem.run_bind, Sem.run_bind]
  simp only [Bool.not_false, if_true]
  congr 1
  funext new w2
  refine (run_bind_eq (hz w2)).trans ?_
  rfl

theorem zeroCells_size (z : Array Value) (n : Nat) : (Builtin.zeroCells z n).size = n * z.size := by
  simp [Builtin.zeroCells]

theorem storeCellsA_fp {id off : Nat} {vs : List Value} {s s' : St} {u : Unit} (h : D.run (storeCellsA id off vs) s = .ok (u, s')) : ∀ (i : Nat), s.fp.testBit i = true → s'.fp.testBit i = true := by
  unfold storeCellsA at h
  obtain ⟨x, s1, h1, h2⟩ := D.bind_ok h
  obtain ⟨_, hs1⟩ := cellsB_ok h1
  obtain ⟨_, h3⟩ := D.guard_ok h2
  rw [setList_eq] at h3
  obtain ⟨_, _, hs'⟩ := putB_ok h3
  intro i hi
  rw [hs', hs1]
  simp only [testBit_lor_bit, hi, Bool.true_or]


theorem swap_ok {id id' : Nat} {o : AObj} {s s1 s2 : St} {u : Unit} (h : D.run (killB id) s = .ok (u, s1)) (h2 : D.run (newB o) s1 = .ok (id', s2)) :
    id' = s.n ∧ s.n < 1048576 ∧ (∃ o0, s.H.get id = some o0) ∧
      s2 = { s with H := (s.H.set id none).set s.n (some o), n := s.n + 1, fp := Nat.lor (Nat.lor s.fp (bit id)) (bit s.n), wr := Nat.lor (Nat.lor s.wr (bit id)) (bit s.n) } := by
  obtain ⟨o0, h0, hs1⟩ := killB_ok h
  obtain ⟨hid, hlt, hs2⟩ := newB_ok h2
  subst hs1
  exact ⟨hid, hlt, ⟨o0, h0⟩, hs2⟩

theorem window_rel {ρ : Rho} {k : Blk} {c : List Value} {e : TypeId} {m : Bool} {c' : Array Value} {e' : TypeId} {frz : Nat × Nat} (h : CRel ρ k c e m c' e' frz) {off n : Nat} {r : List Value}
    (hr : window c off n = some r) : ∀ i v, r[i]? = some v → ∃ v', c'[k.sh + off + i]? = some v' ∧ VRel ρ v v' := fun i v hv => by
  obtain ⟨r', hl, hlr, hcell⟩ := h.window hr
  obtain ⟨v', a, b⟩ := hlr.getElem hv
  exact ⟨v', hcell _ _ a, b⟩

theorem appendA_sound {argTypes : Array TypeId} {ty : TypeId} {x y x' y' : Value} {s s' : St} {v : Value} (h : D.run (appendA P argTypes x y) s = .ok (v, s')) {F : Nat → Prop} {ρ : Rho} {w : World} (hF : ∀ i, s'.fp.testBit i = true → F i)
    (hρ : ∀ i, s.n ≤ i → i < s'.n → ρ i = none) (hwf : Wf s) (hinv : Inv F ρ s.H.get w) (hx : VRel ρ x x') (hy : VRel ρ y y') :
    ∃ v' ρ' w', (Builtin.append_ argTypes ty #[x', y']).run P w = .ok v' w' ∧ VRel ρ' v v' ∧ PStep F ρ s w ρ' s' w' ∧ s'.u = s.u := by
  unfold appendA at h
  split at h
  · rename_i sT xT base sLen sCap hat
    have hat' : argTypes = #[sT, xT] := by apply Array.ext'; simpa using hat
    subst hat'
    obtain ⟨d, s1, h1, h2⟩ := D.bind_ok h
    obtain ⟨hd, rfl⟩ := descOf_ok h1
    split at h2
    · rename_i elem
      obtain ⟨i, s3, h5, h6⟩ := D.bind_ok h2
      obtain ⟨hi, rfl⟩ := infoOf_ok h5
      obtain ⟨z, s4, h7, h8⟩ := D.bind_ok h6
      obtain ⟨hz, hzr, rfl, hcell⟩ := zeroOf_ok h7
      obtain ⟨hg, h9⟩ := D.guardn_ok h8
      simp only [Bool.or_eq_false_iff, Bool.not_eq_false'] at hg
      obtain ⟨⟨⟨⟨g1, g2⟩, g3⟩, g4⟩, g5⟩ := hg
      have hsz0 : i.size ≠ 0 := fun e => by rw [e] at g2; cases g2
      have hb0 : i.bytes ≠ 0 := fun e => by rw [e] at g3; cases g3
      have hb2 := Nat.le_of_ble_eq_true g4
      have hzs : z.cells.size = i.size := by have := Nat.eq_of_beq_eq_true g5; simpa using this
      rw [fnat_eq] at h9
      obtain ⟨hcap, h10⟩ := D.guardn_ok h9
      have hcap : sCap = capU + i.size ∨ sCap < capU ∧ sLen ≤ sCap := by
        cases e : Nat.beq sCap (capU + i.size) with
        | true => exact .inl (Nat.eq_of_beq_eq_true e)
        | false =>
          rw [e] at hcap
          simp only [Bool.not_false, Bool.true_and, Bool.not_eq_false', Bool.and_eq_true, Nat.blt_eq] at hcap
          exact .inr ⟨hcap.1, Nat.le_of_ble_eq_true hcap.2⟩
      obtain ⟨n, s5, h11, h12⟩ := D.bind_ok h10
      obtain ⟨rfl, hlen⟩ := lenA_ok (P := P) h11 hy w
      obtain ⟨dx, hxd, hxm⟩ := isIntT_ok g1
      -- the slice's own shape in the model
      have hbase : ∃ base' sCap', x' = .slice base' sLen sCap' ∧ sLen ≤ sCap' := by
        cases base with
        | none =>
          cases hx with
          | sliceNil _ _ hc => exact ⟨_, _, rfl, by rcases hcap with e | e <;> omega⟩
        | some a =>
          obtain ⟨b, off, sp⟩ := a
          cases sp with
          | some q => cases hx
          | none =>
            rcases hx.slice_inv with ⟨_, k, hk, rfl⟩ | ⟨hl0, hc0, ⟨k, hk⟩, a', rfl⟩ | ⟨k, i0, hk, hc, ho, hl, rfl⟩ | ⟨k, a', hk, hc, hl0, ho, rfl⟩
            · exact ⟨_, _, rfl, by rcases hcap with e | e <;> omega⟩
            · exact ⟨_, _, by rw [hl0], by omega⟩
            · exact ⟨_, _, rfl, by omega⟩
            · exact ⟨_, _, by rw [hl0], by omega⟩
      rcases D.cond_ok h12 with ⟨hn0, h13⟩ | ⟨hn0, h13⟩
      · -- nothing is appended
        have hn0 := Nat.eq_of_beq_eq_true hn0
        subst hn0
        obtain ⟨rfl, rfl⟩ := D.pure_ok h13
        obtain ⟨base', sCap', rfl, hle⟩ := hbase
        refine ⟨_, ρ, w, ?_, hx, .refl hwf hinv, rfl⟩
        rw [run_append_in hd hi hxd hxm w hlen (by omega)]
        have hfirst : (Builtin.firstCells i.size 0 y').run P w = .ok #[] w := by
          unfold lenA at h11
          split at h11
          · cases hy <;> simp [Builtin.firstCells, loadCells, loadCellsFrom]
          · cases hy; simp [Builtin.firstCells]
          · cases h11
        cases base' <;> simp [hfirst, storeCells]
      · have hn : 0 < n := by
          rcases Nat.eq_zero_or_pos n with e | e
          · subst e; cases hn0
          · exact e
        obtain ⟨new, s6, h14, h15⟩ := D.bind_ok h13
        rw [fnat_eq] at h15
        obtain ⟨hg2, h16⟩ := D.guardn_ok h15
        simp only [Bool.or_eq_false_iff, Bool.not_eq_false'] at hg2
        obtain ⟨⟨q1, q2⟩, q3⟩ := hg2
        have hneed := Nat.le_of_ble_eq_true q1
        have hnl := Nat.eq_of_beq_eq_true q3
        have hsl : ∀ a l c, y = .slice a l c → n ≤ l := by
          rintro a l c rfl
          obtain ⟨e, _⟩ := D.pure_ok h11
          omega
        have hnil : n = 0 ∨ ∀ l c, y ≠ .slice none l c := by
          right
          rintro l c rfl
          obtain ⟨e, _⟩ := D.pure_ok h14
          subst e
          simp only [List.length_nil] at hnl
          have := Nat.mul_pos hn (Nat.pos_of_ne_zero hsz0)
          omega
        have hpos := Nat.mul_pos hn (Nat.pos_of_ne_zero hsz0)
        have hbound : ∀ {c}, c < sLen + n → ¬ (Builtin.nextslicecap (sLen + n) c * i.bytes > 2 ^ 48) := fun {c} hc => by
          have h1 := nextslicecap_le hneed hc
          have h2 : Builtin.nextslicecap (sLen + n) c * i.bytes ≤ 131072 * 65536 := Nat.mul_le_mul h1 hb2
          have e48 : (2 : Nat) ^ 48 = 281474976710656 := by decide
          rw [e48]; omega
        have hexp : sLen * i.size + n * i.size = (sLen + n) * i.size := (Nat.add_mul _ _ _).symm
        split at h16
        · -- nil
          obtain ⟨hg3, h17⟩ := D.guard_ok h16
          simp only [Bool.and_eq_true] at hg3
          have e1 := Nat.eq_of_beq_eq_true hg3.1
          have e2 := Nat.eq_of_beq_eq_true hg3.2
          subst e1; subst e2
          obtain ⟨id, s7, h18, h19⟩ := D.bind_ok h17
          obtain ⟨rfl, rfl⟩ := D.pure_ok h19
          have hn7 := (newB_ok h18).2.2
          have hF6 : ∀ j, s6.fp.testBit j = true → F j := fun j hj => hF j (by rw [hn7]; simp only [testBit_lor_bit, hj, Bool.true_or])
          obtain ⟨cap, hcc, hch⟩ := choose_cap (P := P) (0 + n) 0 elem w
          obtain ⟨hro, new', hfr, hl⟩ := firstA_sound (P := P) (w := { w with drawn := w.drawn + 1 }) h14 hF6 (hinv.heap rfl) hy hn hnil hsl
          cases hx
          have hrow : (Builtin.zeroCells z.cells (cap - (0 + n))).toList.length = (cap - (0 + n)) * i.size := by rw [Array.length_toList, zeroCells_size, hzs]
          obtain ⟨_, hu, hst⟩ := newRow_sound h18 (fun j a b => hρ j (by rw [← hro.n]; exact a) b) (hro.wf hwf) (hinv := (show Inv F ρ s6.H.get w by rw [hro.H]; exact hinv)) hl
            (w' := { w with drawn := w.drawn + 1, heap := w.heap.push (.cells (new'.toArray ++ Builtin.zeroCells z.cells (cap - (0 + n))) elem) }) (Builtin.zeroCells z.cells (cap - (0 + n))).toList i.size cap
            (by rw [hrow, hnl, ← Nat.add_mul, Nat.mul_comm]; congr 1; omega) (by congr 2; apply Array.ext'; simp)
          refine ⟨.slice (some ⟨w.heap.size, 0, none⟩) (0 + n) cap, _, _, ?_, ?_, PStep.trans (fun j a b => hρ j a b) (hro.step hwf hinv) hst, hu.trans hro.u⟩
          · rw [run_append_out hd hi hxd hxm w hlen (by omega) hz (hbound (by omega)) hneed hch]
            refine (run_bind_eq (a := #[]) (w' := { w with drawn := w.drawn + 1 }) rfl).trans ?_
            refine (run_bind_eq hfr).trans ?_
            simp only [Array.empty_append]
            rfl
          · have := VRel.sliceU (ρ := ρ.upd s6.n ⟨w.heap.size, 0, i.size, cap⟩) s6.n 0 (0 + n) 0 _ (Rho.upd_self _ _ _) (by simp) (by simp; omega)
            obtain ⟨rfl, _⟩ := newB_ok h18
            simpa using this
        · -- a row
          rename_i b off
          obtain ⟨⟨c, e, m, o⟩, s7, h17, h18⟩ := D.bind_ok h16
          obtain ⟨hc, hs7⟩ := cellsB_ok h17
          simp only at hc h18
          rcases D.cond_ok h18 with ⟨hin, h19⟩ | ⟨hin, h19⟩
          · -- in its place
            obtain ⟨_, s8, h20, h21⟩ := D.bind_ok h19
            obtain ⟨rfl, rfl⟩ := D.pure_ok h21
            have hF7 : ∀ j, s7.fp.testBit j = true → F j := fun j hj => hF j (storeCellsA_fp h20 j hj)
            have hro7 : RO s6 s7 := by rw [hs7]; exact RO.foot s6 b
            obtain ⟨hro, new', hfr, hl⟩ := firstA_sound (P := P) h14 (fun j hj => hF7 j (hro7.fp j hj)) hinv hy hn hnil hsl
            have hro57 := hro.trans hro7
            have hinv7 : Inv F ρ s7.H.get w := by rw [hro57.H]; exact hinv
            obtain ⟨k, w', hk, hrun, hst, hu⟩ := storeCellsA_sound (P := P) h20 hF (hro57.wf hwf) hinv7 hl
            have hFb : F b := hF7 b (by rw [hs7]; exact foot_bit s6 b)
            obtain ⟨k1, c', e', frz, hk1, hb, hrel⟩ := hinv.cells hFb (show s5.H.get b = some (.cells c e m o) by rw [← hro.H]; exact hc)
            rw [hk] at hk1; cases hk1
            have hfit := hrel.fits
            have hsize := hrel.size
            have hst' := PStep.trans (fun j a b => hρ j a b) (hro57.step hwf hinv) hst
            have hdone : ∀ sCap', sLen + n ≤ sCap' → (Builtin.append_ #[sT, xT] ty #[.slice (some ⟨k.b, k.sh + off, none⟩) sLen sCap', y']).run P w = .ok (.slice (some ⟨k.b, k.sh + off, none⟩) (sLen + n) sCap') w' := by
              intro sCap' hle
              rw [run_append_in hd hi hxd hxm w hlen hle]
              refine (run_bind_eq hfr).trans ?_
              simp only [addr_add, Nat.add_assoc] at hrun ⊢
              exact run_bind_eq hrun
            simp only [Bool.or_eq_true, Bool.and_eq_true, Bool.not_eq_true'] at hin
            have hcU : 0 < capU := by decide
            rcases hx.slice_inv with ⟨hlt, k2, hk2, rfl⟩ | ⟨hl0, hc0, ⟨k2, hk2⟩, a', rfl⟩ | ⟨k2, i0, hk2, hcu, hoff, hll, rfl⟩ | ⟨k2, a', hk2, hcu, hl0, hoff, rfl⟩
            · rw [hk] at hk2; cases hk2
              have hle : sLen + n ≤ sCap := by
                rcases hin with h | h
                · exact Nat.le_of_ble_eq_true h.2
                · have := Nat.eq_of_beq_eq_true h.1; omega
              exact ⟨_, ρ, w', hdone sCap hle, .slice _ _ _ _ k hk hlt, hst', hu.trans hro57.u⟩
            · exfalso
              rcases hin with h | h
              · have := Nat.le_of_ble_eq_true h.2; omega
              · have := Nat.eq_of_beq_eq_true h.1; omega
            · rw [hk] at hk2; cases hk2
              have hsz : k.sz = i.size := by rcases hcap with h | h <;> omega
              have hsU : Nat.beq sCap (capU + i.size) = true := by rw [hcu, hsz]; exact Nat.beq_refl _
              have hle2 : off + (sLen + n) * i.size ≤ c.length := by
                rcases hin with h | h
                · rw [hsU] at h; cases h.1
                · exact Nat.le_of_ble_eq_true h.2
              have hle : i0 + (sLen + n) ≤ k.cap := by
                have h1 : k.sz * (i0 + (sLen + n)) = off + (sLen + n) * i.size := by rw [Nat.mul_add, hoff, hsz, Nat.mul_comm i.size (sLen + n)]
                exact Nat.le_of_mul_le_mul_left (show k.sz * (i0 + (sLen + n)) ≤ k.sz * k.cap by omega) (by omega)
              refine ⟨_, ρ, w', hdone (k.cap - i0) (by omega), ?_, hst', hu.trans hro57.u⟩
              rw [hcu]; exact .sliceU _ _ _ i0 k hk hoff hle
            · exfalso
              rw [hk] at hk2; cases hk2
              have hsz : k.sz = i.size := by rcases hcap with h | h <;> omega
              have hsU : Nat.beq sCap (capU + i.size) = true := by rw [hcu, hsz]; exact Nat.beq_refl _
              have hle2 : off + (sLen + n) * i.size ≤ c.length := by
                rcases hin with h | h
                · rw [hsU] at h; cases h.1
                · exact Nat.le_of_ble_eq_true h.2
              omega
          · split at h19
            · cases h19
            · rename_i old hold
              rw [forceL_eq] at h19
              have hro7 : RO s6 s7 := by rw [hs7]; exact RO.foot s6 b
              obtain ⟨hro, hfst⟩ : RO s5 s6 ∧ ∀ w : World, Inv F ρ s5.H.get w → ∃ new', (Builtin.firstCells i.size n y').run P w = .ok (List.toArray new') w ∧ LRel ρ new new' := by
                have hF6 : ∀ j, s6.fp.testBit j = true → F j := by
                  rcases D.cond_ok h19 with ⟨hU, h20⟩ | ⟨hU, h20⟩
                  · rcases D.cond_ok h20 with ⟨_, h21⟩ | ⟨_, h21⟩
                    · obtain ⟨_, s8, h22, h23⟩ := D.bind_ok h21
                      obtain ⟨id, s9, h24, h25⟩ := D.bind_ok h23
                      obtain ⟨rfl, rfl⟩ := D.pure_ok h25
                      intro j hj
                      refine hF j ?_
                      rw [(swap_ok h22 h24).2.2.2]
                      simp only [testBit_lor_bit, hro7.fp j hj, Bool.true_or]
                    · cases h21
                  · obtain ⟨id, s9, h24, h25⟩ := D.bind_ok h20
                    obtain ⟨rfl, rfl⟩ := D.pure_ok h25
                    intro j hj
                    refine hF j ?_
                    rw [(newB_ok h24).2.2]
                    simp only [testBit_lor_bit, hro7.fp j hj, Bool.true_or]
                exact ⟨(firstA_sound (P := P) h14 hF6 hinv hy hn hnil hsl).1, fun w hw => (firstA_sound (P := P) h14 hF6 hw hy hn hnil hsl).2⟩
              have hro57 := hro.trans hro7
              have hinv7 : Inv F ρ s7.H.get w := by rw [hro57.H]; exact hinv
              have hb5 : s5.H.get b = some (.cells c e m o) := by rw [← hro.H]; exact hc
              obtain ⟨hwin, hol⟩ := window_ok hold
              rw [hwin] at hol
              have hol : old.length = sLen * i.size := by rw [hwin]; exact hol
              rcases D.cond_ok h19 with ⟨hU, h20⟩ | ⟨hU, h20⟩
              · have hU := Nat.eq_of_beq_eq_true hU
                rcases D.cond_ok h20 with ⟨hel, h21⟩ | ⟨_, h21⟩
                · have hel := Nat.eq_of_beq_eq_true hel
                  subst hel
                  obtain ⟨_, s8, h22, h23⟩ := D.bind_ok h21
                  obtain ⟨id, s9, h24, h25⟩ := D.bind_ok h23
                  obtain ⟨rfl, rfl⟩ := D.pure_ok h25
                  obtain ⟨rfl, hlt, ⟨o0, ho0⟩, hs9⟩ := swap_ok h22 h24
                  have hFb : F b := hF b (by rw [hs9]; simp only [testBit_lor_bit]; simp)
                  have hn7 : s7.n = s5.n := hro57.n
                  have hρn : ρ s7.n = none := hρ _ (by omega) (by rw [hs9]; simp)
                  obtain ⟨k, c', e', frz, hk, hbk, hrel⟩ := hinv.cells hFb hb5
                  have hfit := hrel.fits
                  have hsize := hrel.size
                  have hcells := window_rel hrel hold
                  have hall : ∀ (new' : List Value) (c'' : Array Value) (p : Nat) (ρ' : Rho), ρ.le ρ' → LRel ρ new new' → (∀ i v, i < old.length → c'[k.sh + off + i]? = some v → c''[p + i]? = some v) →
                      (∀ i v, new'[i]? = some v → c''[p + old.length + i]? = some v) → ∀ i v, (old ++ new)[i]? = some v → ∃ v', c''[p + i]? = some v' ∧ VRel ρ' v v' := by
                    intro new' c'' p ρ' hle hl h1 h2 i v hv
                    rcases Nat.lt_or_ge i old.length with hi | hi
                    · rw [List.getElem?_append_left hi] at hv
                      obtain ⟨v', a, b⟩ := hcells i v hv
                      exact ⟨v', h1 i v' hi a, b.mono hle⟩
                    · rw [List.getElem?_append_right hi] at hv
                      obtain ⟨v', a, b⟩ := hl.getElem hv
                      refine ⟨v', ?_, b.mono hle⟩
                      have := h2 _ _ a
                      rwa [Nat.add_assoc, Nat.add_sub_cancel' hi] at this
                  have hlen' : (old ++ new).length = (sLen + n) * i.size := by rw [List.length_append, hol, hnl, hexp]
                  -- the way in place, and the way out
                  have hinplace : ∀ i0, k.sz = i.size → off = k.sz * i0 → i0 + (sLen + n) ≤ k.cap → ∃ v' ρ' w', (Builtin.append_ #[sT, xT] ty #[.slice (some ⟨k.b, k.sh + off, none⟩) sLen (k.cap - i0), y']).run P w = .ok v' w' ∧
                      VRel ρ' (.slice (some ⟨s7.n, 0, none⟩) (sLen + n) (capU + i.size)) v' ∧ PStep F ρ s5 w ρ' s9 w' ∧ s9.u = s5.u := by
                    intro i0 hsz hoff hle
                    obtain ⟨new', hfr, hl⟩ := hfst w hinv
                    have hmul : k.sz * k.cap = k.sz * i0 + k.sz * (k.cap - i0) := by rw [← Nat.mul_add]; congr 1; omega
                    have hmul2 : i.size * (k.cap - i0) = (sLen + n) * i.size + i.size * (k.cap - i0 - (sLen + n)) := by rw [Nat.mul_comm (sLen + n), ← Nat.mul_add]; congr 1; omega
                    rw [hsz] at hmul hsize
                    rw [hsz] at hoff
                    obtain ⟨w', hrun, hb', ht⟩ := run_storeCells_row (P := P) (o := k.sh + off + sLen * i.size) new' 0 c' w hbk (by rw [← hl.1, hnl]; omega) (fun j a b => frz_free hrel.frz (by rw [← hl.1, hnl] at b; omega)) (cells_rel q2 hl)
                    refine ⟨.slice (some ⟨k.b, k.sh + off, none⟩) (sLen + n) (k.cap - i0), ρ.upd s7.n ⟨k.b, k.sh + off, i.size, k.cap - i0⟩, w', ?_, ?_, PStep.trans (fun j a b => hρ j a b) (hro57.step hwf hinv)
                      (PStep.swap (hro57.wf hwf) hinv7 hFb ho0 hlt hs9 hρn hk (.inl rfl) (by rw [ht.size]; exact Nat.le_refl _) (fun b _ hb => ht.same b hb) ⟨_, e', frz, hb', ?_⟩ ht.tape ht.os ht.output), by rw [hs9, hs7, hro.u]⟩
                    · rw [run_append_in hd hi hxd hxm w hlen (by omega)]
                      refine (run_bind_eq hfr).trans ?_
                      simp only [addr_add] at hrun ⊢
                      exact run_bind_eq hrun
                    · have := VRel.sliceU (ρ := ρ.upd s7.n ⟨k.b, k.sh + off, i.size, k.cap - i0⟩) s7.n 0 (sLen + n) 0 _ (Rho.upd_self _ _ _) (by simp) (by simp; omega)
                      simpa using this
                    · have hszspl : (spl c' (k.sh + off + sLen * i.size + 0) new').size = c'.size := spl_size _ _ _
                      refine ⟨hrel.elem, by rw [hszspl]; exact hrel.frz, by rw [hszspl]; simp only; omega, by rw [hszspl, hlen']; simp only; omega, ?_⟩
                      refine hall new' _ (k.sh + off) _ (Rho.le_upd hρn) hl (fun j v hj hv => ?_) (fun j v hv => ?_)
                      · rw [spl_get _ _ _ _ (by rw [← hl.1, hnl]; omega), if_neg (by omega)]; exact hv
                      · have hj : j < new'.length := (List.getElem?_eq_some_iff.1 hv).1
                        rw [spl_get _ _ _ _ (by rw [← hl.1, hnl]; omega), if_pos (by omega)]
                        rw [← hv]; congr 1; omega
                  have hgrow : ∀ base' sCap' old', sCap' < sLen + n → LRel ρ old old' → (∀ w : World, w.heap[k.b]? = some (.cells c' e' frz) → (Builtin.firstCells i.size sLen (.slice base' sLen sCap')).run P w = .ok (List.toArray old') w) →
                      ∃ v' ρ' w', (Builtin.append_ #[sT, xT] ty #[.slice base' sLen sCap', y']).run P w = .ok v' w' ∧
                      VRel ρ' (.slice (some ⟨s7.n, 0, none⟩) (sLen + n) (capU + i.size)) v' ∧ PStep F ρ s5 w ρ' s9 w' ∧ s9.u = s5.u := by
                    intro base' sCap' old' hlt' hlo hold'
                    obtain ⟨cap, hcc, hch⟩ := choose_cap (P := P) (sLen + n) sCap' e w
                    obtain ⟨new', hfr, hl⟩ := hfst { w with drawn := w.drawn + 1 } (hinv.heap rfl)
                    have hzl : (Builtin.zeroCells z.cells (cap - (sLen + n))).size = (cap - (sLen + n)) * i.size := by rw [zeroCells_size, hzs]
                    have hla := hlo.append hl
                    have hlen2 : (old' ++ new').length = (sLen + n) * i.size := by rw [← hla.1, hlen']
                    have hmul : i.size * cap = (sLen + n) * i.size + (cap - (sLen + n)) * i.size := by rw [← Nat.add_mul, Nat.mul_comm]; congr 1; omega
                    refine ⟨.slice (some ⟨w.heap.size, 0, none⟩) (sLen + n) cap, ρ.upd s7.n ⟨w.heap.size, 0, i.size, cap⟩,
                      { w with drawn := w.drawn + 1, heap := w.heap.push (.cells (old'.toArray ++ new'.toArray ++ Builtin.zeroCells z.cells (cap - (sLen + n))) e) }, ?_, ?_, PStep.trans (fun j a b => hρ j a b) (hro57.step hwf hinv)
                      (PStep.swap (hro57.wf hwf) hinv7 hFb ho0 hlt hs9 hρn hk (.inr (Nat.le_refl _)) (by simp) (fun b hb _ => by simp only; rw [Array.getElem?_push_lt hb]; simp [hb])
                        ⟨old'.toArray ++ new'.toArray ++ Builtin.zeroCells z.cells (cap - (sLen + n)), e, (0, 0), by simp, rfl, .inl rfl, ?_, ?_, ?_⟩), by rw [hs9, hs7, hro.u]⟩
                    · rw [run_append_out hd hi hxd hxm w hlen hlt' hz (hbound hlt') hneed hch]
                      refine (run_bind_eq (hold' { w with drawn := w.drawn + 1 } hbk)).trans ?_
                      refine (run_bind_eq hfr).trans ?_
                      rfl
                    · have := VRel.sliceU (ρ := ρ.upd s7.n ⟨w.heap.size, 0, i.size, cap⟩) s7.n 0 (sLen + n) 0 _ (Rho.upd_self _ _ _) (by simp) (by simp; omega)
                      simpa using this
                    · simp only [Array.size_append, List.size_toArray, hzl]; simp only [List.length_append] at hlen2; omega
                    · simp only [Array.size_append, List.size_toArray, hzl, hlen']; simp only [List.length_append] at hlen2; omega
                    · intro j v hv
                      obtain ⟨v', a, b⟩ := hla.getElem hv
                      have hj := (List.getElem?_eq_some_iff.1 a).1
                      refine ⟨v', ?_, b.mono (Rho.le_upd hρn)⟩
                      simp only [Nat.zero_add]
                      rw [← Array.getElem?_toList]
                      simp only [Array.toList_append]
                      rw [List.getElem?_append_left hj]; exact a
                  obtain ⟨old', hol', hlo, hoc⟩ := hrel.window hold
                  rcases hx.slice_inv with ⟨hlt, k2, hk2, rfl⟩ | ⟨hl0, hc0, ⟨k2, hk2⟩, a', rfl⟩ | ⟨k2, i0, hk2, hcu, hoff, hll, rfl⟩ | ⟨k2, a', hk2, hcu, hl0, hoff, rfl⟩
                  · omega
                  · omega
                  · rw [hk] at hk2; cases hk2
                    have hsz : k.sz = i.size := by omega
                    have hU : capU + k.sz = capU + i.size := by omega
                    rcases Nat.lt_or_ge (k.cap - i0) (sLen + n) with hlt | hge
                    · obtain ⟨v', ρ', w', r1, r2, r3, r4⟩ := hgrow (some ⟨k.b, k.sh + off, none⟩) (k.cap - i0) old' hlt hlo (fun w1 hw1 => run_loadCells_row hw1 hol' hoc)
                      exact ⟨v', ρ', w', r1, hU ▸ r2, r3, r4⟩
                    · obtain ⟨v', ρ', w', r1, r2, r3, r4⟩ := hinplace i0 hsz hoff (by omega)
                      exact ⟨v', ρ', w', r1, hU ▸ r2, r3, r4⟩
                  · rw [hk] at hk2; cases hk2
                    subst hl0
                    have hU : capU + k.sz = capU + i.size := by omega
                    have : old' = [] := List.length_eq_zero_iff.1 (by rw [hol']; simp)
                    subst this
                    obtain ⟨v', ρ', w', r1, r2, r3, r4⟩ := hgrow (some a') 0 [] (by omega) hlo (fun w1 hw1 => by simp [Builtin.firstCells, loadCells, loadCellsFrom])
                    exact ⟨v', ρ', w', r1, hU ▸ r2, r3, r4⟩
                · cases h21
              · obtain ⟨id, s8, h21, h22⟩ := D.bind_ok h20
                obtain ⟨rfl, rfl⟩ := D.pure_ok h22
                have hFb : F b := hF b (by rw [(newB_ok h21).2.2, hs7]; simp only [testBit_lor_bit]; simp)
                obtain ⟨k, c', e', frz, hk, hbk, hrel⟩ := hinv.cells hFb hb5
                obtain ⟨old', hol', hlo, hoc⟩ := hrel.window hold
                have hlt2 : sCap < sLen + n := by
                  rcases Nat.lt_or_ge sCap (sLen + n) with h | h
                  · exact h
                  · rw [hU, Nat.ble_eq_true_of_le h] at hin; simp at hin
                have hnU : sCap ≠ capU + i.size := fun h => by rw [h, Nat.beq_refl] at hU; cases hU
                have hgrow : ∀ base', (∀ w : World, w.heap[k.b]? = some (.cells c' e' frz) → (Builtin.firstCells i.size sLen (.slice base' sLen sCap)).run P w = .ok (List.toArray old') w) →
                      ∃ v' ρ' w', (Builtin.append_ #[sT, xT] ty #[.slice base' sLen sCap, y']).run P w = .ok v' w' ∧
                      VRel ρ' (.slice (some ⟨id, 0, none⟩) (sLen + n) (capU + i.size)) v' ∧ PStep F ρ s5 w ρ' s8 w' ∧ s8.u = s5.u := by
                  intro base' hold'
                  obtain ⟨cap, hcc, hch⟩ := choose_cap (P := P) (sLen + n) sCap elem w
                  obtain ⟨new', hfr, hl⟩ := hfst { w with drawn := w.drawn + 1 } (hinv.heap rfl)
                  have hla := hlo.append hl
                  have hrow : (Builtin.zeroCells z.cells (cap - (sLen + n))).toList.length = (cap - (sLen + n)) * i.size := by rw [Array.length_toList, zeroCells_size, hzs]
                  obtain ⟨hid, hu, hst⟩ := newRow_sound h21 (fun j a b => hρ j (by rw [← hro57.n]; exact a) b) (hro57.wf hwf) (hinv := hinv7) hla
                    (w' := { w with drawn := w.drawn + 1, heap := w.heap.push (.cells (old'.toArray ++ new'.toArray ++ Builtin.zeroCells z.cells (cap - (sLen + n))) elem) }) (Builtin.zeroCells z.cells (cap - (sLen + n))).toList i.size cap
                    (by rw [hrow, List.length_append, hol, hnl, ← Nat.add_mul, ← Nat.add_mul, Nat.mul_comm]; congr 1; omega) (by congr 2; apply Array.ext'; simp)
                  refine ⟨.slice (some ⟨w.heap.size, 0, none⟩) (sLen + n) cap, _, _, ?_, ?_, PStep.trans (fun j a b => hρ j a b) (hro57.step hwf hinv) hst, hu.trans hro57.u⟩
                  · rw [run_append_out hd hi hxd hxm w hlen hlt2 hz (hbound hlt2) hneed hch]
                    refine (run_bind_eq (hold' { w with drawn := w.drawn + 1 } hbk)).trans ?_
                    refine (run_bind_eq hfr).trans ?_
                    rfl
                  · subst hid
                    have := VRel.sliceU (ρ := ρ.upd s7.n ⟨w.heap.size, 0, i.size, cap⟩) s7.n 0 (sLen + n) 0 _ (Rho.upd_self _ _ _) (by simp) (by simp; omega)
                    simpa using this
                rcases hx.slice_inv with ⟨hlt, k2, hk2, rfl⟩ | ⟨hl0, hc0, ⟨k2, hk2⟩, a', rfl⟩ | ⟨k2, i0, hk2, hcu, hoff, hll, rfl⟩ | ⟨k2, a', hk2, hcu, hl0, hoff, rfl⟩
                · rw [hk] at hk2; cases hk2
                  exact hgrow (some ⟨k.b, k.sh + off, none⟩) (fun w1 hw1 => run_loadCells_row hw1 hol' hoc)
                · subst hl0; subst hc0
                  have : old' = [] := List.length_eq_zero_iff.1 (by rw [hol']; simp)
                  subst this
                  exact hgrow (some a') (fun w1 hw1 => by simp [Builtin.firstCells, loadCells, loadCellsFrom])
                · omega
                · omega
        · cases h16
    · cases h2
  · cases h

end
end Go.Proofs.YthogkihfbjbghaaGreatDoor.Abs
namespace Go.Proofs.YthogkihfbjbghaaGreatDoor.Abs

/-- what a sound piece is asked to start from -/
structure Pre (F : Nat → Prop) (ρ : Rho) (s s' : St) (w : World) : Prop where
  hF : ∀ (i : Nat), s'.fp.testBit i = true → F i
  hρ : ∀ (i : Nat), s.n ≤ i → i < s'.n → ρ i = none
  wf : Wf s
  inv : Inv F ρ s.H.get w

/-- a run of a piece that gives a value -/
def VS (P : Program) (F : Nat → Prop) (ρ : Rho) (s : St) (w : World) (v : Value) (s' : St) (sem : Sem Value) : Prop :=
  ∃ v' ρ' w', sem.run P w = .ok v' w' ∧ VRel ρ' v v' ∧ PStep F ρ s w ρ' s' w' ∧ s'.u = s.u

section
variable {P : Program} {F : Nat → Prop} {ρ : Rho} {s s' : St} {w : World} {v : Value}

theorem RO.vs {sem : Sem Value} {v' : Value} (hp : Pre F ρ s s' w) (h : RO s s') (hr : sem.run P w = .ok v' w) (hv : VRel ρ v v') : VS P F ρ s w v s' sem :=
  ⟨v', ρ, w, hr, hv, h.step hp.wf hp.inv, h.u⟩

theorem VS.self {sem : Sem Value} {v' : Value} (hp : Pre F ρ s s w) (hr : sem.run P w = .ok v' w) (hv : VRel ρ v v') : VS P F ρ s w v s sem :=
  RO.vs hp (.refl s) hr hv

theorem Inv.obj {H : Nat → Option AObj} (h : Inv F ρ H w) {id : Nat} {o : Obj} (hF : F id) (hH : H id = some (.obj o)) :
    ∃ k o', ρ id = some k ∧ k.sh = 0 ∧ w.heap[k.b]? = some o' ∧ ObjRel ρ o o' := by
  obtain ⟨k, hk, hsh, o', hb, hr⟩ := h.rel id _ hF hH
  exact ⟨k, o', hk, hsh, hb, hr⟩

def isObj : Obj → Bool
  | .cells _ _ _ => false
  | _ => true

theorem ObjRel.isObj {o o' : Obj} (h : ObjRel ρ o o') : Go.Proofs.YthogkihfbjbghaaGreatDoor.Abs.isObj o' = true := by cases h <;> rfl

theorem run_getObj {r : Nat} {o : Obj} (h : w.heap[r]? = some o) (hn : isObj o = true) : (getObj r).run P w = .ok o w := by
  cases o <;> first | (cases hn; done) | simp [getObj, Sem.run, h]
theorem run_setObj {r : Nat} {o : Obj} (o' : Obj) (h : w.heap[r]? = some o) (hn : isObj o = true) : (setObj r o').run P w = .ok () { w with heap := w.heap.setIfInBounds r o' } := by
  cases o <;> first | (cases hn; done) | simp [setObj, Sem.run, h]

/-- an object of the heap's is turned -/
theorem putObj_sound {id : Nat} {o : Obj} {u : Unit} (h : D.run (putB id (.obj o)) s = .ok (u, s')) (hp : Pre F ρ s s' w) {k : Blk} (hk : ρ id = some k) (hsh : k.sh = 0) {o1' o' : Obj} (hb : w.heap[k.b]? = some o1')
    (hr : ObjRel ρ o o') : s'.u = s.u ∧ PStep F ρ s w ρ s' { w with heap := w.heap.setIfInBounds k.b o' } := by
  obtain ⟨o0, h0, hs'⟩ := putB_ok h
  have hlt := (Array.getElem?_eq_some_iff.1 hb).1
  refine ⟨by rw [hs'], PStep.put hp.wf hp.inv (hp.hF id (by rw [hs']; exact foot_bit s id)) h0 hs' hk (by simp) (fun b hb' => ?_) ⟨hsh, o', ?_, hr⟩⟩
  · rw [Array.getElem?_setIfInBounds_ne (Ne.symm hb')]
  · simp [hlt]

theorem newObj_sound {id : Nat} {o : Obj} (h : D.run (newB (.obj o)) s = .ok (id, s')) (hp : Pre F ρ s s' w) {o' : Obj} (hr : ∀ ρ', ρ.le ρ' → ObjRel ρ' o o') :
    id = s.n ∧ s'.u = s.u ∧ (newObj o').run P w = .ok w.heap.size { w with heap := w.heap.push o' } ∧ PStep F ρ s w (ρ.upd s.n ⟨w.heap.size, 0, 0, 0⟩) s' { w with heap := w.heap.push o' } := by
  obtain ⟨hid, hlt, hs'⟩ := newB_ok h
  have hn : ρ s.n = none := hp.hρ s.n (Nat.le_refl _) (by rw [hs']; simp)
  refine ⟨hid, by rw [hs'], by simp [newObj, Sem.run], .made hp.wf hp.inv hlt hs' hn (k := ⟨w.heap.size, 0, 0, 0⟩) rfl rfl ⟨rfl, o', by simp, hr _ (Rho.le_upd hn)⟩⟩

theorem Pre.ro {s1 : St} (hp : Pre F ρ s s' w) (h : RO s s1) : Pre F ρ s1 s' w :=
  ⟨hp.hF, fun i a b => hp.hρ i (by rw [← h.n]; exact a) b, h.wf hp.wf, by rw [h.H]; exact hp.inv⟩

theorem lenOfA_sound {t ty : TypeId} {x x' : Value} (h : D.run (lenOfA P t x) s = .ok (v, s')) (hp : Pre F ρ s s' w) (hx : VRel ρ x x') : VS P F ρ s w v s' (Builtin.len_ #[t] ty #[x']) := by
  unfold lenOfA at h
  obtain ⟨d, s1, h1, h2⟩ := D.bind_ok h
  obtain ⟨hd, rfl⟩ := descOf_ok h1
  have step : ∀ (c : TypeDesc → Sem Value) , ((underlying t) >>= c).run P w = (c d).run P w := fun c => run_bind_eq (run_underlying hd w)
  unfold Builtin.len_
  simp only [List.getElem?_toArray, List.getElem?_cons_zero]
  split at h2
  · rw [fnat_eq] at h2
    obtain ⟨rfl, rfl⟩ := D.pure_ok h2
    cases hx
    exact .self hp ((step _).trans rfl) (.int _ _)
  · obtain ⟨rfl, rfl⟩ := D.pure_ok h2
    exact .self hp ((step _).trans rfl) (.int _ _)
  · obtain ⟨rfl, rfl⟩ := D.pure_ok h2
    cases hx <;> exact .self hp ((step _).trans rfl) (.int _ _)
  · obtain ⟨rfl, rfl⟩ := D.pure_ok h2
    cases hx
    exact .self hp ((step _).trans rfl) (.int _ _)
  · rename_i r
    obtain ⟨o, s2, h3, h4⟩ := D.bind_ok h2
    obtain ⟨ho, hs2⟩ := objB_ok h3
    split at h4
    · rw [fnat_eq] at h4
      obtain ⟨rfl, rfl⟩ := D.pure_ok h4
      cases hx with
      | map _ k hk =>
        obtain ⟨k1, o', hk1, hsh, hb, hr⟩ := hp.inv.obj (hp.hF _ (by rw [hs2]; exact foot_bit _ _)) ho
        rw [hk] at hk1; cases hk1
        cases hr with
        | map _ es' _ hall =>
          refine RO.vs hp (by rw [hs2]; exact RO.foot _ _) ((step _).trans ((run_bind_eq (run_getObj hb rfl)).trans rfl)) ?_
          have : es'.size = es'.toList.length := (Array.length_toList).symm
          rw [this, ← hall.length]
          exact .int _ _
    · cases h4
  · cases h2

theorem minA_sound : ∀ {rest rest' : List Value} {x x' : Value} {mx : Bool}, D.run (minA mx x rest) s = .ok (v, s') → VRel ρ x x' → LRel ρ rest rest' →
    s' = s ∧ ∃ v', (rest'.foldlM (if mx then Builtin.max2 else Builtin.min2) x').run P w = .ok v' w ∧ VRel ρ v v'
  | [], rest', x, x', mx, h, hx, hr => by
    rw [hr.nil_inv]
    obtain ⟨rfl, rfl⟩ := D.pure_ok h
    exact ⟨rfl, x', rfl, hx⟩
  | y :: rest, rest', x, x', mx, h, hx, hr => by
    obtain ⟨y', r', rfl, hy, hr'⟩ := hr.cons_inv
    cases x with
    | int k a =>
      cases y with
      | int j b =>
        cases hx; cases hy
        have h : D.run (minA mx (.int k (if mx then (if b > a then b else a) else (if b < a then b else a))) rest) s = .ok (v, s') := h
        obtain ⟨e, v', h1, h2⟩ := minA_sound h (.int _ _) hr'
        refine ⟨e, v', ?_, h2⟩
        rw [List.foldlM_cons]
        refine (run_bind_eq (a := .int k (if mx then (if b > a then b else a) else (if b < a then b else a))) (w' := w) ?_).trans h1
        cases mx <;> rfl
      | _ => simp [minA, D.run, D.fail] at h
    | _ => simp [minA, D.run, D.fail] at h

theorem fieldAddr_sound {t : TypeId} {x x' : Value} {f : Nat} (h : D.run (D.bind (descOf P t) fun
    | .struct fields => match fields[f]? with
      | some fd => D.bind (addrOf x) fun (b, off) => D.bind (infoOf P fd.type) fun i => bif Nat.beq i.size 0 then D.fail "fieldAddr: size 0" else
          fnat (off + fd.offset) fun off => D.pure (.pointer (some ⟨b, off, none⟩))
      | none => D.fail "fieldAddr"
    | _ => D.fail "fieldAddr") s = .ok (v, s')) (hp : Pre F ρ s s' w) (hx : VRel ρ x x') : VS P F ρ s w v s' (Instr.fieldAt t x' f) := by
  obtain ⟨d, s1, h1, h2⟩ := D.bind_ok h
  obtain ⟨hd, rfl⟩ := descOf_ok h1
  split at h2
  · rename_i fields
    split at h2
    · rename_i fd hfd
      obtain ⟨⟨b, off⟩, s2, h3, h4⟩ := D.bind_ok h2
      obtain ⟨rfl, rfl⟩ := addrOf_ok h3
      obtain ⟨i, s3, h5, h6⟩ := D.bind_ok h4
      obtain ⟨hi, rfl⟩ := infoOf_ok h5
      obtain ⟨hz, h7⟩ := D.guardn_ok h6
      rw [fnat_eq] at h7
      obtain ⟨rfl, rfl⟩ := D.pure_ok h7
      cases hx with
      | ptr _ _ k hk =>
        have hz0 : ¬ i.size = 0 := fun e => by rw [e] at hz; cases hz
        refine .self (v' := .pointer (some ⟨k.b, k.sh + (off + fd.offset), none⟩)) hp ?_ (.ptr _ _ k hk)
        unfold Instr.fieldAt
        refine (run_bind_eq (run_underlying hd w)).trans ?_
        simp only [hfd]
        refine (run_bind_eq (a := (⟨k.b, k.sh + off, none⟩ : Addr)) (w' := w) rfl).trans ?_
        refine (run_bind_eq (a := (⟨k.b, k.sh + off + fd.offset, none⟩ : Addr)) (w' := w) ?_).trans (by rw [Nat.add_assoc]; rfl)
        unfold fieldPlace
        refine (run_bind_eq (run_sizeOf hi w)).trans ?_
        rw [if_neg hz0, addr_add]; rfl
    · cases h2
  · cases h2

theorem field_sound {t : TypeId} {x x' : Value} {f : Nat} {cs : Array Value} (e : x = .agg cs) (h : D.run (D.bind (descOf P t) fun
      | .struct fields => match fields[f]? with
        | some fd => partA P fd.type cs.toList fd.offset
        | none => D.fail "field"
      | _ => D.fail "field") s = .ok (v, s')) (hp : Pre F ρ s s' w) (hx : VRel ρ x x') : VS P F ρ s w v s' (Instr.field t x' f) := by
  subst e
  obtain ⟨d, s1, h1, h2⟩ := D.bind_ok h
  obtain ⟨hd, rfl⟩ := descOf_ok h1
  split at h2
  · rename_i fields
    split at h2
    · rename_i fd hfd
      obtain ⟨cs', rfl, hl⟩ := VRel.agg_iff.1 hx
      obtain ⟨rfl, v', hr, hv⟩ := run_part h2 hl w
      refine .self hp ?_ hv
      unfold Instr.field
      refine (run_bind_eq (run_underlying hd w)).trans ?_
      simp only [hfd]
      refine (run_bind_eq (a := cs') (w' := w) rfl).trans ?_
      simpa using hr
    · cases h2
  · cases h2

theorem indexAddr_sound {t : TypeId} {x x' ix ix' : Value} (h : D.run (D.bind (descOf P t) fun desc => match desc, x, ix with
    | .slice elem, .slice (some ⟨b, off, none⟩) len _, .int _ i => bif decide (0 ≤ i) && decide (i < (len : Int)) then
        D.bind (infoOf P elem) fun e => fnat (off + i.toNat * e.size) fun off => D.pure (.pointer (some ⟨b, off, none⟩)) else D.fail "indexAddr: bounds"
    | .array len elem, .pointer (some ⟨b, off, none⟩), .int _ i => bif decide (0 ≤ i) && decide (i < (len : Int)) then
        D.bind (infoOf P elem) fun e => fnat (off + i.toNat * e.size) fun off => D.pure (.pointer (some ⟨b, off, none⟩)) else D.fail "indexAddr: bounds"
    | _, _, _ => D.fail "indexAddr") s = .ok (v, s')) (hp : Pre F ρ s s' w) (hx : VRel ρ x x') (hi : VRel ρ ix ix') : VS P F ρ s w v s' (Instr.indexAt t x' ix') := by
  obtain ⟨d, s1, h1, h2⟩ := D.bind_ok h
  obtain ⟨hd, rfl⟩ := descOf_ok h1
  split at h2
  · rename_i elem b off len cap ik i
    obtain ⟨hb, h3⟩ := D.guard_ok h2
    simp only [Bool.and_eq_true, decide_eq_true_eq] at hb
    obtain ⟨e, s3, h5, h6⟩ := D.bind_ok h3
    obtain ⟨he, rfl⟩ := infoOf_ok h5
    rw [fnat_eq] at h6
    obtain ⟨rfl, rfl⟩ := D.pure_ok h6
    cases hi
    have key : ∀ k cap', ρ b = some k → VS P F ρ s3 w (.pointer (some ⟨b, off + i.toNat * e.size, none⟩)) s3 (Instr.indexAt t (.slice (some ⟨k.b, k.sh + off, none⟩) len cap') (.int ik i)) := by
      intro k cap' hk
      refine .self (v' := .pointer (some ⟨k.b, k.sh + (off + i.toNat * e.size), none⟩)) hp ?_ (.ptr _ _ k hk)
      unfold Instr.indexAt
      refine (run_bind_eq (a := (ik, i)) (w' := w) rfl).trans ?_
      refine (run_bind_eq (run_underlying hd w)).trans ?_
      refine (run_bind_eq (a := (some (⟨k.b, k.sh + off, none⟩ : Addr), len, elem)) (w' := w) rfl).trans ?_
      refine (run_bind_eq (run_underlying hd w)).trans ?_
      simp only [Bool.and_false]
      rw [if_pos hb]
      refine (run_bind_eq (run_sizeOf he w)).trans ?_
      rw [addr_add, Nat.add_assoc]; rfl
    rcases hx.slice_inv with ⟨_, k, hk, rfl⟩ | ⟨hl0, _⟩ | ⟨k, i0, hk, _, _, _, rfl⟩ | ⟨k, a, _, _, hl0, _⟩
    · exact key k _ hk
    · subst hl0; omega
    · exact key k _ hk
    · subst hl0; omega
  · rename_i len elem b off ik i
    obtain ⟨hb, h3⟩ := D.guard_ok h2
    simp only [Bool.and_eq_true, decide_eq_true_eq] at hb
    obtain ⟨e, s3, h5, h6⟩ := D.bind_ok h3
    obtain ⟨he, rfl⟩ := infoOf_ok h5
    rw [fnat_eq] at h6
    obtain ⟨rfl, rfl⟩ := D.pure_ok h6
    cases hi
    cases hx with
    | ptr _ _ k hk =>
      refine .self (v' := .pointer (some ⟨k.b, k.sh + (off + i.toNat * e.size), none⟩)) hp ?_ (.ptr _ _ k hk)
      unfold Instr.indexAt
      refine (run_bind_eq (a := (ik, i)) (w' := w) rfl).trans ?_
      refine (run_bind_eq (run_underlying hd w)).trans ?_
      refine (run_bind_eq (a := (some (⟨k.b, k.sh + off, none⟩ : Addr), len, elem)) (w' := w) rfl).trans ?_
      refine (run_bind_eq (run_underlying hd w)).trans ?_
      simp only
      rw [if_pos hb]
      refine (run_bind_eq (run_sizeOf he w)).trans ?_
      rw [addr_add, Nat.add_assoc]; rfl
  · cases h2

theorem index_sound {t : TypeId} {x x' ix ix' : Value} (h : D.run (D.bind (descOf P t) fun desc => match desc, x, ix with
    | .string, .string s, .int _ i => bif decide (0 ≤ i) then match (bs s)[i.toNat]? with
        | some b => fnat b.toNat fun n => D.pure (.int .u8 n)
        | none => D.fail "index: bounds" else D.fail "index: bounds"
    | .array len elem, .agg cs, .int _ i => bif decide (0 ≤ i) && decide (i < (len : Int)) then
        D.bind (infoOf P elem) fun e => partA P elem cs.toList (i.toNat * e.size) else D.fail "index: bounds"
    | _, _, _ => D.fail "index") s = .ok (v, s')) (hp : Pre F ρ s s' w) (hx : VRel ρ x x') (hi : VRel ρ ix ix') : VS P F ρ s w v s' (Instr.index t x' ix') := by
  obtain ⟨d, s1, h1, h2⟩ := D.bind_ok h
  obtain ⟨hd, rfl⟩ := descOf_ok h1
  split at h2
  · rename_i str ik i
    obtain ⟨hb, h3⟩ := D.guard_ok h2
    simp only [decide_eq_true_eq] at hb
    split at h3
    · rename_i b hbs
      rw [fnat_eq] at h3
      obtain ⟨rfl, rfl⟩ := D.pure_ok h3
      cases hi; cases hx
      refine .self (v' := .int .u8 b.toNat) hp ?_ (.int _ _)
      unfold Instr.index
      refine (run_bind_eq (a := (ik, i)) (w' := w) rfl).trans ?_
      refine (run_bind_eq (run_underlying hd w)).trans ?_
      have : str[i.toNat]? = some b := by
        obtain ⟨⟨l⟩⟩ := str
        simp only [bs] at hbs
        obtain ⟨hlt, hv⟩ := List.getElem?_eq_some_iff.1 hbs
        rw [getElem?_pos (h := by simpa [ByteArray.size] using hlt)]
        simpa [ByteArray.getElem_eq_getElem_data] using hv
      simp only [if_pos hb, this]
      rfl
    · cases h3
  · rename_i len elem cs ik i
    obtain ⟨hb, h3⟩ := D.guard_ok h2
    simp only [Bool.and_eq_true, decide_eq_true_eq] at hb
    obtain ⟨e, s3, h5, h6⟩ := D.bind_ok h3
    obtain ⟨he, rfl⟩ := infoOf_ok h5
    cases hi
    obtain ⟨cs', rfl, hl⟩ := VRel.agg_iff.1 hx
    obtain ⟨rfl, v', hr, hv⟩ := run_part h6 hl w
    refine .self hp ?_ hv
    unfold Instr.index
    refine (run_bind_eq (a := (ik, i)) (w' := w) rfl).trans ?_
    refine (run_bind_eq (run_underlying hd w)).trans ?_
    simp only [if_pos hb]
    refine (run_bind_eq (run_sizeOf he w)).trans ?_
    simpa using hr
  · cases h2

end
end Go.Proofs.YthogkihfbjbghaaGreatDoor.Abs
namespace Go.Proofs.YthogkihfbjbghaaGreatDoor.Abs

section
variable {P : Program} {F : Nat → Prop} {ρ : Rho} {s s' : St} {w : World} {v : Value}

theorem VRel.tuple2 {a b a' b' : Value} (ha : VRel ρ a a') (hb : VRel ρ b b') : VRel ρ (.tuple #[a, b]) (.tuple #[a', b']) :=
  .tuple _ _ rfl fun i x x' hx hx' => by
    match i with
    | 0 => simp at hx hx'; subst hx; subst hx'; exact ha
    | 1 => simp at hx hx'; subst hx; subst hx'; exact hb
    | i + 2 => simp at hx

theorem run_checkFields {n : Nat} {em : Bool} {cs : Array Value} : ∀ {fs : List Field}, keyOk.keyFields P cs.toList.length fs = true →
    (forIn fs PUnit.unit fun (f : Field) (_ : PUnit) => (do
      if f.name ≠ "_" then
        let x ← part f.type cs f.offset
        Instr.checkKey em (n + 1) f.type x
        pure (ForInStep.yield PUnit.unit)
      else pure (ForInStep.yield PUnit.unit) : Sem (ForInStep PUnit))).run P w = .ok .unit w
  | [], _ => rfl
  | f :: fs, h => by
    simp only [keyOk.keyFields, undK_eq, Bool.and_eq_true] at h
    rw [List.forIn_cons]
    have hrest := run_checkFields (n := n) (em := em) h.2
    refine (run_bind_eq (a := ForInStep.yield PUnit.unit) (w' := w) ?_).trans hrest
    split
    · obtain ⟨h1, _⟩ := h
      have key : ∀ d, P.underlying f.type = some d → descAgg d = false → (∀ x, (Instr.checkKey em (n + 1) f.type x).run P w = .ok () w) → Nat.blt f.offset cs.toList.length = true →
          (do let x ← part f.type cs f.offset
              Instr.checkKey em (n + 1) f.type x
              pure (ForInStep.yield PUnit.unit) : Sem (ForInStep PUnit)).run P w = .ok (ForInStep.yield PUnit.unit) w := by
        intro d hd ha hc hlt
        have hlt : f.offset < cs.size := by simpa [Nat.blt_eq] using hlt
        refine (run_bind_eq (a := cs[f.offset]) (w' := w) ?_).trans ((run_bind_eq (hc _)).trans rfl)
        unfold part
        refine (run_bind_eq (underlying_plain_agg hd ha w)).trans ?_
        simp [hlt]
      have chk : ∀ d, P.underlying f.type = some d → (match d with | .int _ | .string | .bool => True | _ => False) → ∀ x, (Instr.checkKey em (n + 1) f.type x).run P w = .ok () w := by
        intro d hd hk x
        rw [Instr.checkKey]
        refine (run_bind_eq (run_underlying hd w)).trans ?_
        cases d <;> first | exact hk.elim | rfl
      split at h1
      · rename_i hd; exact key _ hd rfl (chk _ hd trivial) h1
      · rename_i hd; exact key _ hd rfl (chk _ hd trivial) h1
      · rename_i hd; exact key _ hd rfl (chk _ hd trivial) h1
      · cases h1
    · rfl

theorem checkKey_sound {kt : TypeId} {kd : TypeDesc} {k k' : Value} (hd : P.underlying kt = some kd) (hk : keyOk P kd k = true) (hv : VRel ρ k k') (em : Bool) (n : Nat) : (Instr.checkKey em (n + 2) kt k').run P w = .ok () w := by
  rw [Instr.checkKey]
  refine (run_bind_eq (run_underlying hd w)).trans ?_
  unfold keyOk at hk
  split at hk
  · rfl
  · rfl
  · rfl
  · rename_i fs cs
    obtain ⟨cs', rfl, hl⟩ := VRel.agg_iff.1 hv
    simp only
    rw [← Array.forIn_toList]
    have := run_checkFields (P := P) (w := w) (n := n) (em := em) (cs := cs') (fs := fs.toList) (by rw [← hl.1]; exact hk)
    exact (run_bind_eq this).trans rfl
  · cases hk

theorem byteEq {a b : ByteArray} : (a == b) = beqBytes (bs a) (bs b) := by rw [bytes_beq, beqBytes_eq]

/-- a key found -/
inductive FoundRel (ρ : Rho) (es : List MapEntry) (k k' : Value) : Option (Nat × Value) → Option (Nat × Value) → Prop where
  | none : FoundRel ρ es k k' none none
  | some (i : Nat) (v v' : Value) (h : VRel ρ v v') (e : MapEntry) (he : es[i]? = .some e) (hs : Instr.sameBits 10000 e.key k' = true) (hk : VRel ρ k k') : FoundRel ρ es k k' (some (i, v)) (some (i, v'))

theorem findA_sound {kd : TypeDesc} {k k' : Value} (hk : VRel ρ k k') {es0 : List MapEntry} : ∀ {es es' : List MapEntry} {i : Nat} {r : Option (Nat × Value)}, findA kd k es i = some r → All2 (EntRel ρ) es es' →
    (∀ (j : Nat) (e : MapEntry), es'[j]? = some e → es0[i + j]? = some e) → ∃ r', Instr.findNow kd k' es' i = some r' ∧ FoundRel ρ es0 k k' r r'
  | [], es', i, r, h, ha, h0 => by
    cases ha
    simp only [findA, Option.some.injEq] at h
    subst h
    exact ⟨none, rfl, .none⟩
  | e :: es, es', i, r, h, ha, h0 => by
    cases ha with
    | cons he ht =>
      rename_i e' es'
      have hrest : ∀ {r}, findA kd k es (i + 1) = some r → _ := fun h => findA_sound hk h ht (fun j x hx => by have := h0 (j + 1) x (by simpa using hx); rwa [← Nat.add_assoc, Nat.add_right_comm] at this)
      have hfirst : es0[i]? = some e' := by simpa using h0 0 e' rfl
      unfold findA at h
      have hkey := he.key
      have hval := he.val
      obtain ⟨ek', ev', eb'⟩ := e'
      simp only at hkey hval
      split at h
      · rename_i k0 j a k1 b hek
        rw [hek] at hkey
        cases hk; cases hkey
        split at h
        · rename_i hj
          subst hj
          cases hab : (a == b)
          · rw [hab] at h
            obtain ⟨r', h1, h2⟩ := hrest h
            refine ⟨r', ?_, h2⟩
            rw [Instr.findNow]; simp only [Instr.sameNow, if_pos, hab]; exact h1
          · rw [hab] at h
            simp only [cond_true, Option.some.injEq] at h
            subst h
            refine ⟨some (i, ev'), ?_, .some i _ _ hval _ hfirst ?_ (.int _ _)⟩
            · rw [Instr.findNow]; simp only [Instr.sameNow, if_pos, hab]
            · have hab := eq_of_beq hab; subst hab; simp [Instr.sameBits]
        · cases h
      · rename_i a b hek
        rw [hek] at hkey
        cases hk; cases hkey
        cases hab : beqBytes (bs a) (bs b)
        · rw [hab] at h
          obtain ⟨r', h1, h2⟩ := hrest h
          refine ⟨r', ?_, h2⟩
          rw [← byteEq] at hab
          rw [Instr.findNow]; simp only [Instr.sameNow, hab]; exact h1
        · rw [hab] at h
          simp only [cond_true, Option.some.injEq] at h
          subst h
          rw [← byteEq] at hab
          refine ⟨some (i, ev'), ?_, .some i _ _ hval _ hfirst ?_ (.string _)⟩
          · rw [Instr.findNow]; simp only [Instr.sameNow, hab]
          · rw [bytes_beq] at hab; simp only [Instr.sameBits]; rw [bytes_beq]; have hab := eq_of_beq hab; rw [hab]; exact beq_self_eq_true _
      · rename_i a b hek
        rw [hek] at hkey
        cases hk; cases hkey
        cases hab : (a == b)
        · rw [hab] at h
          obtain ⟨r', h1, h2⟩ := hrest h
          refine ⟨r', ?_, h2⟩
          rw [Instr.findNow]; simp only [Instr.sameNow, hab]; exact h1
        · rw [hab] at h
          simp only [cond_true, Option.some.injEq] at h
          subst h
          refine ⟨some (i, ev'), ?_, .some i _ _ hval _ hfirst ?_ (.bool _)⟩
          · rw [Instr.findNow]; simp only [Instr.sameNow, hab]
          · have hab := eq_of_beq hab; subst hab; simp [Instr.sameBits]
      · cases h

theorem findKey_sound {kt : TypeId} {kd : TypeDesc} {k k' : Value} (hd : P.underlying kt = some kd) (hk : VRel ρ k k') {es es' : List MapEntry} {r : Option (Nat × Value)} (h : findA kd k es 0 = some r) (ha : All2 (EntRel ρ) es es') :
    ∃ r', (∀ w, (Instr.findKey kt k' es').run P w = .ok r' w) ∧ FoundRel ρ es' k k' r r' := by
  obtain ⟨r', h1, h2⟩ := findA_sound hk h ha (es0 := es') (fun j e he => by simpa using he)
  exact ⟨r', fun w => by simp [Instr.findKey, run_underlying hd, Result.andThen, h1], h2⟩

theorem modA_eq {α β : Type} : ∀ (l : List α) (i : Nat) (f : α → α) (k : List α → β), modA l i f k = k (l.modify i f)
  | [], i, f, k => by cases i <;> simp [modA]
  | x :: l, 0, f, k => by simp [modA]
  | x :: l, i + 1, f, k => by rw [modA, modA_eq l i f]; simp

theorem eraseA_eq {α : Type} : ∀ (l : List α) (i : Nat), eraseA l i = l.eraseIdx i
  | [], i => by cases i <;> rfl
  | x :: l, 0 => rfl
  | x :: l, i + 1 => by simp [eraseA, eraseA_eq l i]

theorem All2.modify {R : MapEntry → MapEntry → Prop} {l l' : List MapEntry} (h : All2 R l l') {f g : MapEntry → MapEntry} (hf : ∀ a b, R a b → R (f a) (g b)) (i : Nat) : All2 R (l.modify i f) (l'.modify i g) := by
  induction h generalizing i with
  | nil => cases i <;> exact .nil
  | cons h t ih =>
    cases i with
    | zero => exact .cons (hf _ _ h) t
    | succ i => exact .cons h (ih i)

theorem All2.getElem {R : MapEntry → MapEntry → Prop} {l l' : List MapEntry} (h : All2 R l l') {i : Nat} {a b : MapEntry} (ha : l[i]? = some a) (hb : l'[i]? = some b) : R a b := by
  induction h generalizing i with
  | nil => simp at ha
  | cons h t ih =>
    cases i with
    | zero => simp at ha hb; subst ha; subst hb; exact h
    | succ i => exact ih (by simpa using ha) (by simpa using hb)

theorem All2.eraseIdx {R : MapEntry → MapEntry → Prop} {l l' : List MapEntry} (h : All2 R l l') (i : Nat) : All2 R (l.eraseIdx i) (l'.eraseIdx i) := by
  induction h generalizing i with
  | nil => exact .nil
  | cons h t ih =>
    cases i with
    | zero => exact t
    | succ i => exact .cons h (ih i)

theorem keyStays {old new : Value} (h : Instr.sameBits 10000 old new = true) : (Instr.keyThatStays old new).run P w = .ok new w := by
  unfold Instr.keyThatStays
  rw [if_pos h]; rfl

/-- a map at its place -/
theorem map_at {x' : Value} {r : Nat} (hp : Pre F ρ s s' w) (hx : VRel ρ (.map (some r)) x') {es : Array MapEntry} {clock : Nat} (hF : F r) (ho : s.H.get r = some (.obj (.map es clock))) :
    ∃ k es', x' = .map (some k.b) ∧ ρ r = some k ∧ k.sh = 0 ∧ w.heap[k.b]? = some (.map es' clock) ∧ All2 (EntRel ρ) es.toList es'.toList := by
  cases hx with
  | map _ k hk =>
    obtain ⟨k1, o', hk1, hsh, hb, hr⟩ := hp.inv.obj hF ho
    rw [hk] at hk1; cases hk1
    cases hr with
    | map _ es' _ hall => exact ⟨k, es', rfl, hk, hsh, hb, hall⟩

theorem lookupA_sound {t : TypeId} {m k m' k' : Value} {ok : Bool} (h : D.run (lookupA P t m k ok) s = .ok (v, s')) (hp : Pre F ρ s s' w) (hm : VRel ρ m m') (hk : VRel ρ k k') : VS P F ρ s w v s' (Instr.lookup t m' k' ok) := by
  unfold lookupA at h
  obtain ⟨d, s1, h1, h2⟩ := D.bind_ok h
  obtain ⟨hd, rfl⟩ := descOf_ok h1
  split at h2
  · rename_i kt et
    obtain ⟨kd, s2, h3, h4⟩ := D.bind_ok h2
    obtain ⟨hkd, rfl⟩ := descOf_ok h3
    obtain ⟨⟨es, c0⟩, s3, h5, h6⟩ := D.bind_ok h4
    obtain ⟨hkey, h7⟩ := D.guard_ok h6
    have hs' : s' = s3 := by
      split at h7
      · exact (D.pure_ok h7).2.symm
      · obtain ⟨z, s4, h8, h9⟩ := D.bind_ok h7
        rw [← (D.pure_ok h9).2]; exact (zeroOf_ok h8).2.2.1
      · cases h7
    subst hs'
    have hes : RO s2 s' ∧ ∃ es', All2 (EntRel ρ) es es'.toList ∧ (m' = .map none ∧ es' = #[] ∨ ∃ b c, m' = .map (some b) ∧ w.heap[b]? = some (.map es' c)) := by
      unfold entriesA at h5
      split at h5
      · obtain ⟨e, rfl⟩ := D.pure_ok h5
        cases e; cases hm
        exact ⟨.refl _, #[], .nil, .inl ⟨rfl, rfl⟩⟩
      · rename_i r
        obtain ⟨o, s4, h8, h9⟩ := D.bind_ok h5
        obtain ⟨ho, hs4⟩ := objB_ok h8
        split at h9
        · obtain ⟨e, rfl⟩ := D.pure_ok h9
          cases e
          obtain ⟨kk, es', rfl, hkk, hsh, hb, hall⟩ := map_at hp hm (hp.hF r (by rw [hs4]; exact foot_bit _ _)) ho
          exact ⟨by rw [hs4]; exact RO.foot _ _, es', hall, .inr ⟨_, _, rfl, hb⟩⟩
        · cases h9
      · cases h5
    obtain ⟨hro, es', hall, hwhere⟩ := hes
    have hrun : (Instr.lookup t m' k' ok).run P w = (do
        Instr.checkKey es'.isEmpty 10000 kt k'
        let r ← Instr.findKey kt k' es'.toList
        match r with
        | some (_, v) => pure (if ok then .tuple #[v, .bool true] else v)
        | none => do
          let z ← zeroValue et
          pure (if ok then .tuple #[z, .bool false] else z) : Sem Value).run P w := by
      unfold Instr.lookup
      refine (run_bind_eq (run_underlying hd w)).trans ?_
      rcases hwhere with ⟨rfl, rfl⟩ | ⟨b, c, rfl, hb⟩
      · refine (run_bind_eq (a := #[]) (w' := w) rfl).trans ?_
        rw [Sem.run_bind, Sem.run_bind]; congr 1
      · refine (run_bind_eq (run_getObj hb rfl)).trans ?_
        refine (run_bind_eq (a := es') (w' := w) rfl).trans ?_
        rw [Sem.run_bind, Sem.run_bind]; congr 1
    have hck := checkKey_sound (P := P) (w := w) hkd hkey hk es'.isEmpty 9998
    split at h7
    · rename_i i x hf
      obtain ⟨rfl, _⟩ := D.pure_ok h7
      obtain ⟨r', h8, h9⟩ := findKey_sound hkd hk hf hall
      cases h9 with
      | some _ _ v' hv =>
        refine hro.vs hp (v' := if ok then .tuple #[v', .bool true] else v') ?_ ?_
        · rw [hrun]
          refine (run_bind_eq hck).trans ?_
          exact (run_bind_eq (h8 w)).trans rfl
        · cases ok
          · exact hv
          · exact VRel.tuple2 hv (.bool true)
    · rename_i hf
      obtain ⟨z, s4, h10, h11⟩ := D.bind_ok h7
      obtain ⟨hz, hzr, rfl, _⟩ := zeroOf_ok h10
      obtain ⟨rfl, _⟩ := D.pure_ok h11
      obtain ⟨r', h8, h9⟩ := findKey_sound hkd hk hf hall
      cases h9
      refine hro.vs hp (v' := if ok then .tuple #[z, .bool false] else z) ?_ ?_
      · rw [hrun]
        refine (run_bind_eq hck).trans ?_
        refine (run_bind_eq (h8 w)).trans ?_
        exact (run_bind_eq (hz w)).trans rfl
      · cases ok
        · exact hzr ρ
        · exact VRel.tuple2 (hzr ρ) (.bool false)
    · cases h7
  · cases h2

def US (P : Program) (F : Nat → Prop) (ρ : Rho) (s : St) (w : World) (s' : St) (sem : Sem Unit) : Prop :=
  ∃ w', sem.run P w = .ok () w' ∧ PStep F ρ s w ρ s' w' ∧ s'.u = s.u

/-- a map is turned -/
theorem putMap {r : Nat} {es : Array MapEntry} {clock : Nat} {es1 : List MapEntry} {es2 : Array MapEntry} {c1 : Nat} {s1 : St} {k : Blk} {es' : Array MapEntry} {u : Unit} (hp : Pre F ρ s s' w)
    (h : D.run (objB r) s = .ok (.map es clock, s1)) (hput : D.run (putB r (.obj (.map es1.toArray c1))) s1 = .ok (u, s')) (hk : ρ r = some k) (hsh : k.sh = 0) (hb : w.heap[k.b]? = some (.map es' clock)) (hall : All2 (EntRel ρ) es1 es2.toList) :
    (setObj k.b (.map es2 c1)).run P w = .ok () { w with heap := w.heap.setIfInBounds k.b (.map es2 c1) } ∧ PStep F ρ s w ρ s' { w with heap := w.heap.setIfInBounds k.b (.map es2 c1) } ∧ s'.u = s.u := by
  obtain ⟨ho, hs1⟩ := objB_ok h
  have hro : RO s s1 := by rw [hs1]; exact RO.foot _ _
  obtain ⟨hu, hst⟩ := putObj_sound hput (hp.ro hro) hk hsh hb (ObjRel.map es1.toArray es2 c1 (by simpa using hall))
  refine ⟨run_setObj _ hb rfl, PStep.trans (fun i a b => hp.hρ i a b) (hro.step hp.wf hp.inv) hst, hu.trans hro.u⟩

theorem obj_fp {r : Nat} {o : Obj} {o2 : AObj} {s1 : St} {u : Unit} (_ : D.run (objB r) s = .ok (o, s1)) (hput : D.run (putB r o2) s1 = .ok (u, s')) : s'.fp.testBit r = true := by
  obtain ⟨_, _, hs'⟩ := putB_ok hput
  rw [hs']; exact foot_bit _ _

theorem mapUpdateA_sound {t : TypeId} {m k x m' k' x' : Value} {u : Unit} (h : D.run (mapUpdateA P t m k x) s = .ok (u, s')) (hp : Pre F ρ s s' w) (hm : VRel ρ m m') (hk : VRel ρ k k') (hx : VRel ρ x x') :
    US P F ρ s w s' (Instr.mapUpdate t m' k' x') := by
  unfold mapUpdateA at h
  obtain ⟨d, s1, h1, h2⟩ := D.bind_ok h
  obtain ⟨hd, rfl⟩ := descOf_ok h1
  split at h2
  · rename_i kt et
    obtain ⟨kd, s2, h3, h4⟩ := D.bind_ok h2
    obtain ⟨hkd, rfl⟩ := descOf_ok h3
    split at h4
    · rename_i r
      obtain ⟨o, s3, h5, h6⟩ := D.bind_ok h4
      split at h6
      · rename_i es clock
        obtain ⟨hkey, h7⟩ := D.guard_ok h6
        obtain ⟨ho, hs3⟩ := objB_ok h5
        have hF : F r := by
          split at h7
          · rw [modA_eq] at h7; exact hp.hF _ (obj_fp h5 h7)
          · rw [forceL_eq, fnat_eq] at h7; exact hp.hF _ (obj_fp h5 h7)
          · cases h7
        obtain ⟨kk, es', rfl, hkk, hsh, hb, hall⟩ := map_at hp hm hF ho
        have hck := checkKey_sound (P := P) (w := w) hkd hkey hk false 9998
        split at h7
        · rename_i i v0 hf
          rw [modA_eq] at h7
          obtain ⟨r', h8, h9⟩ := findKey_sound hkd hk hf hall
          cases h9 with
          | some _ _ v' hv e he hs _ =>
            obtain ⟨hrun, hst, hu⟩ := putMap (P := P) (es2 := es'.modify i fun e => { e with key := k', val := x' }) hp h5 h7 hkk hsh hb (by
              rw [Array.toList_modify]; exact hall.modify (f := fun e => { e with key := k, val := x }) (g := fun e => { e with key := k', val := x' }) (fun a b hab => ⟨hk, hx, hab.born⟩) i)
            refine ⟨_, ?_, hst, hu⟩
            unfold Instr.mapUpdate
            refine (run_bind_eq (run_underlying hd w)).trans ?_
            refine (run_bind_eq (run_getObj hb rfl)).trans ?_
            refine (run_bind_eq hck).trans ?_
            refine (run_bind_eq (h8 w)).trans ?_
            refine (run_bind_eq (a := k') (w' := w) ?_).trans hrun
            refine keyStays ?_
            have : es'[i]? = some e := by rw [← Array.getElem?_toList]; exact he
            rw [this]; exact hs
        · rename_i hf
          rw [forceL_eq, fnat_eq] at h7
          obtain ⟨r', h8, h9⟩ := findKey_sound hkd hk hf hall
          cases h9
          obtain ⟨hrun, hst, hu⟩ := putMap (P := P) (es2 := es'.push { key := k', val := x', born := clock }) hp h5 h7 hkk hsh hb (by
            rw [Array.toList_push]; exact hall.append (.cons ⟨hk, hx, rfl⟩ .nil))
          refine ⟨_, ?_, hst, hu⟩
          unfold Instr.mapUpdate
          refine (run_bind_eq (run_underlying hd w)).trans ?_
          refine (run_bind_eq (run_getObj hb rfl)).trans ?_
          refine (run_bind_eq hck).trans ?_
          exact (run_bind_eq (h8 w)).trans hrun
        · cases h7
      · cases h6
    · cases h4
  · cases h2

theorem mapEntryA_sound {t : TypeId} {m k m' k' : Value} (h : D.run (mapEntryA P t m k) s = .ok (v, s')) (hp : Pre F ρ s s' w) (hm : VRel ρ m m') (hk : VRel ρ k k') :
    VS P F ρ s w v s' (Instr.mapEntry t m' k') := by
  unfold mapEntryA at h
  obtain ⟨d, s1, h1, h2⟩ := D.bind_ok h
  obtain ⟨hd, rfl⟩ := descOf_ok h1
  split at h2
  · rename_i kt et
    obtain ⟨kd, s2, h3, h4⟩ := D.bind_ok h2
    obtain ⟨hkd, rfl⟩ := descOf_ok h3
    split at h4
    · rename_i r
      obtain ⟨o, s3, h5, h6⟩ := D.bind_ok h4
      split at h6
      · rename_i es clock
        obtain ⟨hkey, h7⟩ := D.guard_ok h6
        obtain ⟨ho, hs3⟩ := objB_ok h5
        have hck := checkKey_sound (P := P) (w := w) hkd hkey hk false 9998
        split at h7
        · rename_i i v0 hf
          rw [modA_eq] at h7
          obtain ⟨_, s4, h10, h11⟩ := D.bind_ok h7
          split at h11
          · rename_i e0 he0
            obtain ⟨rfl, rfl⟩ := D.pure_ok h11
            obtain ⟨kk, es', rfl, hkk, hsh, hb, hall⟩ := map_at hp hm (hp.hF _ (obj_fp h5 h10)) ho
            obtain ⟨r', h8, h9⟩ := findKey_sound hkd hk hf hall
            cases h9 with
            | some _ _ v' hv e he hs _ =>
              obtain ⟨hrun, hst, hu⟩ := putMap (P := P) (es2 := es'.modify i fun e => { e with key := k' }) hp h5 h10 hkk hsh hb (by
                rw [Array.toList_modify]; exact hall.modify (f := fun e => { e with key := k }) (g := fun e => { e with key := k' }) (fun a b hab => ⟨hk, hab.val, hab.born⟩) i)
              have hat : es'[i]? = some e := by rw [← Array.getElem?_toList]; exact he
              have hborn : e0.born = e.born := (hall.getElem he0 he).born
              refine ⟨.tuple #[v', .int .i64 e.born], ρ, _, ?_, by rw [hborn]; exact VRel.tuple2 hv (.int _ _), hst, hu⟩
              unfold Instr.mapEntry
              refine (run_bind_eq (run_underlying hd w)).trans ?_
              refine (run_bind_eq (run_getObj hb rfl)).trans ?_
              refine (run_bind_eq hck).trans ?_
              refine (run_bind_eq (h8 w)).trans ?_
              refine (run_bind_eq (a := k') (w' := w) (keyStays ?_)).trans ?_
              · rw [hat]; exact hs
              refine (run_bind_eq hrun).trans ?_
              rw [hat]; rfl
          · cases h11
        · rename_i hf
          obtain ⟨z, s4, h10, h11⟩ := D.bind_ok h7
          obtain ⟨hz, hzr, rfl, _⟩ := zeroOf_ok h10
          rw [forceL_eq, fnat_eq] at h11
          obtain ⟨_, s5, h12, h13⟩ := D.bind_ok h11
          obtain ⟨rfl, rfl⟩ := D.pure_ok h13
          obtain ⟨kk, es', rfl, hkk, hsh, hb, hall⟩ := map_at hp hm (hp.hF _ (obj_fp h5 h12)) ho
          obtain ⟨r', h8, h9⟩ := findKey_sound hkd hk hf hall
          cases h9
          obtain ⟨hrun, hst, hu⟩ := putMap (P := P) (es2 := es'.push { key := k', val := z, born := clock }) hp h5 h12 hkk hsh hb (by
            rw [Array.toList_push]; exact hall.append (.cons ⟨hk, hzr ρ, rfl⟩ .nil))
          refine ⟨.tuple #[z, .int .i64 clock], ρ, _, ?_, VRel.tuple2 (hzr ρ) (.int _ _), hst, hu⟩
          unfold Instr.mapEntry
          refine (run_bind_eq (run_underlying hd w)).trans ?_
          refine (run_bind_eq (run_getObj hb rfl)).trans ?_
          refine (run_bind_eq hck).trans ?_
          refine (run_bind_eq (h8 w)).trans ?_
          refine (run_bind_eq (hz w)).trans ?_
          refine (run_bind_eq hrun).trans ?_
          rfl
        · cases h7
      · cases h6
    · cases h4
  · cases h2

theorem findIdx_eq {α : Type} (p : α → Bool) : ∀ (l : List α) (i : Nat), findIdx p l i = (l.findIdx? p).map (· + i)
  | [], i => rfl
  | x :: l, i => by
    rw [findIdx, List.findIdx?_cons, findIdx_eq p l]
    cases p x <;> simp [Option.map_map, Function.comp_def, Nat.add_assoc, Nat.add_comm 1]

theorem All2.findIdx? {R : MapEntry → MapEntry → Prop} {p : MapEntry → Bool} (hp : ∀ a b, R a b → p a = p b) {l l' : List MapEntry} (h : All2 R l l') : l.findIdx? p = l'.findIdx? p := by
  induction h with
  | nil => rfl
  | cons h t ih => rw [List.findIdx?_cons, List.findIdx?_cons, ih, hp _ _ h]

theorem entryStoreA_sound {t : TypeId} {m k x m' k' x' : Value} {u : Unit} (h : D.run (entryStoreA m k x) s = .ok (u, s')) (hp : Pre F ρ s s' w) (hm : VRel ρ m m') (hk : VRel ρ k k') (hx : VRel ρ x x') :
    US P F ρ s w s' (Instr.entryStore t m' k' x') := by
  unfold entryStoreA at h
  split at h
  · rename_i r kk born
    obtain ⟨o, s3, h5, h6⟩ := D.bind_ok h
    split at h6
    · rename_i es clock
      split at h6
      · rename_i i hi
        rw [modA_eq] at h6
        obtain ⟨ho, hs3⟩ := objB_ok h5
        obtain ⟨kb, es', rfl, hkk, hsh, hb, hall⟩ := map_at hp hm (hp.hF _ (obj_fp h5 h6)) ho
        cases hk
        rw [findIdx_eq] at hi
        have hi : es'.findIdx? (fun e => (e.born : Int) == born) = some i := by
          rw [show es'.findIdx? (fun e => (e.born : Int) == born) = es'.toList.findIdx? (fun e => (e.born : Int) == born) from (List.findIdx?_toArray _ es'.toList), ← hall.findIdx? (p := fun e => (e.born : Int) == born) (fun a b hab => by rw [hab.born])]
          simpa using hi
        obtain ⟨hrun, hst, hu⟩ := putMap (P := P) (es2 := es'.modify i fun e => { e with val := x' }) hp h5 h6 hkk hsh hb (by
          rw [Array.toList_modify]; exact hall.modify (f := fun e => { e with val := x }) (g := fun e => { e with val := x' }) (fun a b hab => ⟨hab.key, hx, hab.born⟩) i)
        refine ⟨_, ?_, hst, hu⟩
        unfold Instr.entryStore
        refine (run_bind_eq (run_getObj hb rfl)).trans ?_
        refine (run_bind_eq (a := born) (w' := w) rfl).trans ?_
        simp only [hi]
        exact hrun
      · cases h6
    · cases h6
  · cases h

theorem deleteA_sound {t ty : TypeId} {m k m' k' : Value} (h : D.run (deleteA P t m k) s = .ok (v, s')) (hp : Pre F ρ s s' w) (hm : VRel ρ m m') (hk : VRel ρ k k') :
    VS P F ρ s w v s' (Builtin.delete_ #[t] ty #[m', k']) := by
  unfold deleteA keyDesc at h
  obtain ⟨kd, s1, h1, h2⟩ := D.bind_ok h
  obtain ⟨d, s0, h1a, h1b⟩ := D.bind_ok h1
  obtain ⟨hd, rfl⟩ := descOf_ok h1a
  split at h1b
  · rename_i kt et
    obtain ⟨hkd, rfl⟩ := descOf_ok h1b
    unfold Builtin.delete_
    simp only [List.getElem?_toArray, List.getElem?_cons_zero, List.getElem?_cons_succ]
    split at h2
    · obtain ⟨hkey, h3⟩ := D.guard_ok h2
      obtain ⟨rfl, rfl⟩ := D.pure_ok h3
      cases hm
      refine .self (v' := .tuple #[]) hp ?_ (.any _)
      refine (run_bind_eq (run_underlying hd w)).trans ?_
      exact (run_bind_eq (checkKey_sound hkd hkey hk true 9998)).trans rfl
    · rename_i r
      obtain ⟨o, s3, h5, h6⟩ := D.bind_ok h2
      split at h6
      · rename_i es clock
        obtain ⟨hkey, h7⟩ := D.guard_ok h6
        obtain ⟨ho, hs3⟩ := objB_ok h5
        split at h7
        · rename_i i v0 hf
          rw [forceL_eq, eraseA_eq] at h7
          obtain ⟨_, s4, h10, h11⟩ := D.bind_ok h7
          obtain ⟨rfl, rfl⟩ := D.pure_ok h11
          obtain ⟨kb, es', rfl, hkk, hsh, hb, hall⟩ := map_at hp hm (hp.hF _ (obj_fp h5 h10)) ho
          obtain ⟨r', h8, h9⟩ := findKey_sound hkd hk hf hall
          cases h9 with
          | some _ _ v' hv e he hs _ =>
            obtain ⟨hrun, hst, hu⟩ := putMap (P := P) (es2 := es'.eraseIdxIfInBounds i) hp h5 h10 hkk hsh hb (by
              rw [Array.toList_eraseIdxIfInBounds]; exact hall.eraseIdx i)
            refine ⟨.tuple #[], ρ, _, ?_, .any _, hst, hu⟩
            refine (run_bind_eq (run_underlying hd w)).trans ?_
            refine (run_bind_eq (run_getObj hb rfl)).trans ?_
            refine (run_bind_eq (checkKey_sound hkd hkey hk _ 9998)).trans ?_
            refine (run_bind_eq (h8 w)).trans ?_
            exact (run_bind_eq hrun).trans rfl
        · rename_i hf
          obtain ⟨_, s4, h10, h11⟩ := D.bind_ok h7
          obtain ⟨rfl, rfl⟩ := D.pure_ok h11
          obtain ⟨kb, es', rfl, hkk, hsh, hb, hall⟩ := map_at hp hm (hp.hF _ (obj_fp h5 h10)) ho
          obtain ⟨r', h8, h9⟩ := findKey_sound hkd hk hf hall
          cases h9
          obtain ⟨hrun, hst, hu⟩ := putMap (P := P) (es1 := es.toList) (es2 := es') hp h5 (by simpa using h10) hkk hsh hb hall
          refine ⟨.tuple #[], ρ, _, ?_, .any _, hst, hu⟩
          refine (run_bind_eq (run_underlying hd w)).trans ?_
          refine (run_bind_eq (run_getObj hb rfl)).trans ?_
          refine (run_bind_eq (checkKey_sound hkd hkey hk _ 9998)).trans ?_
          refine (run_bind_eq (h8 w)).trans ?_
          exact (run_bind_eq hrun).trans rfl
        · cases h7
      · cases h6
    · cases h2
  · cases h1b

end
end Go.Proofs.YthogkihfbjbghaaGreatDoor.Abs
namespace Go.Proofs.YthogkihfbjbghaaGreatDoor.Abs

section
variable {P : Program} {F : Nat → Prop} {ρ : Rho} {s s' : St} {w : World} {v : Value}

theorem bytes_loop : ∀ {r r' : List Value} {l : List UInt8}, bytesOfCells r = some l → LRel ρ r r' → ∀ (acc : ByteArray),
    (forIn r' acc fun (c : Value) (s : ByteArray) => (match c with
      | .int .u8 n => pure (ForInStep.yield (s.push (UInt8.ofNat n.toNat)))
      | _ => stuck "bytesToString: byte expected" : Sem (ForInStep ByteArray))).run P w = .ok ⟨⟨acc.data.toList ++ l⟩⟩ w
  | [], r', l, h, hl, acc => by
    rw [hl.nil_inv]
    cases h
    simp
  | x :: r, r', l, h, hl, acc => by
    obtain ⟨x', r'', rfl, hx, hr⟩ := hl.cons_inv
    unfold bytesOfCells at h
    split at h
    · cases ‹x :: r = []›
    · rename_i n l0 heq
      cases heq
      split at h
      · rename_i l1 hl1
        cases h; cases hx
        rw [List.forIn_cons]
        refine (run_bind_eq (a := ForInStep.yield (acc.push (UInt8.ofNat n.toNat))) (w' := w) rfl).trans ?_
        refine (bytes_loop hl1 hr _).trans ?_
        simp
      · cases h
    · cases h

theorem run_mark {b o : Nat} {c : Array Value} {e : TypeId} {f : Nat × Nat} (hb : w.heap[b]? = some (.cells c e f)) (hf : f = (0, 0) ∨ f = (c.size, c.size + 1)) :
    ∃ w', (markStringish ⟨b, o, none⟩).run P w = .ok () w' ∧ w'.heap = w.heap.setIfInBounds b (.cells c e (c.size, c.size + 1)) ∧ w'.tape = w.tape ∧ w'.os = w.os ∧ w'.output = w.output := by
  have hlt := (Array.getElem?_eq_some_iff.1 hb).1
  have hv := (Array.getElem?_eq_some_iff.1 hb).2
  refine ⟨w.freeze { block := b, off := c.size } 1, ?_, ?_, rfl, rfl, rfl⟩
  · unfold markStringish
    refine (run_bind_eq (a := some (e, c.size)) (w' := w) ?_).trans rfl
    simp [shape, Sem.run, World.shape?, hb]
  · simp only [World.freeze, Nat.one_ne_zero, if_false]
    apply Array.ext_getElem?
    intro i
    rw [Array.getElem?_modify, Array.getElem?_setIfInBounds]
    split
    · rename_i hi
      subst hi
      rw [hb]
      simp only [Option.map_some]
      rcases hf with rfl | rfl
      · simp
      · simp
    · rfl

theorem convertA_sound {src dst : TypeId} {x x' : Value} (h : D.run (convertA P src dst x) s = .ok (v, s')) (hp : Pre F ρ s s' w) (hx : VRel ρ x x') : VS P F ρ s w v s' (Go.convert src dst x') := by
  unfold convertA at h
  obtain ⟨sd, s1, h1, h2⟩ := D.bind_ok h
  obtain ⟨hsd, rfl⟩ := descOf_ok h1
  obtain ⟨dd, s2, h3, h4⟩ := D.bind_ok h2
  obtain ⟨hdd, rfl⟩ := descOf_ok h3
  have step : ∀ (c : TypeDesc → TypeDesc → Sem Value), (do c (← underlying src) (← underlying dst)).run P w = (c sd dd).run P w := fun c =>
    (run_bind_eq (run_underlying hsd w)).trans (run_bind_eq (run_underlying hdd w))
  unfold Go.convert
  split at h4
  · rename_i k j n
    rw [wrapA_eq] at h4
    obtain ⟨rfl, rfl⟩ := D.pure_ok h4
    cases hx
    exact .self hp ((step _).trans rfl) (.int _ _)
  · rename_i j n
    unfold vstr at h4
    rw [forceL_eq] at h4
    obtain ⟨rfl, rfl⟩ := D.pure_ok h4
    cases hx
    refine .self hp ((step _).trans ?_) (.string _)
    cases sd <;> rfl
  · obtain ⟨rfl, rfl⟩ := D.pure_ok h4
    cases hx
    refine .self hp ((step _).trans ?_) (.string _)
    cases sd <;> rfl
  · rename_i e str
    obtain ⟨ed, s3, h5, h6⟩ := D.bind_ok h4
    obtain ⟨hed, rfl⟩ := descOf_ok h5
    split at h6
    · obtain ⟨hlen, h7⟩ := D.guard_ok h6
      obtain ⟨id, s4, h8, h9⟩ := D.bind_ok h7
      rw [fnat_eq] at h9
      obtain ⟨rfl, rfl⟩ := D.pure_ok h9
      cases hx
      obtain ⟨hid, hlt, hs'⟩ := newB_ok h8
      subst hid
      have hn : ρ s3.n = none := hp.hρ s3.n (Nat.le_refl _) (by rw [hs']; simp)
      obtain ⟨cap, hcc, hch⟩ := choose_cap (P := P) str.size 0 e w
      have hsz : (bs str).length = str.size := rfl
      let row : Array Value := str.data.map (fun b => .int .u8 b.toNat) ++ Array.replicate (cap - str.size) (.int .u8 0)
      have hrow : row.size = cap := by simp [row]; have : str.data.size = str.size := rfl; omega
      obtain ⟨w', hm1, hm2, hm3, hm4, hm5⟩ := run_mark (P := P) (w := { w with drawn := w.drawn + 1, heap := w.heap.push (.cells row e) }) (b := w.heap.size) (o := 0) (c := row) (e := e) (f := (0, 0)) (by simp) (.inl rfl)
      have hm2' : w'.heap = w.heap.push (.cells row e (row.size, row.size + 1)) := by
        rw [hm2]
        apply Array.ext_getElem?
        intro i
        rw [Array.getElem?_setIfInBounds, Array.getElem?_push, Array.getElem?_push]
        by_cases hi : w.heap.size = i
        · subst hi; simp
        · simp [hi, Ne.symm hi]
      refine ⟨.slice (some ⟨w.heap.size, 0, none⟩) str.size cap, _, w', (step _).trans ?_, ?_, PStep.made hp.wf hp.inv hlt hs' hn (k := ⟨w.heap.size, 0, 1, cap⟩) rfl hm2' ⟨row, e, (row.size, row.size + 1), by rw [hm2']; simp, rfl, .inr rfl, by simp [hrow], by simp only [List.length_map, hsz, hrow]; omega, ?_⟩ hm3 hm4 hm5, by rw [hs']⟩
      · have hgo : (do
            match ← underlying e with
            | .int .u8 => Conv.stringToBytes e str
            | .int .i32 => Conv.stringToRunes e str
            | _ => stuck "Convert: string to a slice of what?").run P w = .ok (.slice (some ⟨w.heap.size, 0, none⟩) str.size cap) w' := by
          refine (run_bind_eq (run_underlying hed w)).trans ?_
          simp only
          unfold Conv.stringToBytes
          refine (run_bind_eq hch).trans ?_
          refine (run_bind_eq (a := (⟨w.heap.size, 0, none⟩ : Addr)) (w' := { w with drawn := w.drawn + 1, heap := w.heap.push (.cells row e) }) rfl).trans ?_
          exact (run_bind_eq hm1).trans rfl
        cases sd <;> exact hgo
      · have := VRel.sliceU (ρ := ρ.upd s3.n ⟨w.heap.size, 0, 1, cap⟩) s3.n 0 str.size 0 _ (Rho.upd_self _ _ _) (by simp) (by simp; omega)
        simp only [Nat.add_zero, Nat.sub_zero] at this
        exact this
      · intro i x hi
        simp only [List.getElem?_map, Option.map_eq_some_iff] at hi
        obtain ⟨b, hb, rfl⟩ := hi
        refine ⟨_, ?_, .int _ _⟩
        simp only [Nat.zero_add, row]
        have hlt : i < str.data.size := by have := (List.getElem?_eq_some_iff.1 hb).1; simpa [bs] using this
        rw [Array.getElem?_append_left (by simpa using hlt), Array.getElem?_map, ← Array.getElem?_toList]
        simp only [bs] at hb
        rw [hb]; rfl
    · cases h6
  · rename_i e0 e b off len cap
    obtain ⟨ed, s3, h5, h6⟩ := D.bind_ok h4
    obtain ⟨hed, rfl⟩ := descOf_ok h5
    split at h6
    · obtain ⟨hg, h7⟩ := D.guard_ok h6
      simp only [Bool.and_eq_true] at hg
      have hsd' := Nat.eq_of_beq_eq_true hg.1
      have hpos : 0 < len := by simpa [Nat.blt_eq] using hg.2
      obtain ⟨⟨c, el, m, o⟩, s4, h8, h9⟩ := D.bind_ok h7
      obtain ⟨hc, hs4⟩ := cellsB_ok h8
      obtain ⟨_, s5, h10, h11⟩ := D.bind_ok h9
      obtain ⟨rfl, rfl⟩ := D.pure_ok h11
      obtain ⟨o0, ho0, hs5⟩ := putB_ok h10
      have hro : RO s3 s4 := by rw [hs4]; exact RO.foot _ _
      have hFb : F b := hp.hF b (by rw [hs5]; exact foot_bit _ _)
      obtain ⟨k, c', e', frz, hk, hb, hrel⟩ := hp.inv.cells hFb hc
      have hgo : ∀ cap', VRel ρ (.slice (some ⟨b, off, none⟩) len cap) (.slice (some ⟨k.b, k.sh + off, none⟩) len cap') → VS P F ρ s3 w (.slice (some ⟨b, off, none⟩) len cap) s5 (Go.convert src dst (.slice (some ⟨k.b, k.sh + off, none⟩) len cap')) := by
        intro cap' hv
        obtain ⟨w', hm1, hm2, hm3, hm4, hm5⟩ := run_mark (P := P) (o := k.sh + off) hb hrel.frz
        have hlt := (Array.getElem?_eq_some_iff.1 hb).1
        refine ⟨_, ρ, w', ?_, hv, PStep.trans (fun i a b => hp.hρ i a b) (hro.step hp.wf hp.inv) (PStep.put (hro.wf hp.wf) (by rw [hro.H]; exact hp.inv) hFb ho0 hs5 hk (by rw [hm2]; simp) (fun b' hb' => by rw [hm2, Array.getElem?_setIfInBounds_ne (Ne.symm hb')])
          ⟨c', e', (c'.size, c'.size + 1), by rw [hm2]; simp [hlt], hrel.elem, .inr rfl, hrel.size, hrel.fits, hrel.cells⟩ hm3 hm4 hm5), by rw [hs5, hs4]⟩
        unfold Go.convert
        refine (step _).trans ?_
        have : (src == dst) = true := by simp [hsd']
        simp only [this]
        refine (run_bind_eq (run_underlying hed w)).trans ?_
        exact (run_bind_eq hm1).trans rfl
      rcases hx.slice_inv with ⟨_, k1, hk1, rfl⟩ | ⟨hl0, _⟩ | ⟨k1, i0, hk1, hcu, ho, hl, rfl⟩ | ⟨k1, a, _, _, hl0, _⟩
      · rw [hk] at hk1; cases hk1; exact hgo _ hx
      · omega
      · rw [hk] at hk1; cases hk1; exact hgo _ hx
      · omega
    · cases h6
  · rename_i e a len cap
    obtain ⟨ed, s3, h5, h6⟩ := D.bind_ok h4
    obtain ⟨hed, rfl⟩ := descOf_ok h5
    split at h6
    · split at h6
      · obtain ⟨rfl, rfl⟩ := D.pure_ok h6
        cases hx
        exact .self hp ((step _).trans ((run_bind_eq (run_underlying hed w)).trans rfl)) (.string _)
      · rename_i b off
        obtain ⟨⟨c, el, m, o⟩, s4, h8, h9⟩ := D.bind_ok h6
        obtain ⟨hc, hs4⟩ := cellsB_ok h8
        simp only at hc h9
        split at h9
        · rename_i r hr
          split at h9
          · rename_i l hl
            unfold vstr at h9
            rw [forceL_eq] at h9
            obtain ⟨rfl, rfl⟩ := D.pure_ok h9
            have hro : RO s3 s4 := by rw [hs4]; exact RO.foot _ _
            have hFb : F b := hp.hF b (by rw [hs4]; exact foot_bit _ _)
            obtain ⟨k, c', e', frz, hk, hb, hrel⟩ := hp.inv.cells hFb hc
            obtain ⟨r', hn', hlr, hcell⟩ := hrel.window hr
            have key : ∀ a' cap', (loadCells a' len).run P w = .ok r'.toArray w → (Conv.bytesToString (.slice (some a') len cap')).run P w = .ok (.string ⟨⟨l⟩⟩) w := by
              intro a' cap' hload
              unfold Conv.bytesToString
              refine (run_bind_eq hload).trans ?_
              rw [← Array.forIn_toList]
              refine (run_bind_eq (a := ⟨⟨l⟩⟩) (w' := w) ?_).trans rfl
              have := bytes_loop (P := P) (w := w) hl hlr .empty
              refine Eq.trans ?_ (this.trans rfl)
              congr 1
            have fin : ∀ a' cap', (loadCells a' len).run P w = .ok r'.toArray w → VS P F ρ s3 w (.string ⟨⟨l⟩⟩) s4 (Go.convert src dst (.slice (some a') len cap')) := by
              intro a' cap' hload
              refine hro.vs hp ?_ (.string _)
              unfold Go.convert
              exact (step _).trans ((run_bind_eq (run_underlying hed w)).trans (key a' cap' hload))
            rcases hx.slice_inv with ⟨_, k1, hk1, rfl⟩ | ⟨hl0, _, _, a', rfl⟩ | ⟨k1, i0, hk1, hcu, ho, hl, rfl⟩ | ⟨k1, a', _, _, hl0, _, rfl⟩
            · rw [hk] at hk1; cases hk1; exact fin _ _ (run_loadCells_row hb hn' hcell)
            · subst hl0
              have : r' = [] := List.length_eq_zero_iff.1 hn'
              subst this
              exact fin _ _ rfl
            · rw [hk] at hk1; cases hk1; exact fin _ _ (run_loadCells_row hb hn' hcell)
            · subst hl0
              have : r' = [] := List.length_eq_zero_iff.1 hn'
              subst this
              exact fin _ _ rfl
          · cases h9
        · cases h9
      · cases h6
    · cases h6
  · cases h4

end
end Go.Proofs.YthogkihfbjbghaaGreatDoor.Abs
namespace Go.Proofs.YthogkihfbjbghaaGreatDoor.Abs

section
variable {P : Program} {F : Nat → Prop} {ρ : Rho} {s s' : St} {w : World} {v : Value}

theorem rangeA_sound {t : TypeId} {x x' : Value} (h : D.run (rangeA P t x) s = .ok (v, s')) (hp : Pre F ρ s s' w) (hx : VRel ρ x x') : VS P F ρ s w v s' (Instr.range t x') := by
  unfold rangeA at h
  obtain ⟨d, s1, h1, h2⟩ := D.bind_ok h
  obtain ⟨hd, rfl⟩ := descOf_ok h1
  unfold Instr.range
  have fin : ∀ {s2 : St} {id : Nat} {o o' : Obj}, D.run (newB (.obj o)) s2 = .ok (id, s') → RO s1 s2 → (∀ ρ', ρ.le ρ' → ObjRel ρ' o o') → v = .pointer (some ⟨id, 0, none⟩) →
      VS P F ρ s1 w v s' (do pure (.pointer (some ⟨← newObj o', 0, none⟩))) := by
    intro s2 id o o' hn hro ho hv
    obtain ⟨rfl, hu, hrun, hst⟩ := newObj_sound (P := P) hn (hp.ro hro) ho
    subst hv
    refine ⟨.pointer (some ⟨w.heap.size, 0, none⟩), _, _, (run_bind_eq hrun).trans rfl, ?_, PStep.trans (fun i a b => hp.hρ i a b) (hro.step hp.wf hp.inv) hst, hu.trans hro.u⟩
    exact VRel.ptr (ρ := ρ.upd s2.n ⟨w.heap.size, 0, 0, 0⟩) s2.n 0 ⟨w.heap.size, 0, 0, 0⟩ (Rho.upd_self _ _ _)
  have lift : ∀ {o' : Obj} {w1 : World} {c : TypeDesc → Sem Obj}, (c d).run P w = .ok o' w → VS P F ρ s1 w v s' (do pure (.pointer (some ⟨← newObj o', 0, none⟩))) →
      VS P F ρ s1 w v s' (do let it ← (do c (← underlying t)); pure (.pointer (some ⟨← newObj it, 0, none⟩))) := by
    intro o' w1 c hc ⟨v', ρ', w', a, b, c', e⟩
    refine ⟨v', ρ', w', ?_, b, c', e⟩
    refine (run_bind_eq (a := o') (w' := w) ?_).trans a
    exact (run_bind_eq (run_underlying hd w)).trans hc
  split at h2
  · obtain ⟨id, s2, h3, h4⟩ := D.bind_ok h2
    obtain ⟨rfl, rfl⟩ := D.pure_ok h4
    cases hx
    obtain ⟨v', ρ', w', a, b, c, e⟩ := fin h3 (.refl _) (fun _ _ => .stringIter _ _) rfl
    exact ⟨v', ρ', w', (run_bind_eq (run_underlying hd w)).trans a, b, c, e⟩
  · obtain ⟨id, s2, h3, h4⟩ := D.bind_ok h2
    obtain ⟨rfl, rfl⟩ := D.pure_ok h4
    cases hx
    obtain ⟨v', ρ', w', a, b, c, e⟩ := fin h3 (.refl _) (fun _ _ => .mapIter0 _ _ _) rfl
    exact ⟨v', ρ', w', (run_bind_eq (run_underlying hd w)).trans a, b, c, e⟩
  · rename_i m
    obtain ⟨o, s2, h3, h4⟩ := D.bind_ok h2
    obtain ⟨ho, hs2⟩ := objB_ok h3
    split at h4
    · rename_i es clock
      obtain ⟨id, s3, h5, h6⟩ := D.bind_ok h4
      obtain ⟨rfl, rfl⟩ := D.pure_ok h6
      have hro : RO s1 s2 := by rw [hs2]; exact RO.foot _ _
      have hFm : F m := hp.hF m (by rw [(newB_ok h5).2.2, hs2]; simp only [testBit_lor_bit]; simp)
      obtain ⟨k, es', rfl, hk, hsh, hb, hall⟩ := map_at hp hx hFm ho
      obtain ⟨v', ρ', w', a, b, c, e⟩ := fin h5 hro (o' := .mapIter (some k.b) clock #[] clock) (fun ρ' hle => .mapIter _ k (hle _ _ hk) _ _ _) rfl
      refine ⟨v', ρ', w', (run_bind_eq (run_underlying hd w)).trans ?_, b, c, e⟩
      refine (run_bind_eq (run_getObj hb rfl)).trans a
    · cases h4
  · cases h2

theorem nbeq (a b : Nat) : Nat.beq a b = (a == b) := by rw [Bool.eq_iff_iff]; simp
theorem nblt (a b : Nat) : Nat.blt a b = decide (a < b) := by rw [Bool.eq_iff_iff]; simp [Nat.blt_eq]
theorem nble (a b : Nat) : Nat.ble a b = decide (a ≤ b) := by rw [Bool.eq_iff_iff]; simp

theorem All2.filter {R : MapEntry → MapEntry → Prop} {p q : MapEntry → Bool} (hp : ∀ a b, R a b → p a = q b) {l l' : List MapEntry} (h : All2 R l l') : All2 R (l.filter p) (l'.filter q) := by
  induction h with
  | nil => exact .nil
  | cons h t ih =>
    rename_i a b l l'
    rw [List.filter_cons, List.filter_cons, hp _ _ h]
    cases q b
    · simpa using ih
    · simpa using All2.cons h ih

theorem All2.all {R : MapEntry → MapEntry → Prop} {p q : MapEntry → Bool} (hp : ∀ a b, R a b → p a = q b) {l l' : List MapEntry} (h : All2 R l l') : l.all p = l'.all q := by
  induction h with
  | nil => rfl
  | cons h t ih => rw [List.all_cons, List.all_cons, hp _ _ h, ih]

theorem All2.find {R : MapEntry → MapEntry → Prop} {p q : MapEntry → Bool} (hp : ∀ a b, R a b → p a = q b) {l l' : List MapEntry} (h : All2 R l l') {e : MapEntry} (he : l.find? p = some e) : ∃ e', l'.find? q = some e' ∧ R e e' := by
  induction h with
  | nil => cases he
  | cons h t ih =>
    rename_i a b l l'
    rw [List.find?_cons] at he ⊢
    rw [← hp _ _ h]
    cases hpa : p a
    · rw [hpa] at he; exact ih he
    · rw [hpa] at he; cases he; exact ⟨b, rfl, h⟩

theorem entryA_sound {x x' : Value} (h : D.run (entryA x) s = .ok (v, s')) (hp : Pre F ρ s s' w) (hx : VRel ρ x x') : VS P F ρ s w v s' (Instr.entry x') := by
  unfold entryA at h
  split at h
  · rename_i r
    obtain ⟨o, s1, h1, h2⟩ := D.bind_ok h
    obtain ⟨ho, hs1⟩ := objB_ok h1
    split at h2
    · rename_i m since seen stepped
      split at h2
      · rename_i stamp hst
        obtain ⟨o2, s2, h3, h4⟩ := D.bind_ok h2
        obtain ⟨ho2, hs2⟩ := objB_ok h3
        split at h4
        · rename_i es clock
          obtain ⟨hc, h5⟩ := D.guard_ok h4
          have hc := Nat.eq_of_beq_eq_true hc
          split at h5
          · rename_i e he
            obtain ⟨rfl, rfl⟩ := D.pure_ok h5
            have hro1 : RO s s1 := by rw [hs1]; exact RO.foot _ _
            have hro2 : RO s1 s2 := by rw [hs2]; exact RO.foot _ _
            have hFr : F r := hp.hF r (hro2.fp r (by rw [hs1]; exact foot_bit _ _))
            have hFm : F m := hp.hF m (by rw [hs2]; exact foot_bit _ _)
            rw [hro1.H] at ho2
            cases hx with
            | ptr _ _ k hk =>
              obtain ⟨k1, o', hk1, hsh, hb, hr⟩ := hp.inv.obj hFr ho
              rw [hk] at hk1; cases hk1
              cases hr with
              | mapIter _ km hkm =>
                obtain ⟨k2, o2', hk2, hsh2, hb2, hr2⟩ := hp.inv.obj hFm ho2
                rw [hkm] at hk2; cases hk2
                cases hr2 with
                | map _ es' _ hall =>
                  obtain ⟨e', he', hre⟩ := hall.find (q := fun e => e.born == stamp) (fun a b hab => by rw [hab.born, nbeq]) he
                  refine (hro1.trans hro2).vs hp (v' := .tuple #[e'.key, e'.val]) ?_ (VRel.tuple2 hre.key hre.val)
                  have hz : k.sh + 0 = 0 := by omega
                  rw [hz]
                  unfold Instr.entry
                  refine (run_bind_eq (run_getObj hb rfl)).trans ?_
                  have hback : seen.back? = some stamp := by rw [← Array.getLast?_toList]; exact hst
                  simp only [hback]
                  refine (run_bind_eq (run_getObj hb2 rfl)).trans ?_
                  subst hc
                  simp only [bne_self_eq_false, Bool.false_eq_true, if_false, ← Array.find?_toList, he']
                  rfl
          · cases h5
        · cases h4
      · cases h2
    · cases h2
  · cases h

theorem find_range {α : Type} [Inhabited α] (p : α → Bool) (l : List α) : (List.range l.length).find? (fun i => p (l.getD i default)) = l.findIdx? p := by
  cases h : l.findIdx? p with
  | none =>
    rw [List.find?_eq_none]
    rw [List.findIdx?_eq_none_iff] at h
    intro i hi
    have hi : i < l.length := by simpa using hi
    have := h l[i] (List.getElem_mem hi)
    simp [List.getD, hi, this]
  | some i =>
    rw [List.findIdx?_eq_some_iff_getElem] at h
    obtain ⟨hi, hpi, hlt⟩ := h
    rw [List.find?_range_eq_some]
    refine ⟨by simp [List.getD, hi, hpi], by simpa using hi, fun j hj => ?_⟩
    have hj' : j < l.length := by omega
    have := hlt j hj
    simp [List.getD, hj', this]

theorem nx_name : Extern.allNextRows.lookup "internal/bytealg.IndexByteString" = none := by rfl
theorem nx_empty : Extern.allNextRows.lookup "" = none := by rfl
theorem gr_name : Extern.allGenericRows.lookup "internal/bytealg.IndexByteString" = none := by rfl
theorem ty_name : Extern.allTypedRows.lookup "internal/bytealg.IndexByteString" = none := by rfl
theorem row_name : Extern.allRows.lookup "internal/bytealg.IndexByteString" = some Extern.BytealgIndexByte.indexByte := by rfl

theorem find_row {fn : Func} (hn : fn.name = "internal/bytealg.IndexByteString") (ho : fn.origin = "") : Extern.findNext fn = none ∧ Extern.find fn = some Extern.BytealgIndexByte.indexByte := by
  constructor
  · simp only [Extern.findNext, hn, ho, nx_name, nx_empty]; rfl
  · simp only [Extern.find, hn, gr_name, ty_name, row_name]; rfl

/-- what an operation comes to, and the model's -/
inductive ARel (ρ : Rho) : AR → Next → Prop where
  | value (v v' : Value) (h : VRel ρ v v') : ARel ρ (.value v) (.value v')
  | skip : ARel ρ (.value undef) .skip
  | enter (f : FuncId) (args : List Value) (args' : Array Value) (h : LRel ρ args args'.toList) : ARel ρ (.enter f args) (.enter f args')
  | round (l : Nat) (k : Blk) (hk : ρ l = some k) (f : FuncId) (tmps : List Value) (tmps' : Array Value) (assign body : Code) (h : LRel ρ tmps tmps'.toList) : ARel ρ (.round l f tmps assign body) (.round k.b f tmps' assign body)
  | dfr (d d' : Deferred) (h : DfRel ρ d d') : ARel ρ (.dfr d) (.defer d')
  | recover : ARel ρ .recover .recover

/-- an operation, abstractly and in the model -/
inductive OpS (P : Program) (F : Nat → Prop) (ρ : Rho) (s : St) (w : World) (s' : St) (sem : Sem Next) : AR → Prop where
  | ok (ar : AR) (nx : Next) (ρ' : Rho) (w' : World) (hr : sem.run P w = .ok nx w') (hv : ARel ρ' ar nx) (hst : PStep F ρ s w ρ' s' w') (hu : s'.u = s.u) : OpS P F ρ s w s' sem ar
  | panic (v v' : Value) (hr : sem.run P w = .halt (.panic v') w) (hv : VRel ρ v v') (hs : s' = s) : OpS P F ρ s w s' sem (.panic v)
  | oneOf (l : List (Value × AObj)) (it : Nat) (x : Value × AObj) (hx : x ∈ l) (v' : Value) (w' : World) (hr : sem.run P w = .ok (.value v') w') (hv : VRel ρ x.1 v')
      (hst : ∀ {s2 : St} {u : Unit}, D.run (putB it x.2) s' = .ok (u, s2) → (∀ (i : Nat), s2.fp.testBit i = true → F i) → PStep F ρ s w ρ s2 w' ∧ s2.u = s.u) : OpS P F ρ s w s' sem (.oneOf l it)

theorem VS.op {sem : Sem Value} (h : VS P F ρ s w v s' sem) : OpS P F ρ s w s' (do pure (.value (← sem))) (.value v) := by
  obtain ⟨v', ρ', w', a, b, c, e⟩ := h
  exact .ok _ _ ρ' w' ((run_bind_eq a).trans rfl) (.value _ _ b) c e

theorem US.op {sem : Sem Unit} (h : US P F ρ s w s' sem) : OpS P F ρ s w s' (do sem; pure .skip) (.value undef) := by
  obtain ⟨w', a, c, e⟩ := h
  exact .ok _ _ ρ w' ((run_bind_eq a).trans rfl) .skip c e

theorem OpS.self {sem : Sem Next} {ar : AR} {nx : Next} (hp : Pre F ρ s s w) (hr : sem.run P w = .ok nx w) (hv : ARel ρ ar nx) : OpS P F ρ s w s sem ar :=
  .ok _ _ ρ w hr hv (.refl hp.wf hp.inv) rfl

theorem callFn_sound {f : FuncId} {args : List Value} {args' : Array Value} {ar : AR} (h : D.run (callFn P f args) s = .ok (ar, s')) (hp : Pre F ρ s s' w) (hl : LRel ρ args args'.toList) : OpS P F ρ s w s' (callFunc f args') ar := by
  unfold callFn at h
  rw [funcK_eq] at h
  split at h
  · rename_i fn hf
    split at h
    · rename_i c hc
      obtain ⟨hn, h1⟩ := D.guardn_ok h
      obtain ⟨rfl, rfl⟩ := D.pure_ok h1
      refine .self hp (nx := .enter f args') ?_ (.enter _ _ _ hl)
      unfold callFunc
      refine (run_bind_eq (a := P) (w' := w) rfl).trans ?_
      simp only [hf, hn, hc]
      rfl
    · rename_i hc
      obtain ⟨hor, h1⟩ := D.guard_ok h
      have hor : fn.origin = "" := by simpa using hor
      unfold externA at h1
      split at h1
      · rename_i str c
        obtain ⟨hg, h2⟩ := D.guard_ok h1
        simp only [Bool.and_eq_true] at hg
        have hname : fn.name = "internal/bytealg.IndexByteString" := by simpa using hg.1
        have hlt : c.toNat < 256 := by simpa [Nat.blt_eq] using hg.2
        obtain ⟨hnx, hrow⟩ := find_row hname hor
        obtain ⟨a1, r1, e1, hv1, hr1⟩ := hl.cons_inv
        obtain ⟨a2, r2, e2, hv2, hr2⟩ := hr1.cons_inv
        have e3 := hr2.nil_inv
        subst e3; subst e2
        cases hv1; cases hv2
        have hargs : args' = #[.string str, .int .u8 c] := by apply Array.ext'; simpa using e1
        subst hargs
        have hne : (fn.name == "runtime.NumGoroutine") = false := by rw [hname]; rfl
        have hfind : (List.range str.size).find? (fun i => str[i]! == c.toNat.toUInt8) = (bs str).findIdx? (fun b => Nat.beq b.toNat c.toNat) := by
          rw [← find_range]
          have hsz : (bs str).length = str.size := rfl
          rw [hsz]
          congr 1
          funext i
          have h1 : str[i]! = (bs str).getD i default := by
            by_cases hi : i < str.size
            · rw [getElem!_pos str i hi]
              obtain ⟨⟨l⟩⟩ := str
              have hi' : i < l.length := hi
              simp [bs, List.getD, hi', ByteArray.getElem_eq_getElem_data]
            · have hi' : ¬ i < (bs str).length := hi
              rw [getElem!_neg str i hi]
              simp [List.getD, hi']
          rw [h1]
          generalize (bs str).getD i default = b
          rw [Bool.eq_iff_iff]
          simp only [beq_iff_eq, Nat.beq_eq]
          constructor
          · rintro rfl; simp; omega
          · intro h; apply UInt8.toNat_inj.1; rw [h]; simp; omega
        have hres : ∀ n : Int, (match (List.range str.size).find? (fun i => str[i]! == c.toNat.toUInt8) with | some i => (i : Int) | none => -1) = n →
            (callFunc f #[.string str, .int .u8 c]).run P w = .ok (.value (.int .i64 n)) w := by
          intro n hn
          unfold callFunc
          refine (run_bind_eq (a := P) (w' := w) rfl).trans ?_
          simp only [hf, hne, hc, Option.isNone_none, if_true]
          rw [if_neg (by simp)]
          refine (run_bind_eq (a := ()) (w' := w) rfl).trans ?_
          simp only [hnx, hrow]
          refine (run_bind_eq (a := .int .i64 n) (w' := w) ?_).trans rfl
          unfold Extern.BytealgIndexByte.indexByte
          refine (run_bind_eq (a := str) (w' := w) rfl).trans ?_
          refine (run_bind_eq (a := c.toNat.toUInt8) (w' := w) rfl).trans ?_
          revert hn
          cases (List.range str.size).find? (fun i => str[i]! == c.toNat.toUInt8) <;> (intro hn; subst hn; rfl)
        rw [findIdx_eq] at h2
        split at h2
        · rename_i i hi
          obtain ⟨rfl, rfl⟩ := D.pure_ok h2
          refine .self hp (hres i ?_) (.value _ _ (.int _ _))
          rw [hfind]
          simp only [Option.map_eq_some_iff] at hi
          obtain ⟨j, hj, rfl⟩ := hi
          rw [hj]; rfl
        · rename_i hi
          obtain ⟨rfl, rfl⟩ := D.pure_ok h2
          refine .self hp (hres (-1) ?_) (.value _ _ (.int _ _))
          rw [hfind]
          simp only [Option.map_eq_none_iff] at hi
          rw [hi]
      · cases h1
  · cases h

end
end Go.Proofs.YthogkihfbjbghaaGreatDoor.Abs
namespace Go.Proofs.YthogkihfbjbghaaGreatDoor.Abs

section
variable {P : Program} {F : Nat → Prop} {ρ : Rho} {s s' : St} {w : World} {v : Value}

theorem v_ok {m : D Value} {ar : AR} (h : D.run (D.bind m fun x => D.pure (.value x)) s = .ok (ar, s')) : ∃ v, D.run m s = .ok (v, s') ∧ ar = .value v := by
  obtain ⟨v, s1, h1, h2⟩ := D.bind_ok h
  obtain ⟨rfl, rfl⟩ := D.pure_ok h2
  exact ⟨v, h1, rfl⟩
theorem u_ok {m : D Unit} {ar : AR} (h : D.run (D.bind m fun _ => D.pure (.value undef)) s = .ok (ar, s')) : ∃ u, D.run m s = .ok (u, s') ∧ ar = .value undef := by
  obtain ⟨v, s1, h1, h2⟩ := D.bind_ok h
  obtain ⟨rfl, rfl⟩ := D.pure_ok h2
  exact ⟨v, h1, rfl⟩

theorem setArgs_rel {tmps tmps' : List Value} : ∀ {ps : List Tmp} {args args' : List Value}, LRel ρ tmps tmps' → LRel ρ args args' → LRel ρ (setArgs tmps (ps.zip args)) (setArgs tmps' (ps.zip args')) := by
  intro ps
  induction ps generalizing tmps tmps' with
  | nil => intro _ _ h _; exact h
  | cons p ps ih =>
    intro args args' h ha
    cases args with
    | nil => rw [ha.nil_inv]; exact h
    | cons a l =>
      obtain ⟨a', l', rfl, hv, hl⟩ := ha.cons_inv
      refine ih ?_ hl
      refine ⟨by simp [h.1], fun i x x' hx hx' => ?_⟩
      rw [List.getElem?_set] at hx hx'
      split at hx
      · rename_i hi
        rw [if_pos hi] at hx'
        split at hx
        · split at hx'
          · cases hx; cases hx'; exact hv
          · cases hx'
        · cases hx
      · rename_i hi
        rw [if_neg hi] at hx'
        exact h.2 i x x' hx hx'

theorem setArgs_eq : ∀ (l : List (Tmp × Value)) (tmps : Array Value), (l.foldl (fun (tmps : Array Value) (ta : Tmp × Value) => tmps.setIfInBounds ta.1 ta.2) tmps).toList = setArgs tmps.toList l
  | [], tmps => rfl
  | (i, v) :: l, tmps => by
    rw [List.foldl_cons, setArgs_eq l]
    simp [setArgs]

theorem invokeA_sound {t t' : Target} {args : List Value} {args' : Array Value} {ar : AR} (h : D.run (invokeA P t args) s = .ok (ar, s')) (hp : Pre F ρ s s' w) (ht : TgRel ρ t t') (hl : LRel ρ args args'.toList) : OpS P F ρ s w s' (invoke t' args') ar := by
  unfold invokeA at h
  split at h
  · rename_i f captured
    cases ht with
    | fn _ fn' _ c' hf hc =>
      cases hf
      exact callFn_sound h hp (by simpa using hl.append hc)
  · rename_i l captured
    obtain ⟨o, s1, h1, h2⟩ := D.bind_ok h
    obtain ⟨ho, hs1⟩ := objB_ok h1
    split at h2
    · rename_i r
      obtain ⟨hg, h3⟩ := D.guard_ok h2
      have hg := Nat.eq_of_beq_eq_true hg
      obtain ⟨rfl, rfl⟩ := D.pure_ok h3
      cases ht with
      | fn _ fn' _ c' hf hc =>
        cases hf with
        | yield _ k hk =>
          have hro : RO s s1 := by rw [hs1]; exact RO.foot _ _
          obtain ⟨k1, o', hk1, hsh, hb, hr⟩ := hp.inv.obj (hp.hF l (by rw [hs1]; exact foot_bit _ _)) ho
          rw [hk] at hk1; cases hk1
          cases hr with
          | loop _ r' hlr =>
            refine .ok _ (.round k.b r'.fn ((r'.params.zip args').foldl (fun tmps (t, a) => tmps.setIfInBounds t a) r'.tmps) r'.assign r'.body) ρ w ?_ ?_ (hro.step hp.wf hp.inv) hro.u
            · show (Instr.yield k.b args').run P w = _
              unfold Instr.yield
              refine (run_bind_eq (a := r') (w' := w) ?_).trans ?_
              · unfold Instr.getLoop
                exact (run_bind_eq (run_getObj hb rfl)).trans rfl
              · have : args'.size = r'.params.size := by rw [← Array.length_toList, ← hl.1, hg, hlr.params]
                rw [if_neg (by simp [this])]
                rfl
            · rw [hlr.fn, hlr.assign, hlr.body]
              refine .round l k hk _ _ _ _ _ ?_
              have : ((r'.params.zip args').foldl (fun tmps (t, a) => tmps.setIfInBounds t a) r'.tmps).toList = setArgs r'.tmps.toList (r'.params.toList.zip args'.toList) := by
                rw [← Array.foldl_toList]
                have := setArgs_eq (r'.params.toList.zip args'.toList) r'.tmps
                rw [← this, Array.toList_zip]
              rw [this, ← hlr.params]
              exact setArgs_rel hlr.tmps hl
    · cases h2
  · cases h

theorem map_rel {ev ev' : Operand → Value} (he : ∀ x, VRel ρ (ev x) (ev' x)) (l : List Operand) : LRel ρ (l.map ev) (l.map ev') := LRel.map l fun x _ => he x

theorem resolveA_sound {ev ev' : Operand → Value} {c : Call} {t : Target} {args : List Value} {ty : TypeId} (h : D.run (resolveA ev c) s = .ok ((t, args), s')) (he : ∀ x, VRel ρ (ev x) (ev' x)) :
    s' = s ∧ ∃ d', (∀ w, (resolve ev' c ty).run P w = .ok d' w) ∧ TgRel ρ t d'.target ∧ LRel ρ args d'.args.toList := by
  unfold resolveA at h
  split at h
  · cases h
  · cases h
  · rename_i f hc
    split at h
    · rename_i fn first captured hf
      obtain ⟨e, rfl⟩ := D.pure_ok h
      cases e
      have hv := he f
      rw [hf] at hv
      generalize hq : ev' f = q at hv
      cases hv with
      | func _ fn' _ a' _ c' hfn ha hc1 ha' hc' =>
        refine ⟨rfl, { target := .fn fn' c', args := a' ++ c.args.map ev' }, fun w => ?_, .fn _ _ _ _ hfn ⟨by simpa using hc1, fun i v v' h h' => hc' i v v' (by simpa using h) (by simpa using h')⟩, ?_⟩
        · unfold resolve
          simp only [hc, hq]
          rfl
        · have := (show LRel ρ first.toList a'.toList from ⟨by simpa using ha, fun i v v' h h' => ha' i v v' (by simpa using h) (by simpa using h')⟩).append (map_rel he c.args.toList)
          simpa using this
    · cases h

end
end Go.Proofs.YthogkihfbjbghaaGreatDoor.Abs
namespace Go.Proofs.YthogkihfbjbghaaGreatDoor.Abs

section
variable {P : Program} {F : Nat → Prop} {ρ : Rho} {s s' : St} {w : World} {v : Value}

theorem choose_map (n : Nat) (hn : 0 < n) (w : World) : ∃ i d, i < n ∧ (choose (.mapNext n)).run P w = .ok i { w with drawn := d } := by
  by_cases h : n ≤ 1
  · refine ⟨0, w.drawn, hn, ?_⟩
    simp [choose, Sem.run, Question.forced, h]
  · refine ⟨w.tape w.drawn (.mapNext n) % n, w.drawn + 1, Nat.mod_lt _ hn, ?_⟩
    simp [choose, Sem.run, Question.forced, Question.cut, h]

theorem All2.nil_inv {α β : Type} {R : α → β → Prop} {l : List β} (h : All2 R [] l) : l = [] := by cases h; rfl

theorem All2.getElem' {α β : Type} {R : α → β → Prop} {l : List α} {l' : List β} (h : All2 R l l') {i : Nat} (hi : i < l'.length) : ∃ a, a ∈ l ∧ R a l'[i] := by
  induction h generalizing i with
  | nil => simp at hi
  | cons h t ih =>
    cases i with
    | zero => exact ⟨_, by simp, h⟩
    | succ i =>
      obtain ⟨a, ha, hr⟩ := ih (i := i) (by simpa using hi)
      exact ⟨a, by simp [ha], hr⟩

theorem PStep.drawn {ρ' : Rho} {w' : World} {d : Nat} (h : PStep F ρ s { w with drawn := d } ρ' s' w') : PStep F ρ s w ρ' s' w' :=
  ⟨h.le, h.dom, h.n_le, h.wf, h.inv, h.size, h.keep, h.fresh, h.same, h.live, h.fp, h.wr, h.wrfp, h.new, h.tape, h.os, h.output⟩

theorem OpS.bindV {sem : Sem Value} {ar : AR} (h : OpS P F ρ s w s' (do pure (.value (← sem))) ar) : OpS P F ρ s w s' (do let x ← sem; pure (.value x)) ar := h

theorem any_nbeq (x : Nat) : ∀ l : List Nat, l.any (Nat.beq x) = l.contains x
  | [] => rfl
  | y :: l => by rw [List.any_cons, List.contains_cons, any_nbeq x l, nbeq]

theorem nextA_sound {x x' : Value} {isString : Bool} {ty : TypeId} {ar : AR} (h : D.run (nextA x isString) s = .ok (ar, s')) (hp : Pre F ρ s s' w) (hx : VRel ρ x x') : OpS P F ρ s w s' (do pure (.value (← Instr.next x' isString ty))) ar := by
  unfold nextA at h
  split at h
  · rename_i r
    obtain ⟨o, s1, h1, h2⟩ := D.bind_ok h
    obtain ⟨ho, hs1⟩ := objB_ok h1
    have hro1 : RO s s1 := by rw [hs1]; exact RO.foot _ _
    cases hx with
    | ptr _ _ k hk =>
    have start : F r → ∃ o', k.sh = 0 ∧ w.heap[k.b]? = some o' ∧ ObjRel ρ o o' := fun hF => by
      obtain ⟨k1, o', hk1, hsh, hb, hr⟩ := hp.inv.obj hF ho
      rw [hk] at hk1; cases hk1
      exact ⟨o', hsh, hb, hr⟩
    split at h2
    · rename_i str pos
      rcases D.cond_ok h2 with ⟨hlt, h3⟩ | ⟨hlt, h3⟩
      · -- a step
        simp only [fnat_eq] at h3
        obtain ⟨_, s2, h4, h5⟩ := D.bind_ok h3
        obtain ⟨rfl, rfl⟩ := D.pure_ok h5
        obtain ⟨o', hsh, hb, hr⟩ := start (hp.hF r (obj_fp h1 h4))
        cases hr
        have hlt : pos < (bs str).length := by simpa [Nat.blt_eq] using hlt
        have hlt : pos < str.size := hlt
        obtain ⟨hu, hst⟩ := putObj_sound h4 (hp.ro hro1) hk hsh hb (ObjRel.stringIter str (pos + (Utf8.decode str pos).2))
        refine VS.op ⟨.tuple #[.bool true, .int .i64 pos, .int .i32 (Utf8.decode str pos).1], ρ, _, ?_, ?_, PStep.trans (fun i a b => hp.hρ i a b) (hro1.step hp.wf hp.inv) hst, hu.trans hro1.u⟩
        · have hz : k.sh + 0 = 0 := by omega
          rw [hz]
          unfold Instr.next
          refine (run_bind_eq (run_getObj hb rfl)).trans ?_
          simp only [hlt, if_true]
          exact (run_bind_eq (run_setObj _ hb rfl)).trans rfl
        · refine .tuple _ _ rfl fun i y y' hy hy' => ?_
          match i with
          | 0 => simp at hy hy'; subst hy; subst hy'; exact .bool _
          | 1 => simp at hy hy'; subst hy; subst hy'; exact .int _ _
          | 2 => simp at hy hy'; subst hy; subst hy'; exact .int _ _
          | i + 3 => simp at hy
      · obtain ⟨rfl, rfl⟩ := D.pure_ok h3
        obtain ⟨o', hsh, hb, hr⟩ := start (hp.hF r (by rw [hs1]; exact foot_bit _ _))
        cases hr
        have hlt : ¬ pos < str.size := by
          intro hc
          have hc : pos < (bs str).length := hc
          have : Nat.blt pos (bs str).length = true := by simpa [Nat.blt_eq] using hc
          rw [this] at hlt; cases hlt
        refine VS.op (hro1.vs hp (v' := .tuple #[.bool false]) ?_ ?_)
        · have hz : k.sh + 0 = 0 := by omega
          rw [hz]
          unfold Instr.next
          refine (run_bind_eq (run_getObj hb rfl)).trans ?_
          simp only [hlt, if_false]
          rfl
        · refine .tuple _ _ rfl fun i y y' hy hy' => ?_
          match i with
          | 0 => simp at hy hy'; subst hy; subst hy'; exact .bool _
          | i + 1 => simp at hy
    · obtain ⟨rfl, rfl⟩ := D.pure_ok h2
      obtain ⟨o', hsh, hb, hr⟩ := start (hp.hF r (by rw [hs1]; exact foot_bit _ _))
      cases hr
      refine VS.op (hro1.vs hp (v' := .tuple #[.bool false]) ?_ ?_)
      · have hz : k.sh + 0 = 0 := by omega
        rw [hz]
        unfold Instr.next
        exact (run_bind_eq (run_getObj hb rfl)).trans rfl
      · refine .tuple _ _ rfl fun i y y' hy hy' => ?_
        match i with
        | 0 => simp at hy hy'; subst hy; subst hy'; exact .bool _
        | i + 1 => simp at hy
    · rename_i m since seen last
      obtain ⟨o2, s2, h3, h4⟩ := D.bind_ok h2
      obtain ⟨ho2, hs2⟩ := objB_ok h3
      have hro2 : RO s1 s2 := by rw [hs2]; exact RO.foot _ _
      have hro := hro1.trans hro2
      split at h4
      · rename_i es clock
        obtain ⟨hguard, h5⟩ := D.guardn_ok h4
        rw [hro1.H] at ho2
        have hFm2 : s2.fp.testBit m = true := by rw [hs2]; exact foot_bit _ _
        have hFr2 : s2.fp.testBit r = true := hro2.fp r (by rw [hs1]; exact foot_bit _ _)
        -- the model's side, up to the draw
        have model : F r → F m → ∃ km le, ρ m = some km ∧ k.sh = 0 ∧ w.heap[k.b]? = some (.mapIter (some km.b) since seen last) ∧ All2 (EntRel ρ) es.toList le ∧
            (∀ cand : List (Option MapEntry), ((if ((le.filter fun e => !seen.contains e.born).filter fun e => decide (e.born < since)).isEmpty then [none] else []) ++
                (((le.filter fun e => !seen.contains e.born).filter fun e => decide (e.born < since)) ++ ((le.filter fun e => !seen.contains e.born).filter fun e => decide (e.born ≥ since))).map some) = cand → 0 < cand.length →
              ∃ i d, i < cand.length ∧ (Instr.next (.pointer (some ⟨k.b, k.sh + 0, none⟩)) false ty).run P w = (match cand[i]? with
                | some (some e) => (do
                  setObj k.b (.mapIter (some km.b) since (seen.push e.born) clock)
                  pure (.tuple #[.bool true, e.key, e.val]) : Sem Value)
                | some none => pure (.tuple #[.bool false])
                | none => stuck "Next: no such candidate").run P { w with drawn := d }) := by
          intro hFr hFm
          obtain ⟨o', hsh, hb, hr⟩ := start hFr
          cases hr with
          | mapIter _ km hkm =>
            obtain ⟨k2, o2', hk2, hsh2, hb2, hr2⟩ := hp.inv.obj hFm ho2
            rw [hkm] at hk2; cases hk2
            cases hr2 with
            | map _ es' _ hall =>
              obtain ⟨le⟩ := es'
              refine ⟨km, le, hkm, hsh, hb, hall, fun cand hcand hlen => ?_⟩
              obtain ⟨i, d, hi, hch⟩ := choose_map (P := P) cand.length hlen w
              refine ⟨i, d, hi, ?_⟩
              have hz : k.sh + 0 = 0 := by omega
              rw [hz]
              unfold Instr.next
              refine (run_bind_eq (run_getObj hb rfl)).trans ?_
              refine (run_bind_eq (run_getObj hb2 rfl)).trans ?_
              have hg2 : (!seen.isEmpty && !(le.toArray : Array MapEntry).isEmpty && (le.toArray : Array MapEntry).all (fun e => decide (e.born ≥ last))) = false := by
                rw [← hguard]
                have e1 : seen.isEmpty = seen.toList.isEmpty := by cases seen; simp
                have e2 : (le.toArray : Array MapEntry).isEmpty = es.toList.isEmpty := by
                  simp only [List.isEmpty_toArray]
                  rw [Bool.eq_iff_iff, List.isEmpty_iff_length_eq_zero, List.isEmpty_iff_length_eq_zero, hall.length]
                have e3 : (le.toArray : Array MapEntry).all (fun e => decide (e.born ≥ last)) = es.toList.all (fun e => Nat.ble last e.born) := by
                  rw [List.all_toArray]
                  exact (hall.all (fun a b hab => by rw [hab.born, nble])).symm
                rw [e1, e2, e3]
              simp only [hg2, Bool.false_eq_true, if_false]
              have hcandA : ((if ((le.toArray.filter fun e => !seen.contains e.born).filter (·.born < since)).isEmpty then #[none] else #[]) ++
                  (((le.toArray.filter fun e => !seen.contains e.born).filter (·.born < since)) ++ ((le.toArray.filter fun e => !seen.contains e.born).filter (·.born ≥ since))).map some) = cand.toArray := by
                rw [← hcand]
                apply Array.ext'
                simp only [List.filter_toArray, Array.toList_append, Array.toList_map, List.isEmpty_toArray]
                congr 1
                split <;> rfl
              have hcandB : ((if (((⟨le⟩ : Array MapEntry).filter fun e => !seen.contains e.born).filter (·.born < since)).isEmpty then #[none] else #[]) ++
                  ((((⟨le⟩ : Array MapEntry).filter fun e => !seen.contains e.born).filter (·.born < since)) ++ (((⟨le⟩ : Array MapEntry).filter fun e => !seen.contains e.born).filter (·.born ≥ since))).map some) = cand.toArray := hcandA
              rw [hcandB]
              refine (run_bind_eq (a := i) (w' := { w with drawn := d }) (by rw [List.size_toArray]; exact hch)).trans ?_
              simp only [List.getElem?_toArray]
              cases cand[i]? with
              | none => rfl
              | some x => cases x <;> rfl
        have hseen : ∀ a b, EntRel ρ a b → (!seen.toList.any (Nat.beq a.born)) = (!seen.contains b.born) := fun a b hab => by
          rw [hab.born]
          have : seen.toList.any (Nat.beq b.born) = seen.contains b.born := by
            rw [← Array.contains_toList]
            exact any_nbeq _ _
          rw [this]
        have step : ∀ (e : MapEntry) (s3 : St) (u : Unit) (km : Blk) (e' : MapEntry) (d : Nat), ρ m = some km → k.sh = 0 → w.heap[k.b]? = some (.mapIter (some km.b) since seen last) → EntRel ρ e e' →
            D.run (putB r (.obj (.mapIter (some m) since (seen.toList ++ [e.born]).toArray clock))) s2 = .ok (u, s3) → (∀ (i : Nat), s3.fp.testBit i = true → F i) →
            ∃ w', (do
                  setObj k.b (.mapIter (some km.b) since (seen.push e'.born) clock)
                  pure (.tuple #[.bool true, e'.key, e'.val]) : Sem Value).run P { w with drawn := d } = .ok (.tuple #[.bool true, e'.key, e'.val]) w' ∧ PStep F ρ s w ρ s3 w' ∧ s3.u = s.u := by
          intro e s3 u km e' d hkm hsh hb hre hput hF3
          have hn3 : s3.n = s.n := by obtain ⟨_, _, h⟩ := putB_ok hput; rw [h]; exact hro.n
          have hp3 : Pre F ρ s2 s3 w := ⟨hF3, fun i a b => absurd b (by rw [hn3, ← hro.n]; omega), hro.wf hp.wf, by rw [hro.H]; exact hp.inv⟩
          have heq : (seen.toList ++ [e.born]).toArray = seen.push e'.born := by apply Array.ext'; simp [hre.born]
          rw [heq] at hput
          obtain ⟨hu, hst⟩ := putObj_sound hput hp3 hk hsh hb (ObjRel.mapIter m km hkm since (seen.push e'.born) clock)
          refine ⟨{ w with drawn := d, heap := w.heap.setIfInBounds k.b (.mapIter (some km.b) since (seen.push e'.born) clock) }, ?_, ?_, hu.trans hro.u⟩
          · exact (run_bind_eq (run_setObj (w := { w with drawn := d }) _ hb rfl)).trans rfl
          · have := PStep.trans (fun i a b => absurd b (by rw [hn3]; omega)) (hro.step hp.wf hp.inv) hst
            exact ⟨this.le, this.dom, this.n_le, this.wf, this.inv.heap rfl, this.size, this.keep, this.fresh, this.same, this.live, this.fp, this.wr, this.wrfp, this.new, this.tape, this.os, this.output⟩
        have triple : ∀ {e e' : MapEntry}, EntRel ρ e e' → VRel ρ (.tuple #[.bool true, e.key, e.val]) (.tuple #[.bool true, e'.key, e'.val]) := fun h => by
          refine .tuple _ _ rfl fun i y y' hy hy' => ?_
          match i with
          | 0 => simp at hy hy'; subst hy; subst hy'; exact .bool _
          | 1 => simp at hy hy'; subst hy; subst hy'; exact h.key
          | 2 => simp at hy hy'; subst hy; subst hy'; exact h.val
          | i + 3 => simp at hy
        have hnew' : ∀ a b, EntRel ρ a b → (!Nat.blt a.born since) = decide (b.born ≥ since) := fun a b hab => by
          rw [hab.born, nblt, Bool.eq_iff_iff]; simp
        have hold' : ∀ a b, EntRel ρ a b → Nat.blt a.born since = decide (b.born < since) := fun a b hab => by rw [hab.born, nblt]
        simp only at h5
        generalize hO : ((es.toList.filter fun e => !seen.toList.any (Nat.beq e.born)).filter fun e => Nat.blt e.born since) = old at h5
        generalize hN : ((es.toList.filter fun e => !seen.toList.any (Nat.beq e.born)).filter fun e => !Nat.blt e.born since) = new at h5
        split at h5
        · obtain ⟨rfl, rfl⟩ := D.pure_ok h5
          obtain ⟨km, le, hkm, hsh, hb, hall, hmod⟩ := model (hp.hF r hFr2) (hp.hF m hFm2)
          have hl := hall.filter hseen
          have h1' := (hl.filter hold'); rw [hO] at h1'
          have h2' := (hl.filter hnew'); rw [hN] at h2'
          obtain ⟨i, d, hi, hrun⟩ := hmod [none] (by rw [h1'.nil_inv, h2'.nil_inv]; rfl) (by simp)
          have hi0 : i = 0 := by simpa using hi
          subst hi0
          refine .ok _ (.value (.tuple #[.bool false])) ρ { w with drawn := d } ((run_bind_eq hrun).trans rfl) (.value _ _ ?_) ?_ hro.u
          · refine .tuple _ _ rfl fun i y y' hy hy' => ?_
            match i with
            | 0 => simp at hy hy'; subst hy; subst hy'; exact .bool _
            | i + 1 => simp at hy
          · have := hro.step hp.wf hp.inv
            exact ⟨this.le, this.dom, this.n_le, this.wf, this.inv.heap rfl, this.size, this.keep, this.fresh, this.same, this.live, this.fp, this.wr, this.wrfp, this.new, this.tape, this.os, this.output⟩
        · rename_i e
          obtain ⟨_, s3, h6, h7⟩ := D.bind_ok h5
          obtain ⟨rfl, rfl⟩ := D.pure_ok h7
          have hfp3 : ∀ i, s2.fp.testBit i = true → s3.fp.testBit i = true := by
            obtain ⟨_, _, h⟩ := putB_ok h6; intro i hi; rw [h]; simp only [testBit_lor_bit, hi, Bool.true_or]
          obtain ⟨km, le, hkm, hsh, hb, hall, hmod⟩ := model (hp.hF r (hfp3 _ hFr2)) (hp.hF m (hfp3 _ hFm2))
          have hl := hall.filter hseen
          have h1' := (hl.filter hold'); rw [hO] at h1'
          have h2' := (hl.filter hnew'); rw [hN] at h2'
          generalize hq : ((le.filter fun e => !seen.contains e.born).filter fun e => decide (e.born < since)) = q at h1' hmod
          cases h1' with
          | cons hre ht =>
            rename_i e' q'
            have := ht.nil_inv
            subst this
            obtain ⟨i, d, hi, hrun⟩ := hmod [some e'] (by rw [h2'.nil_inv]; rfl) (by simp)
            have hi0 : i = 0 := by simpa using hi
            subst hi0
            obtain ⟨w', hr1, hr2, hr3⟩ := step e s3 () km e' d hkm hsh hb hre h6 hp.hF
            exact .ok _ (.value _) ρ w' ((run_bind_eq (hrun.trans hr1)).trans rfl) (.value _ _ (triple hre)) hr2 hr3
        · rename_i old hn1 hn2
          obtain ⟨rfl, rfl⟩ := D.pure_ok h5
          obtain ⟨km, le, hkm, hsh, hb, hall, hmod⟩ := model (hp.hF r hFr2) (hp.hF m hFm2)
          have hl := hall.filter hseen
          have h1' := (hl.filter hold'); rw [hO] at h1'
          have h2' := (hl.filter hnew'); rw [hN] at h2'
          generalize hq : ((le.filter fun e => !seen.contains e.born).filter fun e => decide (e.born < since)) = q at h1' hmod
          have hne : q ≠ [] := fun e => by subst e; cases h1'; exact hn1 rfl
          have hpos : 0 < q.length := List.length_pos_iff.2 hne
          obtain ⟨i, d, hi, hrun⟩ := hmod (q.map some) (by rw [h2'.nil_inv]; simp [hne]) (by simpa using hpos)
          have hi : i < q.length := by simpa using hi
          obtain ⟨e, hmem, hre⟩ := h1'.getElem' hi
          have hget : (q.map some)[i]? = some (some q[i]) := by simp [hi]
          rw [hget] at hrun
          obtain ⟨o0, ho0⟩ : ∃ o0, s2.H.get r = some o0 := ⟨_, by rw [hro.H]; exact ho⟩
          refine .oneOf _ r _ (List.mem_map_of_mem hmem) (.tuple #[.bool true, q[i].key, q[i].val]) { w with drawn := d, heap := w.heap.setIfInBounds k.b (.mapIter (some km.b) since (seen.push q[i].born) clock) } ?_ (triple hre) ?_
          · refine (run_bind_eq (hrun.trans ?_)).trans rfl
            exact (run_bind_eq (run_setObj (w := { w with drawn := d }) _ hb rfl)).trans rfl
          · intro s3 u hput hF3
            obtain ⟨w', hr1, hr2, hr3⟩ := step e s3 u km q[i] d hkm hsh hb hre hput hF3
            have : (do
                  setObj k.b (.mapIter (some km.b) since (seen.push q[i].born) clock)
                  pure (.tuple #[.bool true, q[i].key, q[i].val]) : Sem Value).run P { w with drawn := d } = .ok (.tuple #[.bool true, q[i].key, q[i].val]) { w with drawn := d, heap := w.heap.setIfInBounds k.b (.mapIter (some km.b) since (seen.push q[i].born) clock) } :=
              (run_bind_eq (run_setObj (w := { w with drawn := d }) _ hb rfl)).trans rfl
            rw [this] at hr1
            cases hr1
            exact ⟨hr2, hr3⟩
        · cases h5
      · cases h4
    · cases h2
  · cases h

end
end Go.Proofs.YthogkihfbjbghaaGreatDoor.Abs
namespace Go.Proofs.YthogkihfbjbghaaGreatDoor.Abs

section
variable {P : Program} {F : Nat → Prop} {ρ : Rho} {s s' : St} {w : World} {v : Value}

theorem vOp {sem : Sem Value} {m : D Value} {ar : AR} (h : D.run (D.bind m fun x => D.pure (.value x)) s = .ok (ar, s')) (hs : ∀ v, D.run m s = .ok (v, s') → VS P F ρ s w v s' sem) :
    OpS P F ρ s w s' (do pure (.value (← sem))) ar := by
  obtain ⟨v, h1, rfl⟩ := v_ok h
  exact (hs v h1).op

theorem uOp {sem : Sem Unit} {m : D Unit} {ar : AR} (h : D.run (D.bind m fun _ => D.pure (.value undef)) s = .ok (ar, s')) (hs : ∀ u, D.run m s = .ok (u, s') → US P F ρ s w s' sem) :
    OpS P F ρ s w s' (do sem; pure .skip) ar := by
  obtain ⟨v, h1, rfl⟩ := u_ok h
  exact (hs v h1).op

/-- what a run is, another is -/
theorem OpS.congr {sem sem' : Sem Next} {ar : AR} (h : OpS P F ρ s w s' sem ar) (e : sem'.run P w = sem.run P w) : OpS P F ρ s w s' sem' ar := by
  cases h with
  | ok _ nx ρ' w' hr hv hst hu => exact .ok _ nx ρ' w' (e.trans hr) hv hst hu
  | panic v v' hr hv hs => exact .panic v v' (e.trans hr) hv hs
  | oneOf l it x hx v' w' hr hv hst => exact .oneOf l it x hx v' w' (e.trans hr) hv hst

theorem builtinA_sound {b : Builtin} {argTypes : Array TypeId} {ty : TypeId} {consts : Array Bool} {args : List Value} {args' : Array Value} {ar : AR}
    (h : D.run (builtinA P b argTypes args) s = .ok (ar, s')) (hp : Pre F ρ s s' w) (hl : LRel ρ args args'.toList) : OpS P F ρ s w s' (builtin b argTypes ty consts args') ar := by
  unfold builtinA at h
  have two : ∀ {x y : Value}, args = [x, y] → ∃ x' y', args' = #[x', y'] ∧ VRel ρ x x' ∧ VRel ρ y y' := by
    rintro x y rfl
    obtain ⟨x', r1, e1, hv1, hr1⟩ := hl.cons_inv
    obtain ⟨y', r2, e2, hv2, hr2⟩ := hr1.cons_inv
    have e3 := hr2.nil_inv
    subst e3; subst e2
    exact ⟨x', y', by apply Array.ext'; simpa using e1, hv1, hv2⟩
  have one : ∀ {x : Value}, args = [x] → ∃ x', args' = #[x'] ∧ VRel ρ x x' := by
    rintro x rfl
    obtain ⟨x', r1, e1, hv1, hr1⟩ := hl.cons_inv
    have e3 := hr1.nil_inv
    subst e3
    exact ⟨x', by apply Array.ext'; simpa using e1, hv1⟩
  simp only at h
  split at h
  · obtain ⟨x', y', rfl, hx, hy⟩ := two rfl
    exact vOp h fun v hv => appendA_sound hv hp.hF hp.hρ hp.wf hp.inv hx hy
  · obtain ⟨x', rfl, hx⟩ := one rfl
    split at h
    · rename_i t ht
      refine (vOp (sem := Builtin.len_ #[t] ty #[x']) h fun v hv => lenOfA_sound hv hp hx).congr ?_
      have : Builtin.len_ argTypes ty #[x'] = Builtin.len_ #[t] ty #[x'] := by unfold Builtin.len_; rw [ht]; rfl
      show Sem.run P (do pure (Next.value (← Builtin.len_ argTypes ty #[x']))) w = _
      rw [this]
    · cases h
  · obtain ⟨x', y', rfl, hx, hy⟩ := two rfl
    split at h
    · rename_i t ht
      refine (vOp (sem := Builtin.delete_ #[t] ty #[x', y']) h fun v hv => deleteA_sound hv hp hx hy).congr ?_
      have : Builtin.delete_ argTypes ty #[x', y'] = Builtin.delete_ #[t] ty #[x', y'] := by unfold Builtin.delete_; rw [ht]; rfl
      show Sem.run P (do pure (Next.value (← Builtin.delete_ argTypes ty #[x', y']))) w = _
      rw [this]
    · cases h
  · rename_i x rest
    obtain ⟨x', r', e, hx, hr⟩ := hl.cons_inv
    refine vOp (sem := Builtin.min_ argTypes ty args') h fun v hv => ?_
    obtain ⟨e1, v', hrun, hv'⟩ := minA_sound (P := P) (w := w) hv hx hr
    subst e1
    refine .self hp (v' := v') ?_ hv'
    unfold Builtin.min_
    rw [e]; exact hrun
  · rename_i x rest
    obtain ⟨x', r', e, hx, hr⟩ := hl.cons_inv
    refine vOp (sem := Builtin.max_ argTypes ty args') h fun v hv => ?_
    obtain ⟨e1, v', hrun, hv'⟩ := minA_sound (P := P) (w := w) hv hx hr
    subst e1
    refine .self hp (v' := v') ?_ hv'
    unfold Builtin.max_
    rw [e]; exact hrun
  · obtain ⟨x', rfl, hx⟩ := one rfl
    obtain ⟨rfl, rfl⟩ := D.pure_ok h
    cases hx with
    | iface _ _ y' hy => exact .panic _ _ rfl (.iface _ _ _ hy) rfl
  · obtain ⟨rfl, rfl⟩ := D.pure_ok h
    exact .self hp (nx := .recover) rfl .recover
  · cases h

theorem parts_rel {ev ev' : Operand → Value} (he : ∀ x, VRel ρ (ev x) (ev' x)) : ∀ l : List (Nat × Operand), PRel ρ (l.map fun (i, x) => (i, ev x)) (l.map fun (i, x) => (i, ev' x))
  | [] => .nil
  | (i, x) :: l => .cons i _ _ _ _ (he x) (parts_rel he l)

theorem parts_eq (ev' : Operand → Value) (a : Array (Nat × Operand)) : (a.map fun (i, x) => (i, ev' x)) = (a.toList.map fun (i, x) => (i, ev' x)).toArray := by
  apply Array.ext'; simp

theorem opt_rel {ev ev' : Operand → Value} (he : ∀ x, VRel ρ (ev x) (ev' x)) (o : Option Operand) : ORelV ρ (o.map ev) (o.map ev') := by
  cases o with
  | none => exact ⟨(fun x h => by cases h), fun _ => rfl⟩
  | some x => exact ⟨(fun y h => by cases h; exact ⟨_, rfl, he x⟩), (fun h => by cases h)⟩

theorem VS.of_pure {sem : Sem Value} (hp : Pre F ρ s s' w) (h : s' = s ∧ ∃ v', sem.run P w = .ok v' w ∧ VRel ρ v v') : VS P F ρ s w v s' sem := by
  obtain ⟨rfl, v', a, b⟩ := h
  exact .self hp a b

theorem opA_sound {ev ev' : Operand → Value} {o : Oper} {ar : AR} (h : D.run (opA P ev o) s = .ok (ar, s')) (hp : Pre F ρ s s' w) (he : ∀ x, VRel ρ (ev x) (ev' x)) :
    OpS P F ρ s w s' (execOp ev' o) ar := by
  rw [opA_eq] at h
  unfold opBox at h
  unfold execOp
  cases ho : o.op
  all_goals simp only [ho] at h ⊢
  all_goals try simp only [oPick, oAlloc, oBox, oBuild, oBuildSlice, oLoad, oStore, oNilCheck, oBinOp, oUnOp, oConvert, oMakeInterface, oMakeFunc, oMakeMap, oMakeSlice, oSlice, oFieldAddr, oField, oIndexAddr, oIndex, oLookup, oMapUpdate, oMapEntry, oEntryStore, oRange, oEntry, oTypeAssert, oExtract, oCall, oDefer, oPanic, vD, uD, undK_eq] at h
  case move x => obtain ⟨rfl, rfl⟩ := D.pure_ok h; exact .self hp rfl (.value _ _ (he x))
  case assign x => obtain ⟨rfl, rfl⟩ := D.pure_ok h; exact .self hp rfl (.value _ _ (he x))
  case pick c a b =>
    have hc := he c
    split at h
    · rename_i hb
      rw [hb] at hc
      obtain ⟨rfl, rfl⟩ := D.pure_ok h
      generalize hq : ev' c = q at hc
      cases hc
      exact .self hp (nx := .value (ev' a)) (by simp [asBool]) (.value _ _ (he a))
    · rename_i hb
      rw [hb] at hc
      obtain ⟨rfl, rfl⟩ := D.pure_ok h
      generalize hq : ev' c = q at hc
      cases hc
      exact .self hp (nx := .value (ev' b)) (by simp [asBool]) (.value _ _ (he b))
    · cases h
  case alloc t =>
    refine vOp h fun v hv => ?_
    obtain ⟨z, s1, h1, h2⟩ := D.bind_ok hv
    obtain ⟨hz, hzr, rfl, _⟩ := zeroOf_ok h1
    obtain ⟨a, ρ', w', hr, hv', hst, hu⟩ := newVarA_sound (P := P) h2 hp.hρ hp.wf hp.inv (hzr ρ)
    refine ⟨_, ρ', w', ?_, hv', hst, hu⟩
    unfold Instr.alloc
    refine (run_bind_eq (hz w)).trans ?_
    exact (run_bind_eq hr).trans rfl
  case box t x =>
    refine vOp h fun v hv => ?_
    obtain ⟨a, ρ', w', hr, hv', hst, hu⟩ := newVarA_sound (P := P) hv hp.hρ hp.wf hp.inv (he x)
    refine ⟨_, ρ', w', ?_, hv', hst, hu⟩
    unfold Instr.box
    exact (run_bind_eq hr).trans rfl
  case build t parts =>
    refine vOp h fun v hv => ?_
    rw [parts_eq]
    exact .of_pure hp (buildA_sound hv (parts_rel he _) w)
  case buildSlice t len parts =>
    refine vOp h fun v hv => ?_
    rw [parts_eq]
    exact buildSliceA_sound hv hp.hρ hp.wf hp.inv (parts_rel he _)
  case load t a =>
    refine vOp h fun v hv => ?_
    obtain ⟨⟨b, off⟩, s1, h1, h2⟩ := D.bind_ok hv
    obtain ⟨ha, rfl⟩ := addrOf_ok h1
    obtain ⟨hro, k, v', hk, hr, hv'⟩ := loadA_sound (P := P) h2 hp.hF hp.inv
    have hx := he a
    rw [ha] at hx
    generalize hq : ev' a = q at hx
    cases hx with
    | ptr _ _ k1 hk1 =>
      rw [hk] at hk1; cases hk1
      exact hro.vs hp ((run_bind_eq (a := (⟨k.b, k.sh + off, none⟩ : Addr)) (w' := w) rfl).trans hr) hv'
  case store t a x =>
    refine uOp h fun v hv => ?_
    obtain ⟨⟨b, off⟩, s1, h1, h2⟩ := D.bind_ok hv
    obtain ⟨ha, rfl⟩ := addrOf_ok h1
    have hx := he a
    rw [ha] at hx
    generalize hq : ev' a = q at hx
    cases hx with
    | ptr _ _ k1 hk1 =>
      obtain ⟨w', hr, hst, hu⟩ := storeA_sound (P := P) h2 hp.hF hp.wf hp.inv (he x) hk1
      exact ⟨w', (run_bind_eq (a := (⟨k1.b, k1.sh + off, none⟩ : Addr)) (w' := w) rfl).trans hr, hst, hu⟩
  case nilCheck x =>
    have hx := he x
    split at h
    all_goals first | (cases h; done) | skip
    all_goals
      rename_i hq
      rw [hq] at hx
      generalize hq' : ev' x = q at hx
      obtain ⟨rfl, rfl⟩ := D.pure_ok h
    · cases hx with
      | ptr id off k hk => exact .self hp rfl (.value _ _ (.ptr id off k hk))
    · cases hx with
      | func _ fn' _ a' _ c' hf ha hc ha' hc' => cases hf; exact .self hp rfl (.value _ _ (.func _ _ _ _ _ _ (.func _) ha hc ha' hc'))
    · cases hx with
      | func _ fn' _ a' _ c' hf ha hc ha' hc' => cases hf with | yield _ k hk => exact .self hp rfl (.value _ _ (.func _ _ _ _ _ _ (.yield _ k hk) ha hc ha' hc'))
    · cases hx with
      | iface _ _ y hy => exact .self hp rfl (.value _ _ (.iface _ _ _ hy))
    · cases hx with
      | mapNil => exact .self hp rfl (.value _ _ .mapNil)
      | map r k hk => exact .self hp rfl (.value _ _ (.map r k hk))
    · rename_i a l c
      refine .self hp (nx := .value q) ?_ (.value _ _ hx)
      cases hx <;> rfl
  case binOp op t x y g =>
    exact vOp h fun v hv => .of_pure hp (binA_sound hv (he x) (he y) w)
  case unOp op t x =>
    have hx := he x
    cases op with
    | not =>
      simp only at h
      split at h
      · rename_i hq
        rw [hq] at hx
        generalize hq' : ev' x = q at hx
        obtain ⟨rfl, rfl⟩ := D.pure_ok h
        cases hx
        exact .self hp rfl (.value _ _ (.bool _))
      · cases h
    | neg =>
      simp only at h
      split at h
      · rename_i k n hq
        rw [hq] at hx
        rw [wrapA_eq] at h
        generalize hq' : ev' x = q at hx
        obtain ⟨rfl, rfl⟩ := D.pure_ok h
        cases hx
        exact .self hp rfl (.value _ _ (.int _ _))
      · cases h
    | _ => cases h
  case convert sd dd x => exact vOp h fun v hv => convertA_sound hv hp (he x)
  case makeInterface t x =>
    split at h
    · cases h
    · cases h
    · rename_i d hd hu
      obtain ⟨rfl, rfl⟩ := D.pure_ok h
      refine VS.op (.self hp (v' := .iface t (ev' x)) ?_ (.iface _ _ _ (he x)))
      unfold Instr.makeInterface
      refine (run_bind_eq (run_underlying hu w)).trans ?_
      cases d <;> first | rfl | exact absurd rfl (hd _)
  case makeFunc fn first captured =>
    cases fn with
    | func f =>
      obtain ⟨rfl, rfl⟩ := D.pure_ok h
      refine .self hp (nx := .value (.func (.func f) (first.map ev') (captured.map ev'))) rfl (.value _ _ (.func _ _ _ _ _ _ (.func f) (by simp) (by simp) ?_ ?_))
      · intro i a b ha hb
        exact (map_rel he first.toList).2 i a b (by simpa using ha) (by simpa using hb)
      · intro i a b ha hb
        exact (map_rel he captured.toList).2 i a b (by simpa using ha) (by simpa using hb)
    | _ => cases h
  case makeMap t r =>
    have fin : ∀ v, D.run (D.bind (newB (.obj (.map #[] 0))) fun id => D.pure (.map (some id))) s = .ok (v, s') → VS P F ρ s w v s' (do pure (.map (some (← newObj (.map #[] 0))))) := by
      intro v hv
      obtain ⟨id, s1, h1, h2⟩ := D.bind_ok hv
      obtain ⟨rfl, rfl⟩ := D.pure_ok h2
      obtain ⟨rfl, hu, hrun, hst⟩ := newObj_sound (P := P) h1 hp (fun ρ' _ => .map #[] #[] 0 .nil)
      exact ⟨_, _, _, (run_bind_eq hrun).trans rfl, .map s.n _ (Rho.upd_self _ _ _), hst, hu⟩
    cases r with
    | none =>
      simp only at h
      exact vOp h fun v hv => fin v hv
    | some hint =>
      simp only at h
      split at h
      · rename_i kk nn kt et hh hu
        have hx := he hint
        rw [hh] at hx
        generalize hq' : ev' hint = q at hx
        refine vOp h fun v hv => ?_
        obtain ⟨v', ρ', w', a, b, c, d⟩ := fin v hv
        cases hx
        refine ⟨v', ρ', w', ?_, b, c, d⟩
        simp only [Option.map_some, hq']
        unfold Instr.makeMap
        refine (run_bind_eq (run_underlying hu w)).trans ?_
        exact (run_bind_eq (a := nn) (w' := w) rfl).trans a
      · cases h
  case makeSlice t l c => exact vOp h fun v hv => makeSliceA_sound hv hp.hρ hp.wf hp.inv (he l) (he c)
  case slice t x lo hi mx => exact vOp h fun v hv => .of_pure hp (sliceA_sound hv (he x) (opt_rel he lo) (opt_rel he hi) (opt_rel he mx) w)
  case fieldAddr st x f => exact vOp h fun v hv => fieldAddr_sound hv hp (he x)
  case field t x f =>
    split at h
    · rename_i cs hcs
      exact vOp h fun v hv => field_sound hcs hv hp (he x)
    · cases h
  case indexAddr t x ix => exact vOp h fun v hv => indexAddr_sound hv hp (he x) (he ix)
  case index t x ix => exact vOp h fun v hv => index_sound hv hp (he x) (he ix)
  case lookup t x ix ok => exact vOp h fun v hv => lookupA_sound hv hp (he x) (he ix)
  case mapUpdate t m k x => exact uOp h fun v hv => mapUpdateA_sound hv hp (he m) (he k) (he x)
  case insert t m k x => exact uOp h fun v hv => mapUpdateA_sound hv hp (he m) (he k) (he x)
  case mapEntry t m k => exact vOp h fun v hv => mapEntryA_sound hv hp (he m) (he k)
  case entryStore t m st x => exact uOp h fun v hv => entryStoreA_sound hv hp (he m) (he st) (he x)
  case range t x => exact vOp h fun v hv => rangeA_sound hv hp (he x)
  case next it isString => exact nextA_sound h hp (he it)
  case entry it => exact vOp h fun v hv => entryA_sound hv hp (he it)
  case typeAssert x xt asserted ok =>
    have hx := he x
    split at h
    · cases h
    · cases h
    · rename_i d t y hd hu hq
      rw [hq] at hx
      generalize hq' : ev' x = q at hx
      cases hx with
      | iface _ _ y' hy =>
        by_cases htt : t = asserted
        · rw [if_pos htt] at h
          obtain ⟨rfl, rfl⟩ := D.pure_ok h
          refine VS.op (.self hp (v' := if ok then .tuple #[y', .bool true] else y') ?_ ?_)
          · unfold Instr.typeAssert
            refine (run_bind_eq (run_underlying hu w)).trans ?_
            cases d <;> first | exact absurd rfl (hd _) | (simp only [htt, if_true]; rfl)
          · cases ok
            · exact hy
            · exact VRel.tuple2 hy (.bool _)
        · rw [if_neg htt] at h
          cases ok with
          | false => cases h
          | true =>
            simp only [if_true] at h
            refine vOp h fun v hv => ?_
            obtain ⟨z, s1, h1, h2⟩ := D.bind_ok hv
            obtain ⟨hz, hzr, rfl, _⟩ := zeroOf_ok h1
            obtain ⟨rfl, rfl⟩ := D.pure_ok h2
            refine .self hp (v' := .tuple #[z, .bool false]) ?_ (VRel.tuple2 (hzr ρ) (.bool _))
            unfold Instr.typeAssert
            refine (run_bind_eq (run_underlying hu w)).trans ?_
            have : (do pure (.tuple #[← zeroValue asserted, .bool false]) : Sem Value).run P w = .ok (.tuple #[z, .bool false]) w := (run_bind_eq (hz w)).trans rfl
            cases d <;> first | exact absurd rfl (hd _) | (simp only [htt, if_false, if_true]; exact this)
    · cases h
  case extract t i =>
    have hx := he t
    split at h
    · rename_i vs hq
      rw [hq] at hx
      generalize hq' : ev' t = q at hx
      split at h
      · rename_i x hxi
        obtain ⟨rfl, rfl⟩ := D.pure_ok h
        cases hx with
        | any => simp at hxi
        | tuple _ vs' hsz hall =>
          have hi : i < vs'.size := by
            have := (List.getElem?_eq_some_iff.1 hxi).1
            rw [← hsz]; simpa using this
          refine VS.op (.self hp (v' := vs'[i]) ?_ (hall i _ _ (by simpa using hxi) (by simp [hi])))
          simp [Instr.extract, hi]
      · cases h
    · cases h
  case call c =>
    split at h
    · rename_i b hc
      refine (builtinA_sound (ty := o.type) (consts := c.args.map fun | .const _ => true | _ => false) h hp (args' := c.args.map ev') (by simpa using map_rel he c.args.toList)).congr ?_
      unfold resolve
      simp only [hc]
      rfl
    · rename_i f hc
      obtain ⟨⟨t, args⟩, s1, h1, h2⟩ := D.bind_ok h
      obtain ⟨rfl, d', hres, ht, hl⟩ := resolveA_sound (P := P) (ty := o.type) h1 he
      refine (invokeA_sound h2 hp ht hl).congr ?_
      exact run_bind_eq (hres w)
    · cases h
  case defer c =>
    split at h
    · rename_i f hc
      obtain ⟨⟨t, args⟩, s1, h1, h2⟩ := D.bind_ok h
      obtain ⟨rfl, d', hres, ht, hl⟩ := resolveA_sound (P := P) (ty := o.type) h1 he
      obtain ⟨rfl, rfl⟩ := D.pure_ok h2
      refine .self hp ((run_bind_eq (hres w)).trans rfl) (.dfr _ _ ⟨ht, by simpa using hl⟩)
    · cases h
  case panic x =>
    have hx := he x
    split at h
    · rename_i t y hq
      rw [hq] at hx
      generalize hq' : ev' x = q at hx
      obtain ⟨rfl, rfl⟩ := D.pure_ok h
      cases hx with
      | iface _ _ y' hy => exact .panic _ _ rfl (.iface _ _ _ hy) rfl
    · cases h
  all_goals (cases h; done)

end
end Go.Proofs.YthogkihfbjbghaaGreatDoor.Abs
