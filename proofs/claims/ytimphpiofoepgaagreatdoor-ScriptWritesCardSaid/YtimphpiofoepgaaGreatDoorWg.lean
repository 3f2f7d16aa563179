/- the walks. -/
import Derived.Test.YtimphpiofoepgaaGreatDoorWf
import Derived.Laws.RangeString
namespace Go.Proofs.YtimphpiofoepgaaGreatDoor
open Go Go.RowKit

theorem grown_set {w : World} {r : Nat} {o : Obj} : w.grownBy { w with heap := w.heap.setIfInBounds r o } (some r) :=
  ⟨rfl, rfl, rfl, by simp, fun k _ hne => by
    have : r ≠ k := fun e => hne (by rw [e])
    simp [this]⟩

theorem run_next_at {P : Program} (w : World) (r : Nat) (s : ByteArray) (pos : Nat) (ty : TypeId) (hr : w.heap[r]? = some (.stringIter s pos)) (h : pos < s.size) (ha : (s[pos]'h).toNat < 128) :
    ∃ w', (Instr.next (.pointer (some ⟨r, 0, none⟩)) true ty).run P w = .ok (.tuple #[.bool true, .int .i64 pos, .int .i32 (s[pos]'h).toNat]) w' ∧ w'.heap[r]? = some (.stringIter s (pos + 1)) ∧ w.grownBy w' (some r) ∧ w'.heap.size = w.heap.size := by
  have hlt := (Array.getElem?_eq_some_iff.1 hr).1
  refine ⟨{ w with heap := w.heap.setIfInBounds r (.stringIter s (pos + 1)) }, ?_, by simp [hlt], grown_set, by simp⟩
  simp only [Instr.next, getObj, setObj, Sem.run_bind, Sem.run, hr, Result.andThen, h, if_true, decode_ascii s pos h ha]
  simp [goInt]
theorem run_next_stop {P : Program} (w : World) (r : Nat) (s : ByteArray) (pos : Nat) (ty : TypeId) (hr : w.heap[r]? = some (.stringIter s pos)) (h : ¬ pos < s.size) :
    (Instr.next (.pointer (some ⟨r, 0, none⟩)) true ty).run P w = .ok (.tuple #[.bool false]) w := by
  simp [Instr.next, getObj, Sem.run, hr, h]

theorem wpList_next {P : Program} {w : World} {ops : Array Oper} {rest : List Oper} {o : Oper} {a : Act} {Q : Exit → Act → World → Prop} (hg : o.guard = none) (x : Operand) (ho : o.op = .next x true) (r : Nat) (hx : a.eval x = .pointer (some ⟨r, 0, none⟩))
    (s : ByteArray) (pos : Nat) (n : Nat) (hr : w.heap[r]? = some (.stringIter s pos)) (hs : ∃ h : pos < s.size, (s[pos]'h).toNat = n) (hn : n < 128)
    (h : ∀ w', w'.heap[r]? = some (.stringIter s (pos + 1)) → w.grownBy w' (some r) → w'.heap.size = w.heap.size → wpList P ops Q rest (a.put o.dst (.tuple #[.bool true, .int .i64 pos, .int .i32 n])) w') : wpList P ops Q (o :: rest) a w := by
  obtain ⟨hp, rfl⟩ := hs
  obtain ⟨w', hrun, h1, h2, h3⟩ := run_next_at (P := P) w r s pos o.type hr hp hn
  refine wpList_plain hg fun K hK => ?_
  unfold Oper.wp
  simp [execOp, ho, hx, hrun, Result.andThen]
  exact hK _ _ (h w' h1 h2 h3)
theorem wpList_stop {P : Program} {w : World} {ops : Array Oper} {rest : List Oper} {o : Oper} {a : Act} {Q : Exit → Act → World → Prop} (hg : o.guard = none) (x : Operand) (ho : o.op = .next x true) (r : Nat) (hx : a.eval x = .pointer (some ⟨r, 0, none⟩))
    (s : ByteArray) (pos : Nat) (hr : w.heap[r]? = some (.stringIter s pos)) (hs : ¬ pos < s.size)
    (h : wpList P ops Q rest (a.put o.dst (.tuple #[.bool false])) w) : wpList P ops Q (o :: rest) a w := by
  refine wpList_plain hg fun K hK => ?_
  unfold Oper.wp
  simp [execOp, ho, hx, run_next_stop (P := P) w r s pos o.type hr hs, Result.andThen]
  exact hK _ _ h

/-! ### a round of 'Parse' -/
/-- what stands in memory in a round: v: the steps so far; the step in the making lies in block b5; the iterator in block r -/
structure PR (w wq : World) (v : Value) (ys : List Stp) (b5 r : Nat) (x : Stp) (p : ByteArray) (pos : Nat) : Prop where
  bl : Below w.heap.size w wq
  own : wq.ownsRow w.heap.size 26 4 v ys.length (ys.flatMap Stp.cells)
  txt : ∀ y ∈ ys, wq.ownsRow w.heap.size 5 1 (.slice y.ta y.tx.length y.tc) y.tx.length (bv y.tx)
  blk : Blk wq b5 26 #[.int .u8 x.l, .string x.nm, .string x.to, .slice x.ta x.tx.length x.tc]
  tx5 : wq.ownsRow w.heap.size 5 1 (.slice x.ta x.tx.length x.tc) x.tx.length (bv x.tx)
  it : wq.heap[r]? = some (.stringIter p pos)
  ge5 : w.heap.size ≤ b5
  ger : w.heap.size ≤ r
  n5 : v.ownBlock ≠ some b5

theorem own_ne_obj {w : World} {base : Nat} {e : TypeId} {size n : Nat} {v : Value} {xs : List Value} {r : Nat} {o : Obj} (h : w.ownsRow base e size v n xs) (hr : w.heap[r]? = some o) (hne : ∀ c, o ≠ .cells c e (0, 0)) : v.ownBlock ≠ some r := by
  rcases h.2 with ⟨rfl, _⟩ | ⟨g', cap, cur, rfl, _, hh, _⟩
  · simp [Value.ownBlock]
  · intro he
    have : g' = r := by simpa [Value.ownBlock] using he
    subst this
    rw [hr] at hh
    cases hh
    exact hne _ rfl

section
variable {w wq wq' : World} {v : Value} {ys : List Stp} {b5 r : Nat} {x : Stp} {p : ByteArray} {pos : Nat}
theorem PR.drewN (h : PR w wq v ys b5 r x p pos) (n : Nat) : PR w (wq.drewN n) v ys b5 r x p pos :=
  ⟨⟨h.bl.os, h.bl.tape, h.bl.output, h.bl.size, h.bl.block⟩, h.own, h.txt, h.blk.drewN n, h.tx5, h.it, h.ge5, h.ger, h.n5⟩
/-- what writes to one block alone that is none of ours -/
theorem PR.step (h : PR w wq v ys b5 r x p pos) {row : Option Nat} (hg : wq.grownBy wq' row) (h1 : v.ownBlock = none ∨ v.ownBlock ≠ row) (h2 : ∀ y ∈ ys, (Value.slice y.ta y.tx.length y.tc).ownBlock = none ∨ (Value.slice y.ta y.tx.length y.tc).ownBlock ≠ row)
    (h3 : some b5 ≠ row) (h4 : (Value.slice x.ta x.tx.length x.tc).ownBlock = none ∨ (Value.slice x.ta x.tx.length x.tc).ownBlock ≠ row) (h5 : some r ≠ row) (h6 : ∀ g, row = some g → w.heap.size ≤ g) : PR w wq' v ys b5 r x p pos :=
  ⟨h.bl.grown hg h.bl.size h6, h.own.kept hg h1, fun y hy => (h.txt y hy).kept hg (h2 y hy), h.blk.grown hg h3, h.tx5.kept hg h4, (hg.block r (Array.getElem?_eq_some_iff.1 h.it).1 h5).trans h.it, h.ge5, h.ger, h.n5⟩
theorem PR.alloc (h : PR w wq v ys b5 r x p pos) (o : Obj) : PR w (wq.alloc o) v ys b5 r x p pos :=
  h.step (World.grownBy_alloc wq o none) (by cases v.ownBlock <;> simp) (fun y _ => by cases (Value.slice y.ta y.tx.length y.tc).ownBlock <;> simp) (by simp) (by cases (Value.slice x.ta x.tx.length x.tc).ownBlock <;> simp) (by simp) (by simp)
theorem PR.ne5r (h : PR w wq v ys b5 r x p pos) : b5 ≠ r := by
  rintro rfl
  have h1 := h.blk
  have h2 := h.it
  unfold Blk at h1
  rw [h2] at h1; cases h1
theorem PR.next (h : PR w wq v ys b5 r x p pos) (hg : wq.grownBy wq' (some r)) (hi : wq'.heap[r]? = some (.stringIter p (pos + 1))) : PR w wq' v ys b5 r x p (pos + 1) :=
  ⟨h.bl.grown hg h.bl.size (fun g e => by cases e; exact h.ger), h.own.kept hg (.inr (own_ne_obj h.own h.it (by simp))), fun y hy => (h.txt y hy).kept hg (.inr (own_ne_obj (h.txt y hy) h.it (by simp))),
    h.blk.grown hg (fun e => by cases e; exact h.ne5r rfl), h.tx5.kept hg (.inr (own_ne_obj h.tx5 h.it (by simp))), hi, h.ge5, h.ger, h.n5⟩
theorem grown_setCell (w : World) (g i : Nat) (u : Value) : w.grownBy (w.setCell ⟨g, i, none⟩ u) (some g) :=
  ⟨rfl, rfl, rfl, by simp [World.setCell], fun k _ hne => Below.heap_setCell w _ u k (fun e => hne (by rw [e]))⟩
theorem PR.setNm (h : PR w wq v ys b5 r x p pos) (s : ByteArray) : PR w (wq.setCell ⟨b5, 1, none⟩ (.string s)) v ys b5 r { x with nm := s } p pos :=
  have hg := grown_setCell wq b5 1 (.string s)
  have ht : ∀ {n : Nat} {vv : Value} {l : List Value}, wq.ownsRow w.heap.size 5 1 vv n l → vv.ownBlock ≠ some b5 := fun hh => own_blk_ne hh h.blk (by decide)
  ⟨h.bl.grown hg h.bl.size (fun g e => by cases e; exact h.ge5), h.own.kept hg (.inr h.n5), fun y hy => (h.txt y hy).kept hg (.inr (ht (h.txt y hy))), h.blk.set_ 1 (.string s),
    h.tx5.kept hg (.inr (ht h.tx5)), (hg.block r (Array.getElem?_eq_some_iff.1 h.it).1 (fun e => by cases e; exact h.ne5r rfl)).trans h.it, h.ge5, h.ger, h.n5⟩
theorem PR.setTo (h : PR w wq v ys b5 r x p pos) (s : ByteArray) : PR w (wq.setCell ⟨b5, 2, none⟩ (.string s)) v ys b5 r { x with to := s } p pos :=
  have hg := grown_setCell wq b5 2 (.string s)
  have ht : ∀ {n : Nat} {vv : Value} {l : List Value}, wq.ownsRow w.heap.size 5 1 vv n l → vv.ownBlock ≠ some b5 := fun hh => own_blk_ne hh h.blk (by decide)
  ⟨h.bl.grown hg h.bl.size (fun g e => by cases e; exact h.ge5), h.own.kept hg (.inr h.n5), fun y hy => (h.txt y hy).kept hg (.inr (ht (h.txt y hy))), h.blk.set_ 2 (.string s),
    h.tx5.kept hg (.inr (ht h.tx5)), (hg.block r (Array.getElem?_eq_some_iff.1 h.it).1 (fun e => by cases e; exact h.ne5r rfl)).trans h.it, h.ge5, h.ger, h.n5⟩
theorem PR.setTx (h : PR w wq v ys b5 r x p pos) (ta : Option Addr) (tc : Nat) (tx : List UInt8) (hx : wq.ownsRow w.heap.size 5 1 (.slice ta tx.length tc) tx.length (bv tx)) :
    PR w (wq.setCell ⟨b5, 3, none⟩ (.slice ta tx.length tc)) v ys b5 r { x with ta := ta, tx := tx, tc := tc } p pos :=
  have hg := grown_setCell wq b5 3 (.slice ta tx.length tc)
  have ht : ∀ {n : Nat} {vv : Value} {l : List Value}, wq.ownsRow w.heap.size 5 1 vv n l → vv.ownBlock ≠ some b5 := fun hh => own_blk_ne hh h.blk (by decide)
  ⟨h.bl.grown hg h.bl.size (fun g e => by cases e; exact h.ge5), h.own.kept hg (.inr h.n5), fun y hy => (h.txt y hy).kept hg (.inr (ht (h.txt y hy))), h.blk.set_ 3 (.slice ta tx.length tc),
    hx.kept hg (.inr (ht hx)), (hg.block r (Array.getElem?_eq_some_iff.1 h.it).1 (fun e => by cases e; exact h.ne5r rfl)).trans h.it, h.ge5, h.ger, h.n5⟩
end
end Go.Proofs.YtimphpiofoepgaaGreatDoor
namespace Go.Proofs.YtimphpiofoepgaaGreatDoor
open Go Go.RowKit

/-- the same step, but for where its text lies -/
def Stp.key (x : Stp) : Int × ByteArray × ByteArray × List UInt8 := (x.l, x.nm, x.to, x.tx)
theorem st_info : (Tryz.prog.info? 26).map (fun i => (i.zero, i.size, i.bytes)) = some (some (.agg #[.int .u8 0, .string ⟨#[]⟩, .string ⟨#[]⟩, .slice none 0 0]), 4, 64) := by kernel_rfl

theorem ix_NT : ix pNT 110 = 0 ∧ ix pNT 109 = -1 ∧ ix pNT 116 = 1 := by decide +kernel
theorem ix_N : ix pN 110 = 0 ∧ ix pN 109 = -1 ∧ ix pN 116 = -1 := by decide +kernel
theorem ix_NM : ix pNM 110 = 0 ∧ ix pNM 109 = 1 ∧ ix pNM 116 = -1 := by decide +kernel
theorem ix_0 : ix p0 110 = -1 ∧ ix p0 109 = -1 ∧ ix p0 116 = -1 := by decide +kernel
theorem encV_s {x : Stp} (h : x.l = 115) : encV x = .int .u8 115 :: (fld x.nm.data.toList ++ fld x.tx) := by
  have e : pS 115 = pNT := by simp [pS]
  simp [encV, h, e, ix_NT]
theorem encV_n {x : Stp} (h : x.l = 100 ∨ x.l = 113 ∨ x.l = 101) : encV x = .int .u8 x.l :: fld x.nm.data.toList := by
  have h1 : ¬ x.l = 115 := by omega
  have e : pS x.l = pN := by simp [pS, h, h1]
  simp [encV, e, ix_N]
theorem encV_r {x : Stp} (h : x.l = 114) : encV x = .int .u8 114 :: (fld x.nm.data.toList ++ fld x.to.data.toList) := by
  have e : pS 114 = pNM := by simp [pS]
  simp [encV, h, e, ix_NM]
theorem encV_e {x : Stp} (h : x.l = 97 ∨ x.l = 120) : encV x = [.int .u8 x.l] := by
  have h1 : ¬ x.l = 115 := by omega
  have h2 : ¬ (x.l = 100 ∨ x.l = 113 ∨ x.l = 101) := by omega
  have h3 : ¬ x.l = 114 := by omega
  have e : pS x.l = p0 := by simp [pS, h1, h2, h3]
  simp [encV, e, ix_0]

theorem take_m (g o c m : Nat) (d : List UInt8) (r : List Value) (w : World) (hm : m = d.length + 2 + r.length) (hd : d.length ≤ 100) (hr : r.length ≤ 1000000) (hc : m ≤ c) (hb : RB w g o (fld d ++ r)) :
    Calls Tryz.prog 12 #[.slice (some ⟨g, o, none⟩) m c] w fun e w' => ∃ o1 c1 o2 c2, e = .returned (.tuple #[.slice (some ⟨g, o1, none⟩) d.length c1, .slice (some ⟨g, o2, none⟩) r.length c2, .bool true]) ∧ d.length ≤ c1 ∧ r.length ≤ c2 ∧ RB w g o1 (bv d) ∧ RB w g o2 r ∧
      ∃ n, w' = w.drewN n := by
  subst hm
  exact take_any g o c d r w hd hr hc hb
theorem RB.below {w w' : World} {B g o : Nat} {xs : List Value} (h : RB w g o xs) (hb : Below B w w') (hg : g < B) : RB w' g o xs := fun j u hu => (hb.cell (p := ⟨g, o + j, none⟩) hg).trans (h j u hu)
theorem RB.back {w w' : World} {B g o : Nat} {xs : List Value} (h : RB w' g o xs) (hb : Below B w w') (hg : g < B) : RB w g o xs := fun j u hu => ((hb.cell (p := ⟨g, o + j, none⟩) hg).symm).trans (h j u hu)
theorem RB.tail {w : World} {g o : Nat} {x : Value} {xs : List Value} (h : RB w g o (x :: xs)) : RB w g (o + 1) xs := fun j u hu => by
  have := h (j + 1) u hu
  rwa [show o + (j + 1) = o + 1 + j by omega] at this
theorem RB.drop {w : World} {g o : Nat} {ys xs : List Value} (h : RB w g o (ys ++ xs)) : RB w g (o + ys.length) xs := fun j u hu => by
  have := h (ys.length + j) u (by rw [List.getElem?_append_right (by omega)]; simpa using hu)
  rwa [← Nat.add_assoc] at this
theorem conv_back (w : World) (g o c : Nat) (d : List UInt8) (h : RB w g o (bv d)) : (convert 24 9 (.slice (some ⟨g, o, none⟩) d.length c)).run Tryz.prog w = .ok (.string ⟨d.toArray⟩) w :=
  run_convert_bytes_back w 24 9 5 ⟨g, o, none⟩ c d Tryz.underlying24 Tryz.underlying5 Tryz.underlying9 fun j hj => by
    have := h j (.int .u8 (d[j].toNat : Int)) (by simp [bv, hj])
    have hadd : (⟨g, o, none⟩ : Addr).add j = ⟨g, o + j, none⟩ := by unfold Addr.add; split <;> simp_all
    rw [hadd]; exact this
theorem conv_back' (w : World) (g o c : Nat) (s : ByteArray) (h : RB w g o (bv s.data.toList)) : (convert 24 9 (.slice (some ⟨g, o, none⟩) s.data.toList.length c)).run Tryz.prog w = .ok (.string s) w := conv_back w g o c s.data.toList h
theorem own_empty (w : World) (base e g : Nat) (hb : base ≤ w.heap.size) (hg : g = w.heap.size) : (w.alloc (.cells #[] e)).ownsRow base e 1 (.slice (some ⟨g, 0, none⟩) 0 0) 0 [] := by
  subst hg
  exact ⟨rfl, .inr ⟨_, 0, #[], rfl, hb, heap_alloc_new w _, Nat.le_refl _, Nat.zero_le _, rfl, rfl⟩⟩
theorem own_slice {w : World} {base e size n : Nat} {v : Value} {xs : List Value} (h : w.ownsRow base e size v n xs) : ∃ ta tc, v = .slice ta n tc := by
  rcases h.2 with ⟨rfl, rfl⟩ | ⟨g', cap, cur, rfl, _⟩
  · exact ⟨_, _, rfl⟩
  · exact ⟨_, _, rfl⟩
theorem RB.reads {w : World} {g o B : Nat} {xs : List Value} (h : RB w g o xs) (hg : g < B) (n : Nat) (hn : xs.length = n) : Reads w B 1 (some ⟨g, o, none⟩) n xs :=
  ⟨by omega, fun _ => ⟨_, rfl, hg, fun j u hu => by
    have hadd : (⟨g, o, none⟩ : Addr).add j = ⟨g, o + j, none⟩ := by unfold Addr.add; split <;> simp_all
    rw [hadd]; exact h j u hu⟩⟩
theorem PR.stepNew {w wq w' : World} {v : Value} {ys : List Stp} {b5 r : Nat} {x : Stp} {p : ByteArray} {pos : Nat} {o : Obj} {g : Nat} (h : PR w wq v ys b5 r x p pos) (hg : (wq.alloc o).grownBy w' (some g)) (hge : g = wq.heap.size) : PR w w' v ys b5 r x p pos := by
  subst hge
  have hlt : ∀ {e n size : Nat} {vv : Value} {l : List Value}, wq.ownsRow w.heap.size e size vv n l → vv.ownBlock ≠ some wq.heap.size := fun hh e => by
    have := (hh.lt _ e).2; omega
  refine (h.alloc o).step hg (.inr (hlt h.own)) (fun y hy => .inr (hlt (h.txt y hy))) (fun e => ?_) (.inr (hlt h.tx5)) (fun e => ?_) (fun g e => by cases e; exact h.bl.size)
  · cases e; have := h.blk.lt; omega
  · cases e; have := (Array.getElem?_eq_some_iff.1 h.it).1; omega

theorem PR.stepNewD {w wq w' : World} {v : Value} {ys : List Stp} {b5 r : Nat} {x : Stp} {p : ByteArray} {pos : Nat} {o : Obj} {g n : Nat} (h : PR w wq v ys b5 r x p pos) (hg : ((wq.alloc o).drewN n).grownBy w' (some g)) (hge : g = wq.heap.size) : PR w w' v ys b5 r x p pos :=
  h.stepNew (o := o) ⟨hg.os, hg.tape, hg.output, hg.size, hg.block⟩ hge
theorem st_size : (Tryz.prog.info? 26).map (·.size) = some 4 := by kernel_rfl
theorem blk_cells {w : World} {g : Nat} {t : TypeId} {cs : List Value} (h : Blk w g t cs.toArray) : ∀ j v, cs[j]? = some v → w.cell? ((⟨g, 0, none⟩ : Addr).add j) = some v := fun j v hv => by
  have hadd : (⟨g, 0, none⟩ : Addr).add j = ⟨g, j, none⟩ := by unfold Addr.add; split <;> simp_all
  rw [hadd, h.cell j]
  simpa using hv
theorem reads_new4 (w : World) (a b c d : Value) (t : TypeId) : Reads (w.alloc (.cells #[a, b, c, d] t)) (w.heap.size + 1) 4 (some ⟨w.heap.size, 0, none⟩) 1 [a, b, c, d] :=
  ⟨rfl, fun _ => ⟨_, rfl, Nat.lt_succ_self _, blk_cells (cs := [a, b, c, d]) (Blk.new w t #[a, b, c, d])⟩⟩
theorem own_own_ne {w : World} {b b' e e' s s' n n' : Nat} {v v' : Value} {xs xs' : List Value} (h : w.ownsRow b e s v n xs) (h' : w.ownsRow b' e' s' v' n' xs') (hne : e ≠ e') : v'.ownBlock = none ∨ v'.ownBlock ≠ v.ownBlock := by
  rcases h'.2 with ⟨rfl, _⟩ | ⟨g, cap, cur, rfl, _, hh, _⟩
  · exact .inl rfl
  · refine .inr fun e1 => ?_
    rcases h.2 with ⟨rfl, _⟩ | ⟨g', cap', cur', rfl, _, hh', _⟩
    · cases e1
    · have : g = g' := by simpa [Value.ownBlock] using e1
      subst this
      rw [hh] at hh'
      injection hh' with hh'
      injection hh' with _ ht
      exact hne ht.symm
theorem PR.finish {w wq w' : World} {v v' : Value} {ys : List Stp} {b5 r : Nat} {x : Stp} {p : ByteArray} {pos : Nat} {o : Obj} (h : PR w wq v ys b5 r x p pos) (hg : (wq.alloc o).grownBy w' v.ownBlock) (hown : w'.ownsRow w.heap.size 26 4 v' (ys.length + 1) (ys.flatMap Stp.cells ++ x.cells)) :
    Below w.heap.size w w' ∧ w'.ownsRow w.heap.size 26 4 v' (ys ++ [x]).length ((ys ++ [x]).flatMap Stp.cells) ∧ ∀ y ∈ ys ++ [x], w'.ownsRow w.heap.size 5 1 (.slice y.ta y.tx.length y.tc) y.tx.length (bv y.tx) := by
  have hz := h.bl.size
  refine ⟨(h.bl.alloc hz o).grown hg (by simp; omega) (fun g e => (h.own.lt g e).1), by simpa using hown, fun y hy => ?_⟩
  have key : ∀ y : Stp, wq.ownsRow w.heap.size 5 1 (.slice y.ta y.tx.length y.tc) y.tx.length (bv y.tx) → w'.ownsRow w.heap.size 5 1 (.slice y.ta y.tx.length y.tc) y.tx.length (bv y.tx) := fun y hy =>
    (hy.alloc o).kept hg (own_own_ne h.own hy (by decide))
  rcases List.mem_append.1 hy with hy | hy
  · exact key y (h.txt y hy)
  · obtain rfl := List.mem_singleton.1 hy
    exact key y h.tx5
theorem PR.start {w wo : World} {v : Value} {ys : List Stp} (l : Int) (p : ByteArray) (hbl : Below w.heap.size w wo) (hown : wo.ownsRow w.heap.size 26 4 v ys.length (ys.flatMap Stp.cells)) (htx : ∀ y ∈ ys, wo.ownsRow w.heap.size 5 1 (.slice y.ta y.tx.length y.tc) y.tx.length (bv y.tx)) :
    PR w ((wo.alloc (.cells #[.int .u8 l, .string ⟨#[]⟩, .string ⟨#[]⟩, .slice none 0 0] 26)).iter p 0) v ys wo.heap.size (wo.heap.size + 1) ⟨l, ⟨#[]⟩, ⟨#[]⟩, none, 0, []⟩ p 0 := by
  have hs : (wo.alloc (.cells #[.int .u8 l, .string ⟨#[]⟩, .string ⟨#[]⟩, .slice none 0 0] 26)).heap.size = wo.heap.size + 1 := by simp
  have hz := hbl.size
  refine ⟨(hbl.alloc hz _).alloc (by omega) _, (hown.alloc _).alloc _, fun y hy => ((htx y hy).alloc _).alloc _, (Blk.new _ _ _).alloc _, ⟨rfl, .inl ⟨rfl, rfl⟩⟩, ?_, hz, by omega, ?_⟩
  · rw [← hs]; exact World.iter_heap _ _ _
  · intro e; have := (hown.lt _ e).2; omega

theorem size_nil {s : ByteArray} (h : s.size = 0) : s = ⟨#[]⟩ := by
  obtain ⟨⟨l⟩⟩ := s
  have : l.length = 0 := h
  rw [List.eq_nil_of_length_eq_zero this]
theorem key_s {x : Stp} (h : okS x) (h1 : x.l = 115) : x.to = ⟨#[]⟩ := by
  have e : pS x.l = pNT := by simp [pS, h1]
  have h2 := h.2.2.1
  rw [e, ix_NT.2.1] at h2
  exact size_nil (h2.resolve_left (by decide))
theorem key_n {x : Stp} (h : okS x) (h1 : x.l = 100 ∨ x.l = 113 ∨ x.l = 101) : x.to = ⟨#[]⟩ ∧ x.tx = [] := by
  have h3 : ¬ x.l = 115 := by omega
  have e : pS x.l = pN := by simp [pS, h1, h3]
  have h2 := h.2.2.1
  have h4 := h.2.2.2
  rw [e, ix_N.2.1] at h2
  rw [e, ix_N.2.2] at h4
  exact ⟨size_nil (h2.resolve_left (by decide)), List.eq_nil_of_length_eq_zero (h4.resolve_left (by decide))⟩
theorem key_r {x : Stp} (h : okS x) (h1 : x.l = 114) : x.tx = [] := by
  have e : pS x.l = pNM := by simp [pS, h1]
  have h4 := h.2.2.2
  rw [e, ix_NM.2.2] at h4
  exact List.eq_nil_of_length_eq_zero (h4.resolve_left (by decide))
theorem key_e {x : Stp} (h : okS x) (h1 : x.l = 97 ∨ x.l = 120) : x.nm = ⟨#[]⟩ ∧ x.to = ⟨#[]⟩ ∧ x.tx = [] := by
  have h3 : ¬ x.l = 115 := by omega
  have h5 : ¬ (x.l = 100 ∨ x.l = 113 ∨ x.l = 101) := by omega
  have h6 : ¬ x.l = 114 := by omega
  have e : pS x.l = p0 := by simp [pS, h3, h5, h6]
  have h2 := h.2.2.1
  have h4 := h.2.2.2
  have h0 := h.2.1
  rw [e, ix_0.1] at h0
  rw [e, ix_0.2.1] at h2
  rw [e, ix_0.2.2] at h4
  exact ⟨size_nil (h0.resolve_left (by decide)), size_nil (h2.resolve_left (by decide)), List.eq_nil_of_length_eq_zero (h4.resolve_left (by decide))⟩
theorem keys_snoc {xs ys : List Stp} {k : Nat} {x y : Stp} (hk : k < xs.length) (hx : xs[k] = x) (h : ys.map Stp.key = (xs.take k).map Stp.key) (hy : y.key = x.key) : (ys ++ [y]).map Stp.key = (xs.take (k + 1)).map Stp.key := by
  rw [List.map_append, h, List.take_succ_eq_append_getElem hk, List.map_append, hx]
  simp [hy]

set_option maxRecDepth 100000 in
set_option maxHeartbeats 4000000 in
theorem parse_any (xs : List Stp) (g o c : Nat) (w : World) (hl : xs.length ≤ 256) (hg : g < w.heap.size) (hsz : ∀ x ∈ xs, x.nm.size ≤ 100 ∧ x.to.size ≤ 100 ∧ x.tx.length ≤ 100) (hok : ∀ x ∈ xs, okS x)
    (hc : (encL xs).length ≤ c) (hb : RB w g o (encL xs)) :
    Calls Tryz.prog 6 #[.slice (some ⟨g, o, none⟩) (encL xs).length c] w fun e w' => ∃ (v : Value) (ys : List Stp), e = .returned (.tuple #[v, .int .i64 0]) ∧ ys.map Stp.key = xs.map Stp.key ∧ Below w.heap.size w w' ∧ w'.ownsRow w.heap.size 26 4 v ys.length (ys.flatMap Stp.cells) ∧
      ∀ y ∈ ys, w'.ownsRow w.heap.size 5 1 (.slice y.ta y.tx.length y.tc) y.tx.length (bv y.tx) := by
  obtain ⟨i0, hi0, hz0, hz1, hz2⟩ := info_parts u8_info
  obtain ⟨i1, hi1, hz3, hz4, hz5⟩ := info_parts st_info
  go_enter Tryz.func6, Tryz.ntmps6
  go_wp2
  go_loopw [0, 4] (fun b v wr => ∃ (k o c : Nat) (ys : List Stp), k ≤ xs.length ∧ b = .slice (some ⟨g, o, none⟩) (encL (xs.drop k)).length c ∧ (encL (xs.drop k)).length ≤ c ∧ RB w g o (encL (xs.drop k)) ∧ ys.map Stp.key = (xs.take k).map Stp.key ∧
    Below w.heap.size w wr ∧ wr.ownsRow w.heap.size 26 4 v ys.length (ys.flatMap Stp.cells) ∧ (∀ y ∈ ys, wr.ownsRow w.heap.size 5 1 (.slice y.ta y.tx.length y.tc) y.tx.length (bv y.tx))) (fun b _ _ => match b with | .slice _ n _ => n | _ => 0)
  case atStart => exact ⟨0, o, c, [], by omega, rfl, hc, hb, rfl, Below.refl _ _, ⟨rfl, .inl ⟨rfl, rfl⟩⟩, fun y h => by cases h⟩
  case round =>
    obtain ⟨k, o, c, ys, hk, rfl, hc, hb, hys, hbl, hown, htx⟩ := hrel
    obtain ⟨wo, rfl⟩ : ∃ wo : World, wo = wr := ⟨_, rfl⟩
    by_cases hlt : k < xs.length
    · have hd : xs.drop k = xs[k] :: xs.drop (k + 1) := List.drop_eq_getElem_cons hlt
      generalize hxk : xs[k] = x at hd
      have hxm : x ∈ xs := hxk ▸ List.getElem_mem hlt
      obtain ⟨z1, z2, z3⟩ := hsz x hxm
      have hokx := hok x hxm
      have hR := encL_le (xs.drop (k + 1)) fun y hy => hsz y (List.mem_of_mem_drop hy)
      have hel : encL (xs.drop k) = encV x ++ encL (xs.drop (k + 1)) := by rw [hd]; rfl
      rw [List.length_drop] at hR
      have hgo : g < wo.heap.size := by have := hbl.size; omega
      rw [hel] at hc hb
      generalize hm : (encL (xs.drop k)).length = m
      rw [hel] at hm
      clear hel hd
      have hyl : ys.length ≤ 255 := by have := congrArg List.length hys; simp at this; omega
      obtain ⟨va, vc, rfl⟩ := own_slice hown
      have HX := Lib.hid hxk
      have HKEY := Lib.hid hys
      have HOK := Lib.hid hokx
      clear hokx
      clear hxk hys hxm hok hsz
      by_cases h115 : x.l = 115
      · rw [encV_s h115, List.cons_append, List.append_assoc] at hc hb hm
        obtain ⟨r1, hr1⟩ : ∃ r1, r1 = fld x.tx ++ encL (xs.drop (k + 1)) := ⟨_, rfl⟩
        obtain ⟨r2, hr2⟩ : ∃ r2, r2 = encL (xs.drop (k + 1)) := ⟨_, rfl⟩
        rw [← hr1] at hc hb hm
        rw [← hr2] at hr1 hR
        have hm1 : m = 1 + (x.nm.data.toList.length + 2 + r1.length) := by rw [← hm]; simp [fld_length]; omega
        have hm2 : r1.length = x.tx.length + 2 + r2.length := by rw [hr1]; simp [fld_length]
        have hcm : m ≤ c := by rw [← hm]; exact hc
        have hm3 : m ≤ 100000 := by have : x.nm.data.toList.length = x.nm.size := rfl; omega
        have hm4 : 5 ≤ m := by omega
        have hR2 : r2.length ≤ 100000 := by omega
        have c0 : wo.cell? ⟨g, o, none⟩ = some (.int .u8 115) := (hb.below hbl hg) 0 _ rfl
        have HB := Lib.hid hb.tail
        have HM := Lib.hid hm
        have HM1 := Lib.hid hm1
        have HM2 := Lib.hid hm2
        have HR1 := Lib.hid hr1
        have HR2 := Lib.hid hr2
        have ST := Lib.hid (PR.start 115 pNT hbl hown htx)
        clear hb hc hm hm1 hm2 hbl hown htx hr1 hr2
        go_wp2_with (first
          | (go_at_call 9; refine (parts_s _).mono ?_; rintro e w' ⟨rfl, rfl⟩)
          | fail)
        refine wp_loop_rounds 3 ?_
        rw [rounds_succ]
        go_wp2_with (first
          | (refine wpList_next rfl (.tmp 30) rfl (wo.heap.size + 1) rfl pNT 0 110 ST.out.it ⟨by decide, by decide⟩ (by decide) ?_
             intro w1 hi1 hg1 hz1
             have P1 := Lib.hid (ST.out.next hg1 hi1)
             have f1 : w1.cell? ⟨wo.heap.size, 1, none⟩ = some (.string ⟨#[]⟩) := P1.out.blk.cell 1
             have z1 : w1.frozen? ⟨wo.heap.size, 1, none⟩ = false := P1.out.blk.frozen 1
             have R1 := Lib.hid (HB.out.below P1.out.bl hg)
             clear hi1 hg1 hz1)
          | (go_at_call 12
             refine (take_m g (o + 1) (c - 1) (m - 1) x.nm.data.toList r1 _ (by rw [HM1.out]; omega) (by have : x.nm.data.toList.length = x.nm.size := rfl; omega) (by rw [HM2.out]; omega) (by omega) (HR1.out ▸ R1.out)).mono ?_
             rintro e w' ⟨o1, c1, o2, c2, rfl, hc1, hc2, hr1, hr2, n1, rfl⟩
             have S1 := Lib.hid hr1
             have S2 := Lib.hid (hr2.back P1.out.bl hg)
             clear hr1 hr2)
          | (refine wpList_convert _ rfl 24 9 (.tmp 45) rfl (.string x.nm) _ (conv_back' _ g o1 c1 x.nm S1.out) ?_)
          | fail)
        have P2 := (P1.out.drewN n1).setNm x.nm
        generalize hW2 : (w1.drewN n1).setCell ⟨wo.heap.size, 1, none⟩ (.string x.nm) = W2 at P2
        have P2i := P2.it
        have HP2 := Lib.hid P2
        clear P2 f1 z1 hW2 hc1
        rw [rounds_succ]
        go_wp2_with (first
          | (refine wpList_next rfl (.tmp 30) rfl (wo.heap.size + 1) rfl pNT 1 116 P2i ⟨by decide, by decide⟩ (by decide) ?_
             intro w2 hi1 hg1 hz1
             have P3 := Lib.hid (HP2.out.next hg1 hi1)
             have f3 : w2.cell? ⟨wo.heap.size, 3, none⟩ = some (.slice none 0 0) := P3.out.blk.cell 3
             have z3 : w2.frozen? ⟨wo.heap.size, 3, none⟩ = false := P3.out.blk.frozen 3
             clear hi1 hg1 hz1 P2i)
          | (go_at_call 12
             refine (take_m g o2 c2 _ x.tx r2 _ HM2.out (by omega) (by omega) (by omega) (HR1.out ▸ (S2.out.below P3.out.bl hg))).mono ?_
             rintro e w' ⟨o3, c3, o4, c4, rfl, hc3, hc4, hr1, hr2, n2, rfl⟩
             have S3 := Lib.hid hr1
             have S4 := Lib.hid (hr2.back P3.out.bl hg)
             have hz2' := P3.out.bl.size
             clear hr1 hr2)
          | (at_builtin
             have ho1 := own_empty (w2.drewN n2) w.heap.size 5 w2.heap.size hz2' rfl
             have ho2 := (((S3.out.reads (B := w2.heap.size) (by omega) _ (bv_length _)).drewN n2).alloc (Nat.le_refl _) (.cells #[] 5))
             have ho3 : w.heap.size ≤ ((w2.drewN n2).alloc (.cells #[] 5)).heap.size := by simp; omega
             have ho4 : 0 + x.tx.length ≤ maxLen := by simp only [maxLen]; omega
             refine wpList_app rfl (.tmp 55) (.tmp 56) _ rfl w.heap.size 5 i0 _ 1 1 Tryz.underlying24 hi0 hz0 hz1 hz2 rfl (by omega) (.slice (some ⟨w2.heap.size, 0, none⟩) 0 0) 0 [] rfl ho1 w2.heap.size (some ⟨g, o3, none⟩) x.tx.length c3 (bv x.tx) rfl ho2 (bv_one _) ho4 (by omega) ho3 ?_
             clear ho1 ho2 ho3 ho4
             intro v3 w3 hown3 hg3 hat3
             have P4 := Lib.hid ((P3.out.drewN n2).stepNew hg3 rfl)
             obtain ⟨ta, tc, rfl⟩ := own_slice hown3
             rw [Nat.zero_add, List.nil_append] at hown3
             have HO3 := Lib.hid hown3
             have f4 : w3.cell? ⟨wo.heap.size, 3, none⟩ = some (.slice none 0 0) := P4.out.blk.cell 3
             have z4 : w3.frozen? ⟨wo.heap.size, 3, none⟩ = false := P4.out.blk.frozen 3
             clear hown3 hg3 hat3)
          | fail)
        have P5 := P4.out.setTx ta tc x.tx HO3.out
        generalize hW5 : w3.setCell ⟨wo.heap.size, 3, none⟩ (.slice ta x.tx.length tc) = W5 at P5
        have P5i := P5.it
        have HP5 := Lib.hid P5
        clear P5 f3 f4 z3 z4 hW5 hc3 hz2'
        rw [rounds_succ]
        go_wp2_with (first
          | (refine wpList_stop rfl (.tmp 30) rfl (wo.heap.size + 1) rfl pNT (1 + 1) P5i (by decide) ?_)
          | (refine wpList_loadA rfl 26 (.tmp 5) rfl _ rfl [.int .u8 115, .string x.nm, .string ⟨#[]⟩, .slice ta x.tx.length tc] _ (blk_cells HP5.out.blk) Tryz.underlying26 rfl st_size ?_)
          | (at_builtin
             have ho1 := HP5.out.own.alloc (.cells #[.int .u8 115, .string x.nm, .string ⟨#[]⟩, .slice ta x.tx.length tc] 26)
             have ho2 := reads_new4 W5 (.int .u8 115) (.string x.nm) (.string ⟨#[]⟩) (.slice ta x.tx.length tc) 26
             have ho3 : w.heap.size ≤ (W5.alloc (.cells #[.int .u8 115, .string x.nm, .string ⟨#[]⟩, .slice ta x.tx.length tc] 26)).heap.size := by have := HP5.out.bl.size; simp; omega
             have ho4 : ys.length + 1 ≤ maxLen := by simp only [maxLen]; omega
             refine wpList_app rfl (.tmp 62) (.tmp 64) _ rfl w.heap.size 26 i1 _ 4 64 Tryz.underlying22 hi1 hz3 hz4 hz5 rfl (by omega) (.slice va ys.length vc) ys.length _ rfl ho1 (W5.heap.size + 1) (some ⟨W5.heap.size, 0, none⟩) 1 1 [.int .u8 115, .string x.nm, .string ⟨#[]⟩, .slice ta x.tx.length tc] rfl ho2 (by simp [Value.oneCell']) ho4 (by omega) ho3 ?_
             clear ho1 ho2 ho3 ho4
             intro v6 w6 hown6 hg6 hat6
             have FIN := Lib.hid (HP5.out.finish hg6 hown6)
             clear hown6 hg6 hat6)
          | fail)
        go_roundw
        case rel =>
          exact ⟨k + 1, o4, c4, ys ++ [⟨115, x.nm, ⟨#[]⟩, ta, tc, x.tx⟩], by omega, by rw [HR2.out], by rw [← HR2.out]; exact hc4, by rw [← HR2.out]; exact S4.out,
            keys_snoc hlt HX.out HKEY.out (by simp only [Stp.key]; rw [key_s HOK.out h115, h115]), FIN.out.1, FIN.out.2.1, FIN.out.2.2⟩
        case measure =>
          have := HM1.out; have := HM2.out
          simp only
          omega
      by_cases hn : x.l = 100 ∨ x.l = 113 ∨ x.l = 101
      · rw [encV_n hn, List.cons_append] at hc hb hm
        obtain ⟨r2, hr2⟩ : ∃ r2, r2 = encL (xs.drop (k + 1)) := ⟨_, rfl⟩
        rw [← hr2] at hc hb hm hR
        have hm1 : m = 1 + (x.nm.data.toList.length + 2 + r2.length) := by rw [← hm]; simp [fld_length]; omega
        have hcm : m ≤ c := by rw [← hm]; exact hc
        have hm3 : m ≤ 100000 := by have : x.nm.data.toList.length = x.nm.size := rfl; omega
        have hm4 : 3 ≤ m := by omega
        have hR2 : r2.length ≤ 100000 := by omega
        have c0 : wo.cell? ⟨g, o, none⟩ = some (.int .u8 x.l) := (hb.below hbl hg) 0 _ rfl
        have HB := Lib.hid hb.tail
        have HM := Lib.hid hm
        have HM1 := Lib.hid hm1
        have HR2 := Lib.hid hr2
        have ST := Lib.hid (PR.start x.l pN hbl hown htx)
        have HN := Lib.hid hn
        clear hb hc hm hm1 hbl hown htx hr2 hn
        go_wp2_with (first
          | (go_at_call 9; refine (parts_n _ HN.out _).mono ?_; rintro e w' ⟨rfl, rfl⟩)
          | fail)
        refine wp_loop_rounds 2 ?_
        rw [rounds_succ]
        go_wp2_with (first
          | (refine wpList_next rfl (.tmp 30) rfl (wo.heap.size + 1) rfl pN 0 110 ST.out.it ⟨by decide, by decide⟩ (by decide) ?_
             intro w1 hi1 hg1 hz1
             have P1 := Lib.hid (ST.out.next hg1 hi1)
             have f1 : w1.cell? ⟨wo.heap.size, 1, none⟩ = some (.string ⟨#[]⟩) := P1.out.blk.cell 1
             have z1 : w1.frozen? ⟨wo.heap.size, 1, none⟩ = false := P1.out.blk.frozen 1
             have R1 := Lib.hid (HB.out.below P1.out.bl hg)
             clear hi1 hg1 hz1)
          | (go_at_call 12
             refine (take_m g (o + 1) (c - 1) (m - 1) x.nm.data.toList r2 _ (by rw [HM1.out]; omega) (by have : x.nm.data.toList.length = x.nm.size := rfl; omega) (by omega) (by omega) R1.out).mono ?_
             rintro e w' ⟨o1, c1, o2, c2, rfl, hc1, hc2, hr1, hr2, n1, rfl⟩
             have S1 := Lib.hid hr1
             have S2 := Lib.hid (hr2.back P1.out.bl hg)
             clear hr1 hr2)
          | (refine wpList_convert _ rfl 24 9 (.tmp 45) rfl (.string x.nm) _ (conv_back' _ g o1 c1 x.nm S1.out) ?_)
          | fail)
        have P5 := (P1.out.drewN n1).setNm x.nm
        generalize hW5 : (w1.drewN n1).setCell ⟨wo.heap.size, 1, none⟩ (.string x.nm) = W5 at P5
        have P5i := P5.it
        have HP5 := Lib.hid P5
        clear P5 f1 z1 hW5 hc1
        rw [rounds_succ]
        go_wp2_with (first
          | (refine wpList_stop rfl (.tmp 30) rfl (wo.heap.size + 1) rfl pN (0 + 1) P5i (by decide) ?_)
          | (refine wpList_loadA rfl 26 (.tmp 5) rfl _ rfl [.int .u8 x.l, .string x.nm, .string ⟨#[]⟩, .slice none 0 0] _ (blk_cells HP5.out.blk) Tryz.underlying26 rfl st_size ?_)
          | (at_builtin
             have ho1 := HP5.out.own.alloc (.cells #[.int .u8 x.l, .string x.nm, .string ⟨#[]⟩, .slice none 0 0] 26)
             have ho2 := reads_new4 W5 (.int .u8 x.l) (.string x.nm) (.string ⟨#[]⟩) (.slice none 0 0) 26
             have ho3 : w.heap.size ≤ (W5.alloc (.cells #[.int .u8 x.l, .string x.nm, .string ⟨#[]⟩, .slice none 0 0] 26)).heap.size := by have := HP5.out.bl.size; simp; omega
             have ho4 : ys.length + 1 ≤ maxLen := by simp only [maxLen]; omega
             refine wpList_app rfl (.tmp 62) (.tmp 64) _ rfl w.heap.size 26 i1 _ 4 64 Tryz.underlying22 hi1 hz3 hz4 hz5 rfl (by omega) (.slice va ys.length vc) ys.length _ rfl ho1 (W5.heap.size + 1) (some ⟨W5.heap.size, 0, none⟩) 1 1 [.int .u8 x.l, .string x.nm, .string ⟨#[]⟩, .slice none 0 0] rfl ho2 (by simp [Value.oneCell']) ho4 (by omega) ho3 ?_
             clear ho1 ho2 ho3 ho4
             intro v6 w6 hown6 hg6 hat6
             have FIN := Lib.hid (HP5.out.finish hg6 hown6)
             clear hown6 hg6 hat6)
          | fail)
        go_roundw
        case rel =>
          exact ⟨k + 1, o2, c2, ys ++ [⟨x.l, x.nm, ⟨#[]⟩, none, 0, []⟩], by omega, by rw [HR2.out], by rw [← HR2.out]; exact hc2, by rw [← HR2.out]; exact S2.out,
            keys_snoc hlt HX.out HKEY.out (by simp only [Stp.key]; rw [(key_n HOK.out HN.out).1, (key_n HOK.out HN.out).2]), FIN.out.1, FIN.out.2.1, FIN.out.2.2⟩
        case measure =>
          have := HM1.out
          simp only
          omega
      by_cases h114 : x.l = 114
      · rw [encV_r h114, List.cons_append, List.append_assoc] at hc hb hm
        obtain ⟨r1, hr1⟩ : ∃ r1, r1 = fld x.to.data.toList ++ encL (xs.drop (k + 1)) := ⟨_, rfl⟩
        obtain ⟨r2, hr2⟩ : ∃ r2, r2 = encL (xs.drop (k + 1)) := ⟨_, rfl⟩
        rw [← hr1] at hc hb hm
        rw [← hr2] at hr1 hR
        have hm1 : m = 1 + (x.nm.data.toList.length + 2 + r1.length) := by rw [← hm]; simp [fld_length]; omega
        have hm2 : r1.length = x.to.data.toList.length + 2 + r2.length := by rw [hr1]; simp [fld_length]
        have hcm : m ≤ c := by rw [← hm]; exact hc
        have hm3 : m ≤ 100000 := by have : x.nm.data.toList.length = x.nm.size := rfl; have : x.to.data.toList.length = x.to.size := rfl; omega
        have hm4 : 5 ≤ m := by omega
        have hR2 : r2.length ≤ 100000 := by omega
        have c0 : wo.cell? ⟨g, o, none⟩ = some (.int .u8 114) := (hb.below hbl hg) 0 _ rfl
        have HB := Lib.hid hb.tail
        have HM := Lib.hid hm
        have HM1 := Lib.hid hm1
        have HM2 := Lib.hid hm2
        have HR1 := Lib.hid hr1
        have HR2 := Lib.hid hr2
        have ST := Lib.hid (PR.start 114 pNM hbl hown htx)
        clear hb hc hm hm1 hm2 hbl hown htx hr1 hr2
        go_wp2_with (first
          | (go_at_call 9; refine (parts_r _).mono ?_; rintro e w' ⟨rfl, rfl⟩)
          | fail)
        refine wp_loop_rounds 3 ?_
        rw [rounds_succ]
        go_wp2_with (first
          | (refine wpList_next rfl (.tmp 30) rfl (wo.heap.size + 1) rfl pNM 0 110 ST.out.it ⟨by decide, by decide⟩ (by decide) ?_
             intro w1 hi1 hg1 hz1
             have P1 := Lib.hid (ST.out.next hg1 hi1)
             have f1 : w1.cell? ⟨wo.heap.size, 1, none⟩ = some (.string ⟨#[]⟩) := P1.out.blk.cell 1
             have z1 : w1.frozen? ⟨wo.heap.size, 1, none⟩ = false := P1.out.blk.frozen 1
             have R1 := Lib.hid (HB.out.below P1.out.bl hg)
             clear hi1 hg1 hz1)
          | (go_at_call 12
             refine (take_m g (o + 1) (c - 1) (m - 1) x.nm.data.toList r1 _ (by rw [HM1.out]; omega) (by have : x.nm.data.toList.length = x.nm.size := rfl; omega) (by have : x.to.data.toList.length = x.to.size := rfl; rw [HM2.out]; omega) (by omega) (HR1.out ▸ R1.out)).mono ?_
             rintro e w' ⟨o1, c1, o2, c2, rfl, hc1, hc2, hr1, hr2, n1, rfl⟩
             have S1 := Lib.hid hr1
             have S2 := Lib.hid (hr2.back P1.out.bl hg)
             clear hr1 hr2)
          | (refine wpList_convert _ rfl 24 9 (.tmp 45) rfl (.string x.nm) _ (conv_back' _ g o1 c1 x.nm S1.out) ?_)
          | fail)
        have P2 := (P1.out.drewN n1).setNm x.nm
        generalize hW2 : (w1.drewN n1).setCell ⟨wo.heap.size, 1, none⟩ (.string x.nm) = W2 at P2
        have P2i := P2.it
        have HP2 := Lib.hid P2
        clear P2 f1 z1 hW2 hc1
        rw [rounds_succ]
        go_wp2_with (first
          | (refine wpList_next rfl (.tmp 30) rfl (wo.heap.size + 1) rfl pNM 1 109 P2i ⟨by decide, by decide⟩ (by decide) ?_
             intro w2 hi1 hg1 hz1
             have P3 := Lib.hid (HP2.out.next hg1 hi1)
             have f3 : w2.cell? ⟨wo.heap.size, 2, none⟩ = some (.string ⟨#[]⟩) := P3.out.blk.cell 2
             have z3 : w2.frozen? ⟨wo.heap.size, 2, none⟩ = false := P3.out.blk.frozen 2
             clear hi1 hg1 hz1 P2i)
          | (go_at_call 12
             refine (take_m g o2 c2 _ x.to.data.toList r2 _ HM2.out (by have : x.to.data.toList.length = x.to.size := rfl; omega) (by omega) (by omega) (HR1.out ▸ (S2.out.below P3.out.bl hg))).mono ?_
             rintro e w' ⟨o3, c3, o4, c4, rfl, hc3, hc4, hr1, hr2, n2, rfl⟩
             have S3 := Lib.hid hr1
             have S4 := Lib.hid (hr2.back P3.out.bl hg)
             clear hr1 hr2)
          | (refine wpList_convert _ rfl 24 9 (.tmp 50) rfl (.string x.to) _ (conv_back' _ g o3 c3 x.to S3.out) ?_)
          | fail)
        have P5 := (P3.out.drewN n2).setTo x.to
        generalize hW5 : (w2.drewN n2).setCell ⟨wo.heap.size, 2, none⟩ (.string x.to) = W5 at P5
        have P5i := P5.it
        have HP5 := Lib.hid P5
        clear P5 f3 z3 hW5 hc3
        rw [rounds_succ]
        go_wp2_with (first
          | (refine wpList_stop rfl (.tmp 30) rfl (wo.heap.size + 1) rfl pNM (1 + 1) P5i (by decide) ?_)
          | (refine wpList_loadA rfl 26 (.tmp 5) rfl _ rfl [.int .u8 114, .string x.nm, .string x.to, .slice none 0 0] _ (blk_cells HP5.out.blk) Tryz.underlying26 rfl st_size ?_)
          | (at_builtin
             have ho1 := HP5.out.own.alloc (.cells #[.int .u8 114, .string x.nm, .string x.to, .slice none 0 0] 26)
             have ho2 := reads_new4 W5 (.int .u8 114) (.string x.nm) (.string x.to) (.slice none 0 0) 26
             have ho3 : w.heap.size ≤ (W5.alloc (.cells #[.int .u8 114, .string x.nm, .string x.to, .slice none 0 0] 26)).heap.size := by have := HP5.out.bl.size; simp; omega
             have ho4 : ys.length + 1 ≤ maxLen := by simp only [maxLen]; omega
             refine wpList_app rfl (.tmp 62) (.tmp 64) _ rfl w.heap.size 26 i1 _ 4 64 Tryz.underlying22 hi1 hz3 hz4 hz5 rfl (by omega) (.slice va ys.length vc) ys.length _ rfl ho1 (W5.heap.size + 1) (some ⟨W5.heap.size, 0, none⟩) 1 1 [.int .u8 114, .string x.nm, .string x.to, .slice none 0 0] rfl ho2 (by simp [Value.oneCell']) ho4 (by omega) ho3 ?_
             clear ho1 ho2 ho3 ho4
             intro v6 w6 hown6 hg6 hat6
             have FIN := Lib.hid (HP5.out.finish hg6 hown6)
             clear hown6 hg6 hat6)
          | fail)
        go_roundw
        case rel =>
          exact ⟨k + 1, o4, c4, ys ++ [⟨114, x.nm, x.to, none, 0, []⟩], by omega, by rw [HR2.out], by rw [← HR2.out]; exact hc4, by rw [← HR2.out]; exact S4.out,
            keys_snoc hlt HX.out HKEY.out (by simp only [Stp.key]; rw [key_r HOK.out h114, h114]), FIN.out.1, FIN.out.2.1, FIN.out.2.2⟩
        case measure =>
          have := HM1.out; have := HM2.out
          simp only
          omega
      have he : x.l = 97 ∨ x.l = 120 := by
        have h0 := HOK.out.1
        unfold pB at h0
        have := of_decide_eq_true h0
        omega
      · rw [encV_e he, List.singleton_append] at hc hb hm
        obtain ⟨r2, hr2⟩ : ∃ r2, r2 = encL (xs.drop (k + 1)) := ⟨_, rfl⟩
        rw [← hr2] at hc hb hm hR
        have hm1 : m = 1 + r2.length := by rw [← hm]; simp; omega
        have hcm : m ≤ c := by rw [← hm]; exact hc
        have hm3 : m ≤ 100000 := by omega
        have hm4 : 1 ≤ m := by omega
        have c0 : wo.cell? ⟨g, o, none⟩ = some (.int .u8 x.l) := (hb.below hbl hg) 0 _ rfl
        have HB := Lib.hid hb.tail
        have HM := Lib.hid hm
        have HM1 := Lib.hid hm1
        have HR2 := Lib.hid hr2
        have ST := Lib.hid (PR.start x.l p0 hbl hown htx)
        have HN := Lib.hid he
        clear hb hc hm hm1 hbl hown htx hr2 he
        by_cases h1c : c = 1
        · obtain rfl : m = 1 := by omega
          subst h1c
          go_wp2_with (first
            | (go_at_call 9; refine (parts_e _ HN.out _).mono ?_; rintro e w' ⟨rfl, rfl⟩)
            | fail)
          generalize hW5 : (wo.alloc (.cells #[.int .u8 x.l, .string ⟨#[]⟩, .string ⟨#[]⟩, .slice none 0 0] 26)).iter p0 0 = W5 at ST
          have P5i := ST.out.it
          have HP5 := ST
          clear hW5
          refine wp_loop_rounds 1 ?_
          rw [rounds_succ]
          go_wp2_with (first
            | (refine wpList_stop rfl (.tmp 30) rfl (wo.heap.size + 1) rfl p0 0 P5i (by decide) ?_)
            | (refine wpList_loadA rfl 26 (.tmp 5) rfl _ rfl [.int .u8 x.l, .string ⟨#[]⟩, .string ⟨#[]⟩, .slice none 0 0] _ (blk_cells HP5.out.blk) Tryz.underlying26 rfl st_size ?_)
            | (at_builtin
               have ho1 := HP5.out.own.alloc (.cells #[.int .u8 x.l, .string ⟨#[]⟩, .string ⟨#[]⟩, .slice none 0 0] 26)
               have ho2 := reads_new4 W5 (.int .u8 x.l) (.string ⟨#[]⟩) (.string ⟨#[]⟩) (.slice none 0 0) 26
               have ho3 : w.heap.size ≤ (W5.alloc (.cells #[.int .u8 x.l, .string ⟨#[]⟩, .string ⟨#[]⟩, .slice none 0 0] 26)).heap.size := by have := HP5.out.bl.size; simp; omega
               have ho4 : ys.length + 1 ≤ maxLen := by simp only [maxLen]; omega
               refine wpList_app rfl (.tmp 62) (.tmp 64) _ rfl w.heap.size 26 i1 _ 4 64 Tryz.underlying22 hi1 hz3 hz4 hz5 rfl (by omega) (.slice va ys.length vc) ys.length _ rfl ho1 (W5.heap.size + 1) (some ⟨W5.heap.size, 0, none⟩) 1 1 [.int .u8 x.l, .string ⟨#[]⟩, .string ⟨#[]⟩, .slice none 0 0] rfl ho2 (by simp [Value.oneCell']) ho4 (by omega) ho3 ?_
               clear ho1 ho2 ho3 ho4
               intro v6 w6 hown6 hg6 hat6
               have FIN := Lib.hid (HP5.out.finish hg6 hown6)
               clear hown6 hg6 hat6)
            | fail)
          go_roundw
          case rel =>
            exact ⟨k + 1, o, 0, ys ++ [⟨x.l, ⟨#[]⟩, ⟨#[]⟩, none, 0, []⟩], by omega, by rw [← HR2.out, show r2.length = 0 by have := HM1.out; omega], by rw [← HR2.out]; have := HM1.out; omega, by rw [← HR2.out]; exact fun j u hu => (by have := HM1.out; have := (List.getElem?_eq_some_iff.1 hu).1; omega),
              keys_snoc hlt HX.out HKEY.out (by simp only [Stp.key]; rw [(key_e HOK.out HN.out).1, (key_e HOK.out HN.out).2.1, (key_e HOK.out HN.out).2.2]), FIN.out.1, FIN.out.2.1, FIN.out.2.2⟩
          case measure =>
            have := HM1.out
            simp only
            omega
        · have h1c' : 2 ≤ c := by omega
          go_wp2_with (first
            | (go_at_call 9; refine (parts_e _ HN.out _).mono ?_; rintro e w' ⟨rfl, rfl⟩)
            | fail)
          generalize hW5 : (wo.alloc (.cells #[.int .u8 x.l, .string ⟨#[]⟩, .string ⟨#[]⟩, .slice none 0 0] 26)).iter p0 0 = W5 at ST
          have P5i := ST.out.it
          have HP5 := ST
          clear hW5
          refine wp_loop_rounds 1 ?_
          rw [rounds_succ]
          go_wp2_with (first
            | (refine wpList_stop rfl (.tmp 30) rfl (wo.heap.size + 1) rfl p0 0 P5i (by decide) ?_)
            | (refine wpList_loadA rfl 26 (.tmp 5) rfl _ rfl [.int .u8 x.l, .string ⟨#[]⟩, .string ⟨#[]⟩, .slice none 0 0] _ (blk_cells HP5.out.blk) Tryz.underlying26 rfl st_size ?_)
            | (at_builtin
               have ho1 := HP5.out.own.alloc (.cells #[.int .u8 x.l, .string ⟨#[]⟩, .string ⟨#[]⟩, .slice none 0 0] 26)
               have ho2 := reads_new4 W5 (.int .u8 x.l) (.string ⟨#[]⟩) (.string ⟨#[]⟩) (.slice none 0 0) 26
               have ho3 : w.heap.size ≤ (W5.alloc (.cells #[.int .u8 x.l, .string ⟨#[]⟩, .string ⟨#[]⟩, .slice none 0 0] 26)).heap.size := by have := HP5.out.bl.size; simp; omega
               have ho4 : ys.length + 1 ≤ maxLen := by simp only [maxLen]; omega
               refine wpList_app rfl (.tmp 62) (.tmp 64) _ rfl w.heap.size 26 i1 _ 4 64 Tryz.underlying22 hi1 hz3 hz4 hz5 rfl (by omega) (.slice va ys.length vc) ys.length _ rfl ho1 (W5.heap.size + 1) (some ⟨W5.heap.size, 0, none⟩) 1 1 [.int .u8 x.l, .string ⟨#[]⟩, .string ⟨#[]⟩, .slice none 0 0] rfl ho2 (by simp [Value.oneCell']) ho4 (by omega) ho3 ?_
               clear ho1 ho2 ho3 ho4
               intro v6 w6 hown6 hg6 hat6
               have FIN := Lib.hid (HP5.out.finish hg6 hown6)
               clear hown6 hg6 hat6)
            | fail)
          go_roundw
          case rel =>
            exact ⟨k + 1, o + 1, c - 1, ys ++ [⟨x.l, ⟨#[]⟩, ⟨#[]⟩, none, 0, []⟩], by omega, by rw [← HR2.out, show m - 1 = r2.length by have := HM1.out; omega], by rw [← HR2.out]; have := HM1.out; omega, by rw [← HR2.out]; exact HB.out,
              keys_snoc hlt HX.out HKEY.out (by simp only [Stp.key]; rw [(key_e HOK.out HN.out).1, (key_e HOK.out HN.out).2.1, (key_e HOK.out HN.out).2.2]), FIN.out.1, FIN.out.2.1, FIN.out.2.2⟩
          case measure =>
            have := HM1.out
            simp only
            omega
    · obtain rfl : k = xs.length := by omega
      rw [List.drop_length] at hc hb
      rw [List.take_length] at hys
      go_wp2_with fail
      go_ret2
      exact ⟨_, ys, rfl, hys, hbl, hown, htx⟩
end Go.Proofs.YtimphpiofoepgaaGreatDoor
