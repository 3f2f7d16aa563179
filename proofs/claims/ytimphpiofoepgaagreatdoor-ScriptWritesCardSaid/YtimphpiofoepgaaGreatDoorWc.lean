/- the walks. -/
import Derived.Test.YtimphpiofoepgaaGreatDoorWb
import Derived.Laws.IdiomStrings
namespace Go.Proofs.YtimphpiofoepgaaGreatDoor
open Go Go.RowKit

/-! bytes as values -/
def bv (l : List UInt8) : List Value := l.map fun b => .int .u8 b.toNat
theorem bv_length (l : List UInt8) : (bv l).length = l.length := by simp [bv]
theorem bv_one (l : List UInt8) : ∀ u ∈ bv l, u.oneCell' = true := by
  intro u hu
  obtain ⟨b, _, rfl⟩ := List.mem_map.1 hu
  rfl

/-- a step as it lies in memory -/
structure Stp where
  l : Int
  nm : ByteArray
  to : ByteArray
  ta : Option Addr
  tc : Nat
  tx : List UInt8

def Stp.cells (x : Stp) : List Value := [.int .u8 x.l, .string x.nm, .string x.to, .slice x.ta x.tx.length x.tc]

/-- steps that lie in memory below B -/
def Steps4 (w : World) (B : Nat) (A : Option Addr) (xs : List Stp) : Prop :=
  Reads w B 4 A xs.length (xs.flatMap Stp.cells) ∧ ∀ x ∈ xs, Reads w B 1 x.ta x.tx.length (bv x.tx)

theorem flat4_get (xs : List Stp) (k : Nat) (x : Stp) (hk : xs[k]? = some x) (j : Nat) (hj : j < 4) : (xs.flatMap Stp.cells)[k * 4 + j]? = x.cells[j]? := by
  induction xs generalizing k with
  | nil => cases hk
  | cons y ys ih =>
    rw [List.flatMap_cons]
    cases k with
    | zero =>
      simp at hk
      subst hk
      rw [Nat.zero_mul, Nat.zero_add, List.getElem?_append_left (by simp [Stp.cells]; omega)]
    | succ k =>
      rw [List.getElem?_append_right (by simp [Stp.cells]; omega), show (k + 1) * 4 + j - y.cells.length = k * 4 + j by simp [Stp.cells]; omega]
      exact ih k (by simpa using hk)

theorem wpList_convert {P : Program} (w : World) {ops : Array Oper} {rest : List Oper} {o : Oper} {a : Act} {Q : Exit → Act → World → Prop} (hg : o.guard = none) (s d : TypeId) (x : Operand) (ho : o.op = .convert s d x) (v : Value) (w' : World)
    (hrun : (convert s d (a.eval x)).run P w = .ok v w') (h : wpList P ops Q rest (a.put o.dst v) w') : wpList P ops Q (o :: rest) a w := by
  refine wpList_plain hg fun K hK => ?_
  unfold Oper.wp
  simp [execOp, ho, hrun, Result.andThen]
  exact hK _ _ h
theorem run_loadVarA {P : Program} (w : World) (ad : Addr) (ty : TypeId) (cs : List Value) (d : TypeDesc) (hc : ∀ j v, cs[j]? = some v → w.cell? (ad.add j) = some v)
    (hu : P.underlying ty = some d) (hd : (match d with | .struct _ | .array _ _ => true | _ => false) = true) (hi : (P.info? ty).map (·.size) = some cs.length) :
    (loadVar ty ad).run P w = .ok (.agg cs.toArray) w := by
  have hl := run_loadCells_list (P := P) w ad cs hc
  cases hq : P.info? ty with
  | none => simp [hq] at hi
  | some i =>
    have hs : i.size = cs.length := by simpa [hq] using hi
    have hagg : (isAgg ty).run P w = .ok true w := by
      unfold isAgg
      rw [Sem.run_bind, run_underlying hu w]
      cases d <;> simp_all
    simp [loadVar, Sem.run_bind, hagg, sizeOf, typeInfo, hq, hs, hl]

theorem reads_new1 (w : World) (x : Value) (t : TypeId) (g : Nat) (hg : g = w.heap.size) : Reads (w.alloc (.cells #[x] t)) (g + 1) 1 (some ⟨g, 0, none⟩) 1 [x] := by
  subst hg
  refine ⟨rfl, fun _ => ⟨_, rfl, Nat.lt_succ_self _, fun j u hu => ?_⟩⟩
  have : (w.alloc (.cells #[x] t)).cell? ⟨w.heap.size, j, none⟩ = some u := by
    rw [World.cell?_alloc_at _ _ _ _ rfl]
    simpa using hu
  cases j with
  | zero => exact this
  | succ j => simp at hu

/-- '[]byte(s)' -/
theorem conv_bytes {P : Program} (w : World) (src dst e : TypeId) (s : ByteArray) (hs : P.underlying src = some .string) (hd : P.underlying dst = some (.slice e)) (he : P.underlying e = some (.int .u8)) :
    ∃ (cap : Nat) (w' : World), (convert src dst (.string s)).run P w = .ok (.slice (some ⟨w.heap.size, 0, none⟩) s.size cap) w' ∧ Below w.heap.size w w' ∧ w'.heap.size = w.heap.size + 1 ∧
      Reads w' (w.heap.size + 1) 1 (some ⟨w.heap.size, 0, none⟩) s.size (bv s.data.toList) := by
  refine ⟨_, _, run_bytes_of_string w src dst e s hs hd he, ((Below.refl _ _).drew).alloc (Nat.le_refl _) _, by simp, ?_⟩
  refine ⟨by simp only [bv_length, Nat.mul_one]; rfl, fun _ => ⟨_, rfl, Nat.lt_succ_self _, fun j u hu => ?_⟩⟩
  have hadd : (⟨w.heap.size, 0, none⟩ : Addr).add j = ⟨w.drew.heap.size, j, none⟩ := by unfold Addr.add; split <;> simp_all
  rw [hadd, World.cell?_alloc_mark]
  unfold bytesRow
  have hj : j < (bv s.data.toList).length := (List.getElem?_eq_some_iff.1 hu).1
  rw [Array.getElem?_append_left (by simpa [bv] using hj)]
  rw [← Array.getElem?_toList]
  simpa [bv] using hu

theorem wpList_app {P : Program} {w : World} {ops : Array Oper} {rest : List Oper} {o : Oper} {a : Act} {Q : Exit → Act → World → Prop} (hgd : o.guard = none) (s x : Operand) (t : TypeId)
    (ho : o.op = .call { callee := .builtin .append, args := #[s, x], argTypes := #[t, t] })
    (base : Nat) (e : TypeId) (i : TypeInfo) (z : Value) (size bytes : Nat) (ht : P.underlying t = some (.slice e)) (hi : P.info? e = some i) (hz : i.zero = some z)
    (hsize : i.size = size) (hby : i.bytes = bytes) (hzs : z.cells.size = size) (hsz : 0 < size)
    (v : Value) (n : Nat) (xs : List Value) (hs : a.eval s = v) (hown : w.ownsRow base e size v n xs)
    (B : Nat) (A : Option Addr) (m c : Nat) (news : List Value) (hx : a.eval x = .slice A m c) (hr : Reads w B size A m news) (h1 : ∀ u ∈ news, u.oneCell' = true)
    (h63 : n + m ≤ maxLen) (hbytes : (n + m) * bytes ≤ 140737488355328) (hbase : base ≤ w.heap.size)
    (h : ∀ v' w', w'.ownsRow base e size v' (n + m) (xs ++ news) → w.grownBy w' v.ownBlock → (v'.ownBlock = v.ownBlock ∨ v'.ownBlock = some w.heap.size) → wpList P ops Q rest (a.put o.dst v') w') : wpList P ops Q (o :: rest) a w :=
  wpList_append_any w hgd s x t ho base e i z size bytes ht hi hz hsize hby hzs hsz v n xs hs hown B A m c news hx hr h1 h63 hbytes hbase h

/-- a load of several cells -/
theorem wpList_loadA {P : Program} {ops : Array Oper} {rest : List Oper} {o : Oper} {a : Act} {w : World} {Q : Exit → Act → World → Prop} (hgd : o.guard = none) (ty : TypeId) (x : Operand) (ho : o.op = .load ty x)
    (ad : Addr) (hx : a.eval x = .pointer (some ad)) (cs : List Value) (d : TypeDesc) (hc : ∀ j v, cs[j]? = some v → w.cell? (ad.add j) = some v)
    (hu : P.underlying ty = some d) (hd : (match d with | .struct _ | .array _ _ => true | _ => false) = true) (hi : (P.info? ty).map (·.size) = some cs.length)
    (h : wpList P ops Q rest (a.put o.dst (.agg cs.toArray)) w) : wpList P ops Q (o :: rest) a w := by
  refine wpList_plain hgd fun _ hK => ?_
  unfold Oper.wp execOp
  simp only [ho, hx, Instr.loadAt, Instr.sureAddr, Sem.run_bind, Sem.run_pure, Result.andThen_ok, run_loadVarA w ad ty cs d hc hu hd hi]
  exact hK _ _ h

end Go.Proofs.YtimphpiofoepgaaGreatDoor
