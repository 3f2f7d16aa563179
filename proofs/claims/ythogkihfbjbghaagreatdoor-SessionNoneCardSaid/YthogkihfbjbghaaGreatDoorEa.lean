/- an interpreter of closed code, and its soundness. -/
import GoSem.Step
namespace Go.Proofs.YthogkihfbjbghaaGreatDoor.Abs
noncomputable section

/-- the capacity of a slice whose capacity was drawn: this, and how many cells an element has -/
def capU : Nat := 18446744073709551616

inductive Trie (α : Type) where
  | leaf
  | node (v : Option α) (l r : Trie α)

noncomputable def Trie.get {α : Type} (t : Trie α) : Nat → Option α :=
  Trie.rec (motive := fun _ => Nat → Option α) (fun _ => none)
    (fun v _ _ gl gr k => Nat.rec (motive := fun _ => Option α) v (fun k _ => Bool.rec (motive := fun _ => Option α) (gr (k / 2)) (gl (k / 2)) (Nat.beq (k % 2) 0)) k) t

/-- strict: the new trie is handed on written out -/
noncomputable def Trie.setK {α β : Type} (f : Nat) : Trie α → Nat → Option α → (Trie α → β) → β :=
  Nat.rec (motive := fun _ => Trie α → Nat → Option α → (Trie α → β) → β) (fun t _ _ c => c t)
    (fun _ ih t k v c => Trie.rec (motive := fun _ => β)
      (Nat.rec (motive := fun _ => β) (c (.node v .leaf .leaf)) (fun k _ => Bool.rec (motive := fun _ => β) (ih .leaf (k / 2) v fun r => c (.node none .leaf r)) (ih .leaf (k / 2) v fun l => c (.node none l .leaf)) (Nat.beq (k % 2) 0)) k)
      (fun w l r _ _ => Nat.rec (motive := fun _ => β) (c (.node v l r)) (fun k _ => Bool.rec (motive := fun _ => β) (ih r (k / 2) v fun r' => c (.node w l r')) (ih l (k / 2) v fun l' => c (.node w l' r)) (Nat.beq (k % 2) 0)) k) t) f

/-! tables -/

def nthL {α : Type} (l : List α) : Nat → Option α :=
  List.rec (motive := fun _ => Nat → Option α) (fun _ => none) (fun a _ ih i => Nat.rec (motive := fun _ => Option α) (some a) (fun k _ => ih k) i) l

def dropL {α : Type} (n : Nat) : List α → List α :=
  Nat.rec (motive := fun _ => List α → List α) (fun l => l) (fun _ ih l => List.rec (motive := fun _ => List α) [] (fun _ t _ => ih t) l) n

def dropB {α : Type} (s : Nat) (l : List α) (m : Nat) : List α := Nat.rec (motive := fun _ => List α) l (fun _ ih => dropL s ih) m

def nthC {α : Type} (l : List α) (i : Nat) : Option α := nthL (dropB 8 (dropB 64 l (i / 64)) (i % 64 / 8)) (i % 8)

def infoK (P : Program) (t : TypeId) : Option TypeInfo := match nthC P.types.toList t with
  | some i => some i
  | none => P.info? t

def undK (P : Program) (t : TypeId) : Option TypeDesc := match infoK P t with
  | some { desc := .named _ u, .. } => match infoK P u with
    | some i => some i.desc
    | none => none
  | some i => some i.desc
  | none => none

def funcK (P : Program) (f : FuncId) : Option Func := nthC P.funcs.toList f

inductive AObj where
  /-- a row of cells; mark: its end is frozen (a string was made of it, or it of a string); opn: there may be more cells than these -/
  | cells (c : List Value) (elem : TypeId) (mark : Bool) (opn : Bool)
  /-- cells that are only read -/
  | rom (c : List Value)
  | obj (o : Obj)

structure St where
  H : Trie AObj
  n : Nat
  fp : Nat
  wr : Nat
  u : FrameMode

/-- a state whose mode is another one, written out -/
def St.reU {β : Type} (s : St) (u : FrameMode) (k : St → β) : β := match s with
  | ⟨H, n, fp, wr, _⟩ => k ⟨H, n, fp, wr, u⟩

/-- without marks -/
def St.bare {β : Type} (s : St) (k : St → β) : β := match s with
  | ⟨H, n, _, _, u⟩ => k ⟨H, n, 0, 0, u⟩

/-- a value is handed on written out, but for what stands in it -/
def forceV {β : Type} (v : Value) (k : Value → β) : β := match v with
  | .bool b => k (.bool b)
  | .int j n => k (.int j n)
  | .float j n => k (.float j n)
  | .complex j n m => k (.complex j n m)
  | .string s => k (.string s)
  | .pointer a => k (.pointer a)
  | .slice a l c => k (.slice a l c)
  | .map r => k (.map r)
  | .chan r => k (.chan r)
  | .func f a c => k (.func f a c)
  | .nilFunc => k .nilFunc
  | .iface t v => k (.iface t v)
  | .nilIface => k .nilIface
  | .agg a => k (.agg a)
  | .tuple a => k (.tuple a)

def forceVL {β : Type} : List Value → (List Value → β) → β
  | [], k => k []
  | x :: l, k => forceV x fun x => forceVL l fun l => k (x :: l)

def fnat {β : Type} (n : Nat) (k : Nat → β) : β := match n with
  | 0 => k 0
  | m + 1 => k (m + 1)

def fint {β : Type} (i : Int) (k : Int → β) : β := match i with
  | .ofNat n => fnat n fun n => k (.ofNat n)
  | .negSucc n => fnat n fun n => k (.negSucc n)

abbrev D (α : Type) : Type := St → Except String (α × St)

namespace D
def pure {α : Type} (a : α) : D α := fun s => .ok (a, s)
def fail {α : Type} (e : String) : D α := fun _ => .error e
def bind {α β : Type} (m : D α) (k : α → D β) : D β := fun s => match m s with
  | .ok (a, s') => k a s'
  | .error e => .error e
end D

def bit (i : Nat) : Nat := Nat.shiftLeft 1 i

def setH (H : Trie AObj) (id : Nat) (o : Option AObj) {β : Type} (k : Trie AObj → β) : β := Trie.setK 24 H id o k

def getB (id : Nat) : D AObj
  | ⟨H, n, fp, wr, u⟩ => match H.get id with
    | none => .error "getB: no such block"
    | some o => fnat (Nat.lor fp (bit id)) fun fp => .ok (o, ⟨H, n, fp, wr, u⟩)

/-- an object that is there is turned -/
def putB (id : Nat) (o : AObj) : D Unit
  | ⟨H, n, fp, wr, u⟩ => match H.get id with
    | none => .error "putB: no such block"
    | some _ => fnat (Nat.lor fp (bit id)) fun fp => fnat (Nat.lor wr (bit id)) fun wr => setH H id (some o) fun H => .ok ((), ⟨H, n, fp, wr, u⟩)

def killB (id : Nat) : D Unit
  | ⟨H, n, fp, wr, u⟩ => match H.get id with
    | none => .error "killB: no such block"
    | some _ => fnat (Nat.lor fp (bit id)) fun fp => fnat (Nat.lor wr (bit id)) fun wr => setH H id none fun H => .ok ((), ⟨H, n, fp, wr, u⟩)

def newB (o : AObj) : D Nat
  | ⟨H, n, fp, wr, u⟩ => bif Nat.blt n 1048576 then
      fnat (Nat.lor fp (bit n)) fun fp => fnat (Nat.lor wr (bit n)) fun wr => setH H n (some o) fun H => fnat (n + 1) fun n' => .ok (n, ⟨H, n', fp, wr, u⟩)
    else .error "newB: too many"

def newObjA (o : Obj) : D Nat := newB (.obj o)

/-- cells of a block -/
def cellsB (id : Nat) : D (List Value × TypeId × Bool × Bool) := D.bind (getB id) fun
  | .cells c e m o => D.pure (c, e, m, o)
  | _ => D.fail "cells expected"

def rowB (id : Nat) : D (List Value) := D.bind (getB id) fun
  | .cells c _ _ _ => D.pure c
  | .rom c => D.pure c
  | _ => D.fail "cells expected"

def objB (id : Nat) : D Obj := D.bind (getB id) fun
  | .obj o => D.pure o
  | _ => D.fail "object expected"

/-- n from off on, if there are so many -/
def window (c : List Value) (off n : Nat) : Option (List Value) :=
  let r := (c.drop off).take n
  bif Nat.beq r.length n then some r else none

def setList {β : Type} : List Value → Nat → List Value → (List Value → β) → β
  | c, 0, [], k => k c
  | [], _, _ :: _, k => k []
  | [], _ + 1, [], k => k []
  | _ :: c, 0, v :: vs, k => forceV v fun v => setList c 0 vs fun c => k (v :: c)
  | x :: c, i + 1, vs, k => setList c i vs fun c => k (x :: c)

/-- a value that names no memory -/
def plainV : Nat → Value → Bool
  | _, .bool _ | _, .int _ _ | _, .string _ | _, .float _ _ | _, .pointer none | _, .map none | _, .nilFunc | _, .nilIface => true
  | _, .slice none 0 0 => true
  | n + 1, .agg a => a.toList.all (plainV n)
  | n + 1, .iface _ v => plainV n v
  | _, _ => false

/-- what stands in a temporary whose operation was not wanted -/
def skipV : Value := .chan none

def isCell : Value → Bool
  | .agg _ | .tuple _ | .chan _ => false
  | _ => true

section
variable (P : Program)

def descOf (t : TypeId) : D TypeDesc := match undK P t with
  | some d => D.pure d
  | none => D.fail "no such type"

def infoOf (t : TypeId) : D TypeInfo := match infoK P t with
  | some i => D.pure i
  | none => D.fail "no such type"

def zeroOf (t : TypeId) : D Value := D.bind (infoOf P t) fun i => match i.zero with
  | some v => bif plainV 9 v && v.cells.toList.all isCell then D.pure v else D.fail "zero: not plain"
  | none => D.fail "no zero"

def aggB (t : TypeId) : D Bool := D.bind (descOf P t) fun
  | .struct _ | .array _ _ => D.pure true
  | _ => D.pure false

def addrOf : Value → D (Nat × Nat)
  | .pointer (some ⟨b, off, none⟩) => D.pure (b, off)
  | _ => D.fail "address expected"

def loadA (t : TypeId) (id off : Nat) : D Value :=
  D.bind (rowB id) fun c => D.bind (aggB P t) fun
    | true => D.bind (infoOf P t) fun i => match window c off i.size with
      | some r => D.pure (.agg r.toArray)
      | none => D.fail "load: no such cells"
    | false => match c[off]? with
      | some v => D.pure v
      | none => D.fail "load: no such cell"

def storeCellsA (id off : Nat) (vs : List Value) : D Unit :=
  D.bind (cellsB id) fun (c, e, m, o) =>
    bif Nat.ble (off + vs.length) c.length && vs.all isCell then setList c off vs fun c => putB id (.cells c e m o)
    else D.fail "store: no such cells"

def storeA (t : TypeId) (id off : Nat) (v : Value) : D Unit :=
  D.bind (infoOf P t) fun i =>
    bif Nat.beq v.cells.toList.length i.size then (match v.cells.toList with
      | [] => D.pure ()
      | vs => storeCellsA id off vs) else D.fail "store: size"

def newVarA (t : TypeId) (v : Value) : D Value :=
  bif !v.cells.toList.all isCell then D.fail "newVar: no cells" else forceVL v.cells.toList fun c => D.bind (newB (.cells c t false false)) fun id => D.pure (.pointer (some ⟨id, 0, none⟩))

def intOf : Value → D (IntKind × Int)
  | .int k n => D.pure (k, n)
  | _ => D.fail "int expected"

/-- what is between the bounds is itself -/
def wrapA (k : IntKind) (n : Int) {β : Type} (c : Int → β) : β :=
  match k with
  | .i64 => bif decide (-9223372036854775808 ≤ n) && decide (n ≤ 9223372036854775807) then fint n c else fint (k.wrap n) c
  | _ => fint (k.wrap n) c

def vint (k : IntKind) (n : Int) : D Value := fint n fun n => D.pure (.int k n)

def beqBytes : List UInt8 → List UInt8 → Bool
  | [], [] => true
  | a :: x, b :: y => Nat.beq a.toNat b.toNat && beqBytes x y
  | _, _ => false

def lessBytes : List UInt8 → List UInt8 → Bool
  | _, [] => false
  | [], _ :: _ => true
  | a :: x, b :: y => Nat.blt a.toNat b.toNat || (Nat.beq a.toNat b.toNat && lessBytes x y)

def bs (s : ByteArray) : List UInt8 := s.data.toList

/-- a literal list is handed on written out -/
def forceL {α β : Type} : List α → (List α → β) → β
  | [], k => k []
  | x :: l, k => forceL l fun l => k (x :: l)

def vstr (l : List UInt8) : D Value := forceL l fun l => D.pure (.string ⟨⟨l⟩⟩)

/-- '==' of what an operation may hold -/
def equalA : Nat → TypeId → Value → Value → D Bool
  | 0, _, _, _ => D.fail "equal: depth"
  | d + 1, t, x, y => D.bind (descOf P t) fun desc => match desc, x, y with
    | .bool, .bool a, .bool b => D.pure (a == b)
    | .int _, .int k a, .int k' b => if k = k' then D.pure (a == b) else D.fail "equal: kinds"
    | .string, .string a, .string b => D.pure (beqBytes (bs a) (bs b))
    | .pointer _, .pointer none, .pointer b => D.pure b.isNone
    | .pointer _, .pointer (some _), .pointer none => D.pure false
    | .slice _, .slice none _ _, .slice b _ _ => D.pure b.isNone
    | .slice _, .slice (some _) _ _, .slice none _ _ => D.pure false
    | .map _ _, .map none, .map b => D.pure b.isNone
    | .map _ _, .map (some _), .map none => D.pure false
    | .func _ _ _, .nilFunc, .nilFunc => D.pure true
    | .func _ _ _, .nilFunc, .func _ _ _ | .func _ _ _, .func _ _ _, .nilFunc => D.pure false
    | .interface _, .nilIface, .nilIface => D.pure true
    | .interface _, .nilIface, .iface _ _ | .interface _, .iface _ _, .nilIface => D.pure false
    | .struct fields, .agg xs, .agg ys =>
      bif P.stoodInHeld t then D.fail "equal: stood in" else equalFields d fields.toList xs ys
    | _, _, _ => D.fail "equal: this kind"
  where
  equalFields (d : Nat) : List Field → Array Value → Array Value → D Bool
  | [], _, _ => D.pure true
  | f :: fs, xs, ys =>
    if f.name = "_" then D.fail "equal: blank" else
    match undK P f.type, xs.toList[f.offset]?, ys.toList[f.offset]? with
    | some (.int _), some (.int k a), some (.int k' b) => if k = k' then (bif a == b then equalFields d fs xs ys else D.pure false) else D.fail "equal: kinds"
    | some .string, some (.string a), some (.string b) => bif beqBytes (bs a) (bs b) then equalFields d fs xs ys else D.pure false
    | some .bool, some (.bool a), some (.bool b) => bif a == b then equalFields d fs xs ys else D.pure false
    | _, _, _ => D.fail "equal: this field"

def binA0 (cst : Bool) (op : BinOp) (t : TypeId) (x y : Value) : D Value :=
  match op, x, y with
  | .add, .int k a, .int k' b => if k = k' then wrapA k (a + b) fun n => D.pure (.int k n) else D.fail "kinds"
  | .sub, .int k a, .int k' b => if k = k' then wrapA k (a - b) fun n => D.pure (.int k n) else D.fail "kinds"
  | .mul, .int k a, .int k' b => if k = k' then wrapA k (a * b) fun n => D.pure (.int k n) else D.fail "kinds"
  | .quo, .int k a, .int k' b => if k = k' then (if b = 0 then D.fail "quo: 0" else wrapA k (a.tdiv b) fun n => D.pure (.int k n)) else D.fail "kinds"
  | .rem, .int k a, .int k' b => if k = k' then (if b = 0 then D.fail "rem: 0" else vint k (a.tmod b)) else D.fail "kinds"
  | .and, .int k a, .int k' b => if k = k' then vint k (k.wrap (BitVec.ofInt k.bits a &&& BitVec.ofInt k.bits b).toNat) else D.fail "kinds"
  | .or, .int k a, .int k' b => if k = k' then vint k (k.wrap (BitVec.ofInt k.bits a ||| BitVec.ofInt k.bits b).toNat) else D.fail "kinds"
  | .xor, .int k a, .int k' b => if k = k' then vint k (k.wrap (BitVec.ofInt k.bits a ^^^ BitVec.ofInt k.bits b).toNat) else D.fail "kinds"
  | .andNot, .int k a, .int k' b => if k = k' then vint k (k.wrap (BitVec.ofInt k.bits a &&& ~~~ (BitVec.ofInt k.bits b)).toNat) else D.fail "kinds"
  | .shl, .int k a, .int _ b => if b < 0 then D.fail "shl" else vint k (k.wrap (a * 2 ^ (min b.toNat k.bits)))
  | .shr, .int k a, .int _ b => if b < 0 then D.fail "shr" else vint k (a.fdiv (2 ^ (min b.toNat k.bits)))
  | .eql, .int k a, .int k' b => if k = k' then D.pure (.bool (a == b)) else D.fail "kinds"
  | .neq, .int k a, .int k' b => if k = k' then D.pure (.bool (a != b)) else D.fail "kinds"
  | .lss, .int k a, .int k' b => if k = k' then D.pure (.bool (decide (a < b))) else D.fail "kinds"
  | .leq, .int k a, .int k' b => if k = k' then D.pure (.bool (decide (a ≤ b))) else D.fail "kinds"
  | .gtr, .int k a, .int k' b => if k = k' then D.pure (.bool (decide (a > b))) else D.fail "kinds"
  | .geq, .int k a, .int k' b => if k = k' then D.pure (.bool (decide (a ≥ b))) else D.fail "kinds"
  | .add, .string a, .string b => bif Nat.ble ((bs a).length + (bs b).length) 1048576 then vstr (bs a ++ bs b) else D.fail "string: too long"
  | .eql, .string a, .string b => D.pure (.bool (beqBytes (bs a) (bs b)))
  | .neq, .string a, .string b => D.pure (.bool (!beqBytes (bs a) (bs b)))
  | .lss, .string a, .string b => D.pure (.bool (lessBytes (bs a) (bs b)))
  | .leq, .string a, .string b => D.pure (.bool (lessBytes (bs a) (bs b) || beqBytes (bs a) (bs b)))
  | .gtr, .string a, .string b => D.pure (.bool (!(lessBytes (bs a) (bs b) || beqBytes (bs a) (bs b))))
  | .geq, .string a, .string b => D.pure (.bool (!lessBytes (bs a) (bs b)))
  | .eql, x, y => D.bind (eqGuardA t x y) fun _ => D.bind (equalA P 9 t x y) fun b => D.pure (.bool b)
  | .neq, x, y => D.bind (eqGuardA t x y) fun _ => D.bind (equalA P 9 t x y) fun b => D.pure (.bool (!b))
  | _, _, _ => D.fail "binOp: this kind"
  where
  eqGuardA (t : TypeId) (x y : Value) : D Unit := match x, y with
    | .agg _, .agg _ => bif Op.eqGuardNot P t then D.pure () else D.fail "eqGuard"
    | .nilIface, .nilIface => bif cst then D.pure () else D.fail "eqGuard: two nil interfaces"
    | _, _ => D.pure ()
  Op.eqGuardNot (P : Program) (t : TypeId) : Bool := !P.eqGuardType P.depth t

def binInt (cst : Bool) (op : BinOp) (t : TypeId) (k : IntKind) (a : Int) (k' : IntKind) (b : Int) : D Value := match op with
  | .add => if k = k' then wrapA k (a + b) fun n => D.pure (.int k n) else D.fail "kinds"
  | .sub => if k = k' then wrapA k (a - b) fun n => D.pure (.int k n) else D.fail "kinds"
  | .eql => if k = k' then D.pure (.bool (a == b)) else D.fail "kinds"
  | .neq => if k = k' then D.pure (.bool (a != b)) else D.fail "kinds"
  | .lss => if k = k' then D.pure (.bool (decide (a < b))) else D.fail "kinds"
  | .leq => if k = k' then D.pure (.bool (decide (a ≤ b))) else D.fail "kinds"
  | .gtr => if k = k' then D.pure (.bool (decide (a > b))) else D.fail "kinds"
  | .geq => if k = k' then D.pure (.bool (decide (a ≥ b))) else D.fail "kinds"
  | op => binA0 P cst op t (.int k a) (.int k' b)

def binA (cst : Bool) (op : BinOp) (t : TypeId) (x y : Value) : D Value := match x with
  | .int k a => match y with
    | .int k' b => binInt P cst op t k a k' b
    | y => binA0 P cst op t (.int k a) y
  | x => binA0 P cst op t x y

def boundA (v : Option Value) (dflt hi : Nat) : D Nat := match v with
  | none => D.pure dflt
  | some (.int _ i) => bif decide (0 ≤ i) && decide (i ≤ (hi : Int)) then fnat i.toNat fun n => D.pure n else D.fail "slice: bounds"
  | some _ => D.fail "slice: int expected"

def shiftAddr (a : Addr) (n : Nat) : Addr := a.add n

def sliceA (t : TypeId) (x : Value) (lo hi mx : Option Value) : D Value :=
  D.bind (descOf P t) fun desc => match desc, x with
  | .string, .string s => match mx with
    | some _ => D.fail "slice: of a string"
    | none => D.bind (boundA hi (bs s).length (bs s).length) fun h => D.bind (boundA lo 0 h) fun l => vstr (((bs s).drop l).take (h - l))
  | .slice elem, .slice a len cap => D.bind (infoOf P elem) fun i => bif Nat.beq i.size 0 then D.fail "slice: of nothing" else
    bif Nat.beq cap (capU + i.size) then
      match mx, a with
      | none, some ⟨b, off, none⟩ => D.bind (boundA hi len len) fun h => D.bind (boundA lo 0 h) fun l =>
          fnat (off + l * i.size) fun off => fnat (h - l) fun n => D.pure (.slice (some ⟨b, off, none⟩) n cap)
      | some _, some ⟨b, off, none⟩ => bif hi.isNone then D.fail "slice: max without high" else D.bind (boundA mx len len) fun m => D.bind (boundA hi len m) fun h => D.bind (boundA lo 0 h) fun l =>
          bif !Nat.blt m 18446744073709551616 then D.fail "slice: too long" else fnat (if m = l then off else off + l * i.size) fun off => fnat (h - l) fun n => fnat (m - l) fun c => D.pure (.slice (some ⟨b, off, none⟩) n c)
      | _, _ => D.fail "slice: capU of nil"
    else bif !Nat.blt cap capU then D.fail "slice: capacity" else match hi, mx with
      | none, some _ => D.fail "slice: max without high"
      | _, _ => D.bind (boundA mx cap cap) fun m => D.bind (boundA hi len m) fun h => D.bind (boundA lo 0 h) fun l =>
        match a with
        | none => fnat (h - l) fun n => fnat (m - l) fun c => D.pure (.slice none n c)
        | some ⟨b, off, none⟩ => fnat (if m = l then off else off + l * i.size) fun off => fnat (h - l) fun n => fnat (m - l) fun c => D.pure (.slice (some ⟨b, off, none⟩) n c)
        | _ => D.fail "slice: spot"
  | .array n elem, .pointer (some ⟨b, off, none⟩) => D.bind (infoOf P elem) fun i => match mx with
    | some _ => D.fail "slice: array, max"
    | none => D.bind (boundA hi n n) fun h => D.bind (boundA lo 0 h) fun l =>
      bif !Nat.blt n 18446744073709551616 then D.fail "slice: too long" else fnat (if n = l then off else off + l * i.size) fun off => fnat (h - l) fun k => fnat (n - l) fun c => D.pure (.slice (some ⟨b, off, none⟩) k c)
  | _, _ => D.fail "slice: this kind"

def fillA (place : Nat → Option (Nat × Nat)) (cells : List Value) : List (Nat × Value) → Option (List Value)
  | [] => some cells
  | (i, v) :: rest => match place i with
    | none => none
    | some (off, size) =>
      bif Nat.beq v.cells.toList.length size && Nat.ble (off + size) cells.length && v.cells.toList.all isCell then setList cells off v.cells.toList fun c => fillA place c rest else none

def sizesOf : List Field → Option (List (Nat × Nat))
  | [] => some []
  | f :: fs => match infoK P f.type, sizesOf fs with
    | some i, some r => some ((f.offset, i.size) :: r)
    | _, _ => none

def buildA (t : TypeId) (parts : List (Nat × Value)) : D Value :=
  D.bind (zeroOf P t) fun z => D.bind (descOf P t) fun
  | .struct fields => match sizesOf P fields.toList with
    | some places => match fillA (places[·]?) z.cells.toList parts with
      | some c => D.pure (.agg c.toArray)
      | none => D.fail "build"
    | none => D.fail "build: sizes"
  | .array _ elem => D.bind (infoOf P elem) fun i => match fillA (fun j => some (j * i.size, i.size)) z.cells.toList parts with
    | some c => D.pure (.agg c.toArray)
    | none => D.fail "build"
  | _ => D.fail "build: this kind"

def replA (z : List Value) : Nat → List Value
  | 0 => []
  | n + 1 => z ++ replA z n

def buildSliceA (t : TypeId) (len : Nat) (parts : List (Nat × Value)) : D Value :=
  D.bind (descOf P t) fun
  | .slice elem => D.bind (infoOf P elem) fun i => D.bind (zeroOf P elem) fun z =>
    bif Nat.ble (len * i.size) 65536 && Nat.beq z.cells.toList.length i.size && Nat.ble len 65536 then
      match fillA (fun j => some (j * i.size, i.size)) (replA z.cells.toList len) parts with
      | some c => D.bind (newB (.cells c elem false false)) fun id => D.pure (.slice (some ⟨id, 0, none⟩) len len)
      | none => D.fail "buildSlice"
    else D.fail "buildSlice: too long"
  | _ => D.fail "buildSlice: this kind"

def makeSliceA (t : TypeId) (len cap : Value) : D Value :=
  D.bind (descOf P t) fun
  | .slice elem => D.bind (infoOf P elem) fun i => D.bind (zeroOf P elem) fun z => match len, cap with
    | .int .i64 l, .int .i64 c => bif decide (0 ≤ l) && decide (l ≤ c) && decide (c ≤ 65536) && Nat.ble i.bytes 65536 && Nat.beq z.cells.toList.length i.size && !Nat.beq i.size 0 then
        fnat l.toNat fun l => fnat c.toNat fun c => D.bind (newB (.cells (replA z.cells.toList c) elem false false)) fun id => D.pure (.slice (some ⟨id, 0, none⟩) l c)
      else D.fail "makeSlice: sizes"
    | _, _ => D.fail "makeSlice: ints"
  | _ => D.fail "makeSlice: this kind"

/-- the first cells of what is appended -/
def firstA (size n : Nat) : Value → D (List Value)
  | .slice (some ⟨b, off, none⟩) _ _ => D.bind (cellsB b) fun (c, _, _, _) => match window c off (n * size) with
    | some r => D.pure r
    | none => D.fail "append: source"
  | .slice none _ _ => D.pure []
  | .string s => D.pure (((bs s).take n).map fun b => .int .u8 b.toNat)
  | _ => D.fail "append: source"

def lenA : Value → D Nat
  | .slice _ n _ => D.pure n
  | .string s => D.pure (bs s).length
  | _ => D.fail "append: source"

def isIntT (t : TypeId) : Bool := match undK P t with
  | some (.int _) => true
  | some _ => false
  | none => true

def appendA (argTypes : Array TypeId) (s x : Value) : D Value :=
  match argTypes.toList, s with
  | [sT, xT], .slice base sLen sCap => D.bind (descOf P sT) fun
    | .slice elem => D.bind (infoOf P elem) fun i => D.bind (zeroOf P elem) fun z =>
      bif isIntT P xT || Nat.beq i.size 0 || Nat.beq i.bytes 0 || !Nat.ble i.bytes 65536 || !Nat.beq z.cells.toList.length i.size then D.fail "append: of zeros" else
      fnat (capU + i.size) fun U =>
      bif !(Nat.beq sCap U) && !(Nat.blt sCap 18446744073709551616 && Nat.ble sLen sCap) then D.fail "append: capacity" else
      D.bind (lenA x) fun n => bif Nat.beq n 0 then D.pure s else D.bind (firstA i.size n x) fun new =>
        fnat (sLen + n) fun need => bif !Nat.ble need 65536 || !(new.all isCell) || !Nat.beq new.length (n * i.size) then D.fail "append: too long" else
        match base with
        | none => bif Nat.beq sLen 0 && Nat.beq sCap 0 then D.bind (newB (.cells new elem false true)) fun id => D.pure (.slice (some ⟨id, 0, none⟩) need U) else D.fail "append: nil"
        | some ⟨b, off, none⟩ => D.bind (cellsB b) fun (c, e, _, _) =>
          bif (!Nat.beq sCap U && Nat.ble need sCap) || (Nat.beq sCap U && Nat.ble (off + need * i.size) c.length) then
            D.bind (storeCellsA b (off + sLen * i.size) new) fun _ => D.pure (.slice (some ⟨b, off, none⟩) need sCap)
          else match window c off (sLen * i.size) with
            | none => D.fail "append: window"
            | some old => forceL (old ++ new) fun all => bif Nat.beq sCap U then
                bif Nat.beq e elem then D.bind (killB b) fun _ => D.bind (newB (.cells all elem false true)) fun id => D.pure (.slice (some ⟨id, 0, none⟩) need U) else D.fail "append: a row of another type"
              else D.bind (newB (.cells all elem false true)) fun id => D.pure (.slice (some ⟨id, 0, none⟩) need U)
        | _ => D.fail "append: spot"
    | _ => D.fail "append: this kind"
  | _, _ => D.fail "append: arguments"

/-- a key's place among entries -/
def findA (desc : TypeDesc) (k : Value) : List MapEntry → Nat → Option (Option (Nat × Value))
  | [], _ => some none
  | e :: es, i => match desc, k, e.key with
    | .int _, .int j a, .int j' b => if j = j' then (bif a == b then some (some (i, e.val)) else findA desc k es (i + 1)) else none
    | .string, .string a, .string b => bif beqBytes (bs a) (bs b) then some (some (i, e.val)) else findA desc k es (i + 1)
    | .bool, .bool a, .bool b => bif a == b then some (some (i, e.val)) else findA desc k es (i + 1)
    | _, _, _ => none

/-- a key of a kind that may be asked without a look into it -/
def keyOk (desc : TypeDesc) (k : Value) : Bool := match desc, k with
  | .int _, .int _ _ | .string, .string _ | .bool, .bool _ => true
  | .struct fs, .agg cs => keyFields cs.toList.length fs.toList
  | _, _ => false
  where
  keyFields (n : Nat) : List Field → Bool
  | [] => true
  | f :: fs => (match undK P f.type with | some (.int _) | some .string | some .bool => Nat.blt f.offset n | _ => false) && keyFields n fs

def keyDesc (t : TypeId) : D TypeDesc := D.bind (descOf P t) fun
  | .map k _ => descOf P k
  | _ => D.fail "map type expected"

def entriesA (m : Value) : D (List MapEntry × Nat) := match m with
  | .map none => D.pure ([], 0)
  | .map (some r) => D.bind (objB r) fun
    | .map es clock => D.pure (es.toList, clock)
    | _ => D.fail "map expected"
  | _ => D.fail "map expected"

def lookupA (t : TypeId) (m k : Value) (ok : Bool) : D Value :=
  D.bind (descOf P t) fun
  | .map kt et => D.bind (descOf P kt) fun kd => D.bind (entriesA m) fun (es, _) =>
    bif keyOk P kd k then match findA kd k es 0 with
      | some (some (_, v)) => D.pure (if ok then .tuple #[v, .bool true] else v)
      | some none => D.bind (zeroOf P et) fun z => D.pure (if ok then .tuple #[z, .bool false] else z)
      | none => D.fail "lookup: keys"
    else D.fail "lookup: key"
  | _ => D.fail "lookup: map type expected"

def modA {α β : Type} : List α → Nat → (α → α) → (List α → β) → β
  | [], _, _, k => k []
  | x :: l, 0, f, k => k (f x :: l)
  | x :: l, i + 1, f, k => modA l i f fun l => k (x :: l)

def mapUpdateA (t : TypeId) (m k v : Value) : D Unit :=
  D.bind (descOf P t) fun
  | .map kt _ => D.bind (descOf P kt) fun kd => match m with
    | .map (some r) => D.bind (objB r) fun
      | .map es clock => bif keyOk P kd k then match findA kd k es.toList 0 with
          | some (some (i, _)) => modA es.toList i (fun e => { e with key := k, val := v }) fun es => putB r (.obj (.map es.toArray clock))
          | some none => forceL (es.toList ++ [{ key := k, val := v, born := clock }]) fun es => fnat (clock + 1) fun clock => putB r (.obj (.map es.toArray clock))
          | none => D.fail "mapUpdate: keys"
        else D.fail "mapUpdate: key"
      | _ => D.fail "mapUpdate: map expected"
    | _ => D.fail "mapUpdate: nil"
  | _ => D.fail "mapUpdate: map type expected"

def mapEntryA (t : TypeId) (m k : Value) : D Value :=
  D.bind (descOf P t) fun
  | .map kt et => D.bind (descOf P kt) fun kd => match m with
    | .map (some r) => D.bind (objB r) fun
      | .map es clock => bif keyOk P kd k then match findA kd k es.toList 0 with
          | some (some (i, v)) => modA es.toList i (fun e => { e with key := k }) fun es' => D.bind (putB r (.obj (.map es'.toArray clock))) fun _ =>
              match es.toList[i]? with
              | some e => D.pure (.tuple #[v, .int .i64 e.born])
              | none => D.fail "mapEntry"
          | some none => D.bind (zeroOf P et) fun z => forceL (es.toList ++ [{ key := k, val := z, born := clock }]) fun es => fnat (clock + 1) fun clock' =>
              D.bind (putB r (.obj (.map es.toArray clock'))) fun _ => D.pure (.tuple #[z, .int .i64 clock])
          | none => D.fail "mapEntry: keys"
        else D.fail "mapEntry: key"
      | _ => D.fail "mapEntry: map expected"
    | _ => D.fail "mapEntry: nil"
  | _ => D.fail "mapEntry: map type expected"

def findIdx {α : Type} (p : α → Bool) : List α → Nat → Option Nat
  | [], _ => none
  | x :: l, i => bif p x then some i else findIdx p l (i + 1)

def entryStoreA (m stamp v : Value) : D Unit := match m, stamp with
  | .map (some r), .int _ born => D.bind (objB r) fun
    | .map es clock => match findIdx (fun e => (e.born : Int) == born) es.toList 0 with
      | some i => modA es.toList i (fun e => { e with val := v }) fun es => putB r (.obj (.map es.toArray clock))
      | none => D.fail "entryStore: gone"
    | _ => D.fail "entryStore: map expected"
  | _, _ => D.fail "entryStore"

def eraseA {α : Type} : List α → Nat → List α
  | [], _ => []
  | _ :: l, 0 => l
  | x :: l, i + 1 => x :: eraseA l i

def deleteA (t : TypeId) (m k : Value) : D Value :=
  D.bind (keyDesc P t) fun kd => match m with
    | .map none => bif keyOk P kd k then D.pure (.tuple #[]) else D.fail "delete: key"
    | .map (some r) => D.bind (objB r) fun
      | .map es clock => bif keyOk P kd k then match findA kd k es.toList 0 with
          | some (some (i, _)) => forceL (eraseA es.toList i) fun es => D.bind (putB r (.obj (.map es.toArray clock))) fun _ => D.pure (.tuple #[])
          | some none => D.bind (putB r (.obj (.map es clock))) fun _ => D.pure (.tuple #[])
          | none => D.fail "delete: keys"
        else D.fail "delete: key"
      | _ => D.fail "delete: map expected"
    | _ => D.fail "delete"

def lenOfA (t : TypeId) (x : Value) : D Value := D.bind (descOf P t) fun desc => match desc, x with
  | .string, .string s => fnat (bs s).length fun n => D.pure (.int .i64 n)
  | .array n _, _ => D.pure (.int .i64 n)
  | .slice _, .slice _ n _ => D.pure (.int .i64 n)
  | .map _ _, .map none => D.pure (.int .i64 0)
  | .map _ _, .map (some r) => D.bind (objB r) fun
    | .map es _ => fnat es.toList.length fun n => D.pure (.int .i64 n)
    | _ => D.fail "len: map expected"
  | _, _ => D.fail "len: this kind"

def minA : Bool → Value → List Value → D Value
  | _, x, [] => D.pure x
  | mx, .int k a, .int _ b :: rest => minA mx (.int k (if mx then (if b > a then b else a) else (if b < a then b else a))) rest
  | _, _, _ => D.fail "min, max"

def bytesOfCells : List Value → Option (List UInt8)
  | [] => some []
  | .int .u8 n :: l => match bytesOfCells l with
    | some r => some (UInt8.ofNat n.toNat :: r)
    | none => none
  | _ => none

def convertA (src dst : TypeId) (x : Value) : D Value :=
  D.bind (descOf P src) fun sd => D.bind (descOf P dst) fun dd => match sd, dd, x with
  | _, .int k, .int _ n => wrapA k n fun n => D.pure (.int k n)
  | _, .string, .int _ n => vstr (bs (Utf8.encode n))
  | _, .string, .string _ => D.pure x
  | _, .slice e, .string s => D.bind (descOf P e) fun
    | .int .u8 => bif Nat.ble (bs s).length 65536 then D.bind (newB (.cells ((bs s).map fun b => .int .u8 b.toNat) e true true)) fun id => fnat (bs s).length fun n => D.pure (.slice (some ⟨id, 0, none⟩) n (capU + 1)) else D.fail "convert: too long"
    | _ => D.fail "convert: string to a slice of what?"
  | .slice _, .slice e, .slice (some ⟨b, _, none⟩) len _ => D.bind (descOf P e) fun
    | .int .u8 => bif Nat.beq src dst && Nat.blt 0 len then D.bind (cellsB b) fun (c, el, _, o) => D.bind (putB b (.cells c el true o)) fun _ => D.pure x else D.fail "convert: other"
    | _ => D.fail "convert: other"
  | .slice e, .string, .slice a len _ => D.bind (descOf P e) fun
    | .int .u8 => match a with
      | none => D.pure (.string ⟨⟨[]⟩⟩)
      | some ⟨b, off, none⟩ => D.bind (cellsB b) fun (c, _, _, _) => match window c off len with
        | some r => match bytesOfCells r with
          | some l => vstr l
          | none => D.fail "convert: bytes"
        | none => D.fail "convert: no such cells"
      | _ => D.fail "convert: spot"
    | _ => D.fail "convert: a slice of what to string?"
  | _, _, _ => D.fail "convert: this kind"

def partA (t : TypeId) (cs : List Value) (off : Nat) : D Value := D.bind (aggB P t) fun
  | true => D.bind (infoOf P t) fun i => D.pure (.agg ((cs.drop off).take i.size).toArray)
  | false => match cs[off]? with
    | some v => D.pure v
    | none => D.fail "part: no such cell"

/-- what an operation comes to -/
inductive AR where
  | value (v : Value)
  | enter (f : FuncId) (args : List Value)
  | round (l : Nat) (f : FuncId) (tmps : List Value) (assign body : Code)
  | dfr (d : Deferred)
  | recover
  | panic (v : Value)
  /-- one of these -/
  | oneOf (l : List (Value × AObj)) (iter : Nat)

def setArgs : List Value → List (Tmp × Value) → List Value
  | t, [] => t
  | t, (i, v) :: r => setArgs (t.set i v) r

def externA (name : String) (args : List Value) : D AR := match args with
  | [.string s, .int .u8 c] => bif name == "internal/bytealg.IndexByteString" && Nat.blt c.toNat 256 then
      (match findIdx (fun b => Nat.beq b.toNat c.toNat) (bs s) 0 with
      | some i => D.pure (.value (.int .i64 i))
      | none => D.pure (.value (.int .i64 (-1)))) else D.fail "extern"
  | _ => D.fail "extern"

def callFn (f : FuncId) (args : List Value) : D AR := match funcK P f with
  | some fn => match fn.body with
    | some _ => bif fn.name == "runtime.NumGoroutine" then D.fail "NumGoroutine" else D.pure (.enter f args)
    | none => bif fn.origin == "" then externA fn.name args else D.fail "extern: generic"
  | none => D.fail "no such function"

def invokeA (t : Target) (args : List Value) : D AR := match t with
  | .fn (.func f) captured => callFn P f (args ++ captured.toList)
  | .fn (.yield l) _ => D.bind (objB l) fun
    | .loop r => bif Nat.beq args.length r.params.size then D.pure (.round l r.fn (setArgs r.tmps.toList (r.params.toList.zip args)) r.assign r.body) else D.fail "yield: arguments"
    | _ => D.fail "yield: no loop"
  | _ => D.fail "call: this target"

def builtinA (b : Builtin) (argTypes : Array TypeId) (args : List Value) : D AR :=
  let v (m : D Value) : D AR := D.bind m fun x => D.pure (.value x)
  match b, args with
  | .append, [s, x] => v (appendA P argTypes s x)
  | .len, [x] => match argTypes[0]? with
    | some t => v (lenOfA P t x)
    | none => D.fail "len"
  | .delete, [m, k] => match argTypes[0]? with
    | some t => v (deleteA P t m k)
    | none => D.fail "delete"
  | .min, x :: rest => v (minA false x rest)
  | .max, x :: rest => v (minA true x rest)
  | .panic, [.iface t x] => D.pure (.panic (.iface t x))
  | .recover, _ => D.pure .recover
  | _, _ => D.fail "builtin"

def resolveA (ev : Operand → Value) (c : Call) : D (Target × List Value) :=
  match c.callee with
  | .builtin _ => D.fail "resolve: builtin"
  | .invoke _ _ => D.fail "resolve: invoke"
  | .value f => match ev f with
    | .func fn first captured => D.pure (.fn fn captured, first.toList ++ c.args.toList.map ev)
    | _ => D.fail "resolve: function expected"

def nextA (iter : Value) (isString : Bool) : D AR := match iter with
  | .pointer (some ⟨r, 0, none⟩) => D.bind (objB r) fun o => match o, isString with
    | .stringIter s pos, true => bif Nat.blt pos (bs s).length then
        match Utf8.decode s pos with
        | (c, w) => fnat (pos + w) fun p' => fnat c fun c => D.bind (putB r (.obj (.stringIter s p'))) fun _ => D.pure (.value (.tuple #[.bool true, .int .i64 pos, .int .i32 c]))
      else D.pure (.value (.tuple #[.bool false]))
    | .mapIter none _ _ _, false => D.pure (.value (.tuple #[.bool false]))
    | .mapIter (some m) since seen last, false => D.bind (objB m) fun
      | .map es clock =>
        bif !seen.toList.isEmpty && !es.toList.isEmpty && es.toList.all (fun e => Nat.ble last e.born) then D.fail "next: all gone" else
        let left := es.toList.filter fun e => !seen.toList.any (Nat.beq e.born)
        let old := left.filter fun e => Nat.blt e.born since
        let new := left.filter fun e => !Nat.blt e.born since
        match old, new with
        | [], [] => D.pure (.value (.tuple #[.bool false]))
        | [e], [] => D.bind (putB r (.obj (.mapIter (some m) since (seen.toList ++ [e.born]).toArray clock))) fun _ => D.pure (.value (.tuple #[.bool true, e.key, e.val]))
        | old, [] => D.pure (.oneOf (old.map fun e => (.tuple #[.bool true, e.key, e.val], .obj (.mapIter (some m) since (seen.toList ++ [e.born]).toArray clock))) r)
        | _, _ => D.fail "next: new entries"
      | _ => D.fail "next: map expected"
    | _, _ => D.fail "next: iterator of the other kind"
  | _ => D.fail "next: iterator expected"

def entryA (iter : Value) : D Value := match iter with
  | .pointer (some ⟨r, 0, none⟩) => D.bind (objB r) fun
    | .mapIter (some m) _ seen stepped => match seen.toList.getLast? with
      | some stamp => D.bind (objB m) fun
        | .map es clock => bif Nat.beq clock stepped then match es.toList.find? (fun e => Nat.beq e.born stamp) with
            | some e => D.pure (.tuple #[e.key, e.val])
            | none => D.fail "entry: removed"
          else D.fail "entry: clock"
        | _ => D.fail "entry"
      | none => D.fail "entry"
    | _ => D.fail "entry"
  | _ => D.fail "entry"

def rangeA (t : TypeId) (x : Value) : D Value := D.bind (descOf P t) fun desc => match desc, x with
  | .string, .string s => D.bind (newB (.obj (.stringIter s 0))) fun id => D.pure (.pointer (some ⟨id, 0, none⟩))
  | .map _ _, .map none => D.bind (newB (.obj (.mapIter none 0 #[] 0))) fun id => D.pure (.pointer (some ⟨id, 0, none⟩))
  | .map _ _, .map (some m) => D.bind (objB m) fun
    | .map _ clock => D.bind (newB (.obj (.mapIter (some m) clock #[] clock))) fun id => D.pure (.pointer (some ⟨id, 0, none⟩))
    | _ => D.fail "range"
  | _, _ => D.fail "range"

def vD (m : D Value) : D AR := D.bind m fun x => D.pure (.value x)
def uD (m : D Unit) : D AR := D.bind m fun _ => D.pure (.value undef)

def oPick (ev : Operand → Value) (c a b : Operand) : D AR := match ev c with
  | .bool true => D.pure (.value (ev a))
  | .bool false => D.pure (.value (ev b))
  | _ => D.fail "pick"
def oAlloc (t : TypeId) : D AR := vD (D.bind (zeroOf P t) fun z => newVarA t z)
def oBox (ev : Operand → Value) (t : TypeId) (x : Operand) : D AR := vD (newVarA t (ev x))
def oBuild (ev : Operand → Value) (t : TypeId) (parts : Array (Nat × Operand)) : D AR := vD (buildA P t (parts.toList.map fun (i, x) => (i, ev x)))
def oBuildSlice (ev : Operand → Value) (t : TypeId) (len : Nat) (parts : Array (Nat × Operand)) : D AR := vD (buildSliceA P t len (parts.toList.map fun (i, x) => (i, ev x)))
def oLoad (ev : Operand → Value) (t : TypeId) (a : Operand) : D AR := vD (D.bind (addrOf (ev a)) fun (b, off) => loadA P t b off)
def oStore (ev : Operand → Value) (t : TypeId) (a x : Operand) : D AR := uD (D.bind (addrOf (ev a)) fun (b, off) => storeA P t b off (ev x))
def oNilCheck (ev : Operand → Value) (x : Operand) : D AR := match ev x with
  | .pointer (some a) => D.pure (.value (.pointer (some a)))
  | .func (.func f) a c => D.pure (.value (.func (.func f) a c))
  | .func (.yield f) a c => D.pure (.value (.func (.yield f) a c))
  | .iface t x => D.pure (.value (.iface t x))
  | .map m => D.pure (.value (.map m))
  | .slice a l c => D.pure (.value (.slice a l c))
  | _ => D.fail "nilCheck"
def oBinOp (ev : Operand → Value) (op : BinOp) (t : TypeId) (x y : Operand) : D AR := vD (binA P ((x matches .const _) || (y matches .const _)) op t (ev x) (ev y))
def oUnOp (ev : Operand → Value) (op : UnOp) (x : Operand) : D AR := match op with
  | .not => match ev x with
    | .bool b => D.pure (.value (.bool (!b)))
    | _ => D.fail "not"
  | .neg => match ev x with
    | .int k n => wrapA k (0 - n) fun n => D.pure (.value (.int k n))
    | _ => D.fail "neg"
  | _ => D.fail "unOp"
def oConvert (ev : Operand → Value) (s d : TypeId) (x : Operand) : D AR := vD (convertA P s d (ev x))
def oMakeInterface (ev : Operand → Value) (t : TypeId) (x : Operand) : D AR := match undK P t with
  | some (.interface _) | none => D.fail "makeInterface"
  | some _ => D.pure (.value (.iface t (ev x)))
def oMakeFunc (ev : Operand → Value) (fn : Fn) (first captured : Array Operand) : D AR := match fn with
  | .func f => D.pure (.value (.func (.func f) (first.toList.map ev).toArray (captured.toList.map ev).toArray))
  | _ => D.fail "makeFunc"
def oMakeMap (ev : Operand → Value) (t : TypeId) (r : Option Operand) : D AR := match r with
  | none => vD (D.bind (newB (.obj (.map #[] 0))) fun id => D.pure (.map (some id)))
  | some h => match ev h, undK P t with
    | .int _ _, some (.map _ _) => vD (D.bind (newB (.obj (.map #[] 0))) fun id => D.pure (.map (some id)))
    | _, _ => D.fail "makeMap"
def oMakeSlice (ev : Operand → Value) (t : TypeId) (l c : Operand) : D AR := vD (makeSliceA P t (ev l) (ev c))
def oSlice (ev : Operand → Value) (t : TypeId) (x : Operand) (lo hi mx : Option Operand) : D AR := vD (sliceA P t (ev x) (lo.map ev) (hi.map ev) (mx.map ev))
def oFieldAddr (ev : Operand → Value) (s : TypeId) (x : Operand) (f : Nat) : D AR := vD (D.bind (descOf P s) fun
  | .struct fields => match fields[f]? with
    | some fd => D.bind (addrOf (ev x)) fun (b, off) => D.bind (infoOf P fd.type) fun i => bif Nat.beq i.size 0 then D.fail "fieldAddr: size 0" else
        fnat (off + fd.offset) fun off => D.pure (.pointer (some ⟨b, off, none⟩))
    | none => D.fail "fieldAddr"
  | _ => D.fail "fieldAddr")
def oField (ev : Operand → Value) (t : TypeId) (x : Operand) (f : Nat) : D AR := match ev x with
  | .agg cs => vD (D.bind (descOf P t) fun
    | .struct fields => match fields[f]? with
      | some fd => partA P fd.type cs.toList fd.offset
      | none => D.fail "field"
    | _ => D.fail "field")
  | _ => D.fail "field"
def oIndexAddr (ev : Operand → Value) (t : TypeId) (x ix : Operand) : D AR := vD (D.bind (descOf P t) fun desc => match desc, ev x, ev ix with
  | .slice elem, .slice (some ⟨b, off, none⟩) len _, .int _ i => bif decide (0 ≤ i) && decide (i < (len : Int)) then
      D.bind (infoOf P elem) fun e => fnat (off + i.toNat * e.size) fun off => D.pure (.pointer (some ⟨b, off, none⟩)) else D.fail "indexAddr: bounds"
  | .array len elem, .pointer (some ⟨b, off, none⟩), .int _ i => bif decide (0 ≤ i) && decide (i < (len : Int)) then
      D.bind (infoOf P elem) fun e => fnat (off + i.toNat * e.size) fun off => D.pure (.pointer (some ⟨b, off, none⟩)) else D.fail "indexAddr: bounds"
  | _, _, _ => D.fail "indexAddr")
def oIndex (ev : Operand → Value) (t : TypeId) (x ix : Operand) : D AR := vD (D.bind (descOf P t) fun desc => match desc, ev x, ev ix with
  | .string, .string s, .int _ i => bif decide (0 ≤ i) then match (bs s)[i.toNat]? with
      | some b => fnat b.toNat fun n => D.pure (.int .u8 n)
      | none => D.fail "index: bounds" else D.fail "index: bounds"
  | .array len elem, .agg cs, .int _ i => bif decide (0 ≤ i) && decide (i < (len : Int)) then
      D.bind (infoOf P elem) fun e => partA P elem cs.toList (i.toNat * e.size) else D.fail "index: bounds"
  | _, _, _ => D.fail "index")
def oLookup (ev : Operand → Value) (t : TypeId) (x ix : Operand) (ok : Bool) : D AR := vD (lookupA P t (ev x) (ev ix) ok)
def oMapUpdate (ev : Operand → Value) (t : TypeId) (m k x : Operand) : D AR := uD (mapUpdateA P t (ev m) (ev k) (ev x))
def oMapEntry (ev : Operand → Value) (t : TypeId) (m k : Operand) : D AR := vD (mapEntryA P t (ev m) (ev k))
def oEntryStore (ev : Operand → Value) (m s x : Operand) : D AR := uD (entryStoreA (ev m) (ev s) (ev x))
def oRange (ev : Operand → Value) (t : TypeId) (x : Operand) : D AR := vD (rangeA P t (ev x))
def oEntry (ev : Operand → Value) (it : Operand) : D AR := vD (entryA (ev it))
def oTypeAssert (ev : Operand → Value) (x : Operand) (asserted : TypeId) (ok : Bool) : D AR := match undK P asserted, ev x with
  | some (.interface _), _ | none, _ => D.fail "typeAssert: interface"
  | some _, .iface t w => if t = asserted then D.pure (.value (if ok then .tuple #[w, .bool true] else w)) else
      (if ok then vD (D.bind (zeroOf P asserted) fun z => D.pure (.tuple #[z, .bool false])) else D.fail "typeAssert: fails")
  | _, _ => D.fail "typeAssert"
def oExtract (ev : Operand → Value) (t : Operand) (i : Nat) : D AR := match ev t with
  | .tuple vs => match vs.toList[i]? with
    | some x => D.pure (.value x)
    | none => D.fail "extract"
  | _ => D.fail "extract"
def oCall (ev : Operand → Value) (c : Call) : D AR := match c.callee with
  | .builtin b => builtinA P b c.argTypes (c.args.toList.map ev)
  | .value _ => D.bind (resolveA ev c) fun (t, args) => invokeA P t args
  | .invoke _ _ => D.fail "invoke"
def oDefer (ev : Operand → Value) (c : Call) : D AR := match c.callee with
  | .value _ => D.bind (resolveA ev c) fun (t, args) => D.pure (.dfr { target := t, args := args.toArray })
  | _ => D.fail "defer"
def oPanic (ev : Operand → Value) (x : Operand) : D AR := match ev x with
  | .iface t y => D.pure (.panic (.iface t y))
  | _ => D.fail "panic"

/-- what is found once of an operation -/
structure OpBox where
  g : (Operand → Value) → D AR

def opBox (o : Oper) : OpBox :=
  match o.op with
  | .move x => ⟨fun ev => D.pure (.value (ev x))⟩
  | .assign x => ⟨fun ev => D.pure (.value (ev x))⟩
  | .pick c a b => ⟨fun ev => oPick ev c a b⟩
  | .alloc t => ⟨fun _ => oAlloc P t⟩
  | .box t x => ⟨fun ev => oBox ev t x⟩
  | .build t parts => ⟨fun ev => oBuild P ev t parts⟩
  | .buildSlice t len parts => ⟨fun ev => oBuildSlice P ev t len parts⟩
  | .load t a => ⟨fun ev => oLoad P ev t a⟩
  | .store t a x => ⟨fun ev => oStore P ev t a x⟩
  | .nilCheck x => ⟨fun ev => oNilCheck ev x⟩
  | .binOp op t x y _ => ⟨fun ev => oBinOp P ev op t x y⟩
  | .unOp op _ x => ⟨fun ev => oUnOp ev op x⟩
  | .convert s d x => ⟨fun ev => oConvert P ev s d x⟩
  | .makeInterface t x => ⟨fun ev => oMakeInterface P ev t x⟩
  | .makeFunc fn first captured => ⟨fun ev => oMakeFunc ev fn first captured⟩
  | .makeMap t r => ⟨fun ev => oMakeMap P ev t r⟩
  | .makeSlice t l c => ⟨fun ev => oMakeSlice P ev t l c⟩
  | .slice t x lo hi mx => ⟨fun ev => oSlice P ev t x lo hi mx⟩
  | .fieldAddr s x f => ⟨fun ev => oFieldAddr P ev s x f⟩
  | .field t x f => ⟨fun ev => oField P ev t x f⟩
  | .indexAddr t x ix => ⟨fun ev => oIndexAddr P ev t x ix⟩
  | .index t x ix => ⟨fun ev => oIndex P ev t x ix⟩
  | .lookup t x ix ok => ⟨fun ev => oLookup P ev t x ix ok⟩
  | .mapUpdate t m k x => ⟨fun ev => oMapUpdate P ev t m k x⟩
  | .insert t m k x => ⟨fun ev => oMapUpdate P ev t m k x⟩
  | .mapEntry t m k => ⟨fun ev => oMapEntry P ev t m k⟩
  | .entryStore _ m s x => ⟨fun ev => oEntryStore ev m s x⟩
  | .range t x => ⟨fun ev => oRange P ev t x⟩
  | .next it isString => ⟨fun ev => nextA (ev it) isString⟩
  | .entry it => ⟨fun ev => oEntry ev it⟩
  | .typeAssert x _ asserted ok => ⟨fun ev => oTypeAssert P ev x asserted ok⟩
  | .extract t i => ⟨fun ev => oExtract ev t i⟩
  | .call c => ⟨fun ev => oCall P ev c⟩
  | .defer c => ⟨fun ev => oDefer ev c⟩
  | .panic x => ⟨fun ev => oPanic ev x⟩
  | _ => ⟨fun _ => D.fail "op"⟩

def opA (ev : Operand → Value) (o : Oper) : D AR := Op.rec (motive := fun _ => Program → (Operand → Value) → D AR)
  (fun x _ ev => D.pure (.value (ev x)))
  (fun x _ ev => D.pure (.value (ev x)))
  (fun c a b _ ev => oPick ev c a b)
  (fun t P _ => oAlloc P t)
  (fun t x _ ev => oBox ev t x)
  (fun t parts P ev => oBuild P ev t parts)
  (fun t len parts P ev => oBuildSlice P ev t len parts)
  (fun t m k x P ev => oMapUpdate P ev t m k x)
  (fun t a P ev => oLoad P ev t a)
  (fun t a x P ev => oStore P ev t a x)
  (fun _ _ _ => D.fail "op")
  (fun _ _ _ => D.fail "op")
  (fun x _ ev => oNilCheck ev x)
  (fun op t x y _ P ev => oBinOp P ev op t x y)
  (fun op _ x _ ev => oUnOp ev op x)
  (fun s d x P ev => oConvert P ev s d x)
  (fun _ _ _ _ => D.fail "op")
  (fun t x P ev => oMakeInterface P ev t x)
  (fun fn first captured _ ev => oMakeFunc ev fn first captured)
  (fun t r P ev => oMakeMap P ev t r)
  (fun _ _ _ _ => D.fail "op")
  (fun t l c P ev => oMakeSlice P ev t l c)
  (fun t x lo hi mx P ev => oSlice P ev t x lo hi mx)
  (fun s x f P ev => oFieldAddr P ev s x f)
  (fun t x f P ev => oField P ev t x f)
  (fun t x ix P ev => oIndexAddr P ev t x ix)
  (fun t x ix P ev => oIndex P ev t x ix)
  (fun t x ix ok P ev => oLookup P ev t x ix ok)
  (fun t m k x P ev => oMapUpdate P ev t m k x)
  (fun t m k P ev => oMapEntry P ev t m k)
  (fun _ m s x _ ev => oEntryStore ev m s x)
  (fun t x P ev => oRange P ev t x)
  (fun it isString _ ev => nextA (ev it) isString)
  (fun it _ ev => oEntry ev it)
  (fun x _ asserted ok P ev => oTypeAssert P ev x asserted ok)
  (fun t i _ ev => oExtract ev t i)
  (fun c P ev => oCall P ev c)
  (fun _ _ _ => D.fail "op")
  (fun c _ ev => oDefer ev c)
  (fun x _ ev => oPanic ev x)
  (fun _ _ _ _ => D.fail "op")
  (fun _ _ _ _ _ => D.fail "op")
  (fun _ _ _ _ => D.fail "op")
  o.op P ev

theorem opA_eq (ev : Operand → Value) (o : Oper) : opA P ev o = (match opBox P o with | ⟨g⟩ => g ev) := by
  unfold opA opBox
  cases o.op <;> rfl

end

/-! ### code -/

structure Fr where
  t : Trie Value
  d : List Deferred

def Fr.ev (ng : Nat) (fr : Fr) : Operand → Value
  | .tmp t => match fr.t.get t with
    | some v => v
    | none => undef
  | .const v => bif plainV 9 v then v else undef
  | .global g => bif Nat.blt g ng then .pointer (some ⟨g, 0, none⟩) else undef
  | .func f => .func (.func f) #[] #[]

def Fr.put (fr : Fr) (nt : Nat) (dst : Option Tmp) (v : Value) {β : Type} (k : Fr → Except String β) : Except String β := match dst with
  | none => k fr
  | some d => bif Nat.blt d nt && Nat.blt d 1048576 then match fr with
    | ⟨t, l⟩ => forceV v fun v => Trie.setK 24 t d (some v) fun t => k ⟨t, l⟩ else .error "put: no such temporary"

def Fr.drop (fr : Fr) (dst : Option Tmp) {β : Type} (k : Fr → Except String β) : Except String β := match dst with
  | none => k fr
  | some d => bif Nat.blt d 1048576 then match fr with
    | ⟨t, l⟩ => Trie.setK 24 t d none fun t => k ⟨t, l⟩ else .error "drop"

inductive AExit where
  | normal
  | exit (id : Nat)
  | ret
  | panic (chain : List PanicEntry)

inductive CR where
  | returned (v : Value)
  | panicked (chain : List PanicEntry)

abbrev X (α : Type) : Type := St → Except String (List (α × St))

/-- what a way has touched is told of in what follows it -/
def chkAll {β : Type} (fp n : Nat) : List (β × St) → Bool
  | [] => true
  | (_, ⟨_, m, fp', _, _⟩) :: l => Nat.ble n m && (Nat.beq (Nat.land fp fp') fp && chkAll fp n l)

/-- go on from each -/
def each {α β : Type} (l : List (α × St)) (k : α → St → Except String (List (β × St))) : Except String (List (β × St)) := match l with
  | [] => .ok []
  | (a, s) :: rest => match k a s with
    | .error e => .error e
    | .ok [] => .error "no way"
    | .ok r => bif chkAll s.fp s.n r then match rest with
      | [] => .ok r
      | _ => match each rest k with
        | .error e => .error e
        | .ok r' => .ok (r ++ r') else .error "marks"

/-- one way, going on in one way -/
def oneK {β : Type} (s : St) (r : Except String (List (β × St))) : Except String (List (β × St)) := match r with
  | .ok [(b, s2)] => bif chkAll s.fp s.n [(b, s2)] then .ok [(b, s2)] else .error "marks"
  | .ok [] => .error "no way"
  | .ok l => bif chkAll s.fp s.n l then .ok l else .error "marks"
  | .error e => .error e

def xbind {α β : Type} (m : Except String (List (α × St))) (k : α → St → Except String (List (β × St))) : Except String (List (β × St)) := match m with
  | .error e => .error e
  | .ok [(a, s)] => oneK s (k a s)
  | .ok l => each l k

def lift {α : Type} (m : D α) : X α := fun s => match m s with
  | .error e => .error e
  | .ok (a, s') => .ok [(a, s')]

inductive Task where
  | call (f : FuncId) (args : List Value)
  | round (l : Nat) (f : FuncId) (tmps : List Value) (assign body : Code)

structure Env where
  P : Program
  ng : Nat
  fn : FuncId
  nt : Nat
  rnd : Option Nat
  dfr : Bool
  go : Task → X CR

/-- what an operation of a frame comes to, calls and all -/
inductive OR where
  | val (v : Value)
  | dfr (d : Deferred)
  | panic (chain : List PanicEntry)

def isRecover (o : Oper) : Bool := match o.op with
  | .call c => match c.callee with
    | .builtin .recover => true
    | _ => false
  | _ => false

def pickOne : List (Value × AObj) → Nat → X OR
  | [], _, _ => .ok []
  | (v, o) :: rest, it, s => match putB it o s with
    | .error e => .error e
    | .ok (_, s') => match pickOne rest it s with
      | .error e => .error e
      | .ok r => .ok ((.val v, s') :: r)

/-- behind a call -/
def backK (u : FrameMode) (r : CR) (s2 : St) : Except String (List (OR × St)) := match r with
  | .returned v => s2.reU u fun s2 => .ok [(.val v, s2)]
  | .panicked chain => s2.reU u fun s2 => .ok [(.panic chain, s2)]

def dfrRes (E : Env) (d : Deferred) (s : St) : Except String (List (OR × St)) := match E.rnd with
  | none => .ok [(.dfr d, s)]
  | some _ => .error "defer in a round"

def recRes (E : Env) (o : Oper) (s : St) : Except String (List (OR × St)) := bif !isRecover o then .error "recover?" else match E.rnd with
  | some _ => .error "recover in a round"
  | none => bif E.dfr then match s.u with
      | .panicking ({ v, recovered := false, goexit := false } :: older) => s.reU (.panicking ({ v, recovered := true } :: older)) fun s => .ok [(.val v, s)]
      | _ => .ok [(.val .nilIface, s)]
    else .ok [(.val .nilIface, s)]

def runRes (E : Env) (o : Oper) (r : AR) (s : St) : Except String (List (OR × St)) := match r with
  | .value v => .ok [(.val v, s)]
  | .panic v => .ok [(.panic [{ v, recovered := false }], s)]
  | .dfr d => dfrRes E d s
  | .enter f args => xbind (E.go (.call f args) s) (backK s.u)
  | .round l f tmps assign body => xbind (E.go (.round l f tmps assign body) s) (backK s.u)
  | .recover => recRes E o s
  | .oneOf l it => pickOne l it s

def runOp (E : Env) (fr : Fr) (o : Oper) : X OR := fun s => match opA E.P (fr.ev E.ng) o s with
  | .error e => .error (e ++ " at " ++ o.pos)
  | .ok x => xbind (.ok [x]) (runRes E o)

def yieldedA (ops : Array Oper) (fr : Fr) (j : Nat) : Value := match ops[j]? with
  | some o => match o.dst with
    | some d => match fr.t.get d with
      | some v => v
      | none => undef
    | none => undef
  | none => undef

def wantedA (ops : Array Oper) (fr : Fr) (o : Oper) : Except String Bool := match o.guard with
  | none => .ok true
  | some (j, want) => match yieldedA ops fr j with
    | .bool b => .ok (b == want)
    | .chan none => .ok false
    | _ => .error "guard"

/-- behind an operation -/
def opK (E : Env) (dst : Option Tmp) (rest : Fr → X (AExit × Fr)) (fr : Fr) (r : OR) (s : St) : Except String (List ((AExit × Fr) × St)) := match r with
  | .val v => fr.put E.nt dst v fun fr => rest fr s
  | .dfr d => Fr.put { fr with d := d :: fr.d } E.nt dst undef fun fr => rest fr s
  | .panic chain => .ok [((.panic chain, fr), s)]

/-- an operation's result, and what follows it -/
def opGo (E : Env) (o : Oper) (rest : Fr → X (AExit × Fr)) (fr : Fr) (x : Except String (AR × St)) : Except String (List ((AExit × Fr) × St)) := match x with
  | .error e => .error (e ++ " at " ++ o.pos)
  | .ok (r, s) => match r with
    | .value v => oneK s (fr.put E.nt o.dst v fun fr => rest fr s)
    | r => xbind (xbind (.ok [(r, s)]) (runRes E o)) (opK E o.dst rest fr)

def opsA (E : Env) (ops : Array Oper) : List Oper → Fr → X (AExit × Fr)
  | [], fr, s => .ok [((.normal, fr), s)]
  | o :: rest, fr, s => match wantedA ops fr o with
    | .error e => .error e
    | .ok false => fr.put E.nt o.dst skipV fun fr => opsA E ops rest fr s
    | .ok true => opGo E o (opsA E ops rest) fr (opA E.P (fr.ev E.ng) o s)

/-! a region that draws -/

def names (ops : Array Oper) (o : Oper) : List Tmp :=
  o.dst.toList ++ o.op.operands.toList.filterMap (fun | .tmp t => some t | _ => none) ++ (match o.guard with
    | some (j, _) => match ops[j]? with
      | some g => g.dst.toList
      | none => []
    | none => [])

def writes (o : Oper) : List Tmp := o.dst.toList

/-- pairs that no edge orders -/
def loose (ops : Array Oper) : List (Nat × Nat) :=
  let b := (Region.before ops).toList
  (List.range ops.size).flatMap fun j => (List.range j).filterMap fun i => if (b.getD j 0).testBit i then none else some (i, j)

/-- edges lead back; loose pairs share no temporary that one of both writes -/
def drawOk (ops : Array Oper) : Bool :=
  (ops.toList.zipIdx.all fun (o, i) => (o.after.toList.all fun e => Nat.blt e.on i || !Region.binds .any e) && (match o.op with | .select .. => false | _ => true) && (match o.dst with | some d => Nat.blt d 1048576 | none => true)) &&
  (loose ops).all fun (i, j) => match ops[i]?, ops[j]? with
    | some x, some y => (writes x).all (fun t => !(names ops y).any (Nat.beq t)) && (writes y).all (fun t => !(names ops x).any (Nat.beq t))
    | _, _ => false

/-- what an operation touched -/
structure Foot where
  i : Nat
  fp : Nat
  wr : Nat

def footOf (l : List Foot) (i : Nat) : Nat × Nat := match l with
  | [] => (0, 0)
  | f :: l => bif Nat.beq f.i i then (f.fp, f.wr) else footOf l i

def pairsOk (l : List Foot) : List (Nat × Nat) → Bool
  | [] => true
  | (i, j) :: rest =>
    let (fi, wi) := footOf l i
    let (fj, wj) := footOf l j
    Nat.beq (Nat.land wi fj) 0 && Nat.beq (Nat.land wj fi) 0 && pairsOk l rest

/-- the place of a number's highest bit -/
def log2L : List Nat → Nat → Nat → Nat
  | [], _, acc => acc
  | d :: l, n, acc => fnat (Nat.shiftRight n d) fun m => bif Nat.beq m 0 then log2L l n acc else fnat (acc + d) fun acc => log2L l m acc

def log2F (n : Nat) : Nat := bif Nat.beq (Nat.shiftRight n 65536) 0 then log2L [32768, 16384, 8192, 4096, 2048, 1024, 512, 256, 128, 64, 32, 16, 8, 4, 2, 1] n 0 else Nat.log2 n

/-- the set bits of a number -/
def bitsOf : Nat → Nat → List Nat
  | 0, _ => []
  | k + 1, n => bif Nat.beq n 0 then [] else fnat (log2F n) fun b => fnat (Nat.sub n (bit b)) fun n => b :: bitsOf k n

def keepIds (H1 : Trie AObj) : List Nat → Trie AObj → Trie AObj
  | [], H => H
  | i :: l, H => match H1.get i with
    | some o => setH H i (some o) fun H => keepIds H1 l H
    | none => setH H i none fun H => keepIds H1 l H

/-- strict -/
def keepK {β : Type} (H1 : Trie AObj) : List Nat → Trie AObj → (Trie AObj → β) → β
  | [], H, k => k H
  | i :: l, H, k => match H1.get i with
    | some o => setH H i (some o) fun H => keepK H1 l H k
    | none => setH H i none fun H => keepK H1 l H k

/-- the temporaries that an operation looks at, and no others -/
def pickTmps (t : Trie Value) : List Operand → Trie Value → Trie Value
  | [], r => r
  | .tmp i :: l, r => bif Nat.blt i 1048576 then Trie.setK 24 r i (t.get i) fun r => pickTmps t l r else pickTmps t l r
  | _ :: l, r => pickTmps t l r

/-- i is ahead of j in each order -/
def befL (bl : List Nat) (j i : Nat) : Bool := (bl.getD j 0).testBit i

def hangs (bl : List Nat) (i : Nat) (p : Option (Nat × List PanicEntry)) : Bool := match p with
  | some (j, _) => befL bl i j
  | none => false

/-- the operations, in order; those that hang on one that panicked are left out -/
def drawRun (E : Env) (ops : Array Oper) (bl : List Nat) : List Oper → Nat → Fr → St → List Foot → Option (Nat × List PanicEntry) → Except String (Fr × St × List Foot × Option (Nat × List PanicEntry))
  | [], _, fr, s, l, p => .ok (fr, s, l, p)
  | o :: rest, i, fr, s, l, p =>
    bif hangs bl i p then fr.drop o.dst fun fr => drawRun E ops bl rest (i + 1) fr s l p else
    match wantedA ops fr o with
    | .error e => .error e
    | .ok false => fr.put E.nt o.dst skipV fun fr => drawRun E ops bl rest (i + 1) fr s l p
    | .ok true => s.bare fun s => match runOp E ⟨pickTmps fr.t o.op.operands.toList .leaf, []⟩ o s with
      | .ok [(.val v, s1)] => bif !(Nat.ble s.n s1.n && Nat.ble s1.n 1048576 && Nat.blt s1.wr (bit s1.n)) then .error "draw: marks" else
        fr.put E.nt o.dst v fun fr => match s1, s with
          | ⟨H1, n1, fp1, wr1, _⟩, ⟨H, _, _, _, u⟩ => keepK H1 (bitsOf 1048576 wr1) H fun H => drawRun E ops bl rest (i + 1) fr ⟨H, n1, 0, 0, u⟩ (⟨i, fp1, wr1⟩ :: l) p
      | .ok [(.panic chain, s1)] => bif !(Nat.ble s.n s1.n && Nat.ble s1.n 1048576 && Nat.blt s1.wr (bit s1.n)) || p.isSome then .error "draw: marks, or two panics" else
        fr.drop o.dst fun fr => match s1, s with
          | ⟨H1, n1, fp1, wr1, _⟩, ⟨H, _, _, _, u⟩ => keepK H1 (bitsOf 1048576 wr1) H fun H => drawRun E ops bl rest (i + 1) fr ⟨H, n1, 0, 0, u⟩ (⟨i, fp1, wr1⟩ :: l) (some (i, chain))
      | .ok [_] => .error "draw: a defer"
      | .ok _ => .error "draw: several ways"
      | .error e => .error e

def dropAll (ops : List Oper) (fr : Fr) : Fr := match ops with
  | [] => fr
  | o :: l => match o.dst with
    | none => dropAll l fr
    | some d => Trie.setK 24 fr.t d none fun t => dropAll l { fr with t }

/-- what an operation, and those ahead of it, have written; what the others have -/
def lorTwo (bl : List Nat) (j : Nat) : List Foot → Nat × Nat
  | [] => (0, 0)
  | f :: l => let (g, w) := lorTwo bl j l; bif Nat.beq f.i j || befL bl j f.i then (Nat.lor f.wr g, w) else (g, Nat.lor f.wr w)

/-- the bits from a on, below b -/
def maskOf (a b : Nat) : Nat := Nat.shiftLeft (Nat.sub (bit (b - a)) 1) a

def lorAll : List Foot → Nat × Nat
  | [] => (0, 0)
  | f :: l => let (a, b) := lorAll l; (Nat.lor f.fp a, Nat.lor f.wr b)

def drawA (E : Env) (ops : Array Oper) (fr : Fr) : X (AExit × Fr) := fun s =>
  bif !drawOk ops || (E.dfr && ops.toList.any isRecover) then .error "draw: not ok" else
  let bl := (Region.before ops).toList
  match drawRun E ops bl ops.toList 0 fr s [] none with
  | .error e => .error e
  | .ok (fr', s', l, p) =>
    bif !pairsOk l (loose ops) then .error "draw: loose operations touch one another" else
    let (a, b) := lorAll l
    match p with
    | none => fnat (Nat.lor s.fp a) fun fp => fnat (Nat.lor s.wr b) fun wr => match s' with
      | ⟨H, n, _, _, u⟩ => .ok [((.normal, fr'), ⟨H, n, fp, wr, u⟩)]
    | some (j, chain) =>
      let (gw, lw) := lorTwo bl j l
      bif !(Nat.beq (Nat.mod lw (bit s.n)) 0 && Nat.blt gw (bit s'.n)) then .error "draw: a loose write beside a panic" else
      fnat (maskOf s.n s'.n) fun mask => fnat (Nat.lor (Nat.lor s.wr b) mask) fun wr => fnat (Nat.lor (Nat.lor s.fp a) wr) fun fp =>
        match s' with
        | ⟨H, n, _, _, u⟩ => keepK H ((bitsOf 1048576 gw).filter fun id => !lw.testBit id) s.H fun H => .ok [((.panic chain, dropAll ops.toList fr), ⟨H, n, fp, wr, u⟩)]

/-- what follows, if it's come to -/
def seqK (k : Fr → X (AExit × Fr)) (r : AExit × Fr) (s : St) : Except String (List ((AExit × Fr) × St)) := match r with
  | (.normal, fr) => k fr s
  | r => .ok [(r, s)]

def blockK (id : Nat) (r : AExit × Fr) (s : St) : Except String (List ((AExit × Fr) × St)) := match r with
  | (.exit id', fr) => if id' = id then .ok [((.normal, fr), s)] else .ok [((.exit id', fr), s)]
  | r => .ok [(r, s)]

/-- rounds of a loop -/
def loopA (body : Fr → X (AExit × Fr)) : Nat → Fr → X (AExit × Fr)
  | 0, _, _ => .error "loop: no end"
  | n + 1, fr, s => xbind (body fr s) (seqK (loopA body n))

def frList (fr : Fr) (nt : Nat) : List Value := (List.range nt).map fun i => match fr.t.get i with
  | some v => v
  | none => undef

def toTrie : List Value → Nat → Trie Value → Trie Value
  | [], _, t => t
  | v :: l, i, t => forceV v fun v => Trie.setK 24 t i (some v) fun t => toTrie l (i + 1) t

def loopObj (l : Nat) : D Loop := D.bind (objB l) fun
  | .loop r => D.pure r
  | _ => D.fail "no loop"

def enterLoopA (E : Env) (fr : Fr) (params : Array Tmp) (assign body : Code) : D (Nat × List Deferred) :=
  D.bind (match E.rnd with
    | some l => D.bind (loopObj l) fun r => D.pure (r.defers, [])
    | none => D.bind (newB (.obj (.deferred (some [])))) fun r => D.pure (r, [{ target := .collected r, args := #[] }])) fun (defers, mark) =>
  D.bind (newB (.obj (.loop { state := .ready, pending := none, fn := E.fn, tmps := (frList fr E.nt).toArray, params, assign, body, defers }))) fun l => D.pure (l, mark)

def exitOf : Code → Except String AExit
  | .ret => .ok .ret
  | .exit id => .ok (.exit id)
  | _ => .error "a jump out of a range over a function"

def endLoopA (l : Nat) : D (Option Code) := D.bind (loopObj l) fun r => match r.state with
  | .busy => D.fail "endLoop: busy"
  | _ => D.bind (putB l (.obj (.loop { r with state := .exhausted }))) fun _ => D.pure r.pending

def rangeCallA (P : Program) (f : Value) (l : Nat) : D AR := match f with
  | .func fn first captured => invokeA P (.fn fn captured) (first.toList ++ [.func (.yield l) #[] #[]])
  | _ => D.fail "rangeFunc: function expected"

def rangeFuncA (E : Env) (f : Operand) (params : Array Tmp) (assign body : Code) (fr : Fr) (s : St) : Except String (List ((AExit × Fr) × St)) := xbind (lift (enterLoopA E fr params assign body) s) fun x s =>
  let fr := { fr with d := x.2 ++ fr.d }
  xbind (lift (rangeCallA E.P (fr.ev E.ng f) x.1) s) fun r s => match r with
  | .enter g args => xbind (E.go (.call g args) s) fun r s2 => match r with
    | .returned _ => s2.reU s.u fun s2 => xbind (lift (endLoopA x.1) s2) fun j s => match j with
      | none => .ok [((.normal, fr), s)]
      | some c => match exitOf c with
        | .error e => .error e
        | .ok x => .ok [((x, fr), s)]
    | .panicked chain => s2.reU s.u fun s2 => .ok [((.panic chain, fr), s2)]
  | _ => .error "rangeFunc: no function"

def condA (v : Value) (a b : Except String (List ((AExit × Fr) × St))) : Except String (List ((AExit × Fr) × St)) := match v with
  | .bool true => a
  | .bool false => b
  | _ => .error "cond"

def execA (E : Env) (c : Code) (fr : Fr) : X (AExit × Fr) := Code.rec (motive := fun _ => Env → Fr → X (AExit × Fr))
  (fun _ fr s => .ok [((.normal, fr), s)])
  (fun _ ops draw E fr s => bif draw then drawA E ops fr s else opsA E ops ops.toList fr s)
  (fun _ _ ia ib E fr s => xbind (ia E fr s) (seqK (ib E)))
  (fun c _ _ ia ib E fr s => condA (fr.ev E.ng c) (ia E fr s) (ib E fr s))
  (fun id _ ic E fr s => xbind (ic E fr s) (blockK id))
  (fun _ ic E fr s => loopA (ic E) 65536 fr s)
  (fun f params assign body _ _ E fr s => rangeFuncA E f params assign body fr s)
  (fun id _ fr s => .ok [((.exit id, fr), s)])
  (fun _ _ _ _ _ => .error "scope")
  (fun _ _ fr s => .ok [((.normal, fr), s)])
  (fun _ _ _ _ => .error "goto")
  (fun _ fr s => .ok [((.ret, fr), s)])
  (fun _ _ _ _ => .error "refuse")
  c E fr

theorem execA_seq (E : Env) (a b : Code) : execA E (.seq a b) = fun fr s => xbind (execA E a fr s) (seqK (execA E b)) := rfl
theorem execA_cond (E : Env) (c : Operand) (a b : Code) : execA E (.cond c a b) = fun fr s => condA (fr.ev E.ng c) (execA E a fr s) (execA E b fr s) := rfl
theorem execA_block (E : Env) (id : Nat) (c : Code) : execA E (.block id c) = fun fr s => xbind (execA E c fr s) (blockK id) := rfl
theorem execA_loop (E : Env) (c : Code) : execA E (.loop c) = fun fr s => loopA (execA E c) 65536 fr s := rfl
theorem execA_range (E : Env) (f : Operand) (params : Array Tmp) (assign body : Code) : execA E (.rangeFunc f params assign body) = fun fr s => rangeFuncA E f params assign body fr s := rfl

/-! calls -/

def settleA : FrameMode → FrameMode
  | .panicking ({ recovered := true, .. } :: older) =>
    match older.dropWhile (!·.goexit) with
    | [] => .returning
    | rest => .panicking rest
  | m => m

def raisedA (u : FrameMode) (chain : List PanicEntry) : FrameMode := match u with
  | .panicking old => .panicking (chain ++ old)
  | _ => .panicking chain

def resultA (P : Program) (fr : Fr) : ResultVar → D Value
  | .tmp t => D.pure (fr.ev 0 (.tmp t))
  | .cell a t => D.bind (addrOf (fr.ev 0 (.tmp a))) fun (b, off) => loadA P t b off

def resultsA (P : Program) (fr : Fr) : List ResultVar → D (List Value)
  | [] => D.pure []
  | r :: rs => D.bind (resultA P fr r) fun v => D.bind (resultsA P fr rs) fun vs => D.pure (v :: vs)

def oneOrTuple : List Value → Value
  | [v] => v
  | vs => .tuple vs.toArray

def isRun : FrameMode → Bool
  | .run => true
  | _ => false

/-- the deferred calls of a frame that is left -/
def leaveA (P : Program) (fn : Func) (fr : Fr) (call : FuncId → List Value → X CR) : Nat → List Deferred → FrameMode → X CR
  | _, [], .returning, s => xbind (lift (resultsA P fr fn.results.toList) s) fun vs s => .ok [(.returned (oneOrTuple vs), s)]
  | _, [], .panicking chain, s => .ok [(.panicked chain, s)]
  | _, [], .run, _ => .error "leave"
  | 0, _, _, _ => .error "leave: too many"
  | n + 1, d :: ds, u, s => bif isRun u then .error "leave: running" else match d.target with
    | .collected r => xbind (lift (D.bind (objB r) fun
        | .deferred (some l) => D.bind (putB r (.obj (.deferred none))) fun _ => D.pure l
        | _ => D.fail "collected") s) fun l s => leaveA P fn fr call n (l ++ ds) u s
    | .fn (.func f) captured => match funcK P f with
      | none => .error "leave: no function"
      | some fd => match fd.body with
        | none => .error "leave: extern"
        | some _ => bif fd.name == "runtime.NumGoroutine" then .error "leave: NumGoroutine" else
          let u0 := s.u
          s.reU u fun s => xbind (call f (d.args.toList ++ captured.toList) s) fun r s => match r with
            | .returned _ => s.reU u0 fun s2 => leaveA P fn fr call n ds (settleA s.u) s2
            | .panicked chain => s.reU u0 fun s2 => leaveA P fn fr call n ds (raisedA s.u chain) s2
    | _ => .error "leave: this target"

/-- the body of a function that is entered as a deferred call, which defers nothing itself -/
def deferredA (P : Program) (ng : Nat) (go : Task → X CR) (f : FuncId) (args : List Value) : X CR := fun s => match funcK P f with
  | none => .error "no such function"
  | some fn => match fn.body with
    | none => .error "no body"
    | some c => bif !(Nat.ble args.length fn.ntmps && Nat.ble args.length 1048576) then .error "arguments" else xbind (execA ⟨P, ng, f, fn.ntmps, none, true, go⟩ c ⟨toTrie args 0 .leaf, []⟩ s) fun r s => match r with
      | (.normal, fr) | (.ret, fr) => match fr.d with
        | [] => xbind (lift (resultsA P fr fn.results.toList) s) fun vs s => .ok [(.returned (oneOrTuple vs), s)]
        | _ => .error "a deferred call that defers"
      | (.panic chain, fr) => match fr.d with
        | [] => .ok [(.panicked chain, s)]
        | _ => .error "a deferred call that defers"
      | _ => .error "left by a jump"

def beginRoundA (l : Nat) : D Unit := D.bind (loopObj l) fun r => match r.state with
  | .ready => putB l (.obj (.loop { r with state := .busy }))
  | _ => D.fail "beginRound"

def endRoundA (l : Nat) (jump : Option Code) : D Value := D.bind (loopObj l) fun r =>
  D.bind (putB l (.obj (.loop { r with state := if jump.isNone then .ready else .done, pending := jump }))) fun _ => D.pure (.bool jump.isNone)

def endRoundX (l : Nat) (x : AExit) (s : St) : Except String (List (CR × St)) :=
  let fin (jump : Option Code) : Except String (List (CR × St)) := match endRoundA l jump s with
    | .error e => .error e
    | .ok (v, s) => .ok [(.returned v, s)]
  match x with
  | .normal => fin none
  | .ret => fin (some .ret)
  | .exit id => fin (some (.exit id))
  | .panic _ => .error "a panic out of a round"

/-! merging of ways -/

def sameV : Nat → Value → Value → Bool
  | _, .bool a, .bool b => a == b
  | _, .int j a, .int k b => j == k && a == b
  | _, .string a, .string b => beqBytes (bs a) (bs b)
  | _, .pointer a, .pointer b => a == b
  | _, .slice a l c, .slice b m d => a == b && Nat.beq l m && Nat.beq c d
  | _, .map a, .map b => a == b
  | _, .nilFunc, .nilFunc => true
  | _, .nilIface, .nilIface => true
  | n + 1, .func f a c, .func g b d => decide (f = g) && sameL n a.toList b.toList && sameL n c.toList d.toList
  | n + 1, .iface t v, .iface u w => Nat.beq t u && sameV n v w
  | n + 1, .agg a, .agg b => sameL n a.toList b.toList
  | n + 1, .tuple a, .tuple b => sameL n a.toList b.toList
  | _, _, _ => false
  where
  sameL : Nat → List Value → List Value → Bool
  | _, [], [] => true
  | n, v :: l, w :: m => sameV n v w && sameL n l m
  | _, _, _ => false

/-- the blocks that a value names -/
def idsV : Nat → Value → List Nat
  | _, .pointer (some a) => [a.block]
  | _, .slice (some a) _ _ => [a.block]
  | _, .map (some r) => [r]
  | n + 1, .func fn a c => (match fn with | .yield l => [l] | _ => []) ++ a.toList.flatMap (idsV n) ++ c.toList.flatMap (idsV n)
  | n + 1, .iface _ v => idsV n v
  | n + 1, .agg a => a.toList.flatMap (idsV n)
  | n + 1, .tuple a => a.toList.flatMap (idsV n)
  | _, _ => []

def idsO : AObj → List Nat
  | .cells c _ _ _ => c.flatMap (idsV 9)
  | .rom c => c.flatMap (idsV 9)
  | .obj (.map es _) => es.toList.flatMap fun e => idsV 9 e.key ++ idsV 9 e.val
  | .obj (.mapIter (some m) _ _ _) => [m]
  | _ => []

/-- the new blocks that are come to, as bits -/
def reachA (H : Trie AObj) (n0 : Nat) : Nat → List Nat → Nat → Nat
  | 0, _, seen => seen
  | _ + 1, [], seen => seen
  | k + 1, i :: l, seen => bif Nat.blt i n0 || seen.testBit i then reachA H n0 k l seen else match H.get i with
    | none => reachA H n0 k l seen
    | some o => fnat (Nat.lor seen (bit i)) fun seen => reachA H n0 k (idsO o ++ l) seen

def sameE : List MapEntry → List MapEntry → Bool
  | [], [] => true
  | e :: l, f :: m => sameV 9 e.key f.key && sameV 9 e.val f.val && Nat.beq e.born f.born && sameE l m
  | _, _ => false

def sameO : AObj → AObj → Bool
  | .cells c e m o, .cells c' e' m' o' => sameV.sameL 9 c c' && Nat.beq e e' && m == m' && o == o'
  | .obj (.map es k), .obj (.map es' k') => sameE es.toList es'.toList && Nat.beq k k'
  | _, _ => false

def sameAt (H H' : Trie AObj) (i : Nat) : Bool := match H.get i, H'.get i with
  | some o, some o' => sameO o o'
  | none, none => true
  | _, _ => false

def idsCR : CR → List Nat
  | .returned v => idsV 9 v
  | .panicked _ => []

def sameCR : CR → CR → Bool
  | .returned v, .returned w => sameV 9 v w
  | _, _ => false

/-- several ways that differ in nothing that can be come to are one -/
def mergeA (s0 : St) (outs : List (CR × St)) : List (CR × St) := match outs with
  | [] => outs
  | (r, s) :: rest =>
    let wr := rest.foldl (fun a x => Nat.lor a x.2.wr) s.wr
    let fp := Nat.lor (rest.foldl (fun a x => Nat.lor a x.2.fp) s.fp) wr
    let old := (List.range s0.n).filter fun i => wr.testBit i
    let seen := reachA s.H s0.n 100000 (idsCR r ++ old.flatMap fun i => match s.H.get i with | some o => idsO o | none => []) 0
    let new := (List.range (s.n - s0.n)).filterMap fun k => if seen.testBit (s0.n + k) then some (s0.n + k) else none
    let ids := old ++ new
    bif rest.all fun (r', s') => sameCR r r' && Nat.beq s.n s'.n && ids.all (sameAt s.H s'.H) then
      [(r, { s with H := keepIds s.H ids s0.H, fp, wr })]
    else outs

def stepN (P : Program) (ng : Nat) (g0 : Task → X CR) : Task → X CR
  | .call f args, s0 => match funcK P f with
    | none => .error "no such function"
    | some fn => match fn.body with
      | none => .error "no body"
      | some c => bif !(Nat.ble args.length fn.ntmps && Nat.ble args.length 1048576) then .error "arguments" else
        match xbind (execA ⟨P, ng, f, fn.ntmps, none, false, g0⟩ c ⟨toTrie args 0 .leaf, []⟩ s0) (fun r s => match r with
            | (.normal, fr) | (.ret, fr) => leaveA P fn fr (deferredA P ng g0) 99 fr.d .returning s
            | (.panic chain, fr) => leaveA P fn fr (deferredA P ng g0) 99 fr.d (.panicking chain) s
            | _ => .error "left by a jump") with
        | .error e => .error (fn.name ++ " < " ++ e)
        | .ok [(r, s)] => s.reU s0.u fun s => .ok [(r, s)]
        | .ok l => .ok (mergeA s0 (l.map fun (r, s) => (r, { s with u := s0.u })))
  | .round l f tmps assign body, s0 => match funcK P f with
    | none => .error "no such function"
    | some fn =>
      let E : Env := ⟨P, ng, f, fn.ntmps, some l, false, g0⟩
      bif Nat.beq tmps.length fn.ntmps && Nat.ble tmps.length 1048576 then
        xbind (execA E assign ⟨toTrie tmps 0 .leaf, []⟩ s0) fun r s => match r with
          | (.normal, fr) => xbind (lift (beginRoundA l) s) fun _ s => xbind (execA E body fr s) fun r s => match r with
              | (x, fr) => match fr.d with
                | [] => endRoundX l x s
                | _ => .error "a round that defers"
          | _ => .error "an assignment of a round that jumps"
      else .error "round: temporaries"

def callN (P : Program) (ng : Nat) : Nat → Task → X CR
  | 0, _, _ => .error "too deep"
  | n + 1, t, s => stepN P ng (callN P ng n) t s

end
end Go.Proofs.YthogkihfbjbghaaGreatDoor.Abs
namespace Go.Proofs.YthogkihfbjbghaaGreatDoor.Abs

/-- a call that has been run by itself: from a state that holds H (and perhaps more), n blocks numbered; what it comes to: a value, what has been written, how many blocks there are, what was touched and written -/
structure Ent where
  f : FuncId
  args : List Value
  H : List (Nat × AObj)
  n : Nat
  v : Value
  H1 : List (Nat × Option AObj)
  n1 : Nat
  fp1 : Nat
  wr1 : Nat

def sameR : AObj → AObj → Bool
  | .rom a, .rom b => sameV.sameL 9 a b
  | a, b => sameO a b

noncomputable def subH (H : Trie AObj) (n : Nat) : List (Nat × AObj) → Bool
  | [] => true
  | (i, o) :: l => (match H.get i with | some o' => sameR o o' | none => false) && Nat.blt i n && subH H n l

noncomputable def mkT {α : Type} : List (Nat × α) → Trie α → Trie α
  | [], t => t
  | (i, o) :: l, t => Trie.setK 24 t i (some o) fun t => mkT l t

noncomputable def Ent.st (e : Ent) : St := ⟨mkT e.H .leaf, e.n, 0, 0, .run⟩

noncomputable def setAll {β : Type} : List (Nat × Option AObj) → Trie AObj → (Trie AObj → β) → β
  | [], t, k => k t
  | (i, o) :: l, t, k => Trie.setK 24 t i o fun t => setAll l t k

def isRunU : FrameMode → Bool
  | .run => true
  | _ => false

/-- the state behind it -/
noncomputable def Ent.behind {β : Type} (e : Ent) (s : St) (k : St → β) : β := match s with
  | ⟨H, _, fp, wr, u⟩ => setAll e.H1 H fun H => fnat (Nat.lor fp e.fp1) fun fp => fnat (Nat.lor wr e.wr1) fun wr => k ⟨H, e.n1, fp, wr, u⟩

noncomputable def Ent.fits (e : Ent) (f : FuncId) (args : List Value) (s : St) : Bool :=
  Nat.beq e.f f && (isRunU s.u && (Nat.beq s.n e.n && (sameV.sameL 9 e.args args && subH s.H e.n e.H)))

noncomputable def lookE (tbl : List Ent) (f : FuncId) (args : List Value) (s : St) (other : Except String (List (CR × St))) : Except String (List (CR × St)) := match tbl with
  | [] => other
  | e :: l => Bool.rec (motive := fun _ => Except String (List (CR × St))) (lookE l f args s other) (e.behind s fun s' => .ok [(.returned e.v, s')]) (e.fits f args s)

noncomputable def patch (tbl : List Ent) (go : Task → X CR) : Task → X CR
  | .call f args, s => lookE tbl f args s (go (.call f args) s)
  | t, s => go t s

/-- the engine, with a table -/
noncomputable def callM (tbl : List Ent) (P : Program) (ng : Nat) : Nat → Task → X CR
  | 0, _, _ => .error "too deep"
  | n + 1, t, s => patch tbl (stepN P ng (callM tbl P ng n)) t s

noncomputable def subO (H : Trie AObj) : List (Nat × Option AObj) → Bool
  | [] => true
  | (i, o) :: l => (match o with
    | none => true
    | some o => (match H.get i with | some o' => sameR o o' | none => false)) && Nat.blt i 1048576 && subO H l

def orIds : List (Nat × Option AObj) → Nat
  | [] => 0
  | (i, _) :: l => Nat.lor (bit i) (orIds l)

/-- the run comes to what the entry tells -/
noncomputable def Ent.ok (e : Ent) (x : Except String (List (CR × St))) : Bool := match x with
  | .ok [(.returned v, s)] => sameV 9 e.v v && Nat.beq s.n e.n1 && Nat.beq s.fp e.fp1 && Nat.beq s.wr e.wr1 && Nat.beq (orIds e.H1) e.wr1 && subO s.H e.H1 && subH (mkT e.H .leaf) e.n e.H && Nat.ble e.n 1048576 && isRunU s.u
  | _ => false
end Go.Proofs.YthogkihfbjbghaaGreatDoor.Abs
