/- the walks. -/
import Derived.Test.YtimphpiofoepgaaGreatDoorWc
import Derived.Lib.Hide
namespace Go.Proofs.YtimphpiofoepgaaGreatDoor
open Go Go.RowKit

def pS (c : Int) : ByteArray := if c = 115 then pNT else if c = 100 ∨ c = 113 ∨ c = 101 then pN else if c = 114 then pNM else p0
def pB (c : Int) : Bool := decide (c = 115 ∨ c = 100 ∨ c = 113 ∨ c = 101 ∨ c = 114 ∨ c = 97 ∨ c = 120)

theorem parts_any (c : Int) (w : World) : Calls Tryz.prog 9 #[.int .u8 c] w fun e w' => e = .returned (.tuple #[.string (pS c), .bool (pB c)]) ∧ w = w' := by
  by_cases h1 : c = 115
  · subst h1; exact parts_s w
  by_cases h2 : c = 100 ∨ c = 113 ∨ c = 101
  · have a : pS c = pN := by unfold pS; rw [if_neg h1, if_pos h2]
    have b : pB c = true := by unfold pB; simp; omega
    rw [a, b]; exact parts_n c h2 w
  by_cases h3 : c = 114
  · subst h3; exact parts_r w
  by_cases h4 : c = 97 ∨ c = 120
  · have a : pS c = p0 := by unfold pS; rw [if_neg h1, if_neg h2, if_neg h3]
    have b : pB c = true := by unfold pB; simp; omega
    rw [a, b]; exact parts_e c h4 w
  · have a : pS c = p0 := by unfold pS; rw [if_neg h1, if_neg h2, if_neg h3]
    have b : pB c = false := by unfold pB; simp; omega
    rw [a, b]; exact parts_no c h1 (by omega) (by omega) (by omega) h3 (by omega) (by omega) w

def fld (l : List UInt8) : List Value := [.int .u8 (l.length % 256 : Nat), .int .u8 (l.length / 256 : Nat)] ++ bv l
def ix (p : ByteArray) (m : Nat) : Int := Lib.indexByte p.data.toList (Int.toNat m).toUInt8
/-- what a step is written as -/
def encV (x : Stp) : List Value :=
  .int .u8 x.l :: ((if 0 ≤ ix (pS x.l) 110 then fld x.nm.data.toList else []) ++ ((if 0 ≤ ix (pS x.l) 109 then fld x.to.data.toList else []) ++ (if 0 ≤ ix (pS x.l) 116 then fld x.tx else [])))
def okS (x : Stp) : Prop := pB x.l = true ∧ (0 ≤ ix (pS x.l) 110 ∨ x.nm.size = 0) ∧ (0 ≤ ix (pS x.l) 109 ∨ x.to.size = 0) ∧ (0 ≤ ix (pS x.l) 116 ∨ x.tx.length = 0)
def encL (xs : List Stp) : List Value := xs.flatMap encV

theorem ix110 (s : ByteArray) (w : World) : Calls Tryz.prog 10 #[.string s, .int .u8 110] w fun e w' => e = .returned (.int .i64 (ix s 110)) ∧ w = w' := ixb s 110 w
theorem ix109 (s : ByteArray) (w : World) : Calls Tryz.prog 10 #[.string s, .int .u8 109] w fun e w' => e = .returned (.int .i64 (ix s 109)) ∧ w = w' := ixb s 109 w
theorem ix116 (s : ByteArray) (w : World) : Calls Tryz.prog 10 #[.string s, .int .u8 116] w fun e w' => e = .returned (.int .i64 (ix s 116)) ∧ w = w' := ixb s 116 w

def prt (x : Stp) : Nat → List Value
  | 0 => [.int .u8 x.l]
  | 1 => [.int .u8 x.l] ++ (if 0 ≤ ix (pS x.l) 110 then fld x.nm.data.toList else [])
  | 2 => [.int .u8 x.l] ++ (if 0 ≤ ix (pS x.l) 110 then fld x.nm.data.toList else []) ++ (if 0 ≤ ix (pS x.l) 109 then fld x.to.data.toList else [])
  | _ => encV x

/-- the state of the inner loop -/
structure InRel (w wq : World) (x : Stp) (E : List Value) (g gN gM cN cM : Nat) (v : Value) (j : Nat) : Prop where
  own : wq.ownsRow w.heap.size 5 1 v (E ++ prt x j).length (E ++ prt x j)
  blk : Blk wq g 37 #[.int .u8 110, .slice (some ⟨gN, 0, none⟩) x.nm.size cN, .int .u8 109, .slice (some ⟨gM, 0, none⟩) x.to.size cM, .int .u8 116, .slice x.ta x.tx.length x.tc]
  rN : Reads wq (gN + 1) 1 (some ⟨gN, 0, none⟩) x.nm.size (bv x.nm.data.toList)
  rM : Reads wq (gM + 1) 1 (some ⟨gM, 0, none⟩) x.to.size (bv x.to.data.toList)
  rT : Reads wq w.heap.size 1 x.ta x.tx.length (bv x.tx)
  nN : v.ownBlock ≠ some gN
  nM : v.ownBlock ≠ some gM
  bl : Below w.heap.size w wq
  lN : gN < wq.heap.size
  lM : gM < wq.heap.size

theorem InRel.putt {w wq w' : World} {x : Stp} {E : List Value} {g gN gM cN cM : Nat} {v v' : Value} {j : Nat} (h : InRel w wq x E g gN gM cN cM v j) (o : Obj) {N' : Nat} {L' : List Value} (hown : w'.ownsRow w.heap.size 5 1 v' N' L')
    (hL : L' = E ++ prt x (j + 1)) (hg : (wq.alloc o).grownBy w' v.ownBlock) (hat : v'.ownBlock = v.ownBlock ∨ ∃ b, (wq.alloc o).heap.size ≤ b ∧ v'.ownBlock = some b) : InRel w w' x E g gN gM cN cM v' (j + 1) := by
  have hz : (wq.alloc o).heap.size = wq.heap.size + 1 := by simp
  have hlt := h.own.lt
  have hw := h.bl.size
  have hN : N' = (E ++ prt x (j + 1)).length := by rw [← hL]; have := hown.1; omega
  subst hL
  subst hN
  refine ⟨hown, ?_, ?_, ?_, ?_, ?_, ?_, ?_, ?_, ?_⟩
  · exact (h.blk.alloc o).grown hg fun e => own_blk_ne h.own h.blk (by decide) e.symm
  · exact (h.rN.alloc h.lN o).grown' hg (by have := h.lN; omega) fun ad e _ => by cases e; exact fun e => h.nN e.symm
  · exact (h.rM.alloc h.lM o).grown' hg (by have := h.lM; omega) fun ad e _ => by cases e; exact fun e => h.nM e.symm
  · exact (h.rT.alloc hw o).grown hg (by omega) fun g e => (hlt g e).1
  · rcases hat with e | ⟨b, hb, e⟩
    · rw [e]; exact h.nN
    · rw [e]; intro e; injection e with e; have := h.lN; omega
  · rcases hat with e | ⟨b, hb, e⟩
    · rw [e]; exact h.nM
    · rw [e]; intro e; injection e with e; have := h.lM; omega
  · exact (h.bl.alloc hw o).grown hg (by omega) fun g e => (hlt g e).1
  · have := h.lN; have := hg.size; omega
  · have := h.lM; have := hg.size; omega

theorem InRel.skip {w wq : World} {x : Stp} {E : List Value} {g gN gM cN cM : Nat} {v : Value} {j : Nat} (h : InRel w wq x E g gN gM cN cM v j) (o : Obj) (hL : prt x (j + 1) = prt x j) : InRel w (wq.alloc o) x E g gN gM cN cM v (j + 1) := by
  have hz : (wq.alloc o).heap.size = wq.heap.size + 1 := by simp
  have hw := h.bl.size
  refine ⟨by rw [hL]; exact h.own.alloc o, h.blk.alloc o, h.rN.alloc h.lN o, h.rM.alloc h.lM o, h.rT.alloc hw o, h.nN, h.nM, h.bl.alloc hw o, ?_, ?_⟩
  · have := h.lN; omega
  · have := h.lM; omega

theorem prt1_yes {x : Stp} (h : 0 ≤ ix (pS x.l) 110) : prt x 1 = prt x 0 ++ fld x.nm.data.toList := by simp [prt, h]
theorem prt1_no {x : Stp} (h : ¬ 0 ≤ ix (pS x.l) 110) : prt x 1 = prt x 0 := by simp [prt, h]
theorem prt2_yes {x : Stp} (h : 0 ≤ ix (pS x.l) 109) : prt x 2 = prt x 1 ++ fld x.to.data.toList := by simp [prt, h]
theorem prt2_no {x : Stp} (h : ¬ 0 ≤ ix (pS x.l) 109) : prt x 2 = prt x 1 := by simp [prt, h]
theorem prt3_yes {x : Stp} (h : 0 ≤ ix (pS x.l) 116) : prt x 3 = prt x 2 ++ fld x.tx := by simp [prt, encV, h]
theorem prt3_no {x : Stp} (h : ¬ 0 ≤ ix (pS x.l) 116) : prt x 3 = prt x 2 := by simp [prt, encV, h]
theorem fld_def (l : List UInt8) (n : Nat) (h : n = l.length) : [Value.int .u8 (n % 256 : Nat), .int .u8 (n / 256 : Nat)] ++ bv l = fld l := by subst h; rfl
theorem hl_of (E A B : List Value) (d : List UInt8) (n : Nat) (h : B = A ++ fld d) (hn : n = d.length) : E ++ A ++ [Value.int .u8 (n % 256 : Nat), .int .u8 (n / 256 : Nat)] ++ bv d = E ++ B := by
  rw [h, List.append_assoc, fld_def d n hn, List.append_assoc]
theorem fld_length (l : List UInt8) : (fld l).length = l.length + 2 := by simp [fld, bv]
theorem prt_length (x : Stp) (z1 : x.nm.size ≤ 100) (z2 : x.to.size ≤ 100) (z3 : x.tx.length ≤ 100) (j : Nat) : (prt x j).length ≤ 310 := by
  have a : x.nm.data.toList.length = x.nm.size := rfl
  have b : x.to.data.toList.length = x.to.size := rfl
  have n1 : (if 0 ≤ ix (pS x.l) 110 then fld x.nm.data.toList else []).length ≤ 102 := by split <;> simp [fld_length] <;> omega
  have n2 : (if 0 ≤ ix (pS x.l) 109 then fld x.to.data.toList else []).length ≤ 102 := by split <;> simp [fld_length] <;> omega
  have n3 : (if 0 ≤ ix (pS x.l) 116 then fld x.tx else []).length ≤ 102 := by split <;> simp [fld_length] <;> omega
  match j with
  | 0 => simp [prt]
  | 1 => simp only [prt, List.length_append, List.length_cons, List.length_nil]; omega
  | 2 => simp only [prt, List.length_append, List.length_cons, List.length_nil]; omega
  | j + 3 => simp only [prt, encV, List.length_append, List.length_cons]; omega

theorem below_grown {w w' : World} (h : Below w.heap.size w w') : w.grownBy w' none := ⟨h.os, h.tape, h.output, h.size, fun k hk _ => h.block k hk⟩
theorem own_below {w w' : World} {base : Nat} {e : TypeId} {size n : Nat} {v : Value} {xs : List Value} (h : w.ownsRow base e size v n xs) (hb : Below w.heap.size w w') : w'.ownsRow base e size v n xs :=
  h.kept (below_grown hb) (by cases hv : v.ownBlock <;> simp)
theorem encL_take (xs : List Stp) (k : Nat) (h : k < xs.length) : encL (xs.take (k + 1)) = encL (xs.take k) ++ encV xs[k] := by
  unfold encL
  rw [List.take_succ_eq_append_getElem h, List.flatMap_append]
  simp
theorem encL_le (xs : List Stp) (h : ∀ x ∈ xs, x.nm.size ≤ 100 ∧ x.to.size ≤ 100 ∧ x.tx.length ≤ 100) : (encL xs).length ≤ 310 * xs.length := by
  induction xs with
  | nil => simp [encL]
  | cons x xs ih =>
    have h1 := ih fun y hy => h y (List.mem_cons_of_mem _ hy)
    obtain ⟨z1, z2, z3⟩ := h x (List.mem_cons_self ..)
    have h2 : (encV x).length ≤ 310 := prt_length x z1 z2 z3 3
    unfold encL at h1 ⊢
    rw [List.flatMap_cons, List.length_append, List.length_cons]
    omega

/-- what 'Bytes' asks of the j-th part -/
def cnd (x : Stp) : Nat → Prop
  | 0 => 0 ≤ ix (pS x.l) 110 ∨ x.nm.size = 0
  | 1 => 0 ≤ ix (pS x.l) 109 ∨ x.to.size = 0
  | _ => 0 ≤ ix (pS x.l) 116 ∨ x.tx.length = 0

/-- what 'Bytes' comes to: k0: how many steps ahead of the first that may not be -/
def BPost (w : World) (xs : List Stp) (k0 : Nat) (e : Ending) (w' : World) : Prop :=
  Below w.heap.size w w' ∧ ((k0 = xs.length ∧ xs.length ≤ 256 ∧ ∃ v, e = .returned (.tuple #[v, .int .i64 0]) ∧ w'.ownsRow w.heap.size 5 1 v (encL xs).length (encL xs)) ∨
    (k0 = xs.length ∧ 256 < xs.length ∧ e = .returned (.tuple #[.slice none 0 0, .int .i64 6])) ∨ (k0 < xs.length ∧ e = .returned (.tuple #[.slice none 0 0, .int .i64 14])))
theorem BPost.bad {w : World} {xs : List Stp} {k0 : Nat} {w' : World} (h : k0 < xs.length) (hb : Below w.heap.size w w') : BPost w xs k0 (.returned (.tuple #[.slice none 0 0, .int .i64 14])) w' := ⟨hb, .inr (.inr ⟨h, rfl⟩)⟩

set_option maxRecDepth 100000 in
set_option maxHeartbeats 4000000 in
theorem bytes_any (A : Option Addr) (c : Nat) (xs : List Stp) (w : World) (k0 : Nat) (hl : xs.length ≤ 300) (hs : Steps4 w w.heap.size A xs) (hsz : ∀ x ∈ xs, x.nm.size ≤ 100 ∧ x.to.size ≤ 100 ∧ x.tx.length ≤ 100)
    (hk0 : k0 ≤ xs.length) (hok : ∀ (i : Nat) (h : i < xs.length), i < k0 → okS xs[i]) (hbad : ∀ h : k0 < xs.length, ¬ okS xs[k0]) :
    Calls Tryz.prog 5 #[.slice A xs.length c] w (BPost w xs k0) := by
  obtain ⟨i0, hi0, hz0, hz1, hz2⟩ := info_parts u8_info
  go_enter Tryz.func5, Tryz.ntmps5
  go_wp2
  go_loopw [4, 13] (fun v i wr => ∃ k : Nat, k ≤ k0 ∧ i = .int .i64 k ∧ wr.ownsRow w.heap.size 5 1 v (encL (xs.take k)).length (encL (xs.take k)) ∧ Below w.heap.size w wr) (fun _ i _ => xs.length - (intOf i).toNat)
  case atStart => exact ⟨0, by omega, rfl, ⟨rfl, .inl ⟨rfl, rfl⟩⟩, Below.refl _ _⟩
  case round =>
    obtain ⟨k, hk, rfl, hown, hb⟩ := hrel
    obtain ⟨wo, rfl⟩ : ∃ wo : World, wo = wr := ⟨_, rfl⟩
    by_cases hlt : k < xs.length
    · obtain ⟨ad, rfl, hadB, hcell⟩ := hs.1.2 (by omega)
      have hx : xs[k]? = some xs[k] := List.getElem?_eq_getElem hlt
      have hc : ∀ j v, (xs[k]).cells[j]? = some v → wo.cell? (ad.add (k * 4 + j)) = some v := fun j v hv => (hb.cell (by rw [block_of_add]; exact hadB)).trans (hcell _ _ ((flat4_get xs k _ hx j (by have := (List.getElem?_eq_some_iff.1 hv).1; simpa [Stp.cells] using this)).trans hv))
      have hcl : (Tryz.prog.info? 26).map (·.size) = some (xs[k]).cells.length := by kernel_rfl
      have hc' : ∀ j v, (xs[k]).cells[j]? = some v → wo.cell? ((ad.add (k * 4)).add j) = some v := fun j v hv => by rw [add_of_add]; exact hc j v hv
      generalize hxk : xs[k] = x at hc' hcl
      have H := Lib.hid hc'
      clear hc hc' hx hcell
      have hxm : x ∈ xs := hxk ▸ List.getElem_mem hlt
      obtain ⟨z1, z2, z3⟩ := hsz x hxm
      have hkx : k < k0 → okS x := fun h => hxk ▸ hok k hlt h
      have hkb : okS x → k < k0 := fun h => by
        rcases Nat.lt_or_ge k k0 with h1 | h1
        · exact h1
        · obtain rfl : k = k0 := by omega
          exact absurd (hxk ▸ h) (hbad hlt)
      have KX := Lib.hid hkx
      have KB := Lib.hid hkb
      have HT := Lib.hid (hs.2 x hxm)
      have HA := Lib.hid hs.1
      have HK := Lib.hid hxk
      have HE : (encL (xs.take k)).length ≤ 600 * 300 := by
        have h0 := encL_le (xs.take k) fun y hy => hsz y (List.mem_of_mem_take hy)
        rw [List.length_take] at h0
        omega
      obtain ⟨E, hE⟩ : ∃ E, E = encL (xs.take k) := ⟨_, rfl⟩
      rw [← hE] at hown HE
      have HEE := Lib.hid hE
      clear hkx hkb hxm hxk hsz hok hbad hs hE
      by_cases hp : pB x.l = true
      case neg =>
        have hp : pB x.l = false := by simpa using hp
        have hlk : k0 < xs.length := by
          rcases Nat.lt_or_ge k k0 with h1 | h1
          · have := (KX.out h1).1
            rw [hp] at this; cases this
          · omega
        go_wp2_with (first
           | (refine wpList_loadA rfl 26 (.tmp 15) rfl _ rfl [.int .u8 x.l, .string x.nm, .string x.to, .slice x.ta x.tx.length x.tc] _ H.out Tryz.underlying26 rfl hcl ?_)
           | (go_at_call 9; refine (parts_any _ _).mono ?_; rintro e w' ⟨rfl, rfl⟩)
           | fail)
        go_ret2
        exact BPost.bad hlk (hb.alloc hb.size _)
      go_wp2_with (first
         | (refine wpList_loadA rfl 26 (.tmp 15) rfl _ rfl [.int .u8 x.l, .string x.nm, .string x.to, .slice x.ta x.tx.length x.tc] _ H.out Tryz.underlying26 rfl hcl ?_)
         | (go_at_call 9; refine (parts_any _ _).mono ?_; rintro e w' ⟨rfl, rfl⟩)
         | (at_builtin
            refine wpList_app rfl (.tmp 43) (.tmp 46) _ rfl w.heap.size 5 i0 _ 1 1 Tryz.underlying24 hi0 hz0 hz1 hz2 rfl (by omega) u4 E.length E rfl
              ((hown.alloc _).alloc _) (wo.heap.size + 1 + 1) (some ⟨wo.heap.size + 1, 0, none⟩) 1 1 [.int .u8 x.l] rfl (reads_new1 (wo.alloc _) _ 5 _ (by simp)) (by simp [Value.oneCell']) (by simp only [maxLen]; omega) (by omega) (by have := hb.size; simp; omega) ?_
            intro v1 w1 hown1 hg1 hat1
            have HB := Lib.hid (((Blk.new wo 26 #[.int .u8 x.l, .string x.nm, .string x.to, .slice x.ta x.tx.length x.tc]).alloc (.cells #[.int .u8 x.l] 5)).grown hg1 (fun e => own_blk_ne (hown.alloc _) (Blk.new wo 26 #[.int .u8 x.l, .string x.nm, .string x.to, .slice x.ta x.tx.length x.tc]) (by decide) e.symm))
            have b1 : w1.cell? ⟨wo.heap.size, 1, none⟩ = some (.string x.nm) := HB.out.cell 1
            obtain ⟨cN, w2, run2, hb2, hs2, hr2⟩ := conv_bytes (P := Tryz.prog) w1 9 24 5 x.nm Tryz.underlying9 Tryz.underlying24 Tryz.underlying5
            have HB2 := Lib.hid (HB.out.below hb2 HB.out.lt)
            have b2 : w2.cell? ⟨wo.heap.size, 2, none⟩ = some (.string x.to) := HB2.out.cell 2
            obtain ⟨cM, w3, run3, hb3, hs3, hr3⟩ := conv_bytes (P := Tryz.prog) w2 9 24 5 x.to Tryz.underlying9 Tryz.underlying24 Tryz.underlying5
            have HB3 := Lib.hid (HB2.out.below hb3 HB2.out.lt)
            have b3 : w3.cell? ⟨wo.heap.size, 3, none⟩ = some (.slice x.ta x.tx.length x.tc) := HB3.out.cell 3
            have G1 := Lib.hid hown1
            have G2 := Lib.hid hg1
            have G3 := Lib.hid hat1
            have G4 := Lib.hid hs2
            have G5 := Lib.hid hs3
            have G6 := Lib.hid hr2
            have G7 := Lib.hid hr3
            have R2 := Lib.hid run2
            have R3 := Lib.hid run3
            clear hown1 hg1 hat1 hs2 hs3 hr2 hr3 run2 run3)
         | (refine wpList_convert _ rfl 9 24 (.tmp 49) rfl _ w2 R2.out ?_)
         | (refine wpList_convert _ rfl 9 24 (.tmp 53) rfl _ w3 R3.out ?_)
         | fail)
      have hz1 := hb.size
      have hz2 := G2.out.size
      have hz3 := hb2.size
      have hz4 := hb3.size
      have s2 := G4.out
      have s3 := G5.out
      have e1 : ((wo.alloc (.cells #[.int .u8 x.l, .string x.nm, .string x.to, .slice x.ta x.tx.length x.tc] 26)).alloc (.cells #[.int .u8 x.l] 5)).heap.size = wo.heap.size + 1 + 1 := by simp
      rw [e1] at hz2
      have start : InRel w (w3.alloc (.cells #[.int .u8 110, .slice (some ⟨w1.heap.size, 0, none⟩) x.nm.size cN, .int .u8 109, .slice (some ⟨w2.heap.size, 0, none⟩) x.to.size cM, .int .u8 116, .slice x.ta x.tx.length x.tc] 37)) x E w3.heap.size w1.heap.size w2.heap.size cN cM v1 0 := by
        have hlt4 := hown.lt
        have hz5 := G1.out.lt
        refine ⟨?_, Blk.new _ _ _, ?_, ?_, ?_, ?_, ?_, ?_, ?_, ?_⟩
        · rw [show E ++ prt x 0 = E ++ [.int .u8 x.l] from rfl, List.length_append]
          exact (own_below (own_below G1.out hb2) hb3).alloc _
        · exact (((G6.out.below (hb3.mono (by omega)))).alloc (by omega) _)
        · exact (G7.out.alloc (by omega) _)
        · exact (((((((HT.out.below hb).alloc (by omega) _).alloc (by simp; omega) _).grown G2.out (by simp; omega) (fun g e => (hlt4 g e).1)).below (hb2.mono (by omega))).below (hb3.mono (by omega))).alloc (by omega) _)
        · intro e; have := (hz5 _ e).2; omega
        · intro e; have := (hz5 _ e).2; omega
        · exact ((((((hb.alloc (by omega) _).alloc (by simp; omega) _).grown G2.out (by simp; omega) (fun g e => (hlt4 g e).1)).trans (hb2.mono (by omega))).trans (hb3.mono (by omega))).alloc (by omega) _)
        · simp; omega
        · simp; omega
      have ST := Lib.hid start
      clear start e1 s2 s3
      go_loopw [4, 61] (fun v i wq => ∃ j : Nat, j ≤ 3 ∧ i = .int .i64 j ∧ (∀ i, i < j → cnd x i) ∧ InRel w wq x E w3.heap.size w1.heap.size w2.heap.size cN cM v j) (fun _ i _ => 3 - (intOf i).toNat)
      case atStart => exact ⟨0, by omega, rfl, fun i h => absurd h (by omega), ST.out⟩
      case round =>
        obtain ⟨j, hj, rfl, hcn0, hin⟩ := hrel
        obtain rfl | rfl | rfl | rfl : j = 0 ∨ j = 1 ∨ j = 2 ∨ j = 3 := by omega
        · have hle := prt_length x z1 z2 z3 0
          have hlen : (E ++ prt x 0).length ≤ 200000 := by rw [List.length_append]; omega
          have c0 : wr.cell? ⟨w3.heap.size, 0, none⟩ = some (.int .u8 110) := hin.blk.cell 0
          have c1 : wr.cell? ⟨w3.heap.size, 1, none⟩ = some (.slice (some ⟨w1.heap.size, 0, none⟩) x.nm.size cN) := hin.blk.cell 1
          have HI := Lib.hid hin
          have CN := Lib.hid hcn0
          clear hin hle hcn0
          by_cases h : 0 ≤ ix (pS x.l) 110
          · have CN1 := Lib.hid (show ∀ i, i < 1 → cnd x i from fun i hi => by
              rcases Nat.lt_or_ge i 0 with h1 | h1
              · exact CN.out i h1
              · obtain rfl : i = 0 := by omega
                exact Or.inl h)
            have HL := Lib.hid (hl_of E (prt x 0) (prt x (0 + 1)) x.nm.data.toList x.nm.size (prt1_yes h) rfl)
            go_wp2_with (first
              | (go_at_call 10; refine (ix110 _ _).mono ?_; rintro e w' ⟨rfl, rfl⟩)
              | (go_at_call 11
                 refine (put_any w.heap.size (E ++ prt x 0).length x.nm.size cN (w1.heap.size + 1) (some ⟨w1.heap.size, 0, none⟩) u4 (E ++ prt x 0) (bv x.nm.data.toList) _ (HI.out.own.alloc _) (HI.out.rN.alloc HI.out.lN _) (bv_one _) (fun ad e _ => by cases e; exact fun e => HI.out.nN e.symm) (by omega) (by omega) (by have := HI.out.lN; simp; omega) (by have := HI.out.bl.size; simp; omega)).mono ?_
                 rintro e w' ⟨v', rfl, hown', hg', hat'⟩
                 have HI1 := Lib.hid (InRel.putt HI.out _ hown' HL.out hg' hat')
                 clear hown' hg' hat')
              | fail)
            go_roundw
            case rel => exact ⟨1, by omega, rfl, CN1.out, HI1.out⟩
            case measure => simp [intOf]
          · by_cases hq : x.nm.size = 0
            case neg =>
              have hlk : k0 < xs.length := by
                rcases Nat.lt_or_ge k k0 with h1 | h1
                · have hok := KX.out h1
                  exact absurd ((show cnd x 0 from by first | exact hok.2.1 | exact hok.2.2.1 | exact hok.2.2.2).resolve_left h) hq
                · omega
              have hn0 : 1 ≤ x.nm.size := by omega
              go_wp2_with (first
                | (go_at_call 10; refine (ix110 _ _).mono ?_; rintro e w' ⟨rfl, rfl⟩)
                | fail)
              go_ret2
              exact BPost.bad hlk (HI.out.bl.alloc HI.out.bl.size _)
            have hn0 : x.nm.size ≤ 0 := by omega
            have CN1 := Lib.hid (show ∀ i, i < 1 → cnd x i from fun i hi => by
              rcases Nat.lt_or_ge i 0 with h1 | h1
              · exact CN.out i h1
              · obtain rfl : i = 0 := by omega
                exact Or.inr hq)
            clear hq
            have HI1 := Lib.hid (HI.out.skip (.cells #[Value.int .u8 110, .slice (some ⟨w1.heap.size, 0, none⟩) x.nm.size cN] 37) (prt1_no h))
            go_wp2_with (first
              | (go_at_call 10; refine (ix110 _ _).mono ?_; rintro e w' ⟨rfl, rfl⟩)
              | fail)
            go_roundw
            case rel => exact ⟨1, by omega, rfl, CN1.out, HI1.out⟩
            case measure => simp [intOf]
        · have hle := prt_length x z1 z2 z3 1
          have hlen : (E ++ prt x 1).length ≤ 200000 := by rw [List.length_append]; omega
          have c0 : wr.cell? ⟨w3.heap.size, 2, none⟩ = some (.int .u8 109) := hin.blk.cell 2
          have c1 : wr.cell? ⟨w3.heap.size, 3, none⟩ = some (.slice (some ⟨w2.heap.size, 0, none⟩) x.to.size cM) := hin.blk.cell 3
          have HI := Lib.hid hin
          have CN := Lib.hid hcn0
          clear hin hle hcn0
          by_cases h : 0 ≤ ix (pS x.l) 109
          · have CN1 := Lib.hid (show ∀ i, i < 2 → cnd x i from fun i hi => by
              rcases Nat.lt_or_ge i 1 with h1 | h1
              · exact CN.out i h1
              · obtain rfl : i = 1 := by omega
                exact Or.inl h)
            have HL := Lib.hid (hl_of E (prt x 1) (prt x (1 + 1)) x.to.data.toList x.to.size (prt2_yes h) rfl)
            go_wp2_with (first
              | (go_at_call 10; refine (ix109 _ _).mono ?_; rintro e w' ⟨rfl, rfl⟩)
              | (go_at_call 11
                 refine (put_any w.heap.size (E ++ prt x 1).length x.to.size cM (w2.heap.size + 1) (some ⟨w2.heap.size, 0, none⟩) u4 (E ++ prt x 1) (bv x.to.data.toList) _ (HI.out.own.alloc _) (HI.out.rM.alloc HI.out.lM _) (bv_one _) (fun ad e _ => by cases e; exact fun e => HI.out.nM e.symm) (by omega) (by omega) (by have := HI.out.lM; simp; omega) (by have := HI.out.bl.size; simp; omega)).mono ?_
                 rintro e w' ⟨v', rfl, hown', hg', hat'⟩
                 have HI1 := Lib.hid (InRel.putt HI.out _ hown' HL.out hg' hat')
                 clear hown' hg' hat')
              | fail)
            go_roundw
            case rel => exact ⟨2, by omega, rfl, CN1.out, HI1.out⟩
            case measure => simp [intOf]
          · by_cases hq : x.to.size = 0
            case neg =>
              have hlk : k0 < xs.length := by
                rcases Nat.lt_or_ge k k0 with h1 | h1
                · have hok := KX.out h1
                  exact absurd ((show cnd x 1 from by first | exact hok.2.1 | exact hok.2.2.1 | exact hok.2.2.2).resolve_left h) hq
                · omega
              have hn0 : 1 ≤ x.to.size := by omega
              go_wp2_with (first
                | (go_at_call 10; refine (ix109 _ _).mono ?_; rintro e w' ⟨rfl, rfl⟩)
                | fail)
              go_ret2
              exact BPost.bad hlk (HI.out.bl.alloc HI.out.bl.size _)
            have hn0 : x.to.size ≤ 0 := by omega
            have CN1 := Lib.hid (show ∀ i, i < 2 → cnd x i from fun i hi => by
              rcases Nat.lt_or_ge i 1 with h1 | h1
              · exact CN.out i h1
              · obtain rfl : i = 1 := by omega
                exact Or.inr hq)
            clear hq
            have HI1 := Lib.hid (HI.out.skip (.cells #[Value.int .u8 109, .slice (some ⟨w2.heap.size, 0, none⟩) x.to.size cM] 37) (prt2_no h))
            go_wp2_with (first
              | (go_at_call 10; refine (ix109 _ _).mono ?_; rintro e w' ⟨rfl, rfl⟩)
              | fail)
            go_roundw
            case rel => exact ⟨2, by omega, rfl, CN1.out, HI1.out⟩
            case measure => simp [intOf]
        · have hle := prt_length x z1 z2 z3 2
          have hlen : (E ++ prt x 2).length ≤ 200000 := by rw [List.length_append]; omega
          have c0 : wr.cell? ⟨w3.heap.size, 4, none⟩ = some (.int .u8 116) := hin.blk.cell 4
          have c1 : wr.cell? ⟨w3.heap.size, 5, none⟩ = some (.slice x.ta x.tx.length x.tc) := hin.blk.cell 5
          have HI := Lib.hid hin
          have CN := Lib.hid hcn0
          clear hin hle hcn0
          by_cases h : 0 ≤ ix (pS x.l) 116
          · have CN1 := Lib.hid (show ∀ i, i < 3 → cnd x i from fun i hi => by
              rcases Nat.lt_or_ge i 2 with h1 | h1
              · exact CN.out i h1
              · obtain rfl : i = 2 := by omega
                exact Or.inl h)
            have HL := Lib.hid (hl_of E (prt x 2) (prt x (2 + 1)) x.tx x.tx.length (prt3_yes h) rfl)
            go_wp2_with (first
              | (go_at_call 10; refine (ix116 _ _).mono ?_; rintro e w' ⟨rfl, rfl⟩)
              | (go_at_call 11
                 refine (put_any w.heap.size (E ++ prt x 2).length x.tx.length x.tc w.heap.size x.ta u4 (E ++ prt x 2) (bv x.tx) _ (HI.out.own.alloc _) (HI.out.rT.alloc HI.out.bl.size _) (bv_one _) (fun ad e hp => fun e2 => by obtain ⟨ad', e', hb', _⟩ := HI.out.rT.2 hp; rw [e] at e'; cases e'; have := (HI.out.own.lt _ e2.symm).1; omega) (by omega) (by omega) (by have := HI.out.bl.size; simp; omega) (by have := HI.out.bl.size; simp; omega)).mono ?_
                 rintro e w' ⟨v', rfl, hown', hg', hat'⟩
                 have HI1 := Lib.hid (InRel.putt HI.out _ hown' HL.out hg' hat')
                 clear hown' hg' hat')
              | fail)
            go_roundw
            case rel => exact ⟨3, by omega, rfl, CN1.out, HI1.out⟩
            case measure => simp [intOf]
          · by_cases hq : x.tx.length = 0
            case neg =>
              have hlk : k0 < xs.length := by
                rcases Nat.lt_or_ge k k0 with h1 | h1
                · have hok := KX.out h1
                  exact absurd ((show cnd x 2 from by first | exact hok.2.1 | exact hok.2.2.1 | exact hok.2.2.2).resolve_left h) hq
                · omega
              have hn0 : 1 ≤ x.tx.length := by omega
              go_wp2_with (first
                | (go_at_call 10; refine (ix116 _ _).mono ?_; rintro e w' ⟨rfl, rfl⟩)
                | fail)
              go_ret2
              exact BPost.bad hlk (HI.out.bl.alloc HI.out.bl.size _)
            have hn0 : x.tx.length ≤ 0 := by omega
            have CN1 := Lib.hid (show ∀ i, i < 3 → cnd x i from fun i hi => by
              rcases Nat.lt_or_ge i 2 with h1 | h1
              · exact CN.out i h1
              · obtain rfl : i = 2 := by omega
                exact Or.inr hq)
            clear hq
            have HI1 := Lib.hid (HI.out.skip (.cells #[Value.int .u8 116, .slice x.ta x.tx.length x.tc] 37) (prt3_no h))
            go_wp2_with (first
              | (go_at_call 10; refine (ix116 _ _).mono ?_; rintro e w' ⟨rfl, rfl⟩)
              | fail)
            go_roundw
            case rel => exact ⟨3, by omega, rfl, CN1.out, HI1.out⟩
            case measure => simp [intOf]
        · have hk1 : k < k0 := KB.out ⟨hp, hcn0 0 (by omega), hcn0 1 (by omega), hcn0 2 (by omega)⟩
          have REL : Hid (wr.ownsRow w.heap.size 5 1 u4 (encL (xs.take (k + 1))).length (encL (xs.take (k + 1))) ∧ Below w.heap.size w wr) := by
            have e : E ++ prt x 3 = encL (xs.take (k + 1)) := by rw [HEE.out, encL_take xs k hlt, HK.out]; rfl
            rw [← e]
            exact Lib.hid ⟨hin.own, hin.bl⟩
          clear hin hcn0
          go_wp2_with fail
          go_roundw
          case rel => exact ⟨k + 1, by omega, by go_num, REL.out.1, REL.out.2⟩
          case measure => simp [intOf]; omega
    · obtain rfl : k = xs.length := by omega
      obtain rfl : k0 = xs.length := by omega
      rw [List.take_length] at hown
      have HO := Lib.hid hown
      clear hown hs hsz hok hbad
      by_cases h256 : xs.length ≤ 256
      · go_wp2_with fail
        go_ret2
        exact ⟨hb, .inl ⟨rfl, h256, _, rfl, HO.out⟩⟩
      · have h257 : 257 ≤ xs.length := by omega
        go_wp2_with fail
        go_ret2
        exact ⟨hb, .inr (.inl ⟨rfl, by omega, rfl⟩)⟩
end Go.Proofs.YtimphpiofoepgaaGreatDoor
