/- the walks. -/
import Derived.Test.YtimphpiofoepgaaGreatDoorWa
namespace Go.Proofs.YtimphpiofoepgaaGreatDoor
open Go Go.RowKit

theorem u8_info : (Tryz.prog.info? 5).map (fun i => (i.zero, i.size, i.bytes)) = some (some (.int .u8 0), 1, 1) := by kernel_rfl

theorem Reads.grown' {w w' : World} {B size n : Nat} {A : Option Addr} {xs : List Value} (h : Reads w B size A n xs) {row : Option Nat} (hg : w.grownBy w' row) (hB : B ≤ w.heap.size) (hne : ∀ ad, A = some ad → 0 < n → some ad.block ≠ row) : Reads w' B size A n xs :=
  ⟨h.1, fun hn => by
    obtain ⟨ad, e, hb, hc⟩ := h.2 hn
    exact ⟨ad, e, hb, fun j u hu => (World.cell?_of_block (hg.block (ad.add j).block (by rw [block_of_add]; omega) (by rw [block_of_add]; exact hne ad e hn))).trans (hc j u hu)⟩⟩

theorem reads_new2 (w : World) (x y : Value) (t : TypeId) : Reads (w.alloc (.cells #[x, y] t)) (w.heap.size + 1) 1 (some ⟨w.heap.size, 0, none⟩) 2 [x, y] := by
  refine ⟨rfl, fun _ => ⟨_, rfl, Nat.lt_succ_self _, fun j u hu => ?_⟩⟩
  have : (w.alloc (.cells #[x, y] t)).cell? ⟨w.heap.size, j, none⟩ = some u := by
    rw [World.cell?_alloc_at _ _ _ _ rfl]
    simpa using hu
  cases j with
  | zero => exact this
  | succ j => simpa [Addr.add] using this
theorem put_grown {w w1 w2 : World} {o : Obj} {v v1 : Value} (hg1 : (w.alloc o).grownBy w1 v.ownBlock) (hg2 : w1.grownBy w2 v1.ownBlock) (hat : v1.ownBlock = v.ownBlock ∨ v1.ownBlock = some (w.alloc o).heap.size) : w.grownBy w2 v.ownBlock := by
  have z1 := hg1.size
  have z2 := hg2.size
  have hz : ∀ o, (w.alloc o).heap.size = w.heap.size + 1 := fun o => by simp
  rw [hz] at z1
  refine ⟨hg2.os.trans hg1.os, hg2.tape.trans hg1.tape, hg2.output.trans hg1.output, by omega, fun i hi hne => ?_⟩
  have a1 := hg1.block i (by rw [hz]; omega) hne
  have a2 := hg2.block i (by omega) (by
    rcases hat with e | e
    · rw [e]; exact hne
    · rw [e, hz]; intro h; injection h; omega)
  rw [a2, a1]
  exact Below.heap_alloc w o i hi
set_option maxRecDepth 100000 in
set_option maxHeartbeats 400000 in
theorem put_any (base n m c B : Nat) (A : Option Addr) (v : Value) (xs ys : List Value) (w : World) (hown : w.ownsRow base 5 1 v n xs) (hr : Reads w B 1 A m ys) (h1 : ∀ u ∈ ys, u.oneCell' = true)
    (hne : ∀ ad, A = some ad → 0 < m → some ad.block ≠ v.ownBlock) (hm : m ≤ 65535) (hn : n ≤ 1000000000) (hB : B ≤ w.heap.size) (hbase : base ≤ w.heap.size) :
    Calls Tryz.prog 11 #[v, .slice A m c] w fun e w' => ∃ v', e = .returned v' ∧ w'.ownsRow base 5 1 v' (n + 2 + m) (xs ++ [.int .u8 (m % 256 : Nat), .int .u8 (m / 256 : Nat)] ++ ys) ∧ w.grownBy w' v.ownBlock ∧
      (v'.ownBlock = v.ownBlock ∨ ∃ b, w.heap.size ≤ b ∧ v'.ownBlock = some b) := by
  obtain ⟨i0, hi0, hz0, hz1, hz2⟩ := info_parts u8_info
  go_enter Tryz.func11, Tryz.ntmps11
  go_wp2_with (first
    | (at_builtin
       refine wpList_append_any _ rfl (.tmp 5) (.tmp 13) _ rfl base 5 i0 _ 1 1 Tryz.underlying24 hi0 hz0 hz1 hz2 rfl (by omega) v n xs rfl
         (hown.alloc _) (w.heap.size + 1) (some ⟨w.heap.size, 0, none⟩) 2 2 [.int .u8 (m % 256 : Nat), .int .u8 (m / 256 : Nat)] rfl (reads_new2 w _ _ 5) (by simp [Value.oneCell']) (by simp only [maxLen]; omega) (by omega) (by simp; omega) ?_
       intro v1 w1 hown1 hg1 hat1)
    | (at_builtin
       refine wpList_append_any _ rfl (.tmp 14) (.tmp 15) _ rfl base 5 i0 _ 1 1 Tryz.underlying24 hi0 hz0 hz1 hz2 rfl (by omega) v1 (n + 2) _ rfl
         hown1 B A m c ys rfl ((hr.alloc hB _).grown' hg1 (by simp; omega) hne) h1 (by simp only [maxLen]; omega) (by omega) (by have := hg1.size; simp at this; omega) ?_
       intro v2 w2 hown2 hg2 hat2))
  go_ret
  have z1 := hg1.size
  have hz : ∀ o, (w.alloc o).heap.size = w.heap.size + 1 := fun o => by simp
  rw [hz] at z1
  exact ⟨v2, rfl, hown2, put_grown hg1 hg2 hat1, by
    rcases hat2 with e | e
    · rcases hat1 with e1 | e1
      · exact .inl (e.trans e1)
      · exact .inr ⟨_, by simp, e.trans e1⟩
    · exact .inr ⟨_, by omega, e⟩⟩
end Go.Proofs.YtimphpiofoepgaaGreatDoor
