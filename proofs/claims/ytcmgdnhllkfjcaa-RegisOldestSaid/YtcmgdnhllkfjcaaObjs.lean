/- Blocks of cells in memory: what one holds, told whole, and how that stays through what a program does. No program in sight; no condition but those typed. -/
import Derived.Below
import Derived.Laws.AppendOwn
import Derived.Laws.NewBlocks
import Derived.WalkKit
import Derived.Deep.Draws
namespace Go.Proofs.Ytcmgdnhllkfjcaa.Objs
open Go.RowKit

/-- Block b holds just these cells. -/
def At (w : World) (b : Nat) (cs : List Value) (t : TypeId) : Prop := w.heap[b]? = some (.cells cs.toArray t (0, 0))

theorem At.lt {w : World} {b : Nat} {cs : List Value} {t : TypeId} (h : At w b cs t) : b < w.heap.size := (Array.getElem?_eq_some_iff.1 h).1
theorem At.cell {w : World} {b : Nat} {cs : List Value} {t : TypeId} (h : At w b cs t) {j : Nat} {v : Value} (hj : cs[j]? = some v) : w.cell? ⟨b, j, none⟩ = some v := by
  unfold At at h
  simp [World.cell?, h, hj]
theorem At.frozen {w : World} {b : Nat} {cs : List Value} {t : TypeId} (h : At w b cs t) (j : Nat) : w.frozen? ⟨b, j, none⟩ = false := by
  unfold At at h
  simp [World.frozen?, h]
theorem At.block {w w1 : World} {b : Nat} {cs : List Value} {t : TypeId} (h : At w b cs t) (hb : w1.heap[b]? = w.heap[b]?) : At w1 b cs t := hb.trans h
theorem At.below {w w1 : World} {b B : Nat} {cs : List Value} {t : TypeId} (h : At w b cs t) (hb : Below B w w1) (hlt : b < B) : At w1 b cs t := h.block (hb.block b hlt)
theorem At.below' {w w1 : World} {b : Nat} {cs : List Value} {t : TypeId} (h : At w b cs t) (hb : Below w.heap.size w w1) : At w1 b cs t := h.below hb h.lt
theorem At.grown {w w1 : World} {b : Nat} {cs : List Value} {t : TypeId} {row : Option Nat} (h : At w b cs t) (hg : w.grownBy w1 row) (hne : some b ≠ row) : At w1 b cs t := h.block (hg.block b h.lt hne)
theorem At.alloc {w : World} {b : Nat} {cs : List Value} {t : TypeId} (h : At w b cs t) (o : Obj) : At (w.alloc o) b cs t := by
  unfold At at h ⊢
  have := h
  show (w.heap.push o)[b]? = _
  rw [Array.getElem?_push, if_neg (Nat.ne_of_lt (At.lt h)), h]
theorem At.new (w : World) (cs : List Value) (t : TypeId) : At (w.alloc (.cells cs.toArray t)) w.heap.size cs t := by
  show (w.heap.push _)[w.heap.size]? = _
  simp
theorem At.drewN {w : World} {b : Nat} {cs : List Value} {t : TypeId} (h : At w b cs t) (n : Nat) : At (w.drewN n) b cs t := h
theorem At.drew {w : World} {b : Nat} {cs : List Value} {t : TypeId} (h : At w b cs t) : At w.drew b cs t := h
/-- A store into it. -/
theorem At.set {w : World} {b : Nat} {cs : List Value} {t : TypeId} (h : At w b cs t) (j : Nat) (v : Value) : At (w.setCell ⟨b, j, none⟩ v) b (cs.set j v) t := by
  unfold At at h ⊢
  have hlt := At.lt h
  have hg : w.heap[b] = .cells cs.toArray t (0, 0) := by
    have := Array.getElem?_eq_getElem hlt
    rw [h] at this
    exact (Option.some.inj this).symm
  rw [Array.getElem?_eq_getElem (by simp [World.setCell, hlt])]
  simp only [World.setCell, Array.getElem_modify, if_true, hg]
  simp
/-- A store into another block. -/
theorem At.other {w : World} {b : Nat} {cs : List Value} {t : TypeId} (h : At w b cs t) (a : Addr) (v : Value) (hne : a.block ≠ b) : At (w.setCell a v) b cs t := by
  unfold At at h ⊢
  have hlt := At.lt h
  rw [← h]
  simp [World.setCell, Array.getElem?_modify, hne]

/-- What a call leaves: all but the blocks of F is as it was; memory only grows. -/
structure But (F : Nat → Prop) (w w1 : World) : Prop where
  os : w1.os = w.os
  tape : w1.tape = w.tape
  output : w1.output = w.output
  size : w.heap.size ≤ w1.heap.size
  block : ∀ k, k < w.heap.size → ¬ F k → w1.heap[k]? = w.heap[k]?
theorem But.refl (F : Nat → Prop) (w : World) : But F w w := ⟨rfl, rfl, rfl, Nat.le_refl _, fun _ _ _ => rfl⟩
theorem But.trans {F G : Nat → Prop} {w w1 w2 : World} (h : But F w w1) (g : But G w1 w2) (hG : ∀ k, G k → F k ∨ w.heap.size ≤ k) : But F w w2 :=
  ⟨g.os.trans h.os, g.tape.trans h.tape, g.output.trans h.output, Nat.le_trans h.size g.size, fun k hk hf =>
    (g.block k (Nat.lt_of_lt_of_le hk h.size) (fun hg => (hG k hg).elim hf (fun hle => absurd hk (Nat.not_lt.2 hle)))).trans (h.block k hk hf)⟩
theorem But.mono {F G : Nat → Prop} {w w1 : World} (h : But F w w1) (hFG : ∀ k, F k → G k) : But G w w1 := ⟨h.os, h.tape, h.output, h.size, fun k hk hg => h.block k hk (fun hf => hg (hFG k hf))⟩
theorem But.ofBelow {F : Nat → Prop} {w w1 : World} (h : Below w.heap.size w w1) : But F w w1 := ⟨h.os, h.tape, h.output, h.size, fun k hk _ => h.block k hk⟩
theorem But.ofGrown {w w1 : World} {row : Option Nat} (h : w.grownBy w1 row) : But (fun k => some k = row) w w1 := ⟨h.os, h.tape, h.output, h.size, fun k hk hf => h.block k hk hf⟩
theorem But.ofSet (w : World) (b j : Nat) (v : Value) : But (fun k => k = b) w (w.setCell ⟨b, j, none⟩ v) :=
  ⟨rfl, rfl, rfl, by simp [World.setCell], fun k _ hf => by simp [World.setCell, Array.getElem?_modify, Ne.symm hf]⟩
theorem But.ofAlloc (w : World) (o : Obj) : But (fun _ => False) w (w.alloc o) :=
  ⟨rfl, rfl, rfl, by show _ ≤ (w.heap.push o).size; simp, fun k hk _ => by show (w.heap.push o)[k]? = _; rw [Array.getElem?_push, if_neg (Nat.ne_of_lt hk)]⟩
theorem But.ofDrewN (w : World) (n : Nat) : But (fun _ => False) w (w.drewN n) := ⟨rfl, rfl, rfl, Nat.le_refl _, fun _ _ _ => rfl⟩
theorem But.below {F : Nat → Prop} {w w1 : World} {B : Nat} (h : But F w w1) (hB : B ≤ w.heap.size) (hF : ∀ k, F k → B ≤ k) : Below B w w1 :=
  ⟨h.os, h.tape, h.output, h.size, fun k hk => h.block k (Nat.lt_of_lt_of_le hk hB) (fun hf => absurd hk (Nat.not_lt.2 (hF k hf)))⟩
theorem At.but {w w1 : World} {b : Nat} {cs : List Value} {t : TypeId} {F : Nat → Prop} (h : At w b cs t) (hb : But F w w1) (hne : ¬ F b) : At w1 b cs t := h.block (hb.block b h.lt hne)
end Go.Proofs.Ytcmgdnhllkfjcaa.Objs
