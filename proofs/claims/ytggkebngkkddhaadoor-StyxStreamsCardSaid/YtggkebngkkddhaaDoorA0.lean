/- Words on memory for the proofs of this seat: a block that is known whole, and what a step leaves as it was. -/
import Derived.Below
import Derived.Laws.OwnMore
import Derived.Deep.Draws
import Derived.Laws.Rows
import Derived.WalkKit
import Derived.Lib.Hide
namespace Go.Proofs.YtggkebngkkddhaaDoor
open Go.RowKit

/-- Block g is just the cells cs of element type t, none of them frozen. -/
def Blk (w : World) (g : Nat) (t : TypeId) (cs : Array Value) : Prop := w.heap[g]? = some (.cells cs t (0, 0))

section
variable {w w' : World} {g : Nat} {t : TypeId} {cs : Array Value}
theorem Blk.lt (h : Blk w g t cs) : g < w.heap.size := by
  rcases Nat.lt_or_ge g w.heap.size with hlt | hge
  · exact hlt
  · unfold Blk at h; rw [Array.getElem?_eq_none hge] at h; cases h
theorem Blk.cell (h : Blk w g t cs) (i : Nat) : w.cell? ⟨g, i, none⟩ = cs[i]? := cell_of_row w g i cs t (0, 0) h
theorem Blk.frozen (h : Blk w g t cs) (i : Nat) : w.frozen? ⟨g, i, none⟩ = false := by
  unfold Blk at h
  simp [World.frozen?, h]
theorem Blk.new (w : World) (t : TypeId) (cs : Array Value) : Blk (w.alloc (.cells cs t)) w.heap.size t cs := heap_alloc_new w _
theorem Blk.drew (h : Blk w g t cs) : Blk w.drew g t cs := h
theorem Blk.drewN (h : Blk w g t cs) (n : Nat) : Blk (w.drewN n) g t cs := h
theorem Blk.alloc (h : Blk w g t cs) (o : Obj) : Blk (w.alloc o) g t cs := (Below.heap_alloc w o g h.lt).trans h
theorem Blk.set_ (h : Blk w g t cs) (i : Nat) (u : Value) : Blk (w.setCell ⟨g, i, none⟩ u) g t (cs.setIfInBounds i u) := by
  unfold Blk at h ⊢
  simp [World.setCell, Array.getElem?_modify, h]
theorem Blk.far (h : Blk w g t cs) {p : Addr} (hp : g ≠ p.block) (u : Value) : Blk (w.setCell p u) g t cs := (Below.heap_setCell w p u g hp).trans h
theorem Blk.ne_ {g' : Nat} {t' : TypeId} {cs' : Array Value} (h : Blk w g t cs) (h' : Blk w g' t' cs') (hne : t ≠ t') : g ≠ g' := by
  rintro rfl
  unfold Blk at h h'
  rw [h] at h'
  injection h' with h'
  injection h' with _ ht
  exact hne ht
end

/-- What was in the heap of w is there in w' still, but in the blocks of which S holds. -/
structure FrC (S : Nat → Prop) (h h' : Array Obj) (o o' : Os) (u u' : Array (Nat × ByteArray)) : Prop where
  size : h.size ≤ h'.size
  block : ∀ b, b < h.size → ¬ S b → h'[b]? = h[b]?
  out : o' = o ∧ u' = u
def Fr (S : Nat → Prop) (w w' : World) : Prop := FrC S w.heap w'.heap w.os w'.os w.output w'.output
def none_ : Nat → Prop := fun _ => False
def one_ (g : Nat) : Nat → Prop := fun b => b = g
def two_ (g k : Nat) : Nat → Prop := fun b => b = g ∨ b = k

section
variable {S S' : Nat → Prop} {w w' w'' : World}
theorem Fr.refl (S : Nat → Prop) (w : World) : Fr S w w := ⟨Nat.le_refl _, fun _ _ _ => rfl, rfl, rfl⟩
theorem Fr.trans (h : Fr S w w') (h' : Fr S w' w'') : Fr S w w'' :=
  ⟨Nat.le_trans h.1 h'.1, fun b hb hs => (h'.2 b (Nat.lt_of_lt_of_le hb h.1) hs).trans (h.2 b hb hs), h'.3.1.trans h.3.1, h'.3.2.trans h.3.2⟩
theorem Fr.mono (h : Fr S w w') (hs : ∀ b, S b → S' b) : Fr S' w w' := ⟨h.1, fun b hb hn => h.2 b hb (fun x => hn (hs b x)), h.3⟩
theorem Fr.blk {g : Nat} {t : TypeId} {cs : Array Value} (h : Fr S w w') (hb : Blk w g t cs) (hg : ¬ S g) : Blk w' g t cs := (h.2 g hb.lt hg).trans hb
theorem Fr.drew (h : Fr S w w') : Fr S w w'.drew := h
theorem Fr.drewN (h : Fr S w w') (n : Nat) : Fr S w (w'.drewN n) := h
theorem Fr.alloc (h : Fr S w w') (o : Obj) : Fr S w (w'.alloc o) :=
  ⟨by simp; have := h.1; omega, fun b hb hs => (Below.heap_alloc w' o b (Nat.lt_of_lt_of_le hb h.1)).trans (h.2 b hb hs), h.3⟩
theorem Fr.set (h : Fr S w w') {p : Addr} (hp : S p.block) (u : Value) : Fr S w (w'.setCell p u) :=
  ⟨by simpa [World.setCell] using h.1, fun b hb hs => (Below.heap_setCell w' p u b (fun e => hs (e ▸ hp))).trans (h.2 b hb hs), h.3⟩
theorem Fr.setNew (h : Fr S w w') {p : Addr} (hp : w.heap.size ≤ p.block) (u : Value) : Fr S w (w'.setCell p u) :=
  ⟨by simpa [World.setCell] using h.1, fun b hb hs => (Below.heap_setCell w' p u b (fun e => by omega)).trans (h.2 b hb hs), h.3⟩
end
end Go.Proofs.YtggkebngkkddhaaDoor
