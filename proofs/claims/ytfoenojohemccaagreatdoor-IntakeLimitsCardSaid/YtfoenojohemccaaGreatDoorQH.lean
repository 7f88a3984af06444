/- Blocks of a call's own behind its callees: small laws that the walks of structs use. | Stores into different blocks commute: so that a region that draws its order has one end. -/
import Derived.Test.YtfoenojohemccaaGreatDoorQR
namespace Go.Proofs.YtfoenojohemccaaGreatDoor
open Go.RowKit Go.Sort Go.Proofs

/-- block g holds the cells cs, and they can be written -/
def At (W : World) (g : Nat) (cs : Array Value) : Prop := (∀ j, W.cell? ⟨g, j, none⟩ = cs[j]?) ∧ (∀ j, W.frozen? ⟨g, j, none⟩ = false) ∧ g < W.heap.size
theorem At.new (w : World) (cs : Array Value) (T : TypeId) : At (w.alloc (.cells cs T)) w.heap.size cs :=
  ⟨fun j => by simp [go_sem], fun j => by simp [go_sem], by simp⟩
theorem At.newd (w : World) (cs : Array Value) (T : TypeId) : At ((w.alloc (.cells cs T)).drew) w.heap.size cs :=
  ⟨fun j => by simp [go_sem], fun j => by simp [go_sem], by simp⟩
theorem At.below {B : Nat} {W W' : World} {g : Nat} {cs : Array Value} (h : At W g cs) (hb : Below B W W') (hg : g < B) : At W' g cs :=
  ⟨fun j => by rw [hb.cell (p := ⟨g, j, none⟩) hg]; exact h.1 j, fun j => by rw [hb.frozen (p := ⟨g, j, none⟩) hg]; exact h.2.1 j, Nat.lt_of_lt_of_le h.2.2 hb.size⟩
theorem At.call {W W' : World} {g : Nat} {cs : Array Value} (h : At W g cs) (hb : Below W.heap.size W W') : At W' g cs := h.below hb h.2.2
theorem At.alloc {W : World} {g : Nat} {cs : Array Value} (h : At W g cs) (o : Obj) : At (W.alloc o) g cs := h.call ((Below.refl _ _).alloc (Nat.le_refl _) o)
theorem At.drew {W : World} {g : Nat} {cs : Array Value} (h : At W g cs) : At W.drew g cs := h.call (Below.refl _ _).drew
theorem At.setCell {W : World} {g : Nat} {cs : Array Value} (h : At W g cs) (a : Addr) (v : Value) (hne : a.block ≠ g) : At (W.setCell a v) g cs :=
  ⟨fun j => by rw [World.cell?_setCell_other _ _ _ _ (fun e => hne (by rw [e]))]; exact h.1 j, fun j => by rw [World.frozen?_setCell]; exact h.2.1 j, by simpa using h.2.2⟩

theorem at2 {w W : World} {A B : Array Value} {TA TB : TypeId} (hb : Below ((w.alloc (.cells A TA)).alloc (.cells B TB)).heap.size ((w.alloc (.cells A TA)).alloc (.cells B TB)) W) :
    At W w.heap.size A ∧ At W (w.heap.size + 1) B ∧ Below w.heap.size w W ∧ w.heap.size + 1 + 1 ≤ W.heap.size := by
  refine ⟨((At.new w A TA).alloc _).call hb, ?_, (((Below.refl _ _).alloc (Nat.le_refl _) _).alloc (by simp) _).trans (hb.mono (by simp; omega)), by have := hb.size; simpa using this⟩
  have := (At.new (w.alloc (.cells A TA)) B TB).call hb
  simpa using this
theorem at3 {w W : World} {A B C : Array Value} {TA TB TC : TypeId} (hb : Below (((w.alloc (.cells A TA)).alloc (.cells B TB)).alloc (.cells C TC)).heap.size (((w.alloc (.cells A TA)).alloc (.cells B TB)).alloc (.cells C TC)) W) :
    At W w.heap.size A ∧ At W (w.heap.size + 1) B ∧ At W (w.heap.size + 1 + 1) C ∧ Below w.heap.size w W ∧ w.heap.size + 1 + 1 + 1 ≤ W.heap.size := by
  obtain ⟨h1, h2, h3, _⟩ := at2 (w := w) (A := A) (B := B) (TA := TA) (TB := TB) (W := W) (((Below.refl _ _).alloc (Nat.le_refl _) _).trans (hb.mono (by simp)))
  refine ⟨h1, h2, ?_, h3, by have := hb.size; simpa using this⟩
  have := (At.new ((w.alloc (.cells A TA)).alloc (.cells B TB)) C TC).call hb
  simpa using this
theorem at4 {w W : World} {A B C D : Array Value} {TA TB TC TD : TypeId} (hb : Below ((((w.alloc (.cells A TA)).alloc (.cells B TB)).alloc (.cells C TC)).alloc (.cells D TD)).heap.size ((((w.alloc (.cells A TA)).alloc (.cells B TB)).alloc (.cells C TC)).alloc (.cells D TD)) W) :
    At W w.heap.size A ∧ At W (w.heap.size + 1) B ∧ At W (w.heap.size + 1 + 1) C ∧ At W (w.heap.size + 1 + 1 + 1) D ∧ Below w.heap.size w W ∧ w.heap.size + 1 + 1 + 1 + 1 ≤ W.heap.size := by
  obtain ⟨h1, h2, h3, h4, _⟩ := at3 (w := w) (A := A) (B := B) (C := C) (TA := TA) (TB := TB) (TC := TC) (W := W) (((Below.refl _ _).alloc (Nat.le_refl _) _).trans (hb.mono (by simp)))
  refine ⟨h1, h2, h3, ?_, h4, by have := hb.size; simpa using this⟩
  have := (At.new (((w.alloc (.cells A TA)).alloc (.cells B TB)).alloc (.cells C TC)) D TD).call hb
  simpa using this
theorem at5 {w W : World} {A B C D E : Array Value} {TA TB TC TD TE : TypeId} (hb : Below (((((w.alloc (.cells A TA)).alloc (.cells B TB)).alloc (.cells C TC)).alloc (.cells D TD)).alloc (.cells E TE)).heap.size (((((w.alloc (.cells A TA)).alloc (.cells B TB)).alloc (.cells C TC)).alloc (.cells D TD)).alloc (.cells E TE)) W) :
    At W w.heap.size A ∧ At W (w.heap.size + 1) B ∧ At W (w.heap.size + 1 + 1) C ∧ At W (w.heap.size + 1 + 1 + 1) D ∧ At W (w.heap.size + 1 + 1 + 1 + 1) E ∧ Below w.heap.size w W ∧ w.heap.size + 1 + 1 + 1 + 1 + 1 ≤ W.heap.size := by
  obtain ⟨h1, h2, h3, h4, h5, _⟩ := at4 (w := w) (A := A) (B := B) (C := C) (D := D) (TA := TA) (TB := TB) (TC := TC) (TD := TD) (W := W) (((Below.refl _ _).alloc (Nat.le_refl _) _).trans (hb.mono (by simp)))
  refine ⟨h1, h2, h3, h4, ?_, h5, by have := hb.size; simpa using this⟩
  have := (At.new ((((w.alloc (.cells A TA)).alloc (.cells B TB)).alloc (.cells C TC)).alloc (.cells D TD)) E TE).call hb
  simpa using this
/-- two stores into a block of the call's own -/
theorem Below.set2 {B : Nat} {w W : World} (h : Below B w W) {g : Nat} (hg : B ≤ g) (u v : Value) : Below B w ((W.setCell ⟨g, 0, none⟩ u).setCell ⟨g, 1, none⟩ v) := (h.setCell hg _).setCell hg _
end Go.Proofs.YtfoenojohemccaaGreatDoor
namespace Go.Proofs.YtfoenojohemccaaGreatDoor
open Go.RowKit Go.Sort Go.Proofs
theorem setCell_far (W : World) (a b : Addr) (u v : Value) (h : a.block ≠ b.block) : (W.setCell a u).setCell b v = (W.setCell b v).setCell a u := by
  have : ((W.setCell a u).setCell b v).heap = ((W.setCell b v).setCell a u).heap := by
    simp only [World.setCell]
    apply Array.ext_getElem?
    intro i
    simp only [Array.getElem?_modify]
    by_cases h1 : a.block = i
    · have h2 : b.block ≠ i := fun e => h (h1.trans e.symm)
      simp [h1, h2]
    · simp [h1]
  have e : ∀ (A B : World), A.heap = B.heap → A.tape = B.tape → A.drawn = B.drawn → A.os = B.os → A.output = B.output → A = B := by
    intro A B h1 h2 h3 h4 h5
    cases A; cases B; simp_all
  exact e _ _ this rfl rfl rfl rfl
/-- the store into the later block stands outside -/
theorem setCell_ord {g h : Nat} (hlt : g < h) (W : World) (i j : Nat) (u v : Value) : (W.setCell ⟨h, i, none⟩ u).setCell ⟨g, j, none⟩ v = (W.setCell ⟨g, j, none⟩ v).setCell ⟨h, i, none⟩ u :=
  setCell_far W _ _ u v (by show h ≠ g; omega)
theorem cell_far {W : World} {g h : Nat} (hne : g ≠ h) (i j : Nat) (u : Value) : (W.setCell ⟨g, i, none⟩ u).cell? ⟨h, j, none⟩ = W.cell? ⟨h, j, none⟩ := World.cell?_setCell_far _ _ _ _ (by show g ≠ h; exact hne)
end Go.Proofs.YtfoenojohemccaaGreatDoor
