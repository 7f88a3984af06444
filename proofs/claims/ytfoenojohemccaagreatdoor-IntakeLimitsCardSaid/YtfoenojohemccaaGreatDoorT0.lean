/- Reports with a time: their cells; rows of them. No walk. -/
import Derived.Test.YtfoenojohemccaaGreatDoorR12
import Derived.Test.YtfoenojohemccaaGreatDoorQD
namespace Go.Proofs.YtfoenojohemccaaGreatDoor
open Go.RowKit Go.Sort Go.Proofs

/-- the twelve cells of a report with a time -/
structure T12 where
  (n1 : Bool) (s1 : ByteArray) (n2 : Bool) (s2 : ByteArray) (o s v d t x y : Int) (c : Bool)
def T12.cells (r : T12) : List Value := [.bool r.n1, .string r.s1, .bool r.n2, .string r.s2, .int .i64 r.o, .int .i64 r.s, .int .i64 r.v, .int .i64 r.d, .int .i64 r.t, .int .i64 r.x, .int .i64 r.y, .bool r.c]
def T12.val (r : T12) : Value := .agg #[.bool r.n1, .string r.s1, .bool r.n2, .string r.s2, .int .i64 r.o, .int .i64 r.s, .int .i64 r.v, .int .i64 r.d, .int .i64 r.t, .int .i64 r.x, .int .i64 r.y, .bool r.c]
theorem T12.cells_len (r : T12) : r.cells.length = 12 := rfl
instance : Inhabited T12 := ⟨⟨false, { data := #[] }, false, { data := #[] }, 0, 0, 0, 0, 0, 0, 0, false⟩⟩
theorem zeroET12 (w : World) : (zeroValue 89).run Tryz.prog w = .ok (T12.val ⟨false, { data := #[] }, false, { data := #[] }, 0, 0, 0, 0, 0, 0, 0, false⟩) w := by
  simp [go_sem, T12.val]
theorem tim_row_cells {l : List T12} {a : Option Addr} {w wr : World} (hcr : ∀ i (x : T12), l[i]? = some x → ∃ g off, a = some ⟨g, off, none⟩ ∧ ∀ j, j < 12 → w.cell? ⟨g, off + i * 12 + j, none⟩ = (T12.cells x)[j]?) (hb : Below w.heap.size w wr) {i : Nat} (hi : i < l.length) :
    ∃ g off, a = some ⟨g, off, none⟩ ∧ (∀ j, j < 12 → wr.cell? ⟨g, off + i * 12 + j, none⟩ = (T12.cells l[i])[j]?) ∧ g < w.heap.size := any_row_cells T12.cells_len (by decide) hcr hb hi

/-- small fractions: their products stay in one word -/
def Sq (q : Rat) : Prop := q.num.natAbs < 1099511627776 ∧ q.den < 1048576
theorem Sq.qd {q : Rat} (h : Sq q) : Qd q := ⟨by have := h.1; unfold Wd; omega, by have := h.2; omega⟩
/-- a report with a time -/
structure Tim where
  q : Rat
  r : Rep
  hq : Sq q
theorem Tim.ext' {a b : Tim} (h1 : a.q = b.q) (h2 : a.r = b.r) : a = b := by
  obtain ⟨q, r, h⟩ := a
  obtain ⟨q', r', h'⟩ := b
  cases h1; cases h2; rfl
instance : Inhabited Tim := ⟨⟨0, ⟨0, 0, 0, 0, 0, 0, 0, false⟩, by decide, by decide⟩⟩
def Tim.flat (t : Tim) : T12 := ⟨decide (t.q.num < 0), magB t.q.num.natAbs, false, if t.q.den = 1 then { data := #[] } else magB t.q.den, t.r.o, t.r.s, t.r.v, t.r.d, t.r.t, t.r.x, t.r.y, t.r.c⟩
def Tim.cells (t : Tim) : List Value := t.flat.cells
def Tim.val (t : Tim) : Value := t.flat.val
theorem Tim.cells_eq (t : Tim) : t.cells = qcells t.q ++ t.r.cells := rfl
theorem Tim.cells_len (t : Tim) : t.cells.length = 12 := rfl
theorem Tim.flat_map (l : List Tim) : l.flatMap Tim.cells = (l.map Tim.flat).flatMap T12.cells := by
  induction l with
  | nil => rfl
  | cons x l ih => rw [List.flatMap_cons, ih, List.map_cons, List.flatMap_cons]; rfl
theorem oneCellT (x : T12) : ∀ u ∈ x.cells, u.oneCell' = true := by
  intro u hu
  simp only [T12.cells, List.mem_cons, List.not_mem_nil, or_false] at hu
  rcases hu with rfl | rfl | rfl | rfl | rfl | rfl | rfl | rfl | rfl | rfl | rfl | rfl <;> rfl
theorem oneCellTs (l : List T12) : ∀ u ∈ l.flatMap T12.cells, u.oneCell' = true := by
  intro u hu
  obtain ⟨x, _, hx⟩ := List.mem_flatMap.1 hu
  exact oneCellT x u hx
end Go.Proofs.YtfoenojohemccaaGreatDoor
