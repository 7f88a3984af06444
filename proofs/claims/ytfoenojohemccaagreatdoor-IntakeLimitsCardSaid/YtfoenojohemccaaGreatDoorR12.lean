/- integer.Add in one word. -/
import Derived.Test.YtfoenojohemccaaGreatDoorR11
namespace Go.Proofs.YtfoenojohemccaaGreatDoor
open Go.RowKit Go.Sort Go.Proofs

/-- the two cells of an integer in one word -/
def IsZ (b : Bool) (s : ByteArray) (z : Int) : Prop := b = decide (z < 0) ∧ s = magB z.natAbs ∧ Wd z
theorem IsZ.eq {b : Bool} {s : ByteArray} {z : Int} (h : IsZ b s z) : Value.agg #[.bool b, .string s] = zI z := by rw [h.1, h.2.1]; rfl
theorem IsZ.mk' {z : Int} (h : Wd z) : IsZ (decide (z < 0)) (magB z.natAbs) z := ⟨rfl, rfl, h⟩
/-- a call that gives the integer z -/
def RetZ (z : Int) (w : World) (e : Ending) (w' : World) : Prop := ∃ b s, e = .returned (.agg #[.bool b, .string s]) ∧ IsZ b s z ∧ Below w.heap.size w w'
theorem retZ {z : Int} (hz : Wd z) {f : FuncId} {args : Array Value} {w : World} (h : Calls Tryz.prog f args w fun e w' => e = .returned (zI z) ∧ Below w.heap.size w w') : Calls Tryz.prog f args w fun e w' => RetZ z w e w' :=
  h.mono fun _ _ ⟨he, hb⟩ => ⟨_, _, he, IsZ.mk' hz, hb⟩
/-- the four cells of a fraction -/
def IsQ (b1 : Bool) (s1 : ByteArray) (b2 : Bool) (s2 : ByteArray) (q : Rat) : Prop := IsZ b1 s1 q.num ∧ b2 = false ∧ s2 = (if q.den = 1 then { data := #[] } else magB q.den) ∧ q.den < 9223372036854775808
theorem IsQ.eq {b1 : Bool} {s1 : ByteArray} {b2 : Bool} {s2 : ByteArray} {q : Rat} (h : IsQ b1 s1 b2 s2 q) : Value.agg #[.bool b1, .string s1, .bool b2, .string s2] = qV q := by
  rw [h.1.1, h.1.2.1, h.2.1, h.2.2.1]; rfl
theorem IsQ.qd {b1 : Bool} {s1 : ByteArray} {b2 : Bool} {s2 : ByteArray} {q : Rat} (h : IsQ b1 s1 b2 s2 q) : Qd q := ⟨h.1.2.2, h.2.2.2⟩
theorem IsQ.mk' {q : Rat} (h : Qd q) : IsQ (decide (q.num < 0)) (magB q.num.natAbs) false (if q.den = 1 then { data := #[] } else magB q.den) q := ⟨IsZ.mk' h.1, rfl, rfl, h.2⟩
def RetQ (q : Rat) (w : World) (e : Ending) (w' : World) : Prop := ∃ b1 s1 b2 s2, e = .returned (.agg #[.bool b1, .string s1, .bool b2, .string s2]) ∧ IsQ b1 s1 b2 s2 q ∧ Below w.heap.size w w'
theorem retQ {q : Rat} (hq : Qd q) {f : FuncId} {args : Array Value} {w : World} (h : Calls Tryz.prog f args w fun e w' => e = .returned (qV q) ∧ Below w.heap.size w w') : Calls Tryz.prog f args w fun e w' => RetQ q w e w' :=
  h.mono fun _ _ ⟨he, hb⟩ => ⟨_, _, _, _, he, IsQ.mk' hq, hb⟩

set_option maxHeartbeats 4000000 in
set_option maxRecDepth 100000 in
theorem intAdd_same (x y : Int) (hx : Wd x) (hy : Wd y) (hxy : Wd (x + y)) (hs : decide (x < 0) = decide (y < 0)) (w : World) :
    Calls Tryz.prog 143 #[zI x, zI y] w fun e w' => e = .returned (zI (x + y)) ∧ Below w.heap.size w w' := by
  unfold Wd at hx hy hxy
  have hs' : (x < 0) ↔ (y < 0) := by simpa using hs
  have hab : (x + y).natAbs = x.natAbs + y.natAbs := by omega
  have hzi : zI (x + y) = .agg #[.bool (decide (x < 0) && !decide (x.natAbs + y.natAbs = 0)), .string (magB (x.natAbs + y.natAbs))] := by
    rw [zI, hab]
    congr 4
    rw [Bool.eq_iff_iff]
    simp
    omega
  have h1 := fun W => addN_any x.natAbs y.natAbs hx hy W
  have h2 := fun (b : Bool) W => made_any b (x.natAbs + y.natAbs) (by omega) W
  rw [hzi, zI, zI, ← hs]
  generalize decide (x < 0) = nb at *
  generalize decide (x.natAbs + y.natAbs = 0) = dz at *
  generalize magB x.natAbs = sx at *
  generalize magB y.natAbs = sy at *
  generalize magB (x.natAbs + y.natAbs) = sz at *
  have H1 := Lib.hid h1
  have H2 := Lib.hid h2
  clear h1 h2 hzi hs hs' hab hx hy hxy
  obtain ⟨W0, hW0⟩ : ∃ W0, W0 = (((w.alloc (.cells #[.bool nb, .string sx] 67)).alloc (.cells #[.bool nb, .string sy] 67)).alloc (.cells #[.bool false, .string { data := #[] }] 67)) := ⟨_, rfl⟩
  have hfin : ∀ W, Below W0.heap.size W0 W → (∀ j, W.cell? ⟨w.heap.size, j, none⟩ = #[Value.bool nb, .string sx][j]?) ∧ (∀ j, W.cell? ⟨w.heap.size + 1, j, none⟩ = #[Value.bool nb, .string sy][j]?) ∧ At W (w.heap.size + 1 + 1) #[.bool false, .string { data := #[] }] ∧ Below w.heap.size w W := by
    intro W hW
    rw [hW0] at hW
    obtain ⟨h1, h2, h3, h4, _⟩ := at3 hW
    exact ⟨h1.1, h2.1, h3, h4⟩
  have HFIN := Lib.hid hfin
  have hI0 : Below W0.heap.size W0 W0.drew := (Below.refl _ _).drew
  obtain ⟨p1, p2, ⟨c0, f0, _⟩, hbf⟩ := hfin W0.drew hI0
  clear hfin
  go_enter Tryz.func143, Tryz.ntmps143
  go_wp2_with fail
  rw [← hW0]
  clear hW0
  go_region_held3 (fun W => (∀ j, W.cell? ⟨w.heap.size, j, none⟩ = #[Value.bool nb, .string sx][j]?) ∧ (∀ j, W.cell? ⟨w.heap.size + 1, j, none⟩ = #[Value.bool nb, .string sy][j]?))
    (first | (with_reducible exact ⟨p1, p2⟩) | (refine ⟨fun j => ?_, fun j => ?_⟩ <;> simp [go_sem, p1, p2]; done) | go_keep)
    (first | (go_at_call 179; refine (H1.out _).mono ?_; rintro e w' ⟨rfl, hb⟩; have hI1 := Below.trans (by assumption : Below W0.heap.size W0 _) (hb.mono (by have := (by assumption : Below W0.heap.size W0 _).size; omega)); obtain ⟨p1, p2, ⟨c0, f0, _⟩, hbf⟩ := HFIN.out _ hI1) | (go_at_call 122; refine (H2.out _ _).mono ?_; rintro e w' ⟨rfl, hb⟩; have hI1 := Below.trans (by assumption : Below W0.heap.size W0 _) (hb.mono (by have := (by assumption : Below W0.heap.size W0 _).size; omega)); obtain ⟨p1, p2, ⟨c0, f0, _⟩, hbf⟩ := HFIN.out _ hI1))
  all_goals
    clear hb
    go_wp2_with fail
    refine bodyPost_ret (v := .agg #[.bool (nb && !dz), .string sz]) (by simp [results, Tryz.results143, go_sem, c0]) rfl ⟨rfl, ?_⟩
    have h1 : w.heap.size ≤ w.heap.size + 1 + 1 := by omega
    exact (hbf.setCell h1 _).setCell h1 _
end Go.Proofs.YtfoenojohemccaaGreatDoor
