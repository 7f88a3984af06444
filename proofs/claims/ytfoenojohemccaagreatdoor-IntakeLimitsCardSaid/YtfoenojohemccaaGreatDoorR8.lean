/- rational.FromInt, Neg of a whole number, Den of a whole number. -/
import Derived.Test.YtfoenojohemccaaGreatDoorQU
namespace Go.Proofs.YtfoenojohemccaaGreatDoor
open Go.RowKit Go.Sort Go.Proofs

/-- a whole number as a rational -/
def rI (z : Int) : Value := .agg #[.bool (decide (z < 0)), .string (magB z.natAbs), .bool false, .string { data := #[] }]

set_option maxHeartbeats 1000000 in
theorem fromIntR_any (z : Int) (hz : Wd z) (w : World) : Calls Tryz.prog 50 #[.int .i64 z] w fun e w' => e = .returned (rI z) ∧ Below w.heap.size w w' := by
  have h := fun W => fromInt_any z hz W
  rw [zI] at h
  rw [rI]
  generalize decide (z < 0) = b1 at *
  generalize magB z.natAbs = s1 at *
  have HD := Lib.hid h
  clear h
  go_enter Tryz.func50, Tryz.ntmps50
  go_wp2_with fail
  refine (HD.out _).mono ?_
  rintro e w1 ⟨rfl, hb⟩
  have c0 := blk_at hb (by simp) 0
  have c1 := blk_at hb (by simp) 1
  have c2 := blk_at hb (by simp) 2
  have c3 := blk_at hb (by simp) 3
  simp only [List.getElem?_toArray, List.getElem?_cons_zero, List.getElem?_cons_succ] at c0 c1 c2 c3
  obtain ⟨c0, f0⟩ := c0
  obtain ⟨c1, f1⟩ := c1
  obtain ⟨c2, f2⟩ := c2
  obtain ⟨c3, f3⟩ := c3
  have HB := Lib.hid hb
  clear hb
  go_wp2_with fail
  refine bodyPost_ret (v := .agg #[.bool b1, .string s1, .bool false, .string { data := #[] }]) (by simp [results, Tryz.results50, go_sem, c0, c1, c2, c3]) rfl ⟨rfl, ?_⟩
  exact (((((Below.refl _ _).alloc (Nat.le_refl _) _).trans (HB.out.mono (by simp))).setCell (Nat.le_refl _) _).setCell (Nat.le_refl _) _).setCell (Nat.le_refl _) _ |>.setCell (Nat.le_refl _) _

set_option maxHeartbeats 1000000 in
theorem den_whole (z : Int) (w : World) : Calls Tryz.prog 112 #[rI z] w fun e w' => e = .returned (zI 1) ∧ Below w.heap.size w w' := by
  have h := fun W => one_any W
  obtain ⟨b1, s1, e1⟩ : ∃ b s, zI 1 = .agg #[.bool b, .string s] := ⟨_, _, rfl⟩
  rw [e1] at h ⊢
  rw [rI]
  generalize decide (z < 0) = b2 at *
  generalize magB z.natAbs = s2 at *
  have HD := Lib.hid h
  clear h e1
  go_enter Tryz.func112, Tryz.ntmps112
  go_wp2_with fail
  refine (HD.out _).mono ?_
  rintro e w1 ⟨rfl, hb⟩
  have hb' : Below (w.heap.size + 1 + 1) ((w.alloc (.cells #[.bool b2, .string s2, .bool false, .string { data := #[] }] 69)).alloc (.cells #[.bool false, .string { data := #[] }] 67)) w1 := by simpa using hb
  have c0 : w1.cell? ⟨w.heap.size + 1, 0, none⟩ = some (.bool false) := by rw [hb'.cell (by simp)]; simp [go_sem]
  have c1 : w1.cell? ⟨w.heap.size + 1, 1, none⟩ = some (.string { data := #[] }) := by rw [hb'.cell (by simp)]; simp [go_sem]
  have f0 : w1.frozen? ⟨w.heap.size + 1, 0, none⟩ = false := by rw [hb'.frozen (by simp)]; simp [go_sem]
  have f1 : w1.frozen? ⟨w.heap.size + 1, 1, none⟩ = false := by rw [hb'.frozen (by simp)]; simp [go_sem]
  have HB := Lib.hid hb
  clear hb hb'
  go_wp2_with fail
  refine bodyPost_ret (v := .agg #[.bool b1, .string s1]) (by simp [results, Tryz.results112, go_sem, c0, c1]) rfl ⟨rfl, ?_⟩
  exact ((((Below.refl _ _).alloc (Nat.le_refl _) _).alloc (by simp) _).trans (HB.out.mono (by simp; omega))).setCell (by show w.heap.size ≤ w.heap.size + 1; omega) _ |>.setCell (by show w.heap.size ≤ w.heap.size + 1; omega) _

set_option maxHeartbeats 2000000 in
set_option maxRecDepth 100000 in
theorem negR_whole (z : Int) (hz : Wd z) (w : World) : Calls Tryz.prog 110 #[rI z] w fun e w' => e = .returned (rI (-z)) ∧ Below w.heap.size w w' := by
  have h := fun W => negate_any z hz W
  obtain ⟨b1, s1, e1⟩ : ∃ b s, zI z = .agg #[.bool b, .string s] ∧ rI z = .agg #[.bool b, .string s, .bool false, .string { data := #[] }] := ⟨_, _, rfl, rfl⟩
  obtain ⟨b2, s2, e2⟩ : ∃ b s, zI (-z) = .agg #[.bool b, .string s] ∧ rI (-z) = .agg #[.bool b, .string s, .bool false, .string { data := #[] }] := ⟨_, _, rfl, rfl⟩
  rw [e1.1, e2.1] at h
  rw [e1.2, e2.2]
  have HD := Lib.hid h
  clear h e1 e2
  obtain ⟨W0, hW0⟩ : ∃ W0, W0 = (w.alloc (.cells #[.bool b1, .string s1, .bool false, .string { data := #[] }] 69)).alloc (.cells #[.bool false, .string { data := #[] }, .bool false, .string { data := #[] }] 69) := ⟨_, rfl⟩
  have hsz : W0.heap.size = w.heap.size + 1 + 1 := by rw [hW0]; simp
  have hcells : ∀ j, W0.cell? ⟨w.heap.size, j, none⟩ = #[Value.bool b1, .string s1, .bool false, .string { data := #[] }][j]? := fun j => by rw [hW0]; simp [go_sem]
  have hb0 : Below w.heap.size w W0 := by rw [hW0]; exact ((Below.refl _ _).alloc (Nat.le_refl _) _).alloc (by simp) _
  have hfin : ∀ W, Below W0.heap.size W0 W → (∀ j, W.cell? ⟨w.heap.size, j, none⟩ = #[Value.bool b1, .string s1, .bool false, .string { data := #[] }][j]?) ∧
      (W.cell? ⟨w.heap.size + 1, 0, none⟩ = some (.bool false) ∧ W.cell? ⟨w.heap.size + 1, 1, none⟩ = some (.string { data := #[] }) ∧ W.cell? ⟨w.heap.size + 1, 2, none⟩ = some (.bool false) ∧ W.cell? ⟨w.heap.size + 1, 3, none⟩ = some (.string { data := #[] })) ∧
      (W.frozen? ⟨w.heap.size + 1, 0, none⟩ = false ∧ W.frozen? ⟨w.heap.size + 1, 1, none⟩ = false ∧ W.frozen? ⟨w.heap.size + 1, 2, none⟩ = false ∧ W.frozen? ⟨w.heap.size + 1, 3, none⟩ = false) ∧ Below w.heap.size w W := by
    intro W hW
    rw [hsz] at hW
    refine ⟨fun j => ?_, ⟨?_, ?_, ?_, ?_⟩, ⟨?_, ?_, ?_, ?_⟩, hb0.trans (hW.mono (by omega))⟩
    · rw [hW.cell (by simp; omega)]; exact hcells j
    · rw [hW.cell (by simp), hW0]; simp [go_sem]
    · rw [hW.cell (by simp), hW0]; simp [go_sem]
    · rw [hW.cell (by simp), hW0]; simp [go_sem]
    · rw [hW.cell (by simp), hW0]; simp [go_sem]
    · rw [hW.frozen (by simp), hW0]; simp [go_sem]
    · rw [hW.frozen (by simp), hW0]; simp [go_sem]
    · rw [hW.frozen (by simp), hW0]; simp [go_sem]
    · rw [hW.frozen (by simp), hW0]; simp [go_sem]
  have HFIN := Lib.hid hfin
  clear hfin hb0
  go_enter Tryz.func110, Tryz.ntmps110
  go_wp2_with fail
  rw [← hW0]
  clear hW0 hsz
  go_region_held3 (fun W => ∀ j, W.cell? ⟨w.heap.size, j, none⟩ = #[Value.bool b1, .string s1, .bool false, .string { data := #[] }][j]?)
    (first | exact hcells | exact hck | (intro j; simp [go_sem, hck]; done) | go_keep)
    (first | (go_at_call 144; refine (HD.out _).mono ?_; rintro e w' ⟨rfl, hb⟩; obtain ⟨hck, ⟨c0, c1, c2, c3⟩, ⟨f0, f1, f2, f3⟩, hbf⟩ := HFIN.out w' ((Below.refl _ _).drew.trans hb)))
  all_goals
    clear hb
    go_wp2_with fail
    refine bodyPost_ret (v := .agg #[.bool b2, .string s2, .bool false, .string { data := #[] }]) (by simp [results, Tryz.results110, go_sem, c0, c1, c2, c3]) rfl ⟨rfl, ?_⟩
    exact (((hbf.setCell (by show w.heap.size ≤ w.heap.size + 1; omega) _).setCell (by show w.heap.size ≤ w.heap.size + 1; omega) _).setCell (by show w.heap.size ≤ w.heap.size + 1; omega) _).setCell (by show w.heap.size ≤ w.heap.size + 1; omega) _
end Go.Proofs.YtfoenojohemccaaGreatDoor
