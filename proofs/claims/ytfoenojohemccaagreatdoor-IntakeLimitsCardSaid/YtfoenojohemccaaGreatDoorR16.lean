/- rational.cross at other denominators; cross whole. -/
import Derived.Test.YtfoenojohemccaaGreatDoorR14
import Derived.Test.YtfoenojohemccaaGreatDoorR15
import Derived.Test.YtfoenojohemccaaGreatDoorR10
namespace Go.Proofs.YtfoenojohemccaaGreatDoor
open Go.RowKit Go.Sort Go.Proofs

theorem denZ {b1 : Bool} {s1 : ByteArray} {b2 : Bool} {s2 : ByteArray} {q : Rat} (h : IsQ b1 s1 b2 s2 q) (W : World) : Calls Tryz.prog 112 #[.agg #[.bool b1, .string s1, .bool b2, .string s2]] W fun e w' => RetZ q.den W e w' := by
  rw [h.eq]
  exact retZ (by have := h.2.2.2; unfold Wd; omega) (den_any q h.qd W)
theorem mulZ {b : Bool} {s : ByteArray} {z : Int} {b' : Bool} {s' : ByteArray} {z' : Int} (h : IsZ b s z) (h' : IsZ b' s' z') (hw : Wd (z * z')) (W : World) : Calls Tryz.prog 113 #[.agg #[.bool b, .string s], .agg #[.bool b', .string s']] W fun e w' => RetZ (z * z') W e w' := by
  rw [h.eq, h'.eq]
  exact retZ hw (intMul_any z z' h.2.2 h'.2.2 hw W)

set_option maxHeartbeats 4000000 in
set_option maxRecDepth 100000 in
theorem cross_ne (a b : Rat) (ha : Qd a) (hb : Qd b) (hab : a.den ≠ b.den) (hw1 : Wd (a.num * b.den)) (hw2 : Wd (b.num * a.den)) (hw3 : Wd ((a.den : Int) * b.den)) (w : World) :
    Calls Tryz.prog 71 #[qV a, qV b] w fun e w' => e = .returned (.tuple #[zI (a.num * b.den), zI (b.num * a.den), zI ((a.den : Int) * b.den)]) ∧ Below w.heap.size w w' := by
  have hne : (if a.den = 1 then ({ data := #[] } : ByteArray) else magB a.den) ≠ (if b.den = 1 then ({ data := #[] } : ByteArray) else magB b.den) := by
    have hz : ∀ t : Nat, t ≠ 0 → t < 9223372036854775808 → ({ data := #[] } : ByteArray) ≠ magB t := fun t h1 h2 e => h1 ((magB_empty t (by omega)).1 e.symm)
    by_cases c1 : a.den = 1
    · rw [if_pos c1, if_neg (by omega)]
      exact hz _ b.den_nz hb.2
    · rw [if_neg c1]
      by_cases c2 : b.den = 1
      · rw [if_pos c2]; exact (hz _ a.den_nz ha.2).symm
      · rw [if_neg c2]; exact fun e => hab (magB_inj _ _ (by have := ha.2; omega) (by have := hb.2; omega) e)
  obtain ⟨x1, r1, r2, e1⟩ : ∃ x1 r1 r2, IsQ x1 r1 false r2 a ∧ r2 = (if a.den = 1 then ({ data := #[] } : ByteArray) else magB a.den) := ⟨_, _, _, IsQ.mk' ha, rfl⟩
  obtain ⟨y1, u1, u2, e2⟩ : ∃ x1 r1 r2, IsQ x1 r1 false r2 b ∧ r2 = (if b.den = 1 then ({ data := #[] } : ByteArray) else magB b.den) := ⟨_, _, _, IsQ.mk' hb, rfl⟩
  rw [← e1.2, ← e2.2] at hne
  have hnl : r2.toList ≠ u2.toList := fun h => hne (by rw [Lib.toList_data, Lib.toList_data] at h; obtain ⟨⟨x⟩⟩ := r2; obtain ⟨⟨y⟩⟩ := u2; simp at h; rw [h])
  rw [← e1.1.eq, ← e2.1.eq]
  obtain ⟨ga, hga⟩ := e1
  obtain ⟨gb, hgb⟩ := e2
  have gna := ga.1
  have gnb := gb.1
  clear ha hb hab hne hga hgb
  obtain ⟨W0, hW0⟩ : ∃ W0, W0 = (((((w.alloc (.cells #[.bool x1, .string r1, .bool false, .string r2] 69)).alloc (.cells #[.bool y1, .string u1, .bool false, .string u2] 69)).alloc (.cells #[.bool false, .string { data := #[] }] 67)).alloc (.cells #[.bool false, .string { data := #[] }] 67)).alloc (.cells #[.bool false, .string { data := #[] }] 67)) := ⟨_, rfl⟩
  have hfin : ∀ W, Below W0.heap.size W0 W → (∀ j, W.cell? ⟨w.heap.size, j, none⟩ = #[Value.bool x1, .string r1, .bool false, .string r2][j]?) ∧ (∀ j, W.cell? ⟨w.heap.size + 1, j, none⟩ = #[Value.bool y1, .string u1, .bool false, .string u2][j]?) ∧ At W (w.heap.size + 1 + 1) #[.bool false, .string { data := #[] }] ∧ At W (w.heap.size + 1 + 1 + 1) #[.bool false, .string { data := #[] }] ∧ At W (w.heap.size + 1 + 1 + 1 + 1) #[.bool false, .string { data := #[] }] ∧ Below w.heap.size w W := by
    intro W hW
    rw [hW0] at hW
    obtain ⟨h1, h2, h3, h4, h5, h6, _⟩ := at5 hW
    exact ⟨h1.1, h2.1, h3, h4, h5, h6⟩
  have HFIN := Lib.hid hfin
  have hI0 : Below W0.heap.size W0 W0.drew := (Below.refl _ _).drew
  obtain ⟨p1, p2, ⟨c0, f0, _⟩, ⟨c1, f1, _⟩, ⟨c2, f2, _⟩, hbf⟩ := hfin W0.drew hI0
  clear hfin
  have n1 : w.heap.size + 1 + 1 ≠ w.heap.size := by omega
  have n2 : w.heap.size + 1 + 1 + 1 ≠ w.heap.size := by omega
  have n3 : w.heap.size + 1 + 1 + 1 + 1 ≠ w.heap.size := by omega
  have n4 : w.heap.size + 1 + 1 ≠ w.heap.size + 1 := by omega
  have n5 : w.heap.size + 1 + 1 + 1 ≠ w.heap.size + 1 := by omega
  have n6 : w.heap.size + 1 + 1 + 1 + 1 ≠ w.heap.size + 1 := by omega
  go_enter Tryz.func71, Tryz.ntmps71
  go_wp2_with fail
  rw [← hW0]
  clear hW0
  go_region_held3 (fun W => (∀ j, W.cell? ⟨w.heap.size, j, none⟩ = #[Value.bool x1, .string r1, .bool false, .string r2][j]?) ∧ (∀ j, W.cell? ⟨w.heap.size + 1, j, none⟩ = #[Value.bool y1, .string u1, .bool false, .string u2][j]?))
    (first | (with_reducible exact ⟨p1, p2⟩) | (refine ⟨fun j => ?_, fun j => ?_⟩ <;> (repeat (first | rw [cell_far n1] | rw [cell_far n2] | rw [cell_far n3] | rw [cell_far n4] | rw [cell_far n5] | rw [cell_far n6])) <;> first | (with_reducible exact p1 j) | (with_reducible exact p2 j)))
    (first | (go_at_call 112; refine (denZ (by assumption) _).mono ?_; rintro e w' ⟨bb, ss, rfl, hz, hb⟩; have hI1 := Below.trans (by assumption : Below W0.heap.size W0 _) (hb.mono (by have := (by assumption : Below W0.heap.size W0 _).size; omega)); clear hb; obtain ⟨p1, p2, ⟨c0, f0, _⟩, ⟨c1, f1, _⟩, ⟨c2, f2, _⟩, hbf⟩ := HFIN.out _ hI1) | (go_at_call 113; refine (mulZ (by assumption) (by assumption) (by assumption) _).mono ?_; rintro e w' ⟨bb, ss, rfl, hz, hb⟩; have hI1 := Below.trans (by assumption : Below W0.heap.size W0 _) (hb.mono (by have := (by assumption : Below W0.heap.size W0 _).size; omega)); clear hb; obtain ⟨p1, p2, ⟨c0, f0, _⟩, ⟨c1, f1, _⟩, ⟨c2, f2, _⟩, hbf⟩ := HFIN.out _ hI1))
  all_goals
    rename IsZ _ _ (a.num * b.den) => hz1
    rename IsZ _ _ (b.num * a.den) => hz2
    rename IsZ _ _ ((a.den : Int) * b.den) => hz3
    go_wp2_with fail
    refine bodyPost_ret (v := .tuple #[zI (a.num * b.den), zI (b.num * a.den), zI ((a.den : Int) * b.den)]) (by rw [← hz1.eq, ← hz2.eq, ← hz3.eq]; simp [results, Tryz.results71, go_sem, c0, c1, c2]) rfl ⟨rfl, ?_⟩
    have h1 : w.heap.size ≤ w.heap.size + 1 + 1 := by omega
    have h2 : w.heap.size ≤ w.heap.size + 1 + 1 + 1 := by omega
    have h3 : w.heap.size ≤ w.heap.size + 1 + 1 + 1 + 1 := by omega
    exact (((((hbf.setCell h1 _).setCell h1 _).setCell h2 _).setCell h2 _).setCell h3 _).setCell h3 _
end Go.Proofs.YtfoenojohemccaaGreatDoor
