/- rational.cross at equal denominators. -/
import Derived.Test.YtfoenojohemccaaGreatDoorR12
import Derived.Test.YtfoenojohemccaaGreatDoorQH
namespace Go.Proofs.YtfoenojohemccaaGreatDoor
open Go.RowKit Go.Sort Go.Proofs

set_option maxHeartbeats 4000000 in
set_option maxRecDepth 100000 in
theorem cross_eq (a b : Rat) (ha : Qd a) (hab : a.den = b.den) (w : World) :
    Calls Tryz.prog 71 #[qV a, qV b] w fun e w' => e = .returned (.tuple #[zI a.num, zI b.num, zI a.den]) ∧ Below w.heap.size w w' := by
  have hd := fun W => den_any a ha W
  obtain ⟨sd, hsd⟩ : ∃ sd, sd = (if a.den = 1 then ({ data := #[] } : ByteArray) else magB a.den) := ⟨_, rfl⟩
  obtain ⟨b1, s1, e1⟩ : ∃ b s, zI a.num = .agg #[.bool b, .string s] ∧ qV a = .agg #[.bool b, .string s, .bool false, .string sd] := ⟨_, _, rfl, by rw [qV, hsd]⟩
  obtain ⟨b2, s2, e2⟩ : ∃ b' s, zI b.num = .agg #[.bool b', .string s] ∧ qV b = .agg #[.bool b', .string s, .bool false, .string sd] := ⟨_, _, rfl, by rw [qV, hsd, hab]⟩
  obtain ⟨b3, s3, e3⟩ := zI_ex (a.den : Int)
  rw [e1.2, e3] at hd
  rw [e1.1, e1.2, e2.1, e2.2, e3]
  have HD := Lib.hid hd
  clear hd e1 e2 e3 hsd hab
  obtain ⟨W0, hW0⟩ : ∃ W0, W0 = (((((w.alloc (.cells #[.bool b1, .string s1, .bool false, .string sd] 69)).alloc (.cells #[.bool b2, .string s2, .bool false, .string sd] 69)).alloc (.cells #[.bool false, .string { data := #[] }] 67)).alloc (.cells #[.bool false, .string { data := #[] }] 67)).alloc (.cells #[.bool false, .string { data := #[] }] 67)) := ⟨_, rfl⟩
  have hfin : ∀ W, Below W0.heap.size W0 W → (∀ j, W.cell? ⟨w.heap.size, j, none⟩ = #[Value.bool b1, .string s1, .bool false, .string sd][j]?) ∧ (∀ j, W.cell? ⟨w.heap.size + 1, j, none⟩ = #[Value.bool b2, .string s2, .bool false, .string sd][j]?) ∧ At W (w.heap.size + 1 + 1) #[.bool false, .string { data := #[] }] ∧ At W (w.heap.size + 1 + 1 + 1) #[.bool false, .string { data := #[] }] ∧ At W (w.heap.size + 1 + 1 + 1 + 1) #[.bool false, .string { data := #[] }] ∧ Below w.heap.size w W := by
    intro W hW
    rw [hW0] at hW
    obtain ⟨h1, h2, h3, h4, h5, h6, _⟩ := at5 hW
    exact ⟨h1.1, h2.1, h3, h4, h5, h6⟩
  have HFIN := Lib.hid hfin
  have hI0 : Below W0.heap.size W0 W0.drew := (Below.refl _ _).drew
  obtain ⟨p1, p2, ⟨c0, f0, _⟩, ⟨c1, f1, _⟩, ⟨c2, f2, _⟩, hbf⟩ := hfin W0.drew hI0
  clear hfin
  have m1 := fun W i j u v => setCell_ord (show w.heap.size + 1 + 1 < w.heap.size + 1 + 1 + 1 by omega) W i j u v
  have m2 := fun W i j u v => setCell_ord (show w.heap.size + 1 + 1 < w.heap.size + 1 + 1 + 1 + 1 by omega) W i j u v
  have m3 := fun W i j u v => setCell_ord (show w.heap.size + 1 + 1 + 1 < w.heap.size + 1 + 1 + 1 + 1 by omega) W i j u v
  have n1 : w.heap.size + 1 + 1 ≠ w.heap.size := by omega
  have n2 : w.heap.size + 1 + 1 + 1 ≠ w.heap.size := by omega
  have n3 : w.heap.size + 1 + 1 + 1 + 1 ≠ w.heap.size := by omega
  have n4 : w.heap.size + 1 + 1 ≠ w.heap.size + 1 := by omega
  have n5 : w.heap.size + 1 + 1 + 1 ≠ w.heap.size + 1 := by omega
  have n6 : w.heap.size + 1 + 1 + 1 + 1 ≠ w.heap.size + 1 := by omega
  go_enter Tryz.func71, Tryz.ntmps71
  go_wp2_with fail
  rw [← hW0]
  clear hW0
  go_region_held3 (fun W => (∀ j, W.cell? ⟨w.heap.size, j, none⟩ = #[Value.bool b1, .string s1, .bool false, .string sd][j]?) ∧ (∀ j, W.cell? ⟨w.heap.size + 1, j, none⟩ = #[Value.bool b2, .string s2, .bool false, .string sd][j]?))
    (first | (with_reducible exact ⟨p1, p2⟩) | (refine ⟨fun j => ?_, fun j => ?_⟩ <;> (repeat (first | rw [cell_far n1] | rw [cell_far n2] | rw [cell_far n3] | rw [cell_far n4] | rw [cell_far n5] | rw [cell_far n6])) <;> first | (with_reducible exact p1 j) | (with_reducible exact p2 j)))
    (first | (go_at_call 112; refine (HD.out _).mono ?_; rintro e w' ⟨rfl, hb⟩; have hI1 := Below.trans (by assumption : Below W0.heap.size W0 _) (hb.mono (by have := (by assumption : Below W0.heap.size W0 _).size; omega)); obtain ⟨p1, p2, ⟨c0, f0, _⟩, ⟨c1, f1, _⟩, ⟨c2, f2, _⟩, hbf⟩ := HFIN.out _ hI1))
  all_goals
    clear hb
    go_wp2_with fail
    refine bodyPost_ret (v := .tuple #[.agg #[.bool b1, .string s1], .agg #[.bool b2, .string s2], .agg #[.bool b3, .string s3]]) (by simp [results, Tryz.results71, go_sem, c0, c1, c2]) rfl ⟨rfl, ?_⟩
    have h1 : w.heap.size ≤ w.heap.size + 1 + 1 := by omega
    have h2 : w.heap.size ≤ w.heap.size + 1 + 1 + 1 := by omega
    have h3 : w.heap.size ≤ w.heap.size + 1 + 1 + 1 + 1 := by omega
    first
      | exact (((((hbf.setCell h1 _).setCell h1 _).setCell h2 _).setCell h2 _).setCell h3 _).setCell h3 _
      | (repeat (first | refine Below.setCell ?_ (by show w.heap.size ≤ _; omega) _ | exact hbf))
end Go.Proofs.YtfoenojohemccaaGreatDoor
