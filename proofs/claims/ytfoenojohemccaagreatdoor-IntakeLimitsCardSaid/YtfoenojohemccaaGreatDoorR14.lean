/- integer.Add. (Printed by wip/tools/gen_r14.py.) -/
import Derived.Test.YtfoenojohemccaaGreatDoorR13
import Derived.Test.YtfoenojohemccaaGreatDoorQH
namespace Go.Proofs.YtfoenojohemccaaGreatDoor
open Go.RowKit Go.Sort Go.Proofs

set_option maxHeartbeats 2000000 in
set_option maxRecDepth 100000 in
theorem intAdd_true_ge (p q : Nat) (x y : Int) (hx : x.natAbs = p) (hy : y.natAbs = q) (hp : p < 9223372036854775808) (hq : q < 9223372036854775808) (hnx : decide (x < 0) = true) (hny : decide (y < 0) = false) (hle : q ≤ p) (w : World) :
    Calls Tryz.prog 143 #[zI x, zI y] w fun e w' => e = .returned (zI (x + y)) ∧ Below w.heap.size w w' := by
  have hc := fun W => compareN_any p q hp hq W
  have hzi : zI (x + y) = .agg #[.bool (true && !decide (p - q = 0)), .string (magB (p - q))] := by
    simp at hnx hny
    have : (x + y).natAbs = p - q := by omega
    rw [zI, this]
    congr 4
    rw [Bool.eq_iff_iff]
    simp
    omega
  have h1 := fun W => subN_any p q (by omega) (by omega) W
  have h2 := fun (b : Bool) W => made_any b (p - q) (by omega) W
  have hc0 : 0 ≤ cmpI p q := by unfold cmpI; split <;> (try split) <;> omega
  rw [hzi, zI, zI, hnx, hny, hx, hy]
  clear hzi hnx hny hx hy
  generalize cmpI (p : Int) (q : Int) = c at *
  generalize decide (p - q = 0) = dz at *
  generalize magB p = sx at *
  generalize magB q = sy at *
  generalize magB (p - q) = sz at *
  have H1 := Lib.hid h1
  have H2 := Lib.hid h2
  have HC := Lib.hid hc
  clear h1 h2 hc hle hp hq
  go_enter Tryz.func143, Tryz.ntmps143
  go_wp2_with fail
  refine (HC.out _).mono ?_
  rintro e w1 ⟨rfl, hb1⟩
  have hfin : ∀ W, Below w1.heap.size w1 W → (∀ j, W.cell? ⟨w.heap.size, j, none⟩ = #[Value.bool true, .string sx][j]?) ∧ (∀ j, W.cell? ⟨w.heap.size + 1, j, none⟩ = #[Value.bool false, .string sy][j]?) ∧ At W (w.heap.size + 1 + 1) #[.bool false, .string { data := #[] }] ∧ Below w.heap.size w W := by
    intro W hW
    obtain ⟨h1, h2, h3, h4, _⟩ := at3 (hb1.trans (hW.mono hb1.size))
    exact ⟨h1.1, h2.1, h3, h4⟩
  have HFIN := Lib.hid hfin
  have hI0 : Below w1.heap.size w1 w1.drew := (Below.refl _ _).drew
  obtain ⟨p1, p2, ⟨c0, f0, _⟩, hbf⟩ := hfin w1.drew hI0
  clear hfin hb1
  have n1 : w.heap.size + 1 + 1 ≠ w.heap.size := by omega
  have n2 : w.heap.size + 1 + 1 ≠ w.heap.size + 1 := by omega
  go_wp2_with fail
  go_region_held3 (fun W => (∀ j, W.cell? ⟨w.heap.size, j, none⟩ = #[Value.bool true, .string sx][j]?) ∧ (∀ j, W.cell? ⟨w.heap.size + 1, j, none⟩ = #[Value.bool false, .string sy][j]?))
    (first | (with_reducible exact ⟨p1, p2⟩) | (refine ⟨fun j => ?_, fun j => ?_⟩ <;> (repeat (first | rw [cell_far n1] | rw [cell_far n2])) <;> first | (with_reducible exact p1 j) | (with_reducible exact p2 j)))
    (first | (go_at_call 180; refine (H1.out _).mono ?_; rintro e w' ⟨rfl, hb⟩; have hI1 := Below.trans (by assumption : Below w1.heap.size w1 _) (hb.mono (by have := (by assumption : Below w1.heap.size w1 _).size; omega)); obtain ⟨p1, p2, ⟨c0, f0, _⟩, hbf⟩ := HFIN.out _ hI1) | (go_at_call 122; refine (H2.out _ _).mono ?_; rintro e w' ⟨rfl, hb⟩; have hI1 := Below.trans (by assumption : Below w1.heap.size w1 _) (hb.mono (by have := (by assumption : Below w1.heap.size w1 _).size; omega)); obtain ⟨p1, p2, ⟨c0, f0, _⟩, hbf⟩ := HFIN.out _ hI1))
  all_goals
    clear hb
    go_wp2_with fail
    refine bodyPost_ret (v := .agg #[.bool (true && !dz), .string sz]) (by simp [results, Tryz.results143, go_sem, c0]) rfl ⟨rfl, ?_⟩
    have h1 : w.heap.size ≤ w.heap.size + 1 + 1 := by omega
    exact (hbf.setCell h1 _).setCell h1 _

set_option maxHeartbeats 2000000 in
set_option maxRecDepth 100000 in
theorem intAdd_true_lt (p q : Nat) (x y : Int) (hx : x.natAbs = p) (hy : y.natAbs = q) (hp : p < 9223372036854775808) (hq : q < 9223372036854775808) (hnx : decide (x < 0) = true) (hny : decide (y < 0) = false) (hle : p < q) (w : World) :
    Calls Tryz.prog 143 #[zI x, zI y] w fun e w' => e = .returned (zI (x + y)) ∧ Below w.heap.size w w' := by
  have hc := fun W => compareN_any p q hp hq W
  have hzi : zI (x + y) = .agg #[.bool (false && !decide (q - p = 0)), .string (magB (q - p))] := by
    simp at hnx hny
    have : (x + y).natAbs = q - p := by omega
    rw [zI, this]
    congr 4
    rw [Bool.eq_iff_iff]
    simp
    omega
  have h1 := fun W => subN_any q p (by omega) (by omega) W
  have h2 := fun (b : Bool) W => made_any b (q - p) (by omega) W
  have hc0 : cmpI p q < 0 := by unfold cmpI; split <;> (try split) <;> omega
  rw [hzi, zI, zI, hnx, hny, hx, hy]
  clear hzi hnx hny hx hy
  generalize cmpI (p : Int) (q : Int) = c at *
  generalize decide (q - p = 0) = dz at *
  generalize magB p = sx at *
  generalize magB q = sy at *
  generalize magB (q - p) = sz at *
  have H1 := Lib.hid h1
  have H2 := Lib.hid h2
  have HC := Lib.hid hc
  clear h1 h2 hc hle hp hq
  go_enter Tryz.func143, Tryz.ntmps143
  go_wp2_with fail
  refine (HC.out _).mono ?_
  rintro e w1 ⟨rfl, hb1⟩
  have hfin : ∀ W, Below w1.heap.size w1 W → (∀ j, W.cell? ⟨w.heap.size, j, none⟩ = #[Value.bool true, .string sx][j]?) ∧ (∀ j, W.cell? ⟨w.heap.size + 1, j, none⟩ = #[Value.bool false, .string sy][j]?) ∧ At W (w.heap.size + 1 + 1) #[.bool false, .string { data := #[] }] ∧ Below w.heap.size w W := by
    intro W hW
    obtain ⟨h1, h2, h3, h4, _⟩ := at3 (hb1.trans (hW.mono hb1.size))
    exact ⟨h1.1, h2.1, h3, h4⟩
  have HFIN := Lib.hid hfin
  have hI0 : Below w1.heap.size w1 w1.drew := (Below.refl _ _).drew
  obtain ⟨p1, p2, ⟨c0, f0, _⟩, hbf⟩ := hfin w1.drew hI0
  clear hfin hb1
  have n1 : w.heap.size + 1 + 1 ≠ w.heap.size := by omega
  have n2 : w.heap.size + 1 + 1 ≠ w.heap.size + 1 := by omega
  go_wp2_with fail
  go_region_held3 (fun W => (∀ j, W.cell? ⟨w.heap.size, j, none⟩ = #[Value.bool true, .string sx][j]?) ∧ (∀ j, W.cell? ⟨w.heap.size + 1, j, none⟩ = #[Value.bool false, .string sy][j]?))
    (first | (with_reducible exact ⟨p1, p2⟩) | (refine ⟨fun j => ?_, fun j => ?_⟩ <;> (repeat (first | rw [cell_far n1] | rw [cell_far n2])) <;> first | (with_reducible exact p1 j) | (with_reducible exact p2 j)))
    (first | (go_at_call 180; refine (H1.out _).mono ?_; rintro e w' ⟨rfl, hb⟩; have hI1 := Below.trans (by assumption : Below w1.heap.size w1 _) (hb.mono (by have := (by assumption : Below w1.heap.size w1 _).size; omega)); obtain ⟨p1, p2, ⟨c0, f0, _⟩, hbf⟩ := HFIN.out _ hI1) | (go_at_call 122; refine (H2.out _ _).mono ?_; rintro e w' ⟨rfl, hb⟩; have hI1 := Below.trans (by assumption : Below w1.heap.size w1 _) (hb.mono (by have := (by assumption : Below w1.heap.size w1 _).size; omega)); obtain ⟨p1, p2, ⟨c0, f0, _⟩, hbf⟩ := HFIN.out _ hI1))
  all_goals
    clear hb
    go_wp2_with fail
    refine bodyPost_ret (v := .agg #[.bool (false && !dz), .string sz]) (by simp [results, Tryz.results143, go_sem, c0]) rfl ⟨rfl, ?_⟩
    have h1 : w.heap.size ≤ w.heap.size + 1 + 1 := by omega
    exact (hbf.setCell h1 _).setCell h1 _

set_option maxHeartbeats 2000000 in
set_option maxRecDepth 100000 in
theorem intAdd_false_ge (p q : Nat) (x y : Int) (hx : x.natAbs = p) (hy : y.natAbs = q) (hp : p < 9223372036854775808) (hq : q < 9223372036854775808) (hnx : decide (x < 0) = false) (hny : decide (y < 0) = true) (hle : q ≤ p) (w : World) :
    Calls Tryz.prog 143 #[zI x, zI y] w fun e w' => e = .returned (zI (x + y)) ∧ Below w.heap.size w w' := by
  have hc := fun W => compareN_any p q hp hq W
  have hzi : zI (x + y) = .agg #[.bool (false && !decide (p - q = 0)), .string (magB (p - q))] := by
    simp at hnx hny
    have : (x + y).natAbs = p - q := by omega
    rw [zI, this]
    congr 4
    rw [Bool.eq_iff_iff]
    simp
    omega
  have h1 := fun W => subN_any p q (by omega) (by omega) W
  have h2 := fun (b : Bool) W => made_any b (p - q) (by omega) W
  have hc0 : 0 ≤ cmpI p q := by unfold cmpI; split <;> (try split) <;> omega
  rw [hzi, zI, zI, hnx, hny, hx, hy]
  clear hzi hnx hny hx hy
  generalize cmpI (p : Int) (q : Int) = c at *
  generalize decide (p - q = 0) = dz at *
  generalize magB p = sx at *
  generalize magB q = sy at *
  generalize magB (p - q) = sz at *
  have H1 := Lib.hid h1
  have H2 := Lib.hid h2
  have HC := Lib.hid hc
  clear h1 h2 hc hle hp hq
  go_enter Tryz.func143, Tryz.ntmps143
  go_wp2_with fail
  refine (HC.out _).mono ?_
  rintro e w1 ⟨rfl, hb1⟩
  have hfin : ∀ W, Below w1.heap.size w1 W → (∀ j, W.cell? ⟨w.heap.size, j, none⟩ = #[Value.bool false, .string sx][j]?) ∧ (∀ j, W.cell? ⟨w.heap.size + 1, j, none⟩ = #[Value.bool true, .string sy][j]?) ∧ At W (w.heap.size + 1 + 1) #[.bool false, .string { data := #[] }] ∧ Below w.heap.size w W := by
    intro W hW
    obtain ⟨h1, h2, h3, h4, _⟩ := at3 (hb1.trans (hW.mono hb1.size))
    exact ⟨h1.1, h2.1, h3, h4⟩
  have HFIN := Lib.hid hfin
  have hI0 : Below w1.heap.size w1 w1.drew := (Below.refl _ _).drew
  obtain ⟨p1, p2, ⟨c0, f0, _⟩, hbf⟩ := hfin w1.drew hI0
  clear hfin hb1
  have n1 : w.heap.size + 1 + 1 ≠ w.heap.size := by omega
  have n2 : w.heap.size + 1 + 1 ≠ w.heap.size + 1 := by omega
  go_wp2_with fail
  go_region_held3 (fun W => (∀ j, W.cell? ⟨w.heap.size, j, none⟩ = #[Value.bool false, .string sx][j]?) ∧ (∀ j, W.cell? ⟨w.heap.size + 1, j, none⟩ = #[Value.bool true, .string sy][j]?))
    (first | (with_reducible exact ⟨p1, p2⟩) | (refine ⟨fun j => ?_, fun j => ?_⟩ <;> (repeat (first | rw [cell_far n1] | rw [cell_far n2])) <;> first | (with_reducible exact p1 j) | (with_reducible exact p2 j)))
    (first | (go_at_call 180; refine (H1.out _).mono ?_; rintro e w' ⟨rfl, hb⟩; have hI1 := Below.trans (by assumption : Below w1.heap.size w1 _) (hb.mono (by have := (by assumption : Below w1.heap.size w1 _).size; omega)); obtain ⟨p1, p2, ⟨c0, f0, _⟩, hbf⟩ := HFIN.out _ hI1) | (go_at_call 122; refine (H2.out _ _).mono ?_; rintro e w' ⟨rfl, hb⟩; have hI1 := Below.trans (by assumption : Below w1.heap.size w1 _) (hb.mono (by have := (by assumption : Below w1.heap.size w1 _).size; omega)); obtain ⟨p1, p2, ⟨c0, f0, _⟩, hbf⟩ := HFIN.out _ hI1))
  all_goals
    clear hb
    go_wp2_with fail
    refine bodyPost_ret (v := .agg #[.bool (false && !dz), .string sz]) (by simp [results, Tryz.results143, go_sem, c0]) rfl ⟨rfl, ?_⟩
    have h1 : w.heap.size ≤ w.heap.size + 1 + 1 := by omega
    exact (hbf.setCell h1 _).setCell h1 _

set_option maxHeartbeats 2000000 in
set_option maxRecDepth 100000 in
theorem intAdd_false_lt (p q : Nat) (x y : Int) (hx : x.natAbs = p) (hy : y.natAbs = q) (hp : p < 9223372036854775808) (hq : q < 9223372036854775808) (hnx : decide (x < 0) = false) (hny : decide (y < 0) = true) (hle : p < q) (w : World) :
    Calls Tryz.prog 143 #[zI x, zI y] w fun e w' => e = .returned (zI (x + y)) ∧ Below w.heap.size w w' := by
  have hc := fun W => compareN_any p q hp hq W
  have hzi : zI (x + y) = .agg #[.bool (true && !decide (q - p = 0)), .string (magB (q - p))] := by
    simp at hnx hny
    have : (x + y).natAbs = q - p := by omega
    rw [zI, this]
    congr 4
    rw [Bool.eq_iff_iff]
    simp
    omega
  have h1 := fun W => subN_any q p (by omega) (by omega) W
  have h2 := fun (b : Bool) W => made_any b (q - p) (by omega) W
  have hc0 : cmpI p q < 0 := by unfold cmpI; split <;> (try split) <;> omega
  rw [hzi, zI, zI, hnx, hny, hx, hy]
  clear hzi hnx hny hx hy
  generalize cmpI (p : Int) (q : Int) = c at *
  generalize decide (q - p = 0) = dz at *
  generalize magB p = sx at *
  generalize magB q = sy at *
  generalize magB (q - p) = sz at *
  have H1 := Lib.hid h1
  have H2 := Lib.hid h2
  have HC := Lib.hid hc
  clear h1 h2 hc hle hp hq
  go_enter Tryz.func143, Tryz.ntmps143
  go_wp2_with fail
  refine (HC.out _).mono ?_
  rintro e w1 ⟨rfl, hb1⟩
  have hfin : ∀ W, Below w1.heap.size w1 W → (∀ j, W.cell? ⟨w.heap.size, j, none⟩ = #[Value.bool false, .string sx][j]?) ∧ (∀ j, W.cell? ⟨w.heap.size + 1, j, none⟩ = #[Value.bool true, .string sy][j]?) ∧ At W (w.heap.size + 1 + 1) #[.bool false, .string { data := #[] }] ∧ Below w.heap.size w W := by
    intro W hW
    obtain ⟨h1, h2, h3, h4, _⟩ := at3 (hb1.trans (hW.mono hb1.size))
    exact ⟨h1.1, h2.1, h3, h4⟩
  have HFIN := Lib.hid hfin
  have hI0 : Below w1.heap.size w1 w1.drew := (Below.refl _ _).drew
  obtain ⟨p1, p2, ⟨c0, f0, _⟩, hbf⟩ := hfin w1.drew hI0
  clear hfin hb1
  have n1 : w.heap.size + 1 + 1 ≠ w.heap.size := by omega
  have n2 : w.heap.size + 1 + 1 ≠ w.heap.size + 1 := by omega
  go_wp2_with fail
  go_region_held3 (fun W => (∀ j, W.cell? ⟨w.heap.size, j, none⟩ = #[Value.bool false, .string sx][j]?) ∧ (∀ j, W.cell? ⟨w.heap.size + 1, j, none⟩ = #[Value.bool true, .string sy][j]?))
    (first | (with_reducible exact ⟨p1, p2⟩) | (refine ⟨fun j => ?_, fun j => ?_⟩ <;> (repeat (first | rw [cell_far n1] | rw [cell_far n2])) <;> first | (with_reducible exact p1 j) | (with_reducible exact p2 j)))
    (first | (go_at_call 180; refine (H1.out _).mono ?_; rintro e w' ⟨rfl, hb⟩; have hI1 := Below.trans (by assumption : Below w1.heap.size w1 _) (hb.mono (by have := (by assumption : Below w1.heap.size w1 _).size; omega)); obtain ⟨p1, p2, ⟨c0, f0, _⟩, hbf⟩ := HFIN.out _ hI1) | (go_at_call 122; refine (H2.out _ _).mono ?_; rintro e w' ⟨rfl, hb⟩; have hI1 := Below.trans (by assumption : Below w1.heap.size w1 _) (hb.mono (by have := (by assumption : Below w1.heap.size w1 _).size; omega)); obtain ⟨p1, p2, ⟨c0, f0, _⟩, hbf⟩ := HFIN.out _ hI1))
  all_goals
    clear hb
    go_wp2_with fail
    refine bodyPost_ret (v := .agg #[.bool (true && !dz), .string sz]) (by simp [results, Tryz.results143, go_sem, c0]) rfl ⟨rfl, ?_⟩
    have h1 : w.heap.size ≤ w.heap.size + 1 + 1 := by omega
    exact (hbf.setCell h1 _).setCell h1 _

theorem intAdd_any (x y : Int) (hx : Wd x) (hy : Wd y) (hxy : Wd (x + y)) (w : World) :
    Calls Tryz.prog 143 #[zI x, zI y] w fun e w' => e = .returned (zI (x + y)) ∧ Below w.heap.size w w' := by
  by_cases h1 : x < 0 <;> by_cases h2 : y < 0
  · exact intAdd_same x y hx hy hxy (by simp [h1, h2]) w
  · by_cases h : y.natAbs ≤ x.natAbs
    · exact intAdd_true_ge _ _ x y rfl rfl hx hy (by simp [h1]) (by simp [h2]) h w
    · exact intAdd_true_lt _ _ x y rfl rfl hx hy (by simp [h1]) (by simp [h2]) (by omega) w
  · by_cases h : y.natAbs ≤ x.natAbs
    · exact intAdd_false_ge _ _ x y rfl rfl hx hy (by simp [h1]) (by simp [h2]) h w
    · exact intAdd_false_lt _ _ x y rfl rfl hx hy (by simp [h1]) (by simp [h2]) (by omega) w
  · exact intAdd_same x y hx hy hxy (by simp [h1, h2]) w
end Go.Proofs.YtfoenojohemccaaGreatDoor
