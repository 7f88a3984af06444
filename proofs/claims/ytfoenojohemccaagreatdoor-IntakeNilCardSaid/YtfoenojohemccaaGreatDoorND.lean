/- viatorlaw27.IntakeNil: the walk: it returns true. -/
import Derived.Test.YtfoenojohemccaaGreatDoorQW
namespace Go.Proofs.YtfoenojohemccaaGreatDoor
open Go.RowKit Go.Sort Go.Proofs

set_option maxHeartbeats 4000000 in
set_option maxRecDepth 100000 in
theorem nil_any (o x1 x2 x3 x4 x5 x6 x7 : Int) (x8 : Bool) (ar ae : Option Addr) (nr cr ne ce : Nat) (w : World) :
    Calls Tryz.prog 11 #[.int .i64 o, .agg #[.int .i64 x1, .int .i64 x2, .int .i64 x3, .int .i64 x4, .int .i64 x5, .int .i64 x6, .int .i64 x7, .bool x8], .agg #[.slice ar nr cr, .slice ae ne ce]] w fun e w' => e = .returned (.bool true) ∧ Below w.heap.size w w' := by
  obtain ⟨W0, hW0⟩ : ∃ W0, W0 = (w.alloc (.cells #[.int .i64 x1, .int .i64 x2, .int .i64 x3, .int .i64 x4, .int .i64 x5, .int .i64 x6, .int .i64 x7, .bool x8] 28)).alloc (.cells #[.slice ar nr cr, .slice ae ne ce] 34) := ⟨_, rfl⟩
  have hfin : ∀ W, Below W0.heap.size W0 W → (∀ j, W.cell? ⟨w.heap.size, j, none⟩ = #[Value.int .i64 x1, .int .i64 x2, .int .i64 x3, .int .i64 x4, .int .i64 x5, .int .i64 x6, .int .i64 x7, .bool x8][j]?) ∧ (∀ j, W.cell? ⟨w.heap.size + 1, j, none⟩ = #[Value.slice ar nr cr, .slice ae ne ce][j]?) ∧ Below w.heap.size w W := by
    intro W hW
    rw [hW0] at hW
    obtain ⟨h1, h2, h3, _⟩ := at2 hW
    exact ⟨h1.1, h2.1, h3⟩
  have HFIN := Lib.hid hfin
  have HW0 := Lib.hid hW0
  clear hfin hW0
  by_cases h1 : 6 < nr
  · have h1' : (6 : Int) < (nr : Int) := by omega
    go_enter Tryz.func11, Tryz.ntmps11
    go_wp2_with fail
    refine (known_any _).mono ?_
    rintro e w1 ⟨rfl, hb⟩
    rw [← HW0.out] at hb
    obtain ⟨_, p2, _⟩ := HFIN.out w1 hb
    have HB := Lib.hid hb
    clear hb
    go_wp2_with fail
    refine (known_any _).mono ?_
    rintro e w2 ⟨rfl, hb2⟩
    go_wp2_with fail
    go_ret
    exact ⟨rfl, (HFIN.out w2 (HB.out.trans (hb2.mono HB.out.size))).2.2⟩
  · have h1' : ¬ (6 : Int) < (nr : Int) := by omega
    by_cases h2 : 6 < ne
    · have h2' : (6 : Int) < (ne : Int) := by omega
      go_enter Tryz.func11, Tryz.ntmps11
      go_wp2_with fail
      refine (known_any _).mono ?_
      rintro e w1 ⟨rfl, hb⟩
      rw [← HW0.out] at hb
      obtain ⟨_, p2, _⟩ := HFIN.out w1 hb
      have HB := Lib.hid hb
      clear hb
      go_wp2_with fail
      refine (known_any _).mono ?_
      rintro e w2 ⟨rfl, hb2⟩
      go_wp2_with fail
      go_ret
      exact ⟨rfl, (HFIN.out w2 (HB.out.trans (hb2.mono HB.out.size))).2.2⟩
    · have h2' : ¬ (6 : Int) < (ne : Int) := by omega
      go_enter Tryz.func11, Tryz.ntmps11
      go_wp2_with fail
      refine (known_any _).mono ?_
      rintro e w1 ⟨rfl, hb⟩
      rw [← HW0.out] at hb
      obtain ⟨_, p2, _⟩ := HFIN.out w1 hb
      have B1 := Lib.hid hb
      clear hb
      go_wp2_with fail
      refine (add_nil (.slice ar nr cr, .slice ae ne ce) _).mono ?_
      rintro e w2 ⟨rfl, hb⟩
      have B2 := Lib.hid (B1.out.trans (hb.mono B1.out.size))
      clear hb p2
      go_wp2_with fail
      refine (new_any _).mono ?_
      rintro e w3 ⟨bx, br, be, rfl, _, hb, _, _, _⟩
      have B3 := Lib.hid (B2.out.trans (hb.mono B2.out.size))
      clear hb
      go_wp2_with fail
      refine (merge_nil _ _).mono ?_
      rintro e w4 ⟨rfl, rfl⟩
      go_wp2_with fail
      refine (complete_nil' _ _).mono ?_
      rintro e w5 ⟨rfl, hb⟩
      have B5 := Lib.hid (B3.out.trans (hb.mono B3.out.size))
      clear hb
      go_wp2_with fail
      refine (frontier_nil _ _).mono ?_
      rintro e w6 ⟨rfl, hb⟩
      have hb6 := B5.out.trans (hb.mono B5.out.size)
      have B6 := Lib.hid (hb6.alloc hb6.size (.cells #[.bool false, .string { data := #[] }, .bool false, .string { data := #[] }] 69))
      clear hb hb6
      go_wp2_with fail
      refine (watermark_nil _).mono ?_
      rintro e w7 ⟨rfl, hb⟩
      have hb7 := B6.out.trans (hb.mono B6.out.size)
      have hb7' := hb7.alloc hb7.size (.cells #[.bool false, .string { data := #[] }, .bool false, .string { data := #[] }] 69)
      obtain ⟨p1, _, _⟩ := HFIN.out _ hb7'
      have B7 := Lib.hid hb7'
      clear hb hb7 hb7'
      go_wp2_with fail
      refine (late_nil _ _ _ _ _ _ _ _ _).mono ?_
      rintro e w8 ⟨rfl, hb⟩
      have B8 := Lib.hid (B7.out.trans (hb.mono B7.out.size))
      clear hb p1
      go_wp2_with fail
      refine (without_nil _).mono ?_
      rintro e w9 ⟨rfl, hb⟩
      have hb9 := B8.out.trans (hb.mono B8.out.size)
      have B9 := Lib.hid (hb9.alloc hb9.size (.cells #[.slice none 0 0, .slice none 0 0] 34))
      clear hb hb9
      go_wp2_with fail
      refine (reports_nil _).mono ?_
      rintro e w10 ⟨rfl, rfl⟩
      go_wp2_with fail
      refine (exchanges_nil _).mono ?_
      rintro e w11 ⟨rfl, rfl⟩
      go_wp2_with fail
      refine (objects_nil _).mono ?_
      rintro e w12 ⟨rfl, hb⟩
      have B12 := Lib.hid (B9.out.trans (hb.mono B9.out.size))
      clear hb
      go_wp2_with fail
      refine (of_nil _ _).mono ?_
      rintro e w13 ⟨⟨a1, c1, rfl⟩, hb⟩
      have B13 := Lib.hid (B12.out.trans (hb.mono B12.out.size))
      clear hb
      go_wp2_with fail
      refine (untimed_nil _ _).mono ?_
      rintro e w14 ⟨⟨a2, c2, rfl⟩, hb⟩
      have B14 := Lib.hid (B13.out.trans (hb.mono B13.out.size))
      clear hb
      go_wp2_with fail
      refine (pending_nil _ _).mono ?_
      rintro e w15 ⟨⟨a3, c3, rfl⟩, hb⟩
      have B15 := Lib.hid (B14.out.trans (hb.mono B14.out.size))
      clear hb
      go_wp2_with fail
      refine (clone_nil _).mono ?_
      rintro e w16 ⟨rfl, rfl⟩
      go_wp2_with fail
      refine (equal_nil_nil _).mono ?_
      rintro e w17 ⟨rfl, rfl⟩
      go_wp2_with fail
      refine (new_any _).mono ?_
      rintro e w18 ⟨bx1, br1, be1, rfl, _, hb, _, _, _⟩
      have B18 := Lib.hid (B15.out.trans (hb.mono B15.out.size))
      clear hb
      go_wp2_with fail
      refine (equal_nil_some _ _).mono ?_
      rintro e w19 ⟨rfl, rfl⟩
      go_wp2_with fail
      refine (new_any _).mono ?_
      rintro e w20 ⟨bx2, br2, be2, rfl, _, hb, _, _, _⟩
      have B20 := Lib.hid (B18.out.trans (hb.mono B18.out.size))
      clear hb
      go_wp2_with fail
      refine (equal_some_nil _ _).mono ?_
      rintro e w21 ⟨rfl, rfl⟩
      go_wp2_with fail
      go_ret
      exact ⟨rfl, (HFIN.out _ B20.out).2.2⟩
end Go.Proofs.YtfoenojohemccaaGreatDoor
