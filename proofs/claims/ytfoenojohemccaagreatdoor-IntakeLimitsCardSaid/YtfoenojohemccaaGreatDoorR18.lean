/- rational.Sub, Compare; clock.Middle. -/
import Derived.Test.YtfoenojohemccaaGreatDoorR17
namespace Go.Proofs.YtfoenojohemccaaGreatDoor
open Go.RowKit Go.Sort Go.Proofs

theorem negQ {b1 : Bool} {s1 : ByteArray} {b2 : Bool} {s2 : ByteArray} {q : Rat} (h : IsQ b1 s1 b2 s2 q) (W : World) : Calls Tryz.prog 110 #[.agg #[.bool b1, .string s1, .bool b2, .string s2]] W fun e w' => RetQ (-q) W e w' := by
  rw [h.eq]
  exact retQ ⟨by have := h.qd.1; unfold Wd at *; rw [Rat.neg_num, Int.natAbs_neg]; exact this, by rw [Rat.neg_den]; exact h.qd.2⟩ (neg_any q h.qd W)
/-- the sum of two fractions stays in one word -/
def AB (a b : Rat) : Prop := CB a b ∧ Wd ((crossQ a b).1 + (crossQ a b).2.1)
theorem AB.qd {a b : Rat} (h : AB a b) : Qd (a + b) := by
  have hb := mkRat_bd ((crossQ a b).1 + (crossQ a b).2.1) _ (crossQ_pos a b)
  rw [crossQ_add] at hb
  have h1 := h.2
  have h2 := h.1.2.2
  unfold Qd Wd at *
  omega
theorem addQ {b1 : Bool} {s1 : ByteArray} {b2 : Bool} {s2 : ByteArray} {c1 : Bool} {r1 : ByteArray} {c2 : Bool} {r2 : ByteArray} {a b : Rat} (ha : IsQ b1 s1 b2 s2 a) (hb : IsQ c1 r1 c2 r2 b) (hc : AB a b) (W : World) :
    Calls Tryz.prog 109 #[.agg #[.bool b1, .string s1, .bool b2, .string s2], .agg #[.bool c1, .string r1, .bool c2, .string r2]] W fun e w' => RetQ (a + b) W e w' := by
  rw [ha.eq, hb.eq]
  exact retQ hc.qd (ratAdd_any a b ha.qd hb.qd hc.1 hc.2 W)

set_option maxHeartbeats 2000000 in
set_option maxRecDepth 100000 in
theorem ratSub_any (a b : Rat) (ha : Qd a) (hb : Qd b) (hc : AB a (-b)) (w : World) :
    Calls Tryz.prog 69 #[qV a, qV b] w fun e w' => e = .returned (qV (a - b)) ∧ Below w.heap.size w w' := by
  rw [Rat.sub_eq_add_neg]
  obtain ⟨x1, r1, x2, r2, ga⟩ : ∃ x1 r1 x2 r2, IsQ x1 r1 x2 r2 a := ⟨_, _, _, _, IsQ.mk' ha⟩
  obtain ⟨y1, u1, y2, u2, gb⟩ : ∃ x1 r1 x2 r2, IsQ x1 r1 x2 r2 b := ⟨_, _, _, _, IsQ.mk' hb⟩
  rw [← ga.eq, ← gb.eq]
  clear ha hb
  obtain ⟨W0, hW0⟩ : ∃ W0, W0 = ((w.alloc (.cells #[.bool x1, .string r1, .bool x2, .string r2] 69)).alloc (.cells #[.bool y1, .string u1, .bool y2, .string u2] 69)).alloc (.cells #[.bool false, .string { data := #[] }, .bool false, .string { data := #[] }] 69) := ⟨_, rfl⟩
  have hfin : ∀ W, Below W0.heap.size W0 W → (∀ j, W.cell? ⟨w.heap.size, j, none⟩ = #[Value.bool x1, .string r1, .bool x2, .string r2][j]?) ∧ (∀ j, W.cell? ⟨w.heap.size + 1, j, none⟩ = #[Value.bool y1, .string u1, .bool y2, .string u2][j]?) ∧ At W (w.heap.size + 1 + 1) #[.bool false, .string { data := #[] }, .bool false, .string { data := #[] }] ∧ Below w.heap.size w W := by
    intro W hW
    rw [hW0] at hW
    obtain ⟨h1, h2, h3, h4, _⟩ := at3 hW
    exact ⟨h1.1, h2.1, h3, h4⟩
  have HFIN := Lib.hid hfin
  have hI0 : Below W0.heap.size W0 W0.drew := (Below.refl _ _).drew
  obtain ⟨p1, p2, ⟨c0, f0, _⟩, hbf⟩ := hfin W0.drew hI0
  have m1 : w.heap.size + 1 + 1 ≠ w.heap.size := by omega
  have m2 : w.heap.size + 1 + 1 ≠ w.heap.size + 1 := by omega
  clear hfin
  go_enter Tryz.func69, Tryz.ntmps69
  go_wp2_with fail
  rw [← hW0]
  clear hW0
  go_region_held3 (fun W => (∀ j, W.cell? ⟨w.heap.size, j, none⟩ = #[Value.bool x1, .string r1, .bool x2, .string r2][j]?) ∧ (∀ j, W.cell? ⟨w.heap.size + 1, j, none⟩ = #[Value.bool y1, .string u1, .bool y2, .string u2][j]?))
    (first | (with_reducible exact ⟨p1, p2⟩) | (refine ⟨fun j => ?_, fun j => ?_⟩ <;> (repeat (first | rw [cell_far m1] | rw [cell_far m2])) <;> first | (with_reducible exact p1 j) | (with_reducible exact p2 j)))
    (first | (go_at_call 110; refine (negQ (by assumption) _).mono ?_; rintro e w' ⟨bb1, ss1, bb2, ss2, rfl, hz, hb⟩; have hI1 := Below.trans (by assumption : Below W0.heap.size W0 _) (hb.mono (by have := (by assumption : Below W0.heap.size W0 _).size; omega)); clear hb; obtain ⟨p1, p2, ⟨c0, f0, _⟩, hbf⟩ := HFIN.out _ hI1) | (go_at_call 109; refine (addQ (by assumption) (by assumption) (by assumption) _).mono ?_; rintro e w' ⟨bb1, ss1, bb2, ss2, rfl, hz, hb⟩; have hI1 := Below.trans (by assumption : Below W0.heap.size W0 _) (hb.mono (by have := (by assumption : Below W0.heap.size W0 _).size; omega)); clear hb; obtain ⟨p1, p2, ⟨c0, f0, _⟩, hbf⟩ := HFIN.out _ hI1))
  all_goals
    rename IsQ _ _ _ _ (a + -b) => hq
    go_wp2_with fail
    refine bodyPost_ret (v := qV (a + -b)) (by rw [← hq.eq]; simp [results, Tryz.results69, go_sem, c0]) rfl ⟨rfl, ?_⟩
    have h1 : w.heap.size ≤ w.heap.size + 1 + 1 := by omega
    exact (((hbf.setCell h1 _).setCell h1 _).setCell h1 _).setCell h1 _

theorem cmpZ {b : Bool} {s : ByteArray} {z : Int} {b' : Bool} {s' : ByteArray} {z' : Int} (h : IsZ b s z) (h' : IsZ b' s' z') (W : World) : Calls Tryz.prog 72 #[.agg #[.bool b, .string s], .agg #[.bool b', .string s']] W fun e w' => e = .returned (.int .i64 (cmpI z z')) ∧ Below W.heap.size W w' := by
  rw [h.eq, h'.eq]
  exact intCompare_any z z' h.2.2 h'.2.2 W

set_option maxHeartbeats 2000000 in
set_option maxRecDepth 100000 in
theorem ratCompare_any (a b : Rat) (ha : Qd a) (hb : Qd b) (hc : CB a b) (w : World) :
    Calls Tryz.prog 37 #[qV a, qV b] w fun e w' => e = .returned (.int .i64 (cmpQ a b)) ∧ Below w.heap.size w w' := by
  by_cases hab : a = b
  · subst hab
    rw [cmpQ_self]
    obtain ⟨x1, r1, x2, r2, ga⟩ : ∃ x1 r1 x2 r2, IsQ x1 r1 x2 r2 a := ⟨_, _, _, _, IsQ.mk' ha⟩
    rw [← ga.eq]
    go_enter Tryz.func37, Tryz.ntmps37
    go_wp2_with fail
    go_ret
    exact ⟨rfl, ((Below.refl _ _).alloc (Nat.le_refl _) _).alloc (by simp) _⟩
  · obtain ⟨x1, r1, x2, r2, ga⟩ : ∃ x1 r1 x2 r2, IsQ x1 r1 x2 r2 a := ⟨_, _, _, _, IsQ.mk' ha⟩
    obtain ⟨y1, u1, y2, u2, gb⟩ : ∃ x1 r1 x2 r2, IsQ x1 r1 x2 r2 b := ⟨_, _, _, _, IsQ.mk' hb⟩
    have hcz := fun W => crossZ ga gb hc W
    have hne : qV a ≠ qV b := fun h => hab (qV_inj a b ha.1 hb.1 ha.2 hb.2 h)
    rw [← ga.eq, ← gb.eq] at hne ⊢
    have hx2 : x2 = false := ga.2.1
    have hy2 : y2 = false := gb.2.1
    subst hx2 hy2
    have hparts : x1 ≠ y1 ∨ (x1 = y1 ∧ r1.toList ≠ u1.toList) ∨ (x1 = y1 ∧ r1 = u1 ∧ r2.toList ≠ u2.toList) := by
      have tl : ∀ s t : ByteArray, s.toList = t.toList → s = t := fun s t h => by rw [Lib.toList_data, Lib.toList_data] at h; obtain ⟨⟨x⟩⟩ := s; obtain ⟨⟨y⟩⟩ := t; simp at h; rw [h]
      by_cases e1 : x1 = y1
      · by_cases e2 : r1.toList = u1.toList
        · refine .inr (.inr ⟨e1, tl _ _ e2, fun e3 => hne ?_⟩)
          rw [e1, tl _ _ e2, tl _ _ e3]
        · exact .inr (.inl ⟨e1, e2⟩)
      · exact .inl e1
    have hcq := cmpQ_cross a b
    unfold CrossPost at hcz
    generalize (crossQ a b).1 = n1 at *
    generalize (crossQ a b).2.1 = n2 at *
    generalize (crossQ a b).2.2 = d at *
    rw [← hcq]
    have HC := Lib.hid hcz
    clear hcz hcq hc ha hb ga gb hne hab
    rcases hparts with hp | ⟨rfl, hp⟩ | ⟨rfl, rfl, hp⟩
    all_goals
      go_enter Tryz.func37, Tryz.ntmps37
      go_wp2_with fail
      refine (HC.out _).mono ?_
      rintro e w1 ⟨b1, s1, b2, s2, b3, s3, rfl, g1, g2, g3, hb1⟩
      obtain ⟨_, _, hbf, _⟩ := at2 hb1
      have HB := Lib.hid hbf
      clear hb1 hbf
      go_wp2_with fail
      refine (cmpZ g1 g2 _).mono ?_
      rintro e w2 ⟨rfl, hb2⟩
      go_wp2_with fail
      go_ret
      refine ⟨rfl, ?_⟩
      have hs := HB.out.size
      exact (((HB.out.alloc hs _).alloc (by simp; omega) _).alloc (by simp; omega) _).trans (hb2.mono (by simp; omega))

theorem cell_alloc_lt {W : World} {o : Obj} {g j : Nat} (h : g < W.heap.size) : (W.alloc o).cell? ⟨g, j, none⟩ = W.cell? ⟨g, j, none⟩ :=
  ((Below.refl W.heap.size W).alloc (Nat.le_refl _) o).cell (p := ⟨g, j, none⟩) h
set_option maxHeartbeats 2000000 in
theorem middle_any (lo hi : Int) (h1 : -4611686018427387904 < lo + hi) (h2 : lo + hi < 4611686018427387904) (w : World) :
    Calls Tryz.prog 70 #[.agg #[.int .i64 lo, .int .i64 hi]] w fun e w' => e = .returned (qV (mkRat (lo + hi) 2)) ∧ Below w.heap.size w w' := by
  have hf := fun W => fromInts_any (lo + hi) 2 (by unfold Wd; omega) (by omega) (by omega) W
  obtain ⟨x1, r1, x2, r2, e1⟩ := qV_ex (mkRat (lo + hi) 2)
  have hwr : IntKind.i64.wrap (lo + hi) = lo + hi := IntWalk.i64_in _ (by omega)
  rw [e1] at hf ⊢
  have HF := Lib.hid hf
  clear hf e1
  go_enter Tryz.func70, Tryz.ntmps70
  go_wp2_with fail
  refine (HF.out _).mono ?_
  rintro e w1 ⟨rfl, hb1⟩
  obtain ⟨_, ⟨c0, f0, _⟩, hbf, hz⟩ := at2 hb1
  have hz2 : w.heap.size + 1 < w1.heap.size := by omega
  have HB := Lib.hid hbf
  clear hb1 hbf
  go_wp2_with fail
  refine bodyPost_ret (v := .agg #[.bool x1, .string r1, .bool x2, .string r2]) (by simp [results, Tryz.results70, go_sem, c0, cell_alloc_lt, hz2]) rfl ⟨rfl, ?_⟩
  have h1 : w.heap.size ≤ w.heap.size + 1 := by omega
  exact ((((HB.out.setCell h1 _).setCell h1 _).setCell h1 _).setCell h1 _).alloc (by simpa using HB.out.size) _
end Go.Proofs.YtfoenojohemccaaGreatDoor
