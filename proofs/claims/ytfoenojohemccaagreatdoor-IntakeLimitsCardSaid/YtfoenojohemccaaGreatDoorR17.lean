/- rational.Add, Sub, Compare. -/
import Derived.Test.YtfoenojohemccaaGreatDoorR16
namespace Go.Proofs.YtfoenojohemccaaGreatDoor
open Go.RowKit Go.Sort Go.Proofs

theorem mkRat_bd (n : Int) (d : Nat) (hd : d ≠ 0) : (mkRat n d).num.natAbs ≤ n.natAbs ∧ (mkRat n d).den ≤ d := by
  have hm : mkRat n d = Rat.normalize n d hd := by rw [Rat.mkRat_def, dif_neg hd]
  rw [hm, Rat.normalize_eq]
  refine ⟨?_, Nat.div_le_self _ _⟩
  show (n / ((n.natAbs.gcd d : Nat) : Int)).natAbs ≤ n.natAbs
  obtain ⟨c, hc⟩ := Nat.gcd_dvd_left n.natAbs d
  generalize n.natAbs.gcd d = g at *
  have hn : n = g * c ∨ n = -(g * c : Int) := by
    rcases Int.natAbs_eq n with h | h <;> rw [h, hc] <;> simp
  by_cases hg : g = 0
  · subst hg; simp
  have hle : c ≤ n.natAbs := by rw [hc]; exact Nat.le_mul_of_pos_left _ (by omega)
  rcases hn with h | h
  · have e : n / (g : Int) = c := by rw [h, Int.mul_ediv_cancel_left _ (by omega)]
    rw [e]; omega
  · have e : n / (g : Int) = -(c : Int) := by rw [h, ← Int.mul_neg, Int.mul_ediv_cancel_left _ (by omega)]
    rw [e]; omega

/-- both fractions over one denominator stay in one word -/
def CB (a b : Rat) : Prop := Wd (crossQ a b).1 ∧ Wd (crossQ a b).2.1 ∧ (crossQ a b).2.2 < 9223372036854775808
def CrossPost (a b : Rat) (w : World) (e : Ending) (w' : World) : Prop :=
  ∃ b1 s1 b2 s2 b3 s3, e = .returned (.tuple #[.agg #[.bool b1, .string s1], .agg #[.bool b2, .string s2], .agg #[.bool b3, .string s3]]) ∧ IsZ b1 s1 (crossQ a b).1 ∧ IsZ b2 s2 (crossQ a b).2.1 ∧ IsZ b3 s3 (crossQ a b).2.2 ∧ Below w.heap.size w w'
theorem crossZ {b1 : Bool} {s1 : ByteArray} {b2 : Bool} {s2 : ByteArray} {c1 : Bool} {r1 : ByteArray} {c2 : Bool} {r2 : ByteArray} {a b : Rat} (ha : IsQ b1 s1 b2 s2 a) (hb : IsQ c1 r1 c2 r2 b) (hc : CB a b) (W : World) :
    Calls Tryz.prog 71 #[.agg #[.bool b1, .string s1, .bool b2, .string s2], .agg #[.bool c1, .string r1, .bool c2, .string r2]] W fun e w' => CrossPost a b W e w' := by
  rw [ha.eq, hb.eq]
  obtain ⟨h1, h2, h3⟩ := hc
  have h3' : Wd ((crossQ a b).2.2 : Int) := by unfold Wd; omega
  by_cases h : a.den = b.den
  · refine (cross_eq a b ha.qd h W).mono fun e w' ⟨he, hb⟩ => ⟨_, _, _, _, _, _, ?_, IsZ.mk' h1, IsZ.mk' h2, IsZ.mk' h3', hb⟩
    rw [he]
    unfold crossQ
    rw [if_pos h]
    rfl
  · have e : crossQ a b = (a.num * b.den, b.num * a.den, a.den * b.den) := by unfold crossQ; rw [if_neg h]
    rw [e] at h1 h2 h3 h3'
    have hc : ((a.den * b.den : Nat) : Int) = (a.den : Int) * b.den := by simp
    refine (cross_ne a b ha.qd hb.qd h h1 h2 (by rw [← hc]; exact h3') W).mono fun e' w' ⟨he, hb⟩ => ?_
    unfold CrossPost
    rw [e]
    refine ⟨_, _, _, _, _, _, ?_, IsZ.mk' h1, IsZ.mk' h2, IsZ.mk' h3', hb⟩
    rw [he, ← hc]
    rfl
theorem addZ {b : Bool} {s : ByteArray} {z : Int} {b' : Bool} {s' : ByteArray} {z' : Int} (h : IsZ b s z) (h' : IsZ b' s' z') (hw : Wd (z + z')) (W : World) : Calls Tryz.prog 143 #[.agg #[.bool b, .string s], .agg #[.bool b', .string s']] W fun e w' => RetZ (z + z') W e w' := by
  rw [h.eq, h'.eq]
  exact retZ hw (intAdd_any z z' h.2.2 h'.2.2 hw W)
theorem canZ {b : Bool} {s : ByteArray} {z : Int} {b' : Bool} {s' : ByteArray} {d : Nat} (h : IsZ b s z) (h' : IsZ b' s' d) (hd : d ≠ 0) (W : World) : Calls Tryz.prog 142 #[.agg #[.bool b, .string s], .agg #[.bool b', .string s']] W fun e w' => RetQ (mkRat z d) W e w' := by
  rw [h.eq, h'.eq]
  have hd' : d < 9223372036854775808 := by have := h'.2.2; unfold Wd at this; omega
  have hb := mkRat_bd z d hd
  exact retQ ⟨by have := h.2.2; unfold Wd at *; omega, by omega⟩ (canonical_q z d h.2.2 hd' hd W)

set_option maxHeartbeats 2000000 in
set_option maxRecDepth 100000 in
theorem ratAdd_any (a b : Rat) (ha : Qd a) (hb : Qd b) (hc : CB a b) (hs : Wd ((crossQ a b).1 + (crossQ a b).2.1)) (w : World) :
    Calls Tryz.prog 109 #[qV a, qV b] w fun e w' => e = .returned (qV (a + b)) ∧ Below w.heap.size w w' := by
  obtain ⟨x1, r1, x2, r2, ga⟩ : ∃ x1 r1 x2 r2, IsQ x1 r1 x2 r2 a := ⟨_, _, _, _, IsQ.mk' ha⟩
  obtain ⟨y1, u1, y2, u2, gb⟩ : ∃ x1 r1 x2 r2, IsQ x1 r1 x2 r2 b := ⟨_, _, _, _, IsQ.mk' hb⟩
  have hcz := fun W => crossZ ga gb hc W
  rw [← ga.eq, ← gb.eq]
  have hd0 := crossQ_pos a b
  have hsum := crossQ_add a b
  unfold CrossPost at hcz
  generalize (crossQ a b).1 = n1 at *
  generalize (crossQ a b).2.1 = n2 at *
  generalize (crossQ a b).2.2 = d at *
  have HC := Lib.hid hcz
  have HS := Lib.hid hsum
  clear hcz hsum hc ha hb ga gb
  go_enter Tryz.func109, Tryz.ntmps109
  go_wp2_with fail
  refine (HC.out _).mono ?_
  rintro e w1 ⟨b1, s1, b2, s2, b3, s3, rfl, g1, g2, g3, hb1⟩
  obtain ⟨_, _, q3, hbf1, hz1⟩ := at3 hb1
  obtain ⟨W0, hW0⟩ : ∃ W0, W0 = ((w1.alloc (.cells #[.bool b1, .string s1] 67)).alloc (.cells #[.bool b2, .string s2] 67)).alloc (.cells #[.bool b3, .string s3] 67) := ⟨_, rfl⟩
  have hfin : ∀ W, Below W0.heap.size W0 W → (∀ j, W.cell? ⟨w1.heap.size, j, none⟩ = #[Value.bool b1, .string s1][j]?) ∧ (∀ j, W.cell? ⟨w1.heap.size + 1, j, none⟩ = #[Value.bool b2, .string s2][j]?) ∧ (∀ j, W.cell? ⟨w1.heap.size + 1 + 1, j, none⟩ = #[Value.bool b3, .string s3][j]?) ∧ At W (w.heap.size + 1 + 1) #[.bool false, .string { data := #[] }, .bool false, .string { data := #[] }] ∧ Below w.heap.size w W := by
    intro W hW
    rw [hW0] at hW
    obtain ⟨h1, h2, h3, h4, _⟩ := at3 hW
    exact ⟨h1.1, h2.1, h3.1, q3.call h4, hbf1.trans (h4.mono hbf1.size)⟩
  have HFIN := Lib.hid hfin
  have hI0 : Below W0.heap.size W0 W0.drew := (Below.refl _ _).drew
  obtain ⟨p1, p2, p3, ⟨c0, f0, _⟩, hbf⟩ := hfin W0.drew hI0
  have m1 : w.heap.size + 1 + 1 ≠ w1.heap.size := by omega
  have m2 : w.heap.size + 1 + 1 ≠ w1.heap.size + 1 := by omega
  have m3 : w.heap.size + 1 + 1 ≠ w1.heap.size + 1 + 1 := by omega
  clear hfin hb1 q3 hbf1 hz1
  go_wp2_with fail
  rw [← hW0]
  clear hW0
  go_region_held3 (fun W => (∀ j, W.cell? ⟨w1.heap.size, j, none⟩ = #[Value.bool b1, .string s1][j]?) ∧ (∀ j, W.cell? ⟨w1.heap.size + 1, j, none⟩ = #[Value.bool b2, .string s2][j]?) ∧ (∀ j, W.cell? ⟨w1.heap.size + 1 + 1, j, none⟩ = #[Value.bool b3, .string s3][j]?))
    (first | (with_reducible exact ⟨p1, p2, p3⟩) | (refine ⟨fun j => ?_, fun j => ?_, fun j => ?_⟩ <;> (repeat (first | rw [cell_far m1] | rw [cell_far m2] | rw [cell_far m3])) <;> first | (with_reducible exact p1 j) | (with_reducible exact p2 j) | (with_reducible exact p3 j)))
    (first | (go_at_call 143; refine (addZ (by assumption) (by assumption) (by assumption) _).mono ?_; rintro e w' ⟨bb, ss, rfl, hz, hb⟩; have hI1 := Below.trans (by assumption : Below W0.heap.size W0 _) (hb.mono (by have := (by assumption : Below W0.heap.size W0 _).size; omega)); clear hb; obtain ⟨p1, p2, p3, ⟨c0, f0, _⟩, hbf⟩ := HFIN.out _ hI1) | (go_at_call 142; refine (canZ (by assumption) (by assumption) (by assumption) _).mono ?_; rintro e w' ⟨bb1, ss1, bb2, ss2, rfl, hz, hb⟩; have hI1 := Below.trans (by assumption : Below W0.heap.size W0 _) (hb.mono (by have := (by assumption : Below W0.heap.size W0 _).size; omega)); clear hb; obtain ⟨p1, p2, p3, ⟨c0, f0, _⟩, hbf⟩ := HFIN.out _ hI1))
  all_goals
    rename IsQ _ _ _ _ _ => hq
    rw [HS.out] at hq
    go_wp2_with fail
    refine bodyPost_ret (v := qV (a + b)) (by rw [← hq.eq]; simp [results, Tryz.results109, go_sem, c0]) rfl ⟨rfl, ?_⟩
    have h1 : w.heap.size ≤ w.heap.size + 1 + 1 := by omega
    exact (((hbf.setCell h1 _).setCell h1 _).setCell h1 _).setCell h1 _
end Go.Proofs.YtfoenojohemccaaGreatDoor
