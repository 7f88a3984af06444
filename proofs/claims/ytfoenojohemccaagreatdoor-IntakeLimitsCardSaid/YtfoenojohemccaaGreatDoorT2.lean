/- The comparison of reports with times (the closure in Intake.times). -/
import Derived.Test.YtfoenojohemccaaGreatDoorR18
import Derived.Test.YtfoenojohemccaaGreatDoorT0
namespace Go.Proofs.YtfoenojohemccaaGreatDoor
open Go.RowKit Go.Sort Go.Proofs

theorem natAbs_mul_lt (a b : Int) (x y : Nat) (h1 : a.natAbs < x) (h2 : b.natAbs < y) : (a * b).natAbs < x * y := by
  rw [Int.natAbs_mul]
  exact Nat.mul_lt_mul'' h1 h2
theorem Sq.cb {a b : Rat} (ha : Sq a) (hb : Sq b) : CB a b := by
  unfold CB crossQ Wd
  obtain ⟨a1, a2⟩ := ha
  obtain ⟨b1, b2⟩ := hb
  split
  · exact ⟨by show a.num.natAbs < _; omega, by show b.num.natAbs < _; omega, by show a.den < _; omega⟩
  · have h1 := natAbs_mul_lt a.num b.den _ _ a1 (show ((b.den : Int)).natAbs < 1048576 by omega)
    have h2 := natAbs_mul_lt b.num a.den _ _ b1 (show ((a.den : Int)).natAbs < 1048576 by omega)
    have h3 := Nat.mul_lt_mul'' a2 b2
    refine ⟨?_, ?_, ?_⟩
    · show (a.num * (b.den : Int)).natAbs < _; omega
    · show (b.num * (a.den : Int)).natAbs < _; omega
    · show a.den * b.den < _; omega
def cT (x y : Tim) : Int := orI [cmpQ x.q y.q, cmpI x.r.s y.r.s]
theorem cmpQZ {b1 : Bool} {s1 : ByteArray} {b2 : Bool} {s2 : ByteArray} {c1 : Bool} {r1 : ByteArray} {c2 : Bool} {r2 : ByteArray} {a b : Rat} (ha : IsQ b1 s1 b2 s2 a) (hb : IsQ c1 r1 c2 r2 b) (hc : CB a b) (W : World) :
    Calls Tryz.prog 37 #[.agg #[.bool b1, .string s1, .bool b2, .string s2], .agg #[.bool c1, .string r1, .bool c2, .string r2]] W fun e w' => e = .returned (.int .i64 (cmpQ a b)) ∧ Below W.heap.size W w' := by
  rw [ha.eq, hb.eq]
  exact ratCompare_any a b ha.qd hb.qd hc W

set_option maxHeartbeats 4000000 in
set_option maxRecDepth 100000 in
theorem timCmp_any (x y : Tim) (w : World) : Calls Tryz.prog 104 #[x.val, y.val] w fun e w' => e = .returned (.int .i64 (cT x y)) ∧ Below w.heap.size w w' := by
  have hcb := Sq.cb x.hq y.hq
  have hqx := IsQ.mk' x.hq.qd
  have hqy := IsQ.mk' y.hq.qd
  have h2 := fun W => cmpInt_any x.r.s y.r.s W
  have h3 := fun (a b : Int) W => orInt_any [a, b] 2 W.heap.size 0 2 (W.alloc (.cells #[.int .i64 a, .int .i64 b] 3)) rfl (by simp) (lit2 a b W 3 [a, b] rfl)
  unfold cT Tim.val Tim.flat T12.val
  obtain ⟨q1, r1, hq1⟩ := x
  obtain ⟨q2, r2, hq2⟩ := y
  obtain ⟨x5, x6, x7, x8, x9, x10, x11, x12⟩ := r1
  obtain ⟨y5, y6, y7, y8, y9, y10, y11, y12⟩ := r2
  simp only [] at *
  generalize decide (q1.num < 0) = x1 at *
  generalize decide (q2.num < 0) = y1 at *
  generalize magB q1.num.natAbs = x2 at *
  generalize magB q2.num.natAbs = y2 at *
  generalize (if q1.den = 1 then ({ data := #[] } : ByteArray) else magB q1.den) = x4 at *
  generalize (if q2.den = 1 then ({ data := #[] } : ByteArray) else magB q2.den) = y4 at *
  clear hq1 hq2
  have h1 := fun W => cmpQZ hqx hqy hcb W
  clear hqx hqy hcb
  generalize cmpQ q1 q2 = c1 at *
  generalize cmpI x6 y6 = c2 at *
  have H1 := Lib.hid h1
  have H2 := Lib.hid h2
  have H3 := Lib.hid h3
  clear h1 h2 h3
  obtain ⟨W0, hW0⟩ : ∃ W0, W0 = (w.alloc (.cells #[.bool x1, .string x2, .bool false, .string x4, .int .i64 x5, .int .i64 x6, .int .i64 x7, .int .i64 x8, .int .i64 x9, .int .i64 x10, .int .i64 x11, .bool x12] 89)).alloc (.cells #[.bool y1, .string y2, .bool false, .string y4, .int .i64 y5, .int .i64 y6, .int .i64 y7, .int .i64 y8, .int .i64 y9, .int .i64 y10, .int .i64 y11, .bool y12] 89) := ⟨_, rfl⟩
  have hfin : ∀ W, Below W0.heap.size W0 W → (∀ j, W.cell? ⟨w.heap.size, j, none⟩ = #[Value.bool x1, .string x2, .bool false, .string x4, .int .i64 x5, .int .i64 x6, .int .i64 x7, .int .i64 x8, .int .i64 x9, .int .i64 x10, .int .i64 x11, .bool x12][j]?) ∧ (∀ j, W.cell? ⟨w.heap.size + 1, j, none⟩ = #[Value.bool y1, .string y2, .bool false, .string y4, .int .i64 y5, .int .i64 y6, .int .i64 y7, .int .i64 y8, .int .i64 y9, .int .i64 y10, .int .i64 y11, .bool y12][j]?) ∧ Below w.heap.size w W ∧ w.heap.size + 1 + 1 ≤ W.heap.size := by
    intro W hW
    rw [hW0] at hW
    obtain ⟨h1, h2, h3, h4⟩ := at2 hW
    exact ⟨h1.1, h2.1, h3, h4⟩
  have HFIN := Lib.hid hfin
  have hI0 : Below W0.heap.size W0 W0.drew := (Below.refl _ _).drew
  obtain ⟨p1, p2, hbf, hsz⟩ := hfin W0.drew hI0
  clear hfin
  go_enter Tryz.func104, Tryz.ntmps104
  go_wp2_with fail
  rw [← hW0]
  clear hW0
  go_region_held3 (fun W => (∀ j, W.cell? ⟨w.heap.size, j, none⟩ = #[Value.bool x1, .string x2, .bool false, .string x4, .int .i64 x5, .int .i64 x6, .int .i64 x7, .int .i64 x8, .int .i64 x9, .int .i64 x10, .int .i64 x11, .bool x12][j]?) ∧ (∀ j, W.cell? ⟨w.heap.size + 1, j, none⟩ = #[Value.bool y1, .string y2, .bool false, .string y4, .int .i64 y5, .int .i64 y6, .int .i64 y7, .int .i64 y8, .int .i64 y9, .int .i64 y10, .int .i64 y11, .bool y12][j]?))
    (first | (with_reducible exact ⟨p1, p2⟩) | (refine ⟨fun j => ?_, fun j => ?_⟩ <;> (first | rw [cell_alloc_lt (show w.heap.size < _ by omega)] | rw [cell_alloc_lt (show w.heap.size + 1 < _ by omega)]) <;> first | (with_reducible exact p1 j) | (with_reducible exact p2 j)))
    (first | (go_at_call 37; refine (H1.out _).mono ?_; rintro e w' ⟨rfl, hb⟩; have hI1 := Below.trans (by assumption : Below W0.heap.size W0 _) (hb.mono (by have := (by assumption : Below W0.heap.size W0 _).size; omega)); clear hb; obtain ⟨p1, p2, hbf, hsz⟩ := HFIN.out _ hI1) | (go_at_call 98; refine (H2.out _).mono ?_; rintro e w' ⟨rfl, rfl⟩) | (go_at_call 97; refine (H3.out _ _ _).mono ?_; rintro e w' ⟨rfl, rfl⟩))
  all_goals
    go_wp2_with fail
    go_ret
    exact ⟨rfl, hbf.alloc hbf.size _⟩
end Go.Proofs.YtfoenojohemccaaGreatDoor
