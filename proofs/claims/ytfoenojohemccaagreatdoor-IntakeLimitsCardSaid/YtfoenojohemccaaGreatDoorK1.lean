/- clock.Correct, from what Offset says. -/
import Derived.Test.YtfoenojohemccaaGreatDoorR18
import Derived.Test.YtfoenojohemccaaGreatDoorN7
import Derived.Test.YtfoenojohemccaaGreatDoorT0
namespace Go.Proofs.YtfoenojohemccaaGreatDoor
open Go.RowKit Go.Sort Go.Proofs

theorem fromIntQ (z : Int) (hz : Wd z) (W : World) : Calls Tryz.prog 50 #[.int .i64 z] W fun e w' => RetQ (z : Rat) W e w' := by
  refine retQ ⟨by rw [Rat.num_intCast]; exact hz, by rw [Rat.den_intCast]; decide⟩ ?_
  rw [← rI_q]
  exact fromIntR_any z hz W
theorem middleQ (lo hi : Int) (h1 : -4611686018427387904 < lo + hi) (h2 : lo + hi < 4611686018427387904) (W : World) : Calls Tryz.prog 70 #[.agg #[.int .i64 lo, .int .i64 hi]] W fun e w' => RetQ (mkRat (lo + hi) 2) W e w' := by
  have hb := mkRat_bd (lo + hi) 2 (by decide)
  exact retQ ⟨by unfold Wd; omega, by omega⟩ (middle_any lo hi h1 h2 W)
theorem subQ {b1 : Bool} {s1 : ByteArray} {b2 : Bool} {s2 : ByteArray} {c1 : Bool} {r1 : ByteArray} {c2 : Bool} {r2 : ByteArray} {a b : Rat} (ha : IsQ b1 s1 b2 s2 a) (hb : IsQ c1 r1 c2 r2 b) (hc : AB a (-b)) (W : World) :
    Calls Tryz.prog 69 #[.agg #[.bool b1, .string s1, .bool b2, .string s2], .agg #[.bool c1, .string r1, .bool c2, .string r2]] W fun e w' => RetQ (a - b) W e w' := by
  rw [ha.eq, hb.eq]
  refine retQ ?_ (ratSub_any a b ha.qd hb.qd hc W)
  rw [Rat.sub_eq_add_neg]
  exact hc.qd
theorem ab_time (t m : Int) (ht : t.natAbs < 1099511627776) (hm : m.natAbs < 1099511627776) : AB (t : Rat) (-(mkRat m 2)) := by
  have hb := mkRat_bd m 2 (by decide)
  have hd := (mkRat m 2).den_nz
  unfold AB CB crossQ
  rw [Rat.neg_num, Rat.neg_den, Rat.num_intCast, Rat.den_intCast]
  generalize (mkRat m 2).num = n at *
  generalize (mkRat m 2).den = d at *
  have : d = 1 ∨ d = 2 := by omega
  unfold Wd
  rcases this with rfl | rfl
  · simp; omega
  · simp; omega

/-- the answer of Correct: an error, or a time -/
def CorVal : Except Int Rat → Value → Prop
  | .error k, v => k ≠ 0 ∧ v = .tuple #[.agg #[.bool false, .string { data := #[] }, .bool false, .string { data := #[] }], .int .i64 k]
  | .ok q, v => ∃ b1 s1 b2 s2, v = .tuple #[.agg #[.bool b1, .string s1, .bool b2, .string s2], .int .i64 0] ∧ IsQ b1 s1 b2 s2 q
def CorPost (c : Except Int Rat) (w : World) (e : Ending) (w' : World) : Prop := (∃ v, e = .returned v ∧ CorVal c v) ∧ Below w.heap.size w w'
theorem CorPost.ok {q : Rat} {w w' : World} {b1 : Bool} {s1 : ByteArray} {b2 : Bool} {s2 : ByteArray} (h : IsQ b1 s1 b2 s2 q) (hb : Below w.heap.size w w') : CorPost (.ok q) w (.returned (.tuple #[.agg #[.bool b1, .string s1, .bool b2, .string s2], .int .i64 0])) w' :=
  ⟨⟨_, rfl, _, _, _, _, rfl, h⟩, hb⟩
theorem CorPost.err {k : Int} {w w' : World} (hk : k ≠ 0) (hb : Below w.heap.size w w') : CorPost (.error k) w (.returned (.tuple #[.agg #[.bool false, .string { data := #[] }, .bool false, .string { data := #[] }], .int .i64 k])) w' :=
  ⟨⟨_, rfl, hk, rfl⟩, hb⟩
/-- what Correct gives, from the answer of Offset -/
def corOf (t : Int) : Except Int (Int × Int) → Except Int Rat
  | .error k => .error k
  | .ok (lo, hi) => .ok ((t : Rat) - mkRat (lo + hi) 2)
/-- the answer of Offset -/
def OffPost (c : Except Int (Int × Int)) (w : World) (e : Ending) (w' : World) : Prop :=
  (match c with | .error k => k ≠ 0 ∧ e = .returned (.tuple #[.agg #[.int .i64 0, .int .i64 0], .int .i64 k]) | .ok (lo, hi) => (lo + hi).natAbs < 1099511627776 ∧ e = .returned (.tuple #[.agg #[.int .i64 lo, .int .i64 hi], .int .i64 0])) ∧ Below w.heap.size w w'

set_option maxHeartbeats 4000000 in
set_option maxRecDepth 100000 in
theorem correct_ok (v : Value) (x1 x2 x3 x4 x5 x6 x7 : Int) (x8 : Bool) (lo hi : Int) (ht : x5.natAbs < 1099511627776) (hm : (lo + hi).natAbs < 1099511627776) (w : World)
    (hoff : Calls Tryz.prog 68 #[v, .int .i64 x4] ((w.alloc (.cells #[.int .i64 x1, .int .i64 x2, .int .i64 x3, .int .i64 x4, .int .i64 x5, .int .i64 x6, .int .i64 x7, .bool x8] 28)).alloc (.cells #[.bool false, .string { data := #[] }, .bool false, .string { data := #[] }] 69)) fun e w' =>
      e = .returned (.tuple #[.agg #[.int .i64 lo, .int .i64 hi], .int .i64 0]) ∧ Below ((w.alloc (.cells #[.int .i64 x1, .int .i64 x2, .int .i64 x3, .int .i64 x4, .int .i64 x5, .int .i64 x6, .int .i64 x7, .bool x8] 28)).alloc (.cells #[.bool false, .string { data := #[] }, .bool false, .string { data := #[] }] 69)).heap.size ((w.alloc (.cells #[.int .i64 x1, .int .i64 x2, .int .i64 x3, .int .i64 x4, .int .i64 x5, .int .i64 x6, .int .i64 x7, .bool x8] 28)).alloc (.cells #[.bool false, .string { data := #[] }, .bool false, .string { data := #[] }] 69)) w') :
    Calls Tryz.prog 35 #[v, .agg #[.int .i64 x1, .int .i64 x2, .int .i64 x3, .int .i64 x4, .int .i64 x5, .int .i64 x6, .int .i64 x7, .bool x8]] w fun e w' => CorPost (.ok ((x5 : Rat) - mkRat (lo + hi) 2)) w e w' := by
  have hAB := ab_time x5 (lo + hi) ht hm
  have hf := fun W => fromIntQ x5 (by unfold Wd; omega) W
  have hmi := fun W => middleQ lo hi (by omega) (by omega) W
  have HF := Lib.hid hf
  have HM := Lib.hid hmi
  have HO := Lib.hid hoff
  generalize mkRat (lo + hi) 2 = mq at *
  generalize ((x5 : Int) : Rat) = tq at *
  clear hf hmi hoff ht hm
  go_enter Tryz.func35, Tryz.ntmps35
  go_wp2_with fail
  refine HO.out.mono ?_
  rintro e w1 ⟨rfl, hb1⟩
  obtain ⟨q1, q2, hbf1, hz1⟩ := at2 hb1
  obtain ⟨W0, hW0⟩ : ∃ W0, W0 = w1.alloc (.cells #[.int .i64 lo, .int .i64 hi] 115) := ⟨_, rfl⟩
  have hfin : ∀ W, Below W0.heap.size W0 W → (∀ j, W.cell? ⟨w.heap.size, j, none⟩ = #[Value.int .i64 x1, .int .i64 x2, .int .i64 x3, .int .i64 x4, .int .i64 x5, .int .i64 x6, .int .i64 x7, .bool x8][j]?) ∧ (∀ j, W.cell? ⟨w1.heap.size, j, none⟩ = #[Value.int .i64 lo, .int .i64 hi][j]?) ∧ At W (w.heap.size + 1) #[.bool false, .string { data := #[] }, .bool false, .string { data := #[] }] ∧ Below w.heap.size w W := by
    intro W hW
    rw [hW0] at hW
    have hW2 : Below w1.heap.size w1 W := ((Below.refl _ _).alloc (Nat.le_refl _) _).trans (hW.mono (by simp))
    exact ⟨(q1.call hW2).1, ((At.new w1 _ _).call hW).1, q2.call hW2, hbf1.trans (hW2.mono hbf1.size)⟩
  have HFIN := Lib.hid hfin
  have hI0 : Below W0.heap.size W0 W0.drew := (Below.refl _ _).drew
  obtain ⟨p1, p2, ⟨c0, f0, _⟩, hbf⟩ := hfin W0.drew hI0
  have m1 : w.heap.size + 1 ≠ w.heap.size := by omega
  have m2 : w.heap.size + 1 ≠ w1.heap.size := by omega
  obtain ⟨s1, _, _⟩ := q1
  clear hfin hb1 q2 hbf1 hz1
  go_wp2_with fail
  rw [← hW0]
  clear hW0 s1
  go_region_held3 (fun W => (∀ j, W.cell? ⟨w.heap.size, j, none⟩ = #[Value.int .i64 x1, .int .i64 x2, .int .i64 x3, .int .i64 x4, .int .i64 x5, .int .i64 x6, .int .i64 x7, .bool x8][j]?) ∧ (∀ j, W.cell? ⟨w1.heap.size, j, none⟩ = #[Value.int .i64 lo, .int .i64 hi][j]?))
    (first | (with_reducible exact ⟨p1, p2⟩) | (refine ⟨fun j => ?_, fun j => ?_⟩ <;> (repeat (first | rw [cell_far m1] | rw [cell_far m2])) <;> first | (with_reducible exact p1 j) | (with_reducible exact p2 j)))
    (first | (go_at_call 50; refine (HF.out _).mono ?_; rintro e w' ⟨bb1, ss1, bb2, ss2, rfl, hz, hb⟩; have hI1 := Below.trans (by assumption : Below W0.heap.size W0 _) (hb.mono (by have := (by assumption : Below W0.heap.size W0 _).size; omega)); clear hb; obtain ⟨p1, p2, ⟨c0, f0, _⟩, hbf⟩ := HFIN.out _ hI1) | (go_at_call 70; refine (HM.out _).mono ?_; rintro e w' ⟨bb1, ss1, bb2, ss2, rfl, hz, hb⟩; have hI1 := Below.trans (by assumption : Below W0.heap.size W0 _) (hb.mono (by have := (by assumption : Below W0.heap.size W0 _).size; omega)); clear hb; obtain ⟨p1, p2, ⟨c0, f0, _⟩, hbf⟩ := HFIN.out _ hI1) | (go_at_call 69; refine (subQ (by assumption) (by assumption) (by assumption) _).mono ?_; rintro e w' ⟨bb1, ss1, bb2, ss2, rfl, hz, hb⟩; have hI1 := Below.trans (by assumption : Below W0.heap.size W0 _) (hb.mono (by have := (by assumption : Below W0.heap.size W0 _).size; omega)); clear hb; obtain ⟨p1, p2, ⟨c0, f0, _⟩, hbf⟩ := HFIN.out _ hI1))
  all_goals
    rename IsQ _ _ _ _ (tq - mq) => hq
    go_wp2_with fail
    refine bodyPost_ret (v := .tuple #[.agg #[.bool _, .string _, .bool _, .string _], .int .i64 0]) (by simp [results, Tryz.results35, go_sem, c0]) rfl (CorPost.ok hq ?_)
    have h1 : w.heap.size ≤ w.heap.size + 1 := by omega
    exact (((hbf.setCell h1 _).setCell h1 _).setCell h1 _).setCell h1 _

set_option maxHeartbeats 4000000 in
theorem correct_err (v : Value) (x1 x2 x3 x4 x5 x6 x7 : Int) (x8 : Bool) (k : Int) (hk : k ≠ 0) (w : World)
    (hoff : Calls Tryz.prog 68 #[v, .int .i64 x4] ((w.alloc (.cells #[.int .i64 x1, .int .i64 x2, .int .i64 x3, .int .i64 x4, .int .i64 x5, .int .i64 x6, .int .i64 x7, .bool x8] 28)).alloc (.cells #[.bool false, .string { data := #[] }, .bool false, .string { data := #[] }] 69)) fun e w' =>
      e = .returned (.tuple #[.agg #[.int .i64 0, .int .i64 0], .int .i64 k]) ∧ Below ((w.alloc (.cells #[.int .i64 x1, .int .i64 x2, .int .i64 x3, .int .i64 x4, .int .i64 x5, .int .i64 x6, .int .i64 x7, .bool x8] 28)).alloc (.cells #[.bool false, .string { data := #[] }, .bool false, .string { data := #[] }] 69)).heap.size ((w.alloc (.cells #[.int .i64 x1, .int .i64 x2, .int .i64 x3, .int .i64 x4, .int .i64 x5, .int .i64 x6, .int .i64 x7, .bool x8] 28)).alloc (.cells #[.bool false, .string { data := #[] }, .bool false, .string { data := #[] }] 69)) w') :
    Calls Tryz.prog 35 #[v, .agg #[.int .i64 x1, .int .i64 x2, .int .i64 x3, .int .i64 x4, .int .i64 x5, .int .i64 x6, .int .i64 x7, .bool x8]] w fun e w' => CorPost (.error k) w e w' := by
  have HO := Lib.hid hoff
  clear hoff
  go_enter Tryz.func35, Tryz.ntmps35
  go_wp2_with fail
  refine HO.out.mono ?_
  rintro e w1 ⟨rfl, hb1⟩
  obtain ⟨q1, ⟨c0, f0, _⟩, hbf, hz1⟩ := at2 hb1
  have hz2 : w.heap.size + 1 < w1.heap.size := by omega
  clear q1
  have HB := Lib.hid hbf
  clear hb1 hbf
  go_wp2_with fail
  refine bodyPost_ret (v := .tuple #[.agg #[.bool false, .string { data := #[] }, .bool false, .string { data := #[] }], .int .i64 k]) (by simp [results, Tryz.results35, go_sem, c0, cell_alloc_lt, hz2]) rfl (CorPost.err hk ?_)
  have h1 : w.heap.size ≤ w.heap.size + 1 := by omega
  first
    | exact ((((HB.out.setCell h1 _).setCell h1 _).setCell h1 _).setCell h1 _).alloc (by simpa using HB.out.size) _
    | exact ((((HB.out.alloc HB.out.size _).setCell h1 _).setCell h1 _).setCell h1 _).setCell h1 _
end Go.Proofs.YtfoenojohemccaaGreatDoor
