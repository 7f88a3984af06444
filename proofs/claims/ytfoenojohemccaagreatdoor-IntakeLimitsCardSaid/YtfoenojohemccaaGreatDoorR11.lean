/- rational.Den and Neg at any fraction; integer.mul, Mul, add, compare in one word. -/
import Derived.Test.YtfoenojohemccaaGreatDoorR9
import Derived.Test.YtfoenojohemccaaGreatDoorQH
import Derived.Laws.Externs
namespace Go.Proofs.YtfoenojohemccaaGreatDoor
open Go.RowKit Go.Sort Go.Proofs

/-- both parts of a fraction in one word -/
def Qd (q : Rat) : Prop := Wd q.num ∧ q.den < 9223372036854775808

set_option maxHeartbeats 1000000 in
theorem den_any (q : Rat) (hq : Qd q) (w : World) : Calls Tryz.prog 112 #[qV q] w fun e w' => e = .returned (zI q.den) ∧ Below w.heap.size w w' := by
  by_cases h1 : q.den = 1
  · have e : qV q = rI q.num := by simp [qV, rI, h1]
    rw [e, h1]
    exact den_whole q.num w
  · have he := emp_magB q.den (by have := hq.2; omega)
    have hd : decide (q.den = 0) = false := by simp [q.den_nz]
    rw [hd] at he
    have hz : zI (q.den : Int) = .agg #[.bool false, .string (magB q.den)] := by simp [zI]
    rw [hz, qV, if_neg h1]
    generalize decide (q.num < 0) = b1 at *
    generalize magB q.num.natAbs = s1 at *
    generalize magB q.den = s at *
    have hne : s.toList ≠ [] := by intro h; rw [h] at he; simp at he
    clear hz hd h1 hq
    go_enter Tryz.func112, Tryz.ntmps112
    go_wp2_with fail
    refine bodyPost_ret (v := .agg #[.bool false, .string s]) (by simp [results, Tryz.results112, go_sem]) rfl ⟨rfl, ?_⟩
    exact ((Below.refl _ _).alloc (Nat.le_refl _) _).alloc (by simp) _

set_option maxHeartbeats 2000000 in
set_option maxRecDepth 100000 in
theorem neg_any (q : Rat) (hq : Qd q) (w : World) : Calls Tryz.prog 110 #[qV q] w fun e w' => e = .returned (qV (-q)) ∧ Below w.heap.size w w' := by
  have h := fun W => negate_any q.num hq.1 W
  obtain ⟨sd, hsd⟩ : ∃ sd, sd = (if q.den = 1 then ({ data := #[] } : ByteArray) else magB q.den) := ⟨_, rfl⟩
  obtain ⟨b1, s1, e1⟩ : ∃ b s, zI q.num = .agg #[.bool b, .string s] ∧ qV q = .agg #[.bool b, .string s, .bool false, .string sd] := ⟨_, _, rfl, by rw [qV, hsd]⟩
  obtain ⟨b2, s2, e2⟩ : ∃ b s, zI (-q.num) = .agg #[.bool b, .string s] ∧ qV (-q) = .agg #[.bool b, .string s, .bool false, .string sd] := ⟨_, _, rfl, by rw [qV, hsd, Rat.neg_num, Rat.neg_den]⟩
  rw [e1.1, e2.1] at h
  rw [e1.2, e2.2]
  have HD := Lib.hid h
  clear h e1 e2 hsd
  obtain ⟨W0, hW0⟩ : ∃ W0, W0 = (w.alloc (.cells #[.bool b1, .string s1, .bool false, .string sd] 69)).alloc (.cells #[.bool false, .string { data := #[] }, .bool false, .string { data := #[] }] 69) := ⟨_, rfl⟩
  have hfin : ∀ W, Below W0.heap.size W0 W → (∀ j, W.cell? ⟨w.heap.size, j, none⟩ = #[Value.bool b1, .string s1, .bool false, .string sd][j]?) ∧ At W (w.heap.size + 1) #[.bool false, .string { data := #[] }, .bool false, .string { data := #[] }] ∧ Below w.heap.size w W := by
    intro W hW
    rw [hW0] at hW
    obtain ⟨h1, h2, h3, _⟩ := at2 hW
    exact ⟨h1.1, h2, h3⟩
  have hcells : ∀ j, W0.cell? ⟨w.heap.size, j, none⟩ = #[Value.bool b1, .string s1, .bool false, .string sd][j]? := (hfin W0 (Below.refl _ _)).1
  have HFIN := Lib.hid hfin
  clear hfin
  go_enter Tryz.func110, Tryz.ntmps110
  go_wp2_with fail
  rw [← hW0]
  clear hW0
  go_region_held3 (fun W => ∀ j, W.cell? ⟨w.heap.size, j, none⟩ = #[Value.bool b1, .string s1, .bool false, .string sd][j]?)
    (first | exact hcells | exact hck | (intro j; simp [go_sem, hck]; done) | go_keep)
    (first | (go_at_call 144; refine (HD.out _).mono ?_; rintro e w' ⟨rfl, hb⟩; obtain ⟨hck, ⟨c0, f0, _⟩, hbf⟩ := HFIN.out w' ((Below.refl _ _).drew.trans hb)))
  all_goals
    clear hb
    go_wp2_with fail
    refine bodyPost_ret (v := .agg #[.bool b2, .string s2, .bool false, .string sd]) (by simp [results, Tryz.results110, go_sem, c0]) rfl ⟨rfl, ?_⟩
    have h1 : w.heap.size ≤ w.heap.size + 1 := by omega
    exact (((hbf.setCell h1 _).setCell h1 _).setCell h1 _).setCell h1 _

set_option maxHeartbeats 1000000 in
theorem mulN_any (x y : Nat) (hx : x < 9223372036854775808) (hy : y < 9223372036854775808) (hxy : x * y < 9223372036854775808) (w : World) :
    Calls Tryz.prog 147 #[.string (magB x), .string (magB y)] w fun e w' => e = .returned (.string (magB (x * y))) ∧ Below w.heap.size w w' := by
  have hw := words_any (magB x) (magB y) w (magB_size _ (by omega)) (magB_size _ (by omega))
  rw [magB_word _ (by omega), magB_word _ (by omega)] at hw
  have hm := fun W => Tryz.bits_Mul64 x y (by omega) (by omega) W
  have hg := fun W => magnitude_any (x * y) W (by omega)
  rw [Nat.div_eq_of_lt (by omega), Nat.mod_eq_of_lt (by omega)] at hm
  generalize magB x = sx at *
  generalize magB y = sy at *
  generalize magB (x * y) = sz at *
  generalize x * y = z at *
  have HM := Lib.hid hm
  have HG := Lib.hid hg
  clear hm hg
  go_enter Tryz.func147, Tryz.ntmps147
  go_wp2_with fail
  refine hw.mono ?_
  rintro e w1 ⟨rfl, rfl⟩
  clear hw
  go_wp2_with fail
  refine (HM.out _).mono ?_
  rintro e w2 ⟨rfl, rfl⟩
  go_wp2_with fail
  refine (HG.out _).mono ?_
  rintro e w3 ⟨rfl, hb⟩
  go_wp2_with fail
  go_ret
  exact ⟨rfl, hb⟩

theorem add64_here (x y : Nat) (h : x + y < 18446744073709551616) (w : World) : (callFunc 200 #[.int .u64 x, .int .u64 y, .int .u64 0]).run Tryz.prog w = .ok (.value (.tuple #[.int .u64 ((x + y : Nat) : Int), .int .u64 0])) w := by
  rw [run_callFunc_extern Tryz.func200 (by kernel_rfl) (by kernel_rfl) (by kernel_rfl) (e := add64Entry) (by kernel_rfl), run_add64 x y 0 (by omega) (by omega) (by omega) (by omega)]
  have h1 : ((x : Int) + y + 0) % 18446744073709551616 = ((x + y : Nat) : Int) := by omega
  have h2 : ((x : Int) + y + 0) / 18446744073709551616 = 0 := by omega
  rw [h1, h2]
  rfl

set_option maxHeartbeats 1000000 in
theorem addN_any (x y : Nat) (hx : x < 9223372036854775808) (hy : y < 9223372036854775808) (w : World) :
    Calls Tryz.prog 179 #[.string (magB x), .string (magB y)] w fun e w' => e = .returned (.string (magB (x + y))) ∧ Below w.heap.size w w' := by
  have hw := words_any (magB x) (magB y) w (magB_size _ (by omega)) (magB_size _ (by omega))
  rw [magB_word _ (by omega), magB_word _ (by omega)] at hw
  have hm := fun W => add64_here x y (by omega) W
  have hg := fun W => magnitude_any (x + y) W (by omega)
  generalize magB x = sx at *
  generalize magB y = sy at *
  generalize magB (x + y) = sz at *
  generalize x + y = z at *
  have HG := Lib.hid hg
  clear hg
  go_enter Tryz.func179, Tryz.ntmps179
  go_wp2_with fail
  refine hw.mono ?_
  rintro e w1 ⟨rfl, rfl⟩
  clear hw
  go_wp2_with fail
  refine (HG.out _).mono ?_
  rintro e w3 ⟨rfl, hb⟩
  go_wp2_with fail
  go_ret
  exact ⟨rfl, hb⟩

set_option maxHeartbeats 1000000 in
theorem subN_any (x y : Nat) (hx : x < 9223372036854775808) (hxy : y ≤ x) (w : World) :
    Calls Tryz.prog 180 #[.string (magB x), .string (magB y)] w fun e w' => e = .returned (.string (magB (x - y))) ∧ Below w.heap.size w w' := by
  have hw := words_any (magB x) (magB y) w (magB_size _ (by omega)) (magB_size _ (by omega))
  rw [magB_word _ (by omega), magB_word _ (by omega)] at hw
  have hg := fun W => magnitude_any (x - y) W (by omega)
  have hs : ((x - y : Nat) : Int) = (x : Int) - y := by omega
  rw [hs] at hg
  generalize magB x = sx at *
  generalize magB y = sy at *
  generalize magB (x - y) = sz at *
  have HG := Lib.hid hg
  clear hg hs
  go_enter Tryz.func180, Tryz.ntmps180
  go_wp2_with fail
  refine hw.mono ?_
  rintro e w1 ⟨rfl, rfl⟩
  clear hw
  go_wp2_with fail
  refine (HG.out _).mono ?_
  rintro e w3 ⟨rfl, hb⟩
  go_wp2_with fail
  go_ret
  exact ⟨rfl, hb⟩

set_option maxHeartbeats 1000000 in
theorem compareN_any (x y : Nat) (hx : x < 9223372036854775808) (hy : y < 9223372036854775808) (w : World) :
    Calls Tryz.prog 115 #[.string (magB x), .string (magB y)] w fun e w' => e = .returned (.int .i64 (cmpI x y)) ∧ Below w.heap.size w w' := by
  have hcmp := magB_cmp x y (by omega) (by omega)
  have h1 := fun W => cmpInt_any (magB x).size (magB y).size W
  have h2 := fun W => Tryz.strings_Compare (magB x) (magB y) W
  have h3 := fun (a b : Int) W => orInt_any [a, b] 2 W.heap.size 0 2 (W.alloc (.cells #[.int .i64 a, .int .i64 b] 3)) rfl (by simp) (lit2 a b W 3 [a, b] rfl)
  rw [← hcmp]
  clear hcmp
  generalize magB x = sx at *
  generalize magB y = sy at *
  have H1 := Lib.hid h1
  have H2 := Lib.hid h2
  have H3 := Lib.hid h3
  clear h1 h2 h3
  go_enter Tryz.func115, Tryz.ntmps115
  go_wp2_with fail
  refine (H1.out _).mono ?_
  rintro e w1 ⟨rfl, rfl⟩
  go_wp2_with fail
  refine (H2.out _).mono ?_
  rintro e w2 ⟨rfl, rfl⟩
  go_wp2_with fail
  refine (H3.out _ _ _).mono ?_
  rintro e w3 ⟨rfl, rfl⟩
  go_wp2_with fail
  go_ret
  exact ⟨rfl, (Below.refl _ _).alloc (Nat.le_refl _) _⟩
end Go.Proofs.YtfoenojohemccaaGreatDoor
