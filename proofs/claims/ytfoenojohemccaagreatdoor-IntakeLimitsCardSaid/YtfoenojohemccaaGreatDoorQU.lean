/- integer.div, DivMod at an exact quotient, rational.quotient, one. | rational.quotient, one, FromInt, Neg, Den. -/
import Derived.Test.YtfoenojohemccaaGreatDoorQR
namespace Go.Proofs.YtfoenojohemccaaGreatDoor
open Go.RowKit Go.Sort Go.Proofs

set_option maxHeartbeats 4000000 in
set_option maxRecDepth 100000 in
theorem div_any (x y : Nat) (hx : x < 9223372036854775808) (hy : y < 9223372036854775808) (hy0 : y ≠ 0) (w : World) :
    Calls Tryz.prog 198 #[.string (magB x), .string (magB y)] w fun e w' => e = .returned (.tuple #[.string (magB (x / y)), .string (magB (x % y))]) ∧ Below w.heap.size w w' := by
  have hw := words_any (magB x) (magB y) w (magB_size _ (by omega)) (magB_size _ (by omega))
  rw [magB_word _ (by omega), magB_word _ (by omega)] at hw
  have hq : x / y < 18446744073709551616 := Nat.lt_of_le_of_lt (Nat.div_le_self x y) (by omega)
  have hr : x % y < 18446744073709551616 := Nat.lt_of_lt_of_le (Nat.mod_lt _ (by omega)) (by omega)
  have h1 := fun W => magnitude_any (x / y) W hq
  have h2 := fun W => magnitude_any (x % y) W hr
  obtain ⟨sa, hsa⟩ : ∃ s, s = magB x := ⟨_, rfl⟩
  obtain ⟨sb, hsb⟩ : ∃ s, s = magB y := ⟨_, rfl⟩
  obtain ⟨sq, hsq⟩ : ∃ s, s = magB (x / y) := ⟨_, rfl⟩
  obtain ⟨sr, hsr⟩ : ∃ s, s = magB (x % y) := ⟨_, rfl⟩
  rw [← hsa, ← hsb] at hw ⊢
  rw [← hsq] at h1 ⊢
  rw [← hsr] at h2 ⊢
  have hsame : ((x % y : Nat) : Int) = ((x / y : Nat) : Int) → sq = sr := fun h => by rw [hsq, hsr]; congr 1; omega
  clear hsa hsb hsq hsr hq hr
  have hqb : x / y ≤ x := Nat.div_le_self x y
  have hrb : x % y < y := Nat.mod_lt _ (by omega)
  have t1 : (x : Int).tdiv y = ((x / y : Nat) : Int) := by rw [Int.tdiv_eq_ediv_of_nonneg (by omega)]; simp
  have t2 : (x : Int).tmod y = ((x % y : Nat) : Int) := by rw [Int.tmod_eq_emod_of_nonneg (by omega)]; simp
  have t3 : IntKind.u64.wrap (((x / y : Nat) : Int)) = ((x / y : Nat) : Int) := by
    generalize x / y = n at *
    exact IntWalk.u64_in _ (by omega)
  have t4 : IntKind.u64.wrap (((x % y : Nat) : Int)) = ((x % y : Nat) : Int) := by
    generalize x % y = n at *
    exact IntWalk.u64_in _ (by omega)
  obtain ⟨qq, hqq⟩ : ∃ q : Int, q = ((x / y : Nat) : Int) := ⟨_, rfl⟩
  obtain ⟨rr, hrr⟩ : ∃ q : Int, q = ((x % y : Nat) : Int) := ⟨_, rfl⟩
  rw [← hqq] at h1 t1 t3
  rw [← hrr] at h2 t2 t4
  rw [← hqq, ← hrr] at hsame
  have hy1 : (y : Int) ≠ 0 := by omega
  clear hqq hrr hqb hrb
  have hu : ∀ (u : Int) W, (u = qq ∨ u = rr) → Calls Tryz.prog 123 #[.int .u64 u] W fun e w' => e = .returned (.string (if u = qq then sq else sr)) ∧ Below W.heap.size W w' := by
    rintro u W (rfl | rfl)
    · rw [if_pos rfl]; exact h1 W
    · by_cases hqr : u = qq
      · subst hqr; rw [if_pos rfl]; exact h1 W
      · rw [if_neg hqr]; exact h2 W
  have hsr : (if rr = qq then sq else sr) = sr := by
    split
    · rename_i h; exact hsame h
    · rfl
  obtain ⟨f, hf⟩ : ∃ f : Int → ByteArray, f = fun u => if u = qq then sq else sr := ⟨_, rfl⟩
  have hu2 : ∀ (u : Int) W, (u = qq ∨ u = rr) → Calls Tryz.prog 123 #[.int .u64 u] W fun e w' => e = .returned (.string (f u)) ∧ Below W.heap.size W w' := by
    rw [hf]; exact hu
  have hfq : f qq = sq := by rw [hf]; simp
  have hfr : f rr = sr := by rw [hf]; exact hsr
  have HU := Lib.hid hu2
  have HFF := Lib.hid (And.intro hfq hfr)
  clear h1 h2 hu hu2 hf hsr hsame hfq hfr
  go_enter Tryz.func198, Tryz.ntmps198
  go_wp2_with fail
  refine hw.mono ?_
  rintro e w1 ⟨rfl, rfl⟩
  clear hw
  go_wp2_with fail
  go_region_held3 (fun _ => True)
    (first | exact trivial | go_keep)
    (first | (go_at_call 123; refine (HU.out _ _ (by first | exact .inl rfl | exact .inr rfl)).mono ?_; rintro e w' ⟨rfl, hb1⟩))
  all_goals
    rename_i wA hA hH
    have hb : Below w1.heap.size w1 w' := (Below.refl w1.heap.size w1).drew.trans (hA.trans (hb1.mono hA.size))
    have HB := Lib.hid hb
    clear hb hA hH hb1
    obtain ⟨e1, e2⟩ := HFF.out
    go_wp2_with fail
    go_ret2
    exact ⟨by rw [← e1, ← e2]; rfl, HB.out⟩

set_option maxHeartbeats 4000000 in
set_option maxRecDepth 100000 in
/-- DivMod where the divisor divides -/
theorem divMod_exact (a : Int) (g : Nat) (ha : Wd a) (hg : g < 9223372036854775808) (hg0 : g ≠ 0) (hdv : g ∣ a.natAbs) (w : World) :
    Calls Tryz.prog 199 #[zI a, zI g] w fun e w' => e = .returned (.tuple #[zI (a / g), zI 0, .int .i64 0]) ∧ Below w.heap.size w w' := by
  unfold Wd at ha
  have hdiv := fun W => div_any a.natAbs g ha hg hg0 W
  have hm0 : a.natAbs % g = 0 := Nat.mod_eq_zero_of_dvd hdv
  rw [hm0] at hdiv
  have hq : (a / (g : Int)).natAbs = a.natAbs / g := by
    obtain ⟨c, hc⟩ := hdv
    have : a = g * c ∨ a = -(g * c : Int) := by
      rcases Int.natAbs_eq a with h | h <;> rw [h, hc] <;> simp
    rw [hc, Nat.mul_div_cancel_left _ (by omega)]
    rcases this with h | h <;> rw [h]
    · rw [Int.mul_ediv_cancel_left _ (by omega)]; simp
    · rw [← Int.mul_neg, Int.mul_ediv_cancel_left _ (by omega)]; simp
  have hneg : decide (a / (g : Int) < 0) = (decide (a < 0) && !decide (a.natAbs / g = 0)) := by
    rw [Bool.eq_iff_iff]
    simp only [Bool.and_eq_true, decide_eq_true_eq, Bool.not_eq_true', decide_eq_false_iff_not]
    have h1 : a / (g : Int) < 0 ↔ a < 0 := by
      constructor
      · intro h
        rcases Int.lt_or_le a 0 with h2 | h2
        · exact h2
        · have := Int.ediv_nonneg h2 (show (0 : Int) ≤ g by omega); omega
      · intro h; exact Int.ediv_neg_of_neg_of_pos h (by omega)
    rw [h1]
    constructor
    · intro h
      refine ⟨h, ?_⟩
      obtain ⟨c, hc⟩ := hdv
      rw [hc, Nat.mul_div_cancel_left _ (by omega)]
      intro h0
      rw [h0] at hc
      omega
    · exact fun h => h.1
  have hzq : zI (a / (g : Int)) = .agg #[.bool (decide (a < 0) && !decide (a.natAbs / g = 0)), .string (magB (a.natAbs / g))] := by rw [zI, hq, hneg]
  have hz0 : zI 0 = .agg #[.bool false, .string (magB 0)] := by simp [zI]
  have hzg : zI (g : Int) = .agg #[.bool false, .string (magB g)] := by simp [zI]
  have hqb : a.natAbs / g ≤ a.natAbs := Nat.div_le_self _ _
  have hd1 := fun (b : Bool) W => made_any b (a.natAbs / g) (by omega) W
  have hd2 := fun (b : Bool) W => made_any b 0 (by omega) W
  have heg := emp_magB g (by omega)
  have he0 := emp_magB 0 (by omega)
  have hgd : decide (g = 0) = false := by simp [hg0]
  rw [hgd] at heg
  rw [hzq, hz0, hzg, zI]
  clear hzq hz0 hzg hneg hq hm0 hdv hqb
  generalize decide (a < 0) = na at *
  generalize decide (a.natAbs / g = 0) = dq at *
  obtain ⟨sa, hsa⟩ : ∃ s, s = magB a.natAbs := ⟨_, rfl⟩
  obtain ⟨sg, hsg⟩ : ∃ s, s = magB g := ⟨_, rfl⟩
  obtain ⟨sq, hsq⟩ : ∃ s, s = magB (a.natAbs / g) := ⟨_, rfl⟩
  obtain ⟨s0, hs0⟩ : ∃ s, s = magB 0 := ⟨_, rfl⟩
  rw [← hsa, ← hsg, ← hsq, ← hs0] at hdiv
  rw [← hsa, ← hsg, ← hsq, ← hs0]
  rw [← hsq] at hd1
  rw [← hs0] at hd2 he0
  rw [← hsg] at heg
  have e00 : decide ((0 : Nat) = 0) = true := by decide
  rw [e00] at he0 hd2
  clear hsa hsg hsq hs0 hgd e00
  have H1 := Lib.hid hd1
  have H2 := Lib.hid hd2
  have H0 := Lib.hid hdiv
  have hb0 : Below w.heap.size w ((((w.alloc (.cells #[.bool na, .string sa] 67)).alloc (.cells #[.bool false, .string sg] 67)).alloc (.cells #[.bool false, .string { data := #[] }] 67)).alloc (.cells #[.bool false, .string { data := #[] }] 67)) := ((((Below.refl _ _).alloc (Nat.le_refl _) _).alloc (by simp) _).alloc (by simp; omega) _).alloc (by simp; omega) _
  obtain ⟨W0, hW0⟩ : ∃ W0, W0 = ((((w.alloc (.cells #[.bool na, .string sa] 67)).alloc (.cells #[.bool false, .string sg] 67)).alloc (.cells #[.bool false, .string { data := #[] }] 67)).alloc (.cells #[.bool false, .string { data := #[] }] 67)) := ⟨_, rfl⟩
  have hsz0 : W0.heap.size = w.heap.size + 1 + 1 + 1 + 1 := by rw [hW0]; simp
  have hfin : ∀ W, Below W0.heap.size W0 W →
      (W.cell? ⟨w.heap.size, 0, none⟩ = some (.bool na) ∧ W.cell? ⟨w.heap.size, 1, none⟩ = some (.string sa) ∧ W.cell? ⟨w.heap.size + 1, 0, none⟩ = some (.bool false) ∧ W.cell? ⟨w.heap.size + 1, 1, none⟩ = some (.string sg)) ∧
      (W.cell? ⟨w.heap.size + 1 + 1, 0, none⟩ = some (.bool false) ∧ W.cell? ⟨w.heap.size + 1 + 1, 1, none⟩ = some (.string { data := #[] }) ∧ W.frozen? ⟨w.heap.size + 1 + 1, 0, none⟩ = false ∧ W.frozen? ⟨w.heap.size + 1 + 1, 1, none⟩ = false) ∧
      (W.cell? ⟨w.heap.size + 1 + 1 + 1, 0, none⟩ = some (.bool false) ∧ W.cell? ⟨w.heap.size + 1 + 1 + 1, 1, none⟩ = some (.string { data := #[] }) ∧ W.frozen? ⟨w.heap.size + 1 + 1 + 1, 0, none⟩ = false ∧ W.frozen? ⟨w.heap.size + 1 + 1 + 1, 1, none⟩ = false) ∧ Below w.heap.size w W := by
    intro W hW
    rw [hsz0] at hW
    refine ⟨⟨?_, ?_, ?_, ?_⟩, ⟨?_, ?_, ?_, ?_⟩, ⟨?_, ?_, ?_, ?_⟩, ?_⟩
    · rw [hW.cell (by simp; omega), hW0]; simp [go_sem]
    · rw [hW.cell (by simp; omega), hW0]; simp [go_sem]
    · rw [hW.cell (by simp), hW0]; simp [go_sem]
    · rw [hW.cell (by simp), hW0]; simp [go_sem]
    · rw [hW.cell (by simp), hW0]; simp [go_sem]
    · rw [hW.cell (by simp), hW0]; simp [go_sem]
    · rw [hW.frozen (by simp), hW0]; simp [go_sem]
    · rw [hW.frozen (by simp), hW0]; simp [go_sem]
    · rw [hW.cell (by simp), hW0]; simp [go_sem]
    · rw [hW.cell (by simp), hW0]; simp [go_sem]
    · rw [hW.frozen (by simp), hW0]; simp [go_sem]
    · rw [hW.frozen (by simp), hW0]; simp [go_sem]
    · rw [← hW0] at hb0
      exact hb0.trans (hW.mono (by omega))
  have HFIN := Lib.hid hfin
  have HW0 := Lib.hid hW0
  clear hd1 hd2 hdiv hfin hb0 hW0
  cases na with
  | false =>
      go_enter Tryz.func199, Tryz.ntmps199
      go_wp2_with fail
      refine (H0.out _).mono ?_
      rintro e w1 ⟨rfl, hb1⟩
      rw [← HW0.out] at hb1
      obtain ⟨⟨a0, a1, a2, a3⟩, _, _, _⟩ := HFIN.out w1 hb1
      have HB1 := Lib.hid hb1
      clear hb1
      go_wp2_with fail
      refine (H1.out _ _).mono ?_
      rintro e w2 ⟨rfl, hb2⟩
      have hb12 := HB1.out.trans (hb2.mono HB1.out.size)
      have HB2 := Lib.hid hb12
      clear hb2 hb12
      go_wp2_with fail
      refine (H2.out _ _).mono ?_
      rintro e w3 ⟨rfl, hb3⟩
      obtain ⟨_, ⟨c0, c1, f0, f1⟩, ⟨d0, d1, g0, g1⟩, hbf⟩ := HFIN.out w3 (HB2.out.trans (hb3.mono HB2.out.size))
      clear hb3
      go_wp2_with fail
      refine bodyPost_ret (v := .tuple #[.agg #[.bool (false && !dq), .string sq], .agg #[.bool false, .string s0], .int .i64 0]) (by simp [results, Tryz.results199, go_sem, c0, c1, d0, d1]) rfl ⟨rfl, ?_⟩
      exact (((hbf.setCell (by show w.heap.size ≤ w.heap.size + 1 + 1; omega) _).setCell (by show w.heap.size ≤ w.heap.size + 1 + 1; omega) _).setCell (by show w.heap.size ≤ w.heap.size + 1 + 1 + 1; omega) _).setCell (by show w.heap.size ≤ w.heap.size + 1 + 1 + 1; omega) _
  | true =>
      go_enter Tryz.func199, Tryz.ntmps199
      go_wp2_with fail
      refine (H0.out _).mono ?_
      rintro e w1 ⟨rfl, hb1⟩
      rw [← HW0.out] at hb1
      obtain ⟨⟨a0, a1, a2, a3⟩, _, _, _⟩ := HFIN.out w1 hb1
      have HB1 := Lib.hid hb1
      clear hb1
      go_wp2_with fail
      refine (H1.out _ _).mono ?_
      rintro e w2 ⟨rfl, hb2⟩
      have hb12 := HB1.out.trans (hb2.mono HB1.out.size)
      have HB2 := Lib.hid hb12
      clear hb2 hb12
      go_wp2_with fail
      refine (H2.out _ _).mono ?_
      rintro e w3 ⟨rfl, hb3⟩
      obtain ⟨_, ⟨c0, c1, f0, f1⟩, ⟨d0, d1, g0, g1⟩, hbf⟩ := HFIN.out w3 (HB2.out.trans (hb3.mono HB2.out.size))
      clear hb3
      go_wp2_with fail
      refine bodyPost_ret (v := .tuple #[.agg #[.bool (true && !dq), .string sq], .agg #[.bool false, .string s0], .int .i64 0]) (by simp [results, Tryz.results199, go_sem, c0, c1, d0, d1]) rfl ⟨rfl, ?_⟩
      exact (((hbf.setCell (by show w.heap.size ≤ w.heap.size + 1 + 1; omega) _).setCell (by show w.heap.size ≤ w.heap.size + 1 + 1; omega) _).setCell (by show w.heap.size ≤ w.heap.size + 1 + 1 + 1; omega) _).setCell (by show w.heap.size ≤ w.heap.size + 1 + 1 + 1; omega) _
end Go.Proofs.YtfoenojohemccaaGreatDoor
namespace Go.Proofs.YtfoenojohemccaaGreatDoor
open Go.RowKit Go.Sort Go.Proofs

set_option maxHeartbeats 2000000 in
set_option maxRecDepth 100000 in
theorem quotient_exact (a : Int) (g : Nat) (ha : Wd a) (hg : g < 9223372036854775808) (hg0 : g ≠ 0) (hdv : g ∣ a.natAbs) (w : World) :
    Calls Tryz.prog 178 #[zI a, zI g] w fun e w' => e = .returned (zI (a / g)) ∧ Below w.heap.size w w' := by
  have hd := fun W => divMod_exact a g ha hg hg0 hdv W
  have HD := Lib.hid hd
  clear hd hdv
  obtain ⟨b1, s1, e1⟩ : ∃ b s, zI a = .agg #[.bool b, .string s] := ⟨_, _, rfl⟩
  obtain ⟨b2, s2, e2⟩ : ∃ b s, zI (g : Int) = .agg #[.bool b, .string s] := ⟨_, _, rfl⟩
  obtain ⟨b3, s3, e3⟩ : ∃ b s, zI (a / g) = .agg #[.bool b, .string s] := ⟨_, _, rfl⟩
  obtain ⟨b4, s4, e4⟩ : ∃ b s, zI 0 = .agg #[.bool b, .string s] := ⟨_, _, rfl⟩
  have hd := HD.out
  rw [e1, e2, e3, e4] at hd
  rw [e1, e2, e3]
  clear e1 e2 e3 e4 HD
  have HD := Lib.hid hd
  clear hd
  go_enter Tryz.func178, Tryz.ntmps178
  go_wp2_with fail
  refine (HD.out _).mono ?_
  rintro e w1 ⟨rfl, hb⟩
  have hb' : Below (w.heap.size + 1 + 1 + 1) (((w.alloc (.cells #[.bool b1, .string s1] 67)).alloc (.cells #[.bool b2, .string s2] 67)).alloc (.cells #[.bool false, .string { data := #[] }] 67)) w1 := by simpa using hb
  have c0 : w1.cell? ⟨w.heap.size + 1 + 1, 0, none⟩ = some (.bool false) := by rw [hb'.cell (by simp)]; simp [go_sem]
  have c1 : w1.cell? ⟨w.heap.size + 1 + 1, 1, none⟩ = some (.string { data := #[] }) := by rw [hb'.cell (by simp)]; simp [go_sem]
  have f0 : w1.frozen? ⟨w.heap.size + 1 + 1, 0, none⟩ = false := by rw [hb'.frozen (by simp)]; simp [go_sem]
  have f1 : w1.frozen? ⟨w.heap.size + 1 + 1, 1, none⟩ = false := by rw [hb'.frozen (by simp)]; simp [go_sem]
  have hsz : w.heap.size + 1 + 1 < w1.heap.size := by have := hb.size; simp at this; omega
  have n1 : w.heap.size + 1 + 1 ≠ w1.heap.size := by omega
  have n2 : w.heap.size + 1 ≠ w1.heap.size := by omega
  have n3 : w.heap.size + 2 ≠ w1.heap.size := by omega
  have n4 : w.heap.size + 1 + 1 ≠ w1.heap.size + 1 := by omega
  have hb2 := (hb'.alloc (by omega) (.cells #[.bool b3, .string s3] 67)).alloc (by simp; omega) (.cells #[.bool b4, .string s4] 67)
  have k0 : ((w1.alloc (.cells #[.bool b3, .string s3] 67)).alloc (.cells #[.bool b4, .string s4] 67)).cell? ⟨w.heap.size + 1 + 1, 0, none⟩ = some (.bool false) := by rw [hb2.cell (by simp)]; simp [go_sem]
  have k1 : ((w1.alloc (.cells #[.bool b3, .string s3] 67)).alloc (.cells #[.bool b4, .string s4] 67)).cell? ⟨w.heap.size + 1 + 1, 1, none⟩ = some (.string { data := #[] }) := by rw [hb2.cell (by simp)]; simp [go_sem]
  have j0 : ((w1.alloc (.cells #[.bool b3, .string s3] 67)).alloc (.cells #[.bool b4, .string s4] 67)).frozen? ⟨w.heap.size + 1 + 1, 0, none⟩ = false := by rw [hb2.frozen (by simp)]; simp [go_sem]
  have j1 : ((w1.alloc (.cells #[.bool b3, .string s3] 67)).alloc (.cells #[.bool b4, .string s4] 67)).frozen? ⟨w.heap.size + 1 + 1, 1, none⟩ = false := by rw [hb2.frozen (by simp)]; simp [go_sem]
  have HB := Lib.hid hb
  clear hb hb' hb2
  go_wp2_with fail
  refine bodyPost_ret (v := .agg #[.bool b3, .string s3]) (by simp [results, Tryz.results178, go_sem, k0, k1]) rfl ⟨rfl, ?_⟩
  exact ((((((Below.refl _ _).alloc (Nat.le_refl _) _).alloc (by simp) _).alloc (by simp; omega) _).trans (HB.out.mono (by simp; omega))).alloc (by omega) _).alloc (by simp; omega) _ |>.setCell (by show w.heap.size ≤ w.heap.size + 1 + 1; omega) _ |>.setCell (by show w.heap.size ≤ w.heap.size + 1 + 1; omega) _

set_option maxHeartbeats 1000000 in
theorem one_any (w : World) : Calls Tryz.prog 146 #[] w fun e w' => e = .returned (zI 1) ∧ Below w.heap.size w w' := by
  have h := fun W => fromInt_any 1 (by unfold Wd; decide) W
  obtain ⟨b1, s1, e1⟩ : ∃ b s, zI 1 = .agg #[.bool b, .string s] := ⟨_, _, rfl⟩
  rw [e1] at h ⊢
  clear e1
  have HD := Lib.hid h
  clear h
  go_enter Tryz.func146, Tryz.ntmps146
  go_wp2_with fail
  refine (HD.out _).mono ?_
  rintro e w1 ⟨rfl, hb⟩
  have c0 := blk_at hb (by simp) 0
  have c1 := blk_at hb (by simp) 1
  simp only [List.getElem?_toArray, List.getElem?_cons_zero, List.getElem?_cons_succ] at c0 c1
  obtain ⟨c0, f0⟩ := c0
  obtain ⟨c1, f1⟩ := c1
  have HB := Lib.hid hb
  clear hb
  go_wp2_with fail
  refine bodyPost_ret (v := .agg #[.bool b1, .string s1]) (by simp [results, Tryz.results146, go_sem, c0, c1]) rfl ⟨rfl, ?_⟩
  exact (((Below.refl _ _).alloc (Nat.le_refl _) _).trans (HB.out.mono (by simp))).setCell (Nat.le_refl _) _ |>.setCell (Nat.le_refl _) _
end Go.Proofs.YtfoenojohemccaaGreatDoor
