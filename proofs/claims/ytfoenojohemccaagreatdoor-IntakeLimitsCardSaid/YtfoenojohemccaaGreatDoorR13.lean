/- integer.Mul, Add with other signs, Compare in one word. -/
import Derived.Test.YtfoenojohemccaaGreatDoorR12
import Derived.Lib.QuietBelow
namespace Go.Proofs.YtfoenojohemccaaGreatDoor
open Go.RowKit Go.Sort Go.Proofs

set_option maxHeartbeats 4000000 in
set_option maxRecDepth 100000 in
theorem intMul_any (x y : Int) (hx : Wd x) (hy : Wd y) (hxy : Wd (x * y)) (w : World) :
    Calls Tryz.prog 113 #[zI x, zI y] w fun e w' => e = .returned (zI (x * y)) ∧ Below w.heap.size w w' := by
  unfold Wd at hx hy hxy
  rw [Int.natAbs_mul] at hxy
  have hzi : zI (x * y) = .agg #[.bool ((decide (x < 0) != decide (y < 0)) && !decide (x.natAbs * y.natAbs = 0)), .string (magB (x.natAbs * y.natAbs))] := by
    rw [zI, Int.natAbs_mul]
    congr 4
    rw [Bool.eq_iff_iff]
    simp only [decide_eq_true_eq, Bool.and_eq_true, bne_iff_ne, ne_eq, decide_eq_decide, Bool.not_eq_true', decide_eq_false_iff_not, Nat.mul_eq_zero, Int.natAbs_eq_zero]
    rcases Int.lt_trichotomy x 0 with h1 | h1 | h1 <;> rcases Int.lt_trichotomy y 0 with h2 | h2 | h2
    · have := Int.mul_pos_of_neg_of_neg h1 h2; omega
    · subst h2; simp
    · have := Int.mul_neg_of_neg_of_pos h1 h2; omega
    · subst h1; simp
    · subst h1; simp
    · subst h1; simp
    · have := Int.mul_neg_of_pos_of_neg h1 h2; omega
    · subst h2; simp
    · have := Int.mul_pos h1 h2; omega
  have h1 := fun W => mulN_any x.natAbs y.natAbs hx hy hxy W
  have h2 := fun (b : Bool) W => made_any b (x.natAbs * y.natAbs) (by omega) W
  rw [hzi, zI, zI]
  generalize decide (x < 0) = nb at *
  generalize decide (y < 0) = nc at *
  generalize decide (x.natAbs * y.natAbs = 0) = dz at *
  generalize magB x.natAbs = sx at *
  generalize magB y.natAbs = sy at *
  generalize magB (x.natAbs * y.natAbs) = sz at *
  have H1 := Lib.hid h1
  have H2 := Lib.hid h2
  clear h1 h2 hzi hx hy hxy
  obtain ⟨W0, hW0⟩ : ∃ W0, W0 = (((w.alloc (.cells #[.bool nb, .string sx] 67)).alloc (.cells #[.bool nc, .string sy] 67)).alloc (.cells #[.bool false, .string { data := #[] }] 67)) := ⟨_, rfl⟩
  have hfin : ∀ W, Below W0.heap.size W0 W → (∀ j, W.cell? ⟨w.heap.size, j, none⟩ = #[Value.bool nb, .string sx][j]?) ∧ (∀ j, W.cell? ⟨w.heap.size + 1, j, none⟩ = #[Value.bool nc, .string sy][j]?) ∧ At W (w.heap.size + 1 + 1) #[.bool false, .string { data := #[] }] ∧ Below w.heap.size w W := by
    intro W hW
    rw [hW0] at hW
    obtain ⟨h1, h2, h3, h4, _⟩ := at3 hW
    exact ⟨h1.1, h2.1, h3, h4⟩
  have HFIN := Lib.hid hfin
  have hI0 : Below W0.heap.size W0 W0.drew := (Below.refl _ _).drew
  obtain ⟨p1, p2, ⟨c0, f0, _⟩, hbf⟩ := hfin W0.drew hI0
  clear hfin
  go_enter Tryz.func113, Tryz.ntmps113
  go_wp2_with fail
  rw [← hW0]
  clear hW0
  go_region_held3 (fun W => (∀ j, W.cell? ⟨w.heap.size, j, none⟩ = #[Value.bool nb, .string sx][j]?) ∧ (∀ j, W.cell? ⟨w.heap.size + 1, j, none⟩ = #[Value.bool nc, .string sy][j]?))
    (first | exact ⟨p1, p2⟩ | (refine ⟨fun j => ?_, fun j => ?_⟩ <;> simp [go_sem, p1, p2]; done) | go_keep)
    (first | (go_at_call 147; refine (H1.out _).mono ?_; rintro e w' ⟨rfl, hb⟩; have hI1 := Below.trans (by assumption : Below W0.heap.size W0 _) (hb.mono (by have := (by assumption : Below W0.heap.size W0 _).size; omega)); obtain ⟨p1, p2, ⟨c0, f0, _⟩, hbf⟩ := HFIN.out _ hI1) | (go_at_call 122; refine (H2.out _ _).mono ?_; rintro e w' ⟨rfl, hb⟩; have hI1 := Below.trans (by assumption : Below W0.heap.size W0 _) (hb.mono (by have := (by assumption : Below W0.heap.size W0 _).size; omega)); obtain ⟨p1, p2, ⟨c0, f0, _⟩, hbf⟩ := HFIN.out _ hI1))
  all_goals
    clear hb
    go_wp2_with fail
    refine bodyPost_ret (v := .agg #[.bool ((nb != nc) && !dz), .string sz]) (by simp [results, Tryz.results113, go_sem, c0]; cases nb <;> cases nc <;> rfl) rfl ⟨rfl, ?_⟩
    have h1 : w.heap.size ≤ w.heap.size + 1 + 1 := by omega
    exact (hbf.setCell h1 _).setCell h1 _

set_option maxHeartbeats 4000000 in
set_option maxRecDepth 100000 in
theorem intCompare_any (x y : Int) (hx : Wd x) (hy : Wd y) (w : World) :
    Calls Tryz.prog 72 #[zI x, zI y] w fun e w' => e = .returned (.int .i64 (cmpI x y)) ∧ Below w.heap.size w w' := by
  have hx' := hx
  have hy' := hy
  unfold Wd at hx' hy'
  have h2 : Below w.heap.size w ((w.alloc (.cells #[.bool (decide (x < 0)), .string (magB x.natAbs)] 67)).alloc (.cells #[.bool (decide (y < 0)), .string (magB y.natAbs)] 67)) := ((Below.refl _ _).alloc (Nat.le_refl _) _).alloc (by simp) _
  by_cases hs : decide (x < 0) = decide (y < 0)
  · have hc := fun W => compareN_any x.natAbs y.natAbs hx' hy' W
    have hs' : (x < 0) ↔ (y < 0) := by simpa using hs
    have hneg : x < 0 → cmpI x y = -cmpI x.natAbs y.natAbs := by intro h; unfold cmpI; split <;> split <;> (try split) <;> omega
    have hpos : ¬ x < 0 → cmpI x y = cmpI x.natAbs y.natAbs := by intro h; unfold cmpI; split <;> split <;> (try split) <;> omega
    have hcb : -1 ≤ cmpI x.natAbs y.natAbs ∧ cmpI x.natAbs y.natAbs ≤ 1 := by unfold cmpI; split <;> (try split) <;> omega
    rw [← hs] at h2
    rw [zI, zI, ← hs]
    generalize cmpI (x.natAbs : Int) (y.natAbs : Int) = c at *
    by_cases hn : x < 0
    · rw [hneg hn]
      have hd : decide (x < 0) = true := by simp [hn]
      rw [hd] at h2 ⊢
      generalize magB x.natAbs = sx at *
      generalize magB y.natAbs = sy at *
      have HC := Lib.hid hc
      have HB := Lib.hid h2
      clear hc h2 hneg hpos hn hd hs hs' hx hy hx' hy'
      obtain ⟨hc1, hc2⟩ := hcb
      go_enter Tryz.func72, Tryz.ntmps72
      go_wp2_with fail
      refine (HC.out _).mono ?_
      rintro e w1 ⟨rfl, hb⟩
      obtain ⟨⟨p1, _⟩, ⟨p2, _⟩, hbf, _⟩ := at2 hb
      have HBF := Lib.hid hbf
      clear hb hbf
      go_wp2_with fail
      go_ret
      exact ⟨rfl, HBF.out⟩
    · rw [hpos hn]
      have hd : decide (x < 0) = false := by simp [hn]
      rw [hd] at h2 ⊢
      generalize magB x.natAbs = sx at *
      generalize magB y.natAbs = sy at *
      have HC := Lib.hid hc
      have HB := Lib.hid h2
      clear hc h2 hneg hpos hn hd hs hs' hx hy hx' hy'
      obtain ⟨hc1, hc2⟩ := hcb
      go_enter Tryz.func72, Tryz.ntmps72
      go_wp2_with fail
      refine (HC.out _).mono ?_
      rintro e w1 ⟨rfl, hb⟩
      obtain ⟨⟨p1, _⟩, ⟨p2, _⟩, hbf, _⟩ := at2 hb
      have HBF := Lib.hid hbf
      clear hb hbf
      go_wp2_with fail
      go_ret
      exact ⟨rfl, HBF.out⟩
  · have hsn := fun (z : Int) (hz : Wd z) W => sign_any z hz W
    have hcm := fun (a b : Int) W => cmpInt_any a b W
    have hcc : cmpI x y = cmpI (if x = 0 then 0 else if x < 0 then -1 else 1) (if y = 0 then 0 else if y < 0 then -1 else 1) := by
      have : ¬ ((x < 0) ↔ (y < 0)) := by simpa using hs
      unfold cmpI
      repeat' split
      all_goals omega
    have hq : ∀ (b : Bool) (s : ByteArray) W, ((b = decide (x < 0) ∧ s = magB x.natAbs) ∨ (b = decide (y < 0) ∧ s = magB y.natAbs)) → Calls Tryz.prog 114 #[.agg #[.bool b, .string s]] W fun e w' => ∃ n : Int, e = .returned (.int .i64 n) ∧ Below W.heap.size W w' ∧ (b = decide (x < 0) → n = (if x = 0 then 0 else if x < 0 then -1 else 1)) ∧ (b = decide (y < 0) → n = (if y = 0 then 0 else if y < 0 then -1 else 1)) := by
      rintro b s W (⟨rfl, rfl⟩ | ⟨rfl, rfl⟩)
      · exact (sign_any x hx W).mono fun e w' h => ⟨_, h.1, h.2, fun _ => rfl, fun h => absurd h hs⟩
      · exact (sign_any y hy W).mono fun e w' h => ⟨_, h.1, h.2, fun h => absurd h.symm hs, fun _ => rfl⟩
    rw [hcc, zI, zI]
    generalize (if x = 0 then (0 : Int) else if x < 0 then -1 else 1) = sx1 at *
    generalize (if y = 0 then (0 : Int) else if y < 0 then -1 else 1) = sy1 at *
    clear hx hy hx' hy' hsn hcc
    generalize decide (x < 0) = nb at *
    generalize decide (y < 0) = nc at *
    generalize magB x.natAbs = sx at *
    generalize magB y.natAbs = sy at *
    have hbn : (nb = true ∧ nc = false) ∨ (nb = false ∧ nc = true) := by cases nb <;> cases nc <;> simp_all
    have HQ := Lib.hid hq
    have HC := Lib.hid hcm
    clear hq hcm hs h2
    rcases hbn with ⟨rfl, rfl⟩ | ⟨rfl, rfl⟩
    · obtain ⟨W0, hW0⟩ : ∃ W0, W0 = ((w.alloc (.cells #[.bool true, .string sx] 67)).alloc (.cells #[.bool false, .string sy] 67)) := ⟨_, rfl⟩
      have hfin : ∀ W, Below W0.heap.size W0 W → (∀ j, W.cell? ⟨w.heap.size, j, none⟩ = #[Value.bool true, .string sx][j]?) ∧ (∀ j, W.cell? ⟨w.heap.size + 1, j, none⟩ = #[Value.bool false, .string sy][j]?) ∧ Below w.heap.size w W := by
        intro W hW
        rw [hW0] at hW
        obtain ⟨h1, h2, h3, _⟩ := at2 hW
        exact ⟨h1.1, h2.1, h3⟩
      have HFIN := Lib.hid hfin
      have hI0 : Below W0.heap.size W0 W0.drew := (Below.refl _ _).drew
      obtain ⟨p1, p2, hbf⟩ := hfin W0.drew hI0
      clear hfin
      go_enter Tryz.func72, Tryz.ntmps72
      go_wp2_with fail
      rw [← hW0]
      clear hW0
      go_region_held3 (fun W => (∀ j, W.cell? ⟨w.heap.size, j, none⟩ = #[Value.bool true, .string sx][j]?) ∧ (∀ j, W.cell? ⟨w.heap.size + 1, j, none⟩ = #[Value.bool false, .string sy][j]?))
        (first | exact ⟨p1, p2⟩ | go_keep)
        (first | (go_at_call 114; refine (HQ.out _ _ _ (by first | exact .inl ⟨rfl, rfl⟩ | exact .inr ⟨rfl, rfl⟩)).mono ?_; rintro e w' ⟨n, rfl, hb, hr1, hr2⟩; have hI1 := Below.trans (by assumption : Below W0.heap.size W0 _) (hb.mono (by have := (by assumption : Below W0.heap.size W0 _).size; omega)); obtain ⟨p1, p2, hbf⟩ := HFIN.out _ hI1) | (go_at_call 98; refine (HC.out _ _ _).mono ?_; rintro e w' ⟨rfl, rfl⟩))
      all_goals
        go_wp2_with fail
        go_ret
        simp_all
    · obtain ⟨W0, hW0⟩ : ∃ W0, W0 = ((w.alloc (.cells #[.bool false, .string sx] 67)).alloc (.cells #[.bool true, .string sy] 67)) := ⟨_, rfl⟩
      have hfin : ∀ W, Below W0.heap.size W0 W → (∀ j, W.cell? ⟨w.heap.size, j, none⟩ = #[Value.bool false, .string sx][j]?) ∧ (∀ j, W.cell? ⟨w.heap.size + 1, j, none⟩ = #[Value.bool true, .string sy][j]?) ∧ Below w.heap.size w W := by
        intro W hW
        rw [hW0] at hW
        obtain ⟨h1, h2, h3, _⟩ := at2 hW
        exact ⟨h1.1, h2.1, h3⟩
      have HFIN := Lib.hid hfin
      have hI0 : Below W0.heap.size W0 W0.drew := (Below.refl _ _).drew
      obtain ⟨p1, p2, hbf⟩ := hfin W0.drew hI0
      clear hfin
      go_enter Tryz.func72, Tryz.ntmps72
      go_wp2_with fail
      rw [← hW0]
      clear hW0
      go_region_held3 (fun W => (∀ j, W.cell? ⟨w.heap.size, j, none⟩ = #[Value.bool false, .string sx][j]?) ∧ (∀ j, W.cell? ⟨w.heap.size + 1, j, none⟩ = #[Value.bool true, .string sy][j]?))
        (first | exact ⟨p1, p2⟩ | go_keep)
        (first | (go_at_call 114; refine (HQ.out _ _ _ (by first | exact .inl ⟨rfl, rfl⟩ | exact .inr ⟨rfl, rfl⟩)).mono ?_; rintro e w' ⟨n, rfl, hb, hr1, hr2⟩; have hI1 := Below.trans (by assumption : Below W0.heap.size W0 _) (hb.mono (by have := (by assumption : Below W0.heap.size W0 _).size; omega)); obtain ⟨p1, p2, hbf⟩ := HFIN.out _ hI1) | (go_at_call 98; refine (HC.out _ _ _).mono ?_; rintro e w' ⟨rfl, rfl⟩))
      all_goals
        go_wp2_with fail
        go_ret
        simp_all
end Go.Proofs.YtfoenojohemccaaGreatDoor
