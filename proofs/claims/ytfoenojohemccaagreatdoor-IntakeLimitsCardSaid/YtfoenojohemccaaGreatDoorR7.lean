/- rational.canonical with a denominator above zero. -/
import Derived.Test.YtfoenojohemccaaGreatDoorQU
namespace Go.Proofs.YtfoenojohemccaaGreatDoor
open Go.RowKit Go.Sort Go.Proofs

theorem zI_inj (a b : Int) (ha : Wd a) (hb : Wd b) (h : zI a = zI b) : a = b := by
  unfold Wd at ha hb
  unfold zI at h
  simp only [Value.agg.injEq, List.toArray_eq_iff, List.cons.injEq, Value.bool.injEq, Value.string.injEq, and_true] at h
  have h2 := magB_inj _ _ (by omega) (by omega) h.2
  have h1 : (a < 0) ↔ (b < 0) := by simpa using h.1
  omega

/-- what canonical gives: num and den over their greatest common divisor; a denominator of one is stored as zero -/
def CanV (n : Int) (d : Nat) (v : Value) : Prop :=
  ∃ b4 s4 b5 s5 b6 s6, zI (n / ((Int.gcd n d : Nat) : Int)) = .agg #[.bool b4, .string s4] ∧ zI ((d : Int) / ((Int.gcd n d : Nat) : Int)) = .agg #[.bool b5, .string s5] ∧ zI 1 = .agg #[.bool b6, .string s6] ∧
    ((b5 = b6 ∧ s5 = s6 ∧ v = .agg #[.bool b4, .string s4, .bool false, .string { data := #[] }]) ∨ ((b5 ≠ b6 ∨ s5 ≠ s6) ∧ v = .agg #[.bool b4, .string s4, .bool b5, .string s5]))
def CanPost (n : Int) (d : Nat) (w : World) (e : Ending) (w' : World) : Prop := (∃ v, e = .returned v ∧ CanV n d v) ∧ Below w.heap.size w w'
theorem CanPost.of {n : Int} {d : Nat} {w : World} {v : Value} {w' : World} (h : CanV n d v) (hb : Below w.heap.size w w') : CanPost n d w (.returned v) w' := ⟨⟨v, rfl, h⟩, hb⟩
/-- behind the two quotients -/
def CanMid (w : World) (b4 : Bool) (s4 : ByteArray) (b5 : Bool) (s5 : ByteArray) (W : World) : Prop :=
  (W.cell? ⟨w.heap.size, 0, none⟩ = some (.bool b4) ∧ W.cell? ⟨w.heap.size, 1, none⟩ = some (.string s4) ∧ W.cell? ⟨w.heap.size + 1, 0, none⟩ = some (.bool b5) ∧ W.cell? ⟨w.heap.size + 1, 1, none⟩ = some (.string s5)) ∧
  (W.frozen? ⟨w.heap.size + 1, 0, none⟩ = false ∧ W.frozen? ⟨w.heap.size + 1, 1, none⟩ = false) ∧
  (∀ j, W.cell? ⟨w.heap.size + 1 + 1, j, none⟩ = #[Value.bool false, .string { data := #[] }, .bool false, .string { data := #[] }][j]?) ∧ (∀ j, W.frozen? ⟨w.heap.size + 1 + 1, j, none⟩ = false) ∧ Below w.heap.size w W ∧ w.heap.size + 3 ≤ W.heap.size

set_option maxHeartbeats 4000000 in
set_option maxRecDepth 100000 in
theorem canonical_any (n : Int) (d : Nat) (hn : Wd n) (hd : d < 9223372036854775808) (hd0 : d ≠ 0) (w : World) :
    Calls Tryz.prog 142 #[zI n, zI d] w fun e w' => CanPost n d w e w' := by
  have hsg := fun W => sign_any (d : Int) (by unfold Wd; omega) W
  rw [if_neg (by omega : ¬ (d : Int) = 0), if_neg (by omega : ¬ (d : Int) < 0)] at hsg
  have hgc := fun W => gcd_any n d hn (by unfold Wd; omega) W
  obtain ⟨g, hg⟩ : ∃ g, g = Int.gcd n d := ⟨_, rfl⟩
  rw [← hg] at hgc
  have hg0 : g ≠ 0 := by rw [hg]; intro h; have := (Int.gcd_eq_zero_iff.1 h).2; omega
  have hgd : g ∣ d := by rw [hg]; exact Nat.gcd_dvd_right n.natAbs d
  have hgn : g ∣ n.natAbs := by rw [hg]; exact Nat.gcd_dvd_left n.natAbs d
  have hgb : g < 9223372036854775808 := Nat.lt_of_le_of_lt (Nat.le_of_dvd (by omega) hgd) hd
  have hq1 := fun W => quotient_exact n g hn hgb hg0 hgn W
  have hq2 := fun W => quotient_exact (d : Int) g (by unfold Wd; omega) hgb hg0 (by simpa using hgd) W
  have h1 := fun W => one_any W
  obtain ⟨b1, s1, e1⟩ : ∃ b s, zI n = .agg #[.bool b, .string s] := ⟨_, _, rfl⟩
  obtain ⟨b2, s2, e2⟩ : ∃ b s, zI (d : Int) = .agg #[.bool b, .string s] := ⟨_, _, rfl⟩
  obtain ⟨b3, s3, e3⟩ : ∃ b s, zI (g : Int) = .agg #[.bool b, .string s] := ⟨_, _, rfl⟩
  obtain ⟨b4, s4, e4⟩ : ∃ b s, zI (n / g) = .agg #[.bool b, .string s] := ⟨_, _, rfl⟩
  obtain ⟨b5, s5, e5⟩ : ∃ b s, zI ((d : Int) / g) = .agg #[.bool b, .string s] := ⟨_, _, rfl⟩
  obtain ⟨b6, s6, e6⟩ : ∃ b s, zI 1 = .agg #[.bool b, .string s] := ⟨_, _, rfl⟩
  rw [e2] at hsg
  rw [e1, e2, e3] at hgc
  rw [e1, e3, e4] at hq1
  rw [e2, e3, e5] at hq2
  rw [e6] at h1
  rw [e1, e2]
  have HS := Lib.hid hsg
  have HG := Lib.hid hgc
  have hq : ∀ (b : Bool) (s : ByteArray) W, ((b = b1 ∧ s = s1) ∨ (b = b2 ∧ s = s2)) → Calls Tryz.prog 178 #[.agg #[.bool b, .string s], .agg #[.bool b3, .string s3]] W fun e w' => ∃ b' s', e = .returned (.agg #[.bool b', .string s']) ∧ Below W.heap.size W w' ∧ ((b = b1 ∧ s = s1) → b' = b4 ∧ s' = s4) ∧ ((b = b2 ∧ s = s2) → b' = b5 ∧ s' = s5) := by
    have hsame : b1 = b2 ∧ s1 = s2 → b4 = b5 ∧ s4 = s5 := by
      rintro ⟨h1, h2⟩
      have := zI_inj n d hn (by unfold Wd; omega) (by rw [e1, e2, h1, h2])
      rw [this] at e4
      rw [e4] at e5
      simpa using e5
    rintro b s W (⟨rfl, rfl⟩ | ⟨rfl, rfl⟩)
    · exact (hq1 W).mono fun e w' h => ⟨b4, s4, h.1, h.2, fun _ => ⟨rfl, rfl⟩, fun h => hsame h⟩
    · exact (hq2 W).mono fun e w' h => ⟨b5, s5, h.1, h.2, fun h => by have := hsame ⟨h.1.symm, h.2.symm⟩; exact ⟨this.1.symm, this.2.symm⟩, fun _ => ⟨rfl, rfl⟩⟩
  have HQ := Lib.hid hq
  clear hq
  have H1 := Lib.hid h1
  have HE := Lib.hid (And.intro e1 (And.intro e2 (And.intro e3 (And.intro e4 (And.intro e5 e6)))))
  clear hsg hgc hq1 hq2 h1 e1 e2 e3 e4 e5 e6 hgd hgn
  have HGG := Lib.hid hg
  clear hg
  obtain ⟨W0, hW0⟩ : ∃ W0, W0 = (((w.alloc (.cells #[.bool b1, .string s1] 67)).alloc (.cells #[.bool b2, .string s2] 67)).alloc (.cells #[.bool false, .string { data := #[] }, .bool false, .string { data := #[] }] 69)) := ⟨_, rfl⟩
  have hsz0 : W0.heap.size = w.heap.size + 3 := by rw [hW0]; simp
  have hfin : ∀ W, Below W0.heap.size W0 W → (∀ j, W.cell? ⟨w.heap.size, j, none⟩ = #[Value.bool b1, .string s1][j]?) ∧ (∀ j, W.cell? ⟨w.heap.size + 1, j, none⟩ = #[Value.bool b2, .string s2][j]?) := by
    intro W hW
    rw [hsz0] at hW
    exact ⟨fun j => by rw [hW.cell (by simp), hW0]; simp [go_sem], fun j => by rw [hW.cell (by simp), hW0]; simp [go_sem]⟩
  have HFIN := Lib.hid hfin
  have HW0 := Lib.hid hW0
  clear hfin hW0
  go_enter Tryz.func142, Tryz.ntmps142
  go_wp2_with fail
  refine (HS.out _).mono ?_
  rintro e w1 ⟨rfl, hb1⟩
  rw [← HW0.out] at hb1
  obtain ⟨q1, q2⟩ := HFIN.out w1 hb1
  have a0 := q1 0
  have a1 := q1 1
  have a2 := q2 0
  have a3 := q2 1
  clear q1 q2
  simp only [List.getElem?_toArray, List.getElem?_cons_zero, List.getElem?_cons_succ] at a0 a1 a2 a3
  go_wp2_with fail
  have HB1 := Lib.hid hb1
  clear hb1 a0 a1 a2 a3
  refine (HG.out _).mono ?_
  rintro e w2 ⟨rfl, hb2⟩
  have hb12 := HB1.out.trans (hb2.mono HB1.out.size)
  have HB2 := Lib.hid hb12
  clear hb2 hb12
  go_upto_region 4 with fail
  obtain ⟨W3, hW3⟩ : ∃ W3, W3 = w2.alloc (.cells #[.bool b3, .string s3] 67) := ⟨_, rfl⟩
  rw [← hW3]
  have hsz3 : W3.heap.size = w2.heap.size + 1 := by rw [hW3]; simp
  have hB3 : Below W0.heap.size W0 W3 := by rw [hW3]; exact HB2.out.alloc HB2.out.size _
  have hlt : w.heap.size + 3 ≤ w2.heap.size := by have := HB2.out.size; omega
  have hfin2 : ∀ W, Below W3.heap.size W3 W → (∀ j, W.cell? ⟨w2.heap.size, j, none⟩ = #[Value.bool b3, .string s3][j]?) ∧ (∀ j, W.cell? ⟨w.heap.size, j, none⟩ = #[Value.bool b1, .string s1][j]?) ∧ (∀ j, W.cell? ⟨w.heap.size + 1, j, none⟩ = #[Value.bool b2, .string s2][j]?) ∧ (∀ j, W.frozen? ⟨w.heap.size, j, none⟩ = false) ∧ (∀ j, W.frozen? ⟨w.heap.size + 1, j, none⟩ = false) ∧ Aside ((∀ j, W.cell? ⟨w.heap.size + 1 + 1, j, none⟩ = #[Value.bool false, .string { data := #[] }, .bool false, .string { data := #[] }][j]?) ∧ (∀ j, W.frozen? ⟨w.heap.size + 1 + 1, j, none⟩ = false) ∧ Below w.heap.size w W ∧ w.heap.size + 3 ≤ W.heap.size) := by
    intro W hW
    obtain ⟨u1, u2⟩ := HFIN.out W (hB3.trans (hW.mono (by have := hB3.size; omega)))
    have hb0 := hB3.trans (hW.mono (by have := hB3.size; omega))
    rw [hsz0] at hb0
    refine ⟨fun j => by rw [hW.cell (by show w2.heap.size < _; omega), hW3]; simp [go_sem], u1, u2, fun j => by rw [hb0.frozen (by simp), HW0.out]; simp [go_sem], fun j => by rw [hb0.frozen (by simp), HW0.out]; simp [go_sem], ⟨fun j => by rw [hb0.cell (by simp), HW0.out]; simp [go_sem], fun j => by rw [hb0.frozen (by simp), HW0.out]; simp [go_sem], ?_, by have := hb0.size; omega⟩⟩
    exact (by rw [HW0.out]; exact (((Below.refl _ _).alloc (Nat.le_refl _) _).alloc (by simp) _).alloc (by simp; omega) _ : Below w.heap.size w W0).trans (hb0.mono (by omega))
  have HF2 := Lib.hid hfin2
  have hI0 : Below W3.heap.size W3 W3.drew := (Below.refl _ _).drew
  obtain ⟨g3, g1, g2, z1, z2, hAs⟩ := hfin2 W3.drew hI0
  clear hfin2 hB3 hW3
  go_cut [21] (fun _ wx => CanMid w b4 s4 b5 s5 wx)
  case first =>
    go_region_with
      (first | (go_at_call 178; refine (HQ.out _ _ _ (by first | exact .inl ⟨rfl, rfl⟩ | exact .inr ⟨rfl, rfl⟩)).mono ?_; rintro e w' ⟨b', s', rfl, hb, hr1, hr2⟩; have hI1 := Below.trans (by assumption : Below W3.heap.size W3 _) (hb.mono (by have := (by assumption : Below W3.heap.size W3 _).size; omega)); obtain ⟨g3, g1, g2, z1, z2, hAs⟩ := HF2.out _ hI1))
    all_goals (go_wp2_with fail; go_meet)
    all_goals
      obtain ⟨k1, k2, k3, k4⟩ := hAs
      have p0 := g1 0
      have p1 := g1 1
      have p2 := g2 0
      have p3 := g2 1
      simp only [List.getElem?_toArray, List.getElem?_cons_zero, List.getElem?_cons_succ] at p0 p1 p2 p3
      refine ⟨⟨by simp [go_sem, p0], by simp [go_sem, p1], by simp [go_sem, p2], by simp [go_sem, p3]⟩, ⟨by simp [go_sem, z2], by simp [go_sem, z2]⟩, fun j => by simp [go_sem, k1], fun j => by simp [go_sem, k2], (((k3.setCell (Nat.le_refl _) _).setCell (Nat.le_refl _) _).setCell (by show w.heap.size ≤ w.heap.size + 1; omega) _).setCell (by show w.heap.size ≤ w.heap.size + 1; omega) _, by simpa using k4⟩
  case rest =>
    obtain ⟨⟨a0, a1, a2, a3⟩, ⟨y0, y1⟩, hc4, hf4, hbw, hszw⟩ := hcut
    clear g3 g1 g2 z1 z2 hAs
    have m0 := hc4 0
    have m1 := hc4 1
    have m2 := hc4 2
    have m3 := hc4 3
    simp only [List.getElem?_toArray, List.getElem?_cons_zero, List.getElem?_cons_succ] at m0 m1 m2 m3
    have hmid : ∀ W, Below wc.heap.size wc W → (W.cell? ⟨w.heap.size, 0, none⟩ = some (.bool b4) ∧ W.cell? ⟨w.heap.size, 1, none⟩ = some (.string s4) ∧ W.cell? ⟨w.heap.size + 1, 0, none⟩ = some (.bool b5) ∧ W.cell? ⟨w.heap.size + 1, 1, none⟩ = some (.string s5)) ∧
        (W.frozen? ⟨w.heap.size + 1, 0, none⟩ = false ∧ W.frozen? ⟨w.heap.size + 1, 1, none⟩ = false) ∧
        (W.cell? ⟨w.heap.size + 1 + 1, 0, none⟩ = some (.bool false) ∧ W.cell? ⟨w.heap.size + 1 + 1, 1, none⟩ = some (.string { data := #[] }) ∧ W.cell? ⟨w.heap.size + 1 + 1, 2, none⟩ = some (.bool false) ∧ W.cell? ⟨w.heap.size + 1 + 1, 3, none⟩ = some (.string { data := #[] })) ∧
        (W.frozen? ⟨w.heap.size + 1 + 1, 0, none⟩ = false ∧ W.frozen? ⟨w.heap.size + 1 + 1, 1, none⟩ = false ∧ W.frozen? ⟨w.heap.size + 1 + 1, 2, none⟩ = false ∧ W.frozen? ⟨w.heap.size + 1 + 1, 3, none⟩ = false) ∧ Below w.heap.size w W := by
      intro W hW
      refine ⟨⟨?_, ?_, ?_, ?_⟩, ⟨?_, ?_⟩, ⟨?_, ?_, ?_, ?_⟩, ⟨?_, ?_, ?_, ?_⟩, hbw.trans (hW.mono (by omega))⟩
      · rw [hW.cell (by show w.heap.size < _; omega)]; exact a0
      · rw [hW.cell (by show w.heap.size < _; omega)]; exact a1
      · rw [hW.cell (by show w.heap.size + 1 < _; omega)]; exact a2
      · rw [hW.cell (by show w.heap.size + 1 < _; omega)]; exact a3
      · rw [hW.frozen (by show w.heap.size + 1 < _; omega)]; exact y0
      · rw [hW.frozen (by show w.heap.size + 1 < _; omega)]; exact y1
      · rw [hW.cell (by show w.heap.size + 1 + 1 < _; omega)]; exact m0
      · rw [hW.cell (by show w.heap.size + 1 + 1 < _; omega)]; exact m1
      · rw [hW.cell (by show w.heap.size + 1 + 1 < _; omega)]; exact m2
      · rw [hW.cell (by show w.heap.size + 1 + 1 < _; omega)]; exact m3
      · rw [hW.frozen (by show w.heap.size + 1 + 1 < _; omega)]; exact hf4 0
      · rw [hW.frozen (by show w.heap.size + 1 + 1 < _; omega)]; exact hf4 1
      · rw [hW.frozen (by show w.heap.size + 1 + 1 < _; omega)]; exact hf4 2
      · rw [hW.frozen (by show w.heap.size + 1 + 1 < _; omega)]; exact hf4 3
    have HMID := Lib.hid hmid
    clear hmid m0 m1 m2 m3 hc4 hf4 y0 y1 hbw
    have hcs : (b5 = b6 ∧ s5 = s6) ∨ (b5 = b6 ∧ s5 ≠ s6) ∨ b5 ≠ b6 := by
      by_cases h1 : b5 = b6
      · by_cases h2 : s5 = s6
        · exact .inl ⟨h1, h2⟩
        · exact .inr (.inl ⟨h1, h2⟩)
      · exact .inr (.inr h1)
    rcases hcs with ⟨rfl, rfl⟩ | ⟨rfl, hne⟩ | hne
    · go_wp2_with fail
      go_region_held3 (fun W => W.cell? ⟨w.heap.size + 1, 0, none⟩ = some (.bool b5) ∧ W.cell? ⟨w.heap.size + 1, 1, none⟩ = some (.string s5))
        (first | exact ⟨a2, a3⟩ | go_keep)
        (first | (go_at_call 146; refine (H1.out _).mono ?_; rintro e w' ⟨rfl, hb⟩; obtain ⟨⟨a0, a1, a2, a3⟩, ⟨y0, y1⟩, ⟨m0, m1, m2, m3⟩, ⟨o0, o1, o2, o3⟩, hbf⟩ := HMID.out w' ((Below.refl wc.heap.size wc).drew.trans hb)))
      all_goals
        clear hb
        go_wp2_with fail
        refine bodyPost_ret (v := .agg #[.bool b4, .string s4, .bool false, .string { data := #[] }]) (by simp [results, Tryz.results142, go_sem, m0, m1, m2, m3]) rfl (CanPost.of ?_ ?_)
        · obtain ⟨_, _, _, e4, e5, e6⟩ := HE.out
          rw [HGG.out] at e4 e5
          exact ⟨_, _, _, _, _, _, e4, e5, e6, .inl ⟨rfl, rfl, rfl⟩⟩
        · have h1 : w.heap.size ≤ w.heap.size + 1 := by omega
          have h2 : w.heap.size ≤ w.heap.size + 1 + 1 := by omega
          exact (((((hbf.setCell h1 _).setCell h1 _).setCell h2 _).setCell h2 _).setCell h2 _).setCell h2 _
    · have hnl : s5.toList ≠ s6.toList := fun h => hne (by rw [Lib.toList_data, Lib.toList_data] at h; obtain ⟨⟨x⟩⟩ := s5; obtain ⟨⟨y⟩⟩ := s6; simp at h; rw [h])
      go_wp2_with fail
      go_region_held3 (fun W => W.cell? ⟨w.heap.size + 1, 0, none⟩ = some (.bool b5) ∧ W.cell? ⟨w.heap.size + 1, 1, none⟩ = some (.string s5))
        (first | exact ⟨a2, a3⟩ | go_keep)
        (first | (go_at_call 146; refine (H1.out _).mono ?_; rintro e w' ⟨rfl, hb⟩; obtain ⟨⟨a0, a1, a2, a3⟩, ⟨y0, y1⟩, ⟨m0, m1, m2, m3⟩, ⟨o0, o1, o2, o3⟩, hbf⟩ := HMID.out w' ((Below.refl wc.heap.size wc).drew.trans hb)))
      all_goals
        clear hb
        go_wp2_with fail
        refine bodyPost_ret (v := .agg #[.bool b4, .string s4, .bool b5, .string s5]) (by simp [results, Tryz.results142, go_sem, m0, m1, m2, m3]) rfl (CanPost.of ?_ ?_)
        · obtain ⟨_, _, _, e4, e5, e6⟩ := HE.out
          rw [HGG.out] at e4 e5
          exact ⟨_, _, _, _, _, _, e4, e5, e6, .inr ⟨.inr hne, rfl⟩⟩
        · have h2 : w.heap.size ≤ w.heap.size + 1 + 1 := by omega
          exact (((hbf.setCell h2 _).setCell h2 _).setCell h2 _).setCell h2 _
    · go_wp2_with fail
      go_region_held3 (fun W => W.cell? ⟨w.heap.size + 1, 0, none⟩ = some (.bool b5) ∧ W.cell? ⟨w.heap.size + 1, 1, none⟩ = some (.string s5))
        (first | exact ⟨a2, a3⟩ | go_keep)
        (first | (go_at_call 146; refine (H1.out _).mono ?_; rintro e w' ⟨rfl, hb⟩; obtain ⟨⟨a0, a1, a2, a3⟩, ⟨y0, y1⟩, ⟨m0, m1, m2, m3⟩, ⟨o0, o1, o2, o3⟩, hbf⟩ := HMID.out w' ((Below.refl wc.heap.size wc).drew.trans hb)))
      all_goals
        clear hb
        go_wp2_with fail
        refine bodyPost_ret (v := .agg #[.bool b4, .string s4, .bool b5, .string s5]) (by simp [results, Tryz.results142, go_sem, m0, m1, m2, m3]) rfl (CanPost.of ?_ ?_)
        · obtain ⟨_, _, _, e4, e5, e6⟩ := HE.out
          rw [HGG.out] at e4 e5
          exact ⟨_, _, _, _, _, _, e4, e5, e6, .inr ⟨.inl hne, rfl⟩⟩
        · have h2 : w.heap.size ≤ w.heap.size + 1 + 1 := by omega
          exact (((hbf.setCell h2 _).setCell h2 _).setCell h2 _).setCell h2 _
end Go.Proofs.YtfoenojohemccaaGreatDoor
