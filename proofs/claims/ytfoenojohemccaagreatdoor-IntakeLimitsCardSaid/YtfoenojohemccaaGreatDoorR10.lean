/- rational.Make with a denominator above zero, FromInts. -/
import Derived.Test.YtfoenojohemccaaGreatDoorR7
import Derived.Test.YtfoenojohemccaaGreatDoorR9
import Derived.Test.YtfoenojohemccaaGreatDoorQH
namespace Go.Proofs.YtfoenojohemccaaGreatDoor
open Go.RowKit Go.Sort Go.Proofs

theorem canV_q (n : Int) (d : Nat) (hd : d < 9223372036854775808) (hd0 : d ≠ 0) (v : Value) (h : CanV n d v) : v = qV (mkRat n d) := by
  obtain ⟨b4, s4, b5, s5, b6, s6, e4, e5, e6, h⟩ := h
  have hm : mkRat n d = Rat.normalize n d hd0 := by rw [Rat.mkRat_def, dif_neg hd0]
  have hnum : (mkRat n d).num = n / ((Int.gcd n d : Nat) : Int) := by rw [hm, Rat.normalize_eq]; rfl
  have hden : (mkRat n d).den = d / Int.gcd n d := by rw [hm, Rat.normalize_eq]; rfl
  have hdd : ((d : Int) / ((Int.gcd n d : Nat) : Int)) = ((d / Int.gcd n d : Nat) : Int) := by simp
  have hle : d / Int.gcd n d ≤ d := Nat.div_le_self _ _
  rw [hdd] at e5
  generalize d / Int.gcd n d = t at *
  simp only [zI, Value.agg.injEq, List.toArray_eq_iff, List.cons.injEq, Value.bool.injEq, Value.string.injEq, and_true] at e4 e5 e6
  rw [qV, hnum, hden, e4.1, e4.2]
  have hb5 : b5 = false := by rw [← e5.1]; simp
  have hb6 : b6 = false := by rw [← e6.1]; simp
  have hs5 : s5 = magB t := by rw [← e5.2]; simp
  have hs6 : s6 = magB 1 := by rw [← e6.2]; rfl
  by_cases ht : t = 1
  · rw [if_pos ht]
    rcases h with ⟨_, _, h⟩ | ⟨h, _⟩
    · exact h
    · rcases h with h | h
      · rw [hb5, hb6] at h; exact absurd rfl h
      · rw [hs5, hs6, ht] at h; exact absurd rfl h
  · rw [if_neg ht]
    rcases h with ⟨_, h, _⟩ | ⟨_, h⟩
    · rw [hs5, hs6] at h
      exact absurd (magB_inj t 1 (by omega) (by decide) h) ht
    · rw [h, hb5, hs5]

theorem qV_inj (a b : Rat) (ha : Wd a.num) (hb : Wd b.num) (ha2 : a.den < 9223372036854775808) (hb2 : b.den < 9223372036854775808) (h : qV a = qV b) : a = b := by
  unfold qV at h
  simp only [Value.agg.injEq, List.toArray_eq_iff, List.cons.injEq, Value.bool.injEq, Value.string.injEq, and_true, true_and] at h
  obtain ⟨h1, h2, h3⟩ := h
  have hn : a.num = b.num := zI_inj _ _ ha hb (by rw [zI, zI, h1, h2])
  have hd : a.den = b.den := by
    have hz : ∀ t : Nat, t ≠ 0 → t < 9223372036854775808 → ({ data := #[] } : ByteArray) ≠ magB t := fun t h1 h2 e => h1 ((magB_empty t (by omega)).1 e.symm)
    by_cases c1 : a.den = 1
    · by_cases c2 : b.den = 1
      · rw [c1, c2]
      · rw [if_pos c1, if_neg c2] at h3
        exact absurd h3 (hz _ b.den_nz hb2)
    · by_cases c2 : b.den = 1
      · rw [if_neg c1, if_pos c2] at h3
        exact absurd h3.symm (hz _ a.den_nz ha2)
      · rw [if_neg c1, if_neg c2] at h3
        exact magB_inj _ _ (by omega) (by omega) h3
  exact Rat.ext hn hd

theorem canonical_q (n : Int) (d : Nat) (hn : Wd n) (hd : d < 9223372036854775808) (hd0 : d ≠ 0) (w : World) :
    Calls Tryz.prog 142 #[zI n, zI d] w fun e w' => e = .returned (qV (mkRat n d)) ∧ Below w.heap.size w w' :=
  (canonical_any n d hn hd hd0 w).mono fun _ _ ⟨⟨v, he, hv⟩, hb⟩ => ⟨by rw [he, canV_q n d hd hd0 v hv], hb⟩


set_option maxHeartbeats 1000000 in
theorem make_any (n : Int) (d : Nat) (hn : Wd n) (hd : d < 9223372036854775808) (hd0 : d ≠ 0) (w : World) :
    Calls Tryz.prog 145 #[zI n, zI d] w fun e w' => e = .returned (.tuple #[qV (mkRat n d), .int .i64 0]) ∧ Below w.heap.size w w' := by
  have hsg := fun W => sign_any (d : Int) (by unfold Wd; omega) W
  rw [if_neg (by omega : ¬ (d : Int) = 0), if_neg (by omega : ¬ (d : Int) < 0)] at hsg
  have hca := fun W => canonical_q n d hn hd hd0 W
  obtain ⟨b1, s1, e1⟩ := zI_ex n
  obtain ⟨b2, s2, e2⟩ := zI_ex d
  obtain ⟨b3, s3, b4, s4, e3⟩ := qV_ex (mkRat n d)
  rw [e2] at hsg
  rw [e1, e2, e3] at hca
  rw [e1, e2, e3]
  have HS := Lib.hid hsg
  have HC := Lib.hid hca
  clear hsg hca e1 e2 e3
  go_enter Tryz.func145, Tryz.ntmps145
  go_wp2_with fail
  refine (HS.out _).mono ?_
  rintro e w1 ⟨rfl, hb1⟩
  obtain ⟨⟨p0, _, _⟩, ⟨p1, _, _⟩, _⟩ := at3 hb1
  have HB1 := Lib.hid hb1
  clear hb1
  go_wp2_with fail
  refine (HC.out _).mono ?_
  rintro e w2 ⟨rfl, hb2⟩
  obtain ⟨_, _, ⟨p2, f2, _⟩, hb, hz⟩ := at3 (HB1.out.trans (hb2.mono HB1.out.size))
  have HB := Lib.hid hb
  clear hb hb2 p0 p1
  go_wp2_with fail
  refine bodyPost_ret (v := .tuple #[.agg #[.bool b3, .string s3, .bool b4, .string s4], .int .i64 0]) (by simp [results, Tryz.results145, go_sem, p2]) rfl ⟨rfl, ?_⟩
  have h1 : w.heap.size ≤ w.heap.size + 1 + 1 := by omega
  exact (((HB.out.setCell h1 _).setCell h1 _).setCell h1 _).setCell h1 _

set_option maxHeartbeats 1000000 in
theorem fromInts_any (n : Int) (d : Nat) (hn : Wd n) (hd : d < 9223372036854775808) (hd0 : d ≠ 0) (w : World) :
    Calls Tryz.prog 111 #[.int .i64 n, .int .i64 d] w fun e w' => e = .returned (.tuple #[qV (mkRat n d), .int .i64 0]) ∧ Below w.heap.size w w' := by
  have h1 := fun W => fromInt_any n hn W
  have h2 := fun W => fromInt_any (d : Int) (by unfold Wd; omega) W
  have h3 := fun W => make_any n d hn hd hd0 W
  obtain ⟨b1, s1, e1⟩ := zI_ex n
  obtain ⟨b2, s2, e2⟩ := zI_ex d
  obtain ⟨b3, s3, b4, s4, e3⟩ := qV_ex (mkRat n d)
  rw [e1] at h1
  rw [e2] at h2
  rw [e1, e2, e3] at h3
  rw [e3]
  have H1 := Lib.hid h1
  have H2 := Lib.hid h2
  have H3 := Lib.hid h3
  clear h1 h2 h3 e1 e2 e3
  go_enter Tryz.func111, Tryz.ntmps111
  go_wp2_with fail
  refine (H1.out _).mono ?_
  rintro e w1 ⟨rfl, hb1⟩
  have HB1 := Lib.hid hb1
  clear hb1
  go_wp2_with fail
  refine (H2.out _).mono ?_
  rintro e w2 ⟨rfl, hb2⟩
  have HB2 := Lib.hid (HB1.out.trans (hb2.mono HB1.out.size))
  clear hb2
  go_wp2_with fail
  refine (H3.out _).mono ?_
  rintro e w3 ⟨rfl, hb3⟩
  have hb := HB2.out.trans (hb3.mono HB2.out.size)
  obtain ⟨p, f, _⟩ := (At.new w #[.bool false, .string { data := #[] }, .bool false, .string { data := #[] }] 69).call hb
  have HB := Lib.hid hb
  clear hb3 hb
  go_wp2_with fail
  refine bodyPost_ret (v := .tuple #[.agg #[.bool b3, .string s3, .bool b4, .string s4], .int .i64 0]) (by simp [results, Tryz.results111, go_sem, p]) rfl ⟨rfl, ?_⟩
  have h1 : w.heap.size ≤ w.heap.size := Nat.le_refl _
  have hb : Below w.heap.size w w3 := ((Below.refl _ _).alloc (Nat.le_refl _) _).trans (HB.out.mono (by simp))
  exact (((hb.setCell h1 _).setCell h1 _).setCell h1 _).setCell h1 _
end Go.Proofs.YtfoenojohemccaaGreatDoor
