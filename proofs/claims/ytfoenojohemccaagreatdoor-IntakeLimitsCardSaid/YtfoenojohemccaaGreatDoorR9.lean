/- Rationals: the plain values; the order of magnitudes. No walk. -/
import Derived.Test.YtfoenojohemccaaGreatDoorR8
namespace Go.Proofs.YtfoenojohemccaaGreatDoor
open Go.RowKit Go.Sort Go.Proofs

/-- a fraction as the program holds it -/
def qV (q : Rat) : Value := .agg #[.bool (decide (q.num < 0)), .string (magB q.num.natAbs), .bool false, .string (if q.den = 1 then { data := #[] } else magB q.den)]
def qcells (q : Rat) : List Value := [.bool (decide (q.num < 0)), .string (magB q.num.natAbs), .bool false, .string (if q.den = 1 then { data := #[] } else magB q.den)]
theorem qV_cells (q : Rat) : qV q = .agg (qcells q).toArray := rfl
theorem rI_q (z : Int) : rI z = qV (z : Rat) := by
  unfold rI qV
  rw [Rat.num_intCast, Rat.den_intCast]
  rfl
theorem qV_ex (q : Rat) : ∃ b1 s1 b2 s2, qV q = .agg #[.bool b1, .string s1, .bool b2, .string s2] := ⟨_, _, _, _, rfl⟩
theorem zI_ex (z : Int) : ∃ b s, zI z = .agg #[.bool b, .string s] := ⟨_, _, rfl⟩
/-! ### over one denominator -/
def crossQ (a b : Rat) : Int × Int × Nat := if a.den = b.den then (a.num, b.num, a.den) else (a.num * b.den, b.num * a.den, a.den * b.den)
theorem crossQ_pos (a b : Rat) : (crossQ a b).2.2 ≠ 0 := by
  unfold crossQ
  split
  · exact a.den_nz
  · exact Nat.mul_ne_zero a.den_nz b.den_nz
theorem crossQ_add (a b : Rat) : mkRat ((crossQ a b).1 + (crossQ a b).2.1) (crossQ a b).2.2 = a + b := by
  have hab : a + b = mkRat (a.num * b.den + b.num * a.den) (a.den * b.den) := by
    rw [Rat.add_def, Rat.mkRat_def, dif_neg (Nat.mul_ne_zero a.den_nz b.den_nz)]
  rw [hab]
  unfold crossQ
  split
  · rename_i h
    have h1 := a.den_nz
    rw [Rat.mkRat_eq_iff h1 (Nat.mul_ne_zero h1 b.den_nz), ← h]
    push_cast
    grind
  · rfl
theorem crossQ_lt (a b : Rat) : (crossQ a b).1 < (crossQ a b).2.1 ↔ a < b := by
  rw [Rat.lt_iff]
  unfold crossQ
  split
  · rename_i h
    have h1 := a.den_nz
    rw [← h]
    have : (0 : Int) < a.den := by omega
    exact ⟨fun h => Int.mul_lt_mul_of_pos_right h this, fun h => Int.lt_of_mul_lt_mul_right h (by omega)⟩
  · rfl
theorem crossQ_gt (a b : Rat) : (crossQ a b).2.1 < (crossQ a b).1 ↔ b < a := by
  rw [← crossQ_lt b a]
  unfold crossQ
  by_cases h : a.den = b.den
  · rw [if_pos h, if_pos h.symm]
  · rw [if_neg h, if_neg fun e => h e.symm]
theorem crossQ_eq (a b : Rat) : (crossQ a b).1 = (crossQ a b).2.1 ↔ a = b := by
  constructor
  · intro h
    have h1 := mt (crossQ_lt a b).2 (by omega)
    have h2 := mt (crossQ_gt a b).2 (by omega)
    exact Rat.le_antisymm (Rat.not_lt.1 h2) (Rat.not_lt.1 h1)
  · rintro rfl
    unfold crossQ
    simp
def cmpQ (a b : Rat) : Int := if a < b then -1 else if b < a then 1 else 0
theorem cmpQ_cross (a b : Rat) : cmpI (crossQ a b).1 (crossQ a b).2.1 = cmpQ a b := by
  unfold cmpI cmpQ
  congr 1
  · exact propext (crossQ_lt a b)
  · congr 1
    exact propext (crossQ_gt a b)
theorem cmpQ_self (a : Rat) : cmpQ a a = 0 := by
  rw [← cmpQ_cross, crossQ]; simp [cmpI]

/-! ### the order of magnitudes -/
theorem wordN_acc : ∀ (l : List UInt8) (a : Nat), l.foldl (fun a b => a * 256 + b.toNat) a = a * 256 ^ l.length + wordN l
  | [], a => by simp [wordN]
  | b :: l, a => by
    have e : wordN (b :: l) = l.foldl (fun a b => a * 256 + b.toNat) (0 * 256 + b.toNat) := rfl
    rw [List.foldl_cons, e, wordN_acc l, wordN_acc l (0 * 256 + b.toNat), List.length_cons, Nat.pow_succ]
    grind
theorem wordN_cons (b : UInt8) (l : List UInt8) : wordN (b :: l) = b.toNat * 256 ^ l.length + wordN l := by
  have e : wordN (b :: l) = l.foldl (fun a b => a * 256 + b.toNat) (0 * 256 + b.toNat) := rfl
  rw [e, wordN_acc]; simp
theorem compareBytes_word : ∀ (l m : List UInt8), l.length = m.length → Lib.compareBytes l m = cmpI (wordN l) (wordN m)
  | [], [], _ => by simp [Lib.compareBytes, cmpI, wordN]
  | [], _ :: _, h => by simp at h
  | _ :: _, [], h => by simp at h
  | a :: l, b :: m, h => by
    have hl : l.length = m.length := by simpa using h
    have ih := compareBytes_word l m hl
    have h1 := wordN_lt l
    have h2 := wordN_lt m
    rw [Lib.compareBytes, wordN_cons, wordN_cons, hl]
    rw [hl] at h1
    generalize 256 ^ m.length = p at *
    by_cases c1 : a < b
    · rw [if_pos c1]
      have c2 : a.toNat + 1 ≤ b.toNat := by have := UInt8.lt_iff_toNat_lt.1 c1; omega
      have c3 : (a.toNat + 1) * p ≤ b.toNat * p := Nat.mul_le_mul_right _ c2
      rw [Nat.add_mul] at c3
      unfold cmpI
      rw [if_pos (by omega)]
    · rw [if_neg c1]
      by_cases c2 : b < a
      · rw [if_pos c2]
        have c3 : b.toNat + 1 ≤ a.toNat := by have := UInt8.lt_iff_toNat_lt.1 c2; omega
        have c4 : (b.toNat + 1) * p ≤ a.toNat * p := Nat.mul_le_mul_right _ c3
        rw [Nat.add_mul] at c4
        unfold cmpI
        rw [if_neg (by omega), if_pos (by omega)]
      · rw [if_neg c2, ih]
        have : a.toNat = b.toNat := by
          have := mt UInt8.lt_iff_toNat_lt.2 c1
          have := mt UInt8.lt_iff_toNat_lt.2 c2
          omega
        rw [this]
        unfold cmpI
        congr 1
        · exact propext (by omega)
        · congr 1
          exact propext (by omega)
theorem magB_bounds (u : Nat) (hu : u < 18446744073709551616) : (u = 0 ∧ (magB u).size = 0) ∨ (u ≠ 0 ∧ 1 ≤ (magB u).size ∧ 256 ^ ((magB u).size - 1) ≤ u ∧ u < 256 ^ (magB u).size) := by
  by_cases h0 : u = 0
  · subst h0; exact .inl ⟨rfl, rfl⟩
  · refine .inr ⟨h0, ?_⟩
    have hs : (magB u).size = (Lib.bitLen u + 7) / 8 := by
      rw [magB, if_neg h0, strOfNums_size]
      simp [beL, lenB]
    have hb := Lib.bitLenAux_bounds 64 u (by omega) h0
    have h1 : Lib.bitLen u = Lib.bitLenAux 64 u := rfl
    rw [← h1] at hb
    obtain ⟨b1, b2, b3⟩ := hb
    rw [hs]
    generalize Lib.bitLen u = L at *
    refine ⟨by omega, Nat.le_trans ?_ b2, Nat.lt_of_lt_of_le b3 ?_⟩
    · rw [show (256 : Nat) = 2 ^ 8 from rfl, ← Nat.pow_mul]
      exact Nat.pow_le_pow_right (by decide) (by omega)
    · rw [show (256 : Nat) = 2 ^ 8 from rfl, ← Nat.pow_mul]
      exact Nat.pow_le_pow_right (by decide) (by omega)
theorem magB_cmp (u v : Nat) (hu : u < 18446744073709551616) (hv : v < 18446744073709551616) : orI [cmpI (magB u).size (magB v).size, Lib.compareBytes (magB u).data.toList (magB v).data.toList] = cmpI u v := by
  have h1 := magB_bounds u hu
  have h2 := magB_bounds v hv
  have key : ∀ (a b : Nat), a < 18446744073709551616 → b < 18446744073709551616 → (magB a).size < (magB b).size → a < b := by
    intro a b ha hb hlt
    rcases magB_bounds a ha with ⟨e1, e2⟩ | ⟨_, e1, e2, e3⟩
    · rcases magB_bounds b hb with ⟨f1, f2⟩ | ⟨f0, f1, f2, f3⟩ <;> omega
    · rcases magB_bounds b hb with ⟨f1, f2⟩ | ⟨f0, f1, f2, f3⟩
      · omega
      · refine Nat.lt_of_lt_of_le e3 (Nat.le_trans ?_ f2)
        exact Nat.pow_le_pow_right (by decide) (by omega)
  rcases Nat.lt_trichotomy (magB u).size (magB v).size with h | h | h
  · have hk := key u v hu hv h
    have e0 : cmpI (magB u).size (magB v).size = -1 := by unfold cmpI; rw [if_pos (by omega)]
    have e1 : cmpI (u : Int) (v : Int) = -1 := by unfold cmpI; rw [if_pos (by omega)]
    rw [e1]
    simp [orI, e0]
  · have e := compareBytes_word (magB u).data.toList (magB v).data.toList h
    rw [magB_word u hu, magB_word v hv] at e
    have e0 : cmpI (magB u).size (magB v).size = 0 := by rw [h]; simp [cmpI]
    simp only [orI, e, e0, if_true]
    split
    · rename_i h0; exact h0.symm
    · rfl
  · have hk := key v u hv hu h
    have e0 : cmpI (magB u).size (magB v).size = 1 := by unfold cmpI; rw [if_neg (by omega), if_pos (by omega)]
    have e1 : cmpI (u : Int) (v : Int) = 1 := by unfold cmpI; rw [if_neg (by omega), if_pos (by omega)]
    rw [e1]
    simp [orI, e0]
end Go.Proofs.YtfoenojohemccaaGreatDoor
