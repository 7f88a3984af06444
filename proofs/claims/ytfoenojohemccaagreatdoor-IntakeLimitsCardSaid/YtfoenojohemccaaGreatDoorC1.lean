/- Contracts of cmp.Compare, cmp.Or, slices.Compare at ints and of report.fields. -/
import Derived.Test.YtfoenojohemccaaGreatDoorQM
namespace Go.Proofs.YtfoenojohemccaaGreatDoor
open Go.RowKit

def cmpI (x y : Int) : Int := if x < y then -1 else if y < x then 1 else 0

theorem cmpInt_any (x y : Int) (w : World) : Calls Tryz.prog 98 #[.int .i64 x, .int .i64 y] w fun e w' => e = .returned (.int .i64 (cmpI x y)) ∧ w = w' := by
  have hx : (x == x) = true := by simp
  have hy : (y == y) = true := by simp
  unfold cmpI
  rcases Int.lt_trichotomy x y with h | h | h
  · rw [if_pos h]
    go_enter Tryz.func98, Tryz.ntmps98
    go_wp2
    go_ret
    exact ⟨rfl, rfl⟩
  · subst h
    rw [if_neg (by omega), if_neg (by omega)]
    go_enter Tryz.func98, Tryz.ntmps98
    go_wp2
    go_ret
    exact ⟨rfl, rfl⟩
  · rw [if_neg (by omega), if_pos h]
    go_enter Tryz.func98, Tryz.ntmps98
    go_wp2
    go_ret
    exact ⟨rfl, rfl⟩

/-- the first number that is not 0 -/
def orI : List Int → Int
  | [] => 0
  | x :: l => if x = 0 then orI l else x
theorem orI_all {l : List Int} (h : ∀ j, j < l.length → l.getD j 0 = 0) : orI l = 0 := by
  induction l with
  | nil => rfl
  | cons x l ih =>
    have h0 := h 0 (by simp)
    simp at h0
    simp only [orI, h0, if_true]
    exact ih fun j hj => by have := h (j + 1) (by simp; omega); simpa using this
theorem orI_at {l : List Int} {k : Nat} (hk : k < l.length) (h : ∀ j, j < k → l.getD j 0 = 0) (hne : l.getD k 0 ≠ 0) : orI l = l.getD k 0 := by
  induction l generalizing k with
  | nil => simp at hk
  | cons x l ih =>
    cases k with
    | zero => simp at hne; simp [orI, hne]
    | succ k =>
      have h0 := h 0 (by omega)
      simp at h0
      simp only [orI, h0, if_true]
      have := ih (k := k) (by simp at hk; omega) (fun j hj => by have := h (j + 1) (by omega); simpa using this) (by simpa using hne)
      simpa using this

set_option maxHeartbeats 400000 in
theorem orInt_any (l : List Int) (n b off cap : Nat) (w : World) (hn : l.length = n) (hl : l.length ≤ 9223372036854775807)
    (hc : ∀ i, i < l.length → w.cell? ⟨b, off + i, none⟩ = some (.int .i64 (l.getD i 0))) :
    Calls Tryz.prog 97 #[.slice (some ⟨b, off, none⟩) n cap] w fun e w' => e = .returned (.int .i64 (orI l)) ∧ w = w' := by
  subst hn
  go_enter Tryz.func97, Tryz.ntmps97
  go_wp2
  go_loop [5, 8] (fun _ i => ∃ k : Nat, k ≤ l.length ∧ i = .int .i64 k ∧ ∀ j, j < k → l.getD j 0 = 0) (fun _ i => l.length - (intOf i).toNat)
  case atStart => exact ⟨0, Nat.zero_le _, rfl, by intro j hj; omega⟩
  case round =>
    obtain ⟨k, hk, rfl, hbef⟩ := hrel
    have HB : Hid (∀ j, j < k → l.getD j 0 = 0) := hbef
    clear hbef
    by_cases hlt : k < l.length
    · have hcell := hc k hlt
      clear hc
      obtain ⟨x, hx⟩ : ∃ x, l.getD k 0 = x := ⟨_, rfl⟩
      rw [hx] at hcell
      have HX := Lib.hid hx
      clear hx
      by_cases hx0 : x = 0
      · have e1 : (x != 0) = false := by simp [hx0]
        have HX0 := Lib.hid hx0
        clear hx0
        go_wp2
        go_round
        case rel => exact ⟨k + 1, by omega, by go_num, fun j hj => by rcases Nat.lt_succ_iff_lt_or_eq.1 hj with h | rfl; exact HB.out j h; rw [HX.out]; exact HX0.out⟩
        case measure => simp [intOf]; omega
      · have e1 : (x != 0) = true := by simp [hx0]
        go_wp2
        go_ret
        exact ⟨by rw [orI_at hlt HB.out (by rw [HX.out]; exact hx0), HX.out]; rfl, rfl⟩
    · go_wp2
      go_ret
      exact ⟨by rw [orI_all (fun j hj => HB.out j (by omega))]; rfl, rfl⟩

/-- comparing lists of one length, number by number -/
def lexI : List Int → List Int → Int
  | x :: l, y :: m => if x = y then lexI l m else cmpI x y
  | _, _ => 0
theorem lexI_all {l m : List Int} (hlm : l.length = m.length) (h : ∀ j, j < l.length → l.getD j 0 = m.getD j 0) : lexI l m = 0 := by
  induction l generalizing m with
  | nil => simp [lexI]
  | cons x l ih =>
    cases m with
    | nil => simp at hlm
    | cons y m =>
      have h0 := h 0 (by simp)
      simp at h0
      simp only [lexI, h0, if_true]
      exact ih (by simpa using hlm) fun j hj => by have := h (j + 1) (by simp; omega); simpa using this
theorem lexI_at {l m : List Int} (hlm : l.length = m.length) {k : Nat} (hk : k < l.length) (h : ∀ j, j < k → l.getD j 0 = m.getD j 0) (hne : l.getD k 0 ≠ m.getD k 0) : lexI l m = cmpI (l.getD k 0) (m.getD k 0) := by
  induction l generalizing m k with
  | nil => simp at hk
  | cons x l ih =>
    cases m with
    | nil => simp at hlm
    | cons y m =>
      cases k with
      | zero => simp at hne; simp [lexI, hne]
      | succ k =>
        have h0 := h 0 (by omega)
        simp at h0
        simp only [lexI, h0, if_true]
        have := ih (m := m) (by simpa using hlm) (k := k) (by simp at hk; omega) (fun j hj => by have := h (j + 1) (by omega); simpa using this) (by simpa using hne)
        simpa using this

theorem cmpI_ne {x y : Int} (h : x ≠ y) : cmpI x y ≠ 0 := by unfold cmpI; split; omega; split <;> omega
theorem cmpI_eq {x : Int} : cmpI x x = 0 := by simp [cmpI]

set_option maxHeartbeats 400000 in
theorem slCompare_any (l m : List Int) (b off cap b2 off2 cap2 : Nat) (n : Nat) (w : World) (hn : l.length = n) (hm : m.length = n) (hl : n ≤ 9223372036854775807)
    (hc : ∀ i, i < n → w.cell? ⟨b, off + i, none⟩ = some (.int .i64 (l.getD i 0)))
    (hd : ∀ i, i < n → w.cell? ⟨b2, off2 + i, none⟩ = some (.int .i64 (m.getD i 0))) :
    Calls Tryz.prog 93 #[.slice (some ⟨b, off, none⟩) n cap, .slice (some ⟨b2, off2, none⟩) n cap2] w fun e w' => e = .returned (.int .i64 (lexI l m)) ∧ w = w' := by
  have HN := Lib.hid hn
  have HM := Lib.hid hm
  clear hn hm
  go_enter Tryz.func93, Tryz.ntmps93
  go_wp2
  go_loop [5, 6, 7, 8, 11] (fun _ _ _ _ i => ∃ k : Nat, k ≤ n ∧ i = .int .i64 k ∧ ∀ j, j < k → l.getD j 0 = m.getD j 0) (fun _ _ _ _ i => n - (intOf i).toNat)
  case atStart => exact ⟨0, Nat.zero_le _, rfl, by intro j hj; omega⟩
  case round =>
    obtain ⟨k, hk, rfl, hbef⟩ := hrel
    have HB : Hid (∀ j, j < k → l.getD j 0 = m.getD j 0) := hbef
    clear hbef
    by_cases hlt : k < n
    · have hcell := hc k hlt
      have hcell2 := hd k hlt
      clear hc hd
      obtain ⟨x, hx⟩ : ∃ x, l.getD k 0 = x := ⟨_, rfl⟩
      obtain ⟨y, hy⟩ : ∃ y, m.getD k 0 = y := ⟨_, rfl⟩
      rw [hx] at hcell
      rw [hy] at hcell2
      have HX := Lib.hid hx
      have HY := Lib.hid hy
      clear hx hy
      have hcon := fun W => cmpInt_any x y W
      by_cases hxy : x = y
      · have e1 : (cmpI x y != 0) = false := by rw [hxy, cmpI_eq]; rfl
        generalize cmpI x y = c at *
        have HXY := Lib.hid hxy
        clear hxy
        go_wp2_with fail
        refine (hcon _).mono ?_
        rintro e w' ⟨rfl, rfl⟩
        go_wp2_with fail
        go_round
        case rel => exact ⟨k + 1, by omega, by go_num, fun j hj => by rcases Nat.lt_succ_iff_lt_or_eq.1 hj with h | rfl; exact HB.out j h; rw [HX.out, HY.out]; exact HXY.out⟩
        case measure => simp [intOf]; omega
      · have e1 : (cmpI x y != 0) = true := by simp [cmpI_ne hxy]
        have hfin : lexI l m = cmpI x y := by rw [lexI_at (by rw [HN.out, HM.out]) (by rw [HN.out]; exact hlt) HB.out (by rw [HX.out, HY.out]; exact hxy), HX.out, HY.out]
        generalize cmpI x y = c at *
        have HF := Lib.hid hfin
        clear hfin
        go_wp2_with fail
        refine (hcon _).mono ?_
        rintro e w' ⟨rfl, rfl⟩
        go_wp2_with fail
        go_ret
        exact ⟨by rw [HF.out]; rfl, rfl⟩
    · clear hc hd
      go_wp2
      go_ret
      exact ⟨by rw [lexI_all (by rw [HN.out, HM.out]) (fun j hj => HB.out j (by rw [HN.out] at hj; omega))]; rfl, rfl⟩
end Go.Proofs.YtfoenojohemccaaGreatDoor
