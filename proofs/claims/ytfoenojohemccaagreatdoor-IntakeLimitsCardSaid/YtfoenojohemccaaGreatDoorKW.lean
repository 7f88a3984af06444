/- viatorlaw27.known returns true. -/
import Derived.Test.YtfoenojohemccaaGreatDoorQV
namespace Go.Proofs.YtfoenojohemccaaGreatDoor
open Go.RowKit Go.Sort Go.Proofs

def kcells : Array Value := #[.int .i64 7, .int .i64 3, .int .i64 0, .int .i64 0, .int .i64 40, .int .i64 0, .int .i64 0, .bool false, .int .i64 7, .int .i64 0, .int .i64 0, .int .i64 0, .int .i64 10, .int .i64 0, .int .i64 0, .bool false, .int .i64 7, .int .i64 1, .int .i64 0, .int .i64 0, .int .i64 20, .int .i64 0, .int .i64 0, .bool false]
theorem krow (w : World) : RowOf Rep.cells 8 (w.alloc (.cells kcells 28)) (.slice (some ⟨w.heap.size, 0, none⟩) 3 3) [kr1, kr2, kr3] := by
  refine ⟨_, _, rfl, fun i x hx => ⟨_, _, rfl, fun j hj => ?_⟩⟩
  have hc : (w.alloc (.cells kcells 28)).cell? ⟨w.heap.size, 0 + i * 8 + j, none⟩ = kcells[0 + i * 8 + j]? := (At.new w kcells 28).1 _
  rw [hc]
  match i, hx with
  | 0, hx =>
    simp at hx; subst hx
    match j, hj with
    | 0, _ | 1, _ | 2, _ | 3, _ | 4, _ | 5, _ | 6, _ | 7, _ => rfl
  | 1, hx =>
    simp at hx; subst hx
    match j, hj with
    | 0, _ | 1, _ | 2, _ | 3, _ | 4, _ | 5, _ | 6, _ | 7, _ => rfl
  | 2, hx =>
    simp at hx; subst hx
    match j, hj with
    | 0, _ | 1, _ | 2, _ | 3, _ | 4, _ | 5, _ | 6, _ | 7, _ => rfl
  | i + 3, hx => simp at hx

theorem kcorC (rs : List Rep) (h : rs.Perm [kr1, kr2, kr3]) : ∀ r ∈ ofL (sortR rs) 7, ∀ v W, RowOf Exc.cells 5 W v (sortX []) → Calls Tryz.prog 35 #[v, r.val] W fun e w' => CorPost (kcor r) W e w' := by
  rw [ksortR h, kof]
  intro r hr v W hv
  have e : sortX [] = [] := List.mergeSort_nil
  rw [e] at hv
  refine correct_none r ?_ ?_ ?_ v W hv
  all_goals
    simp [kL] at hr
    rcases hr with rfl | rfl | rfl <;> decide

set_option maxHeartbeats 4000000 in
set_option maxRecDepth 100000 in
theorem known_any (w : World) : Calls Tryz.prog 13 #[] w fun e w' => e = .returned (.bool true) ∧ Below w.heap.size w w' := by
  have hnew := new_any w
  have hfi := fun W => fromIntR_any 20 (by unfold Wd; decide) W
  have hri : rI 20 = .agg #[.bool false, .string (magB 20), .bool false, .string { data := #[] }] := rfl
  rw [hri] at hfi
  have hadd : ∀ (bx br be : Nat) W, IntakeAt W bx br be [] [] → Calls Tryz.prog 15 #[.pointer (some ⟨bx, 0, none⟩), .agg #[.slice (some ⟨W.heap.size, 0, none⟩) 3 3, .slice none 0 0]] (W.alloc (.cells kcells 28)) fun e w' =>
      e = .returned (.tuple #[.int .i64 3, .int .i64 0]) ∧ ∃ R, R.Perm [kr1, kr2, kr3] ∧ IntakeAt w' bx br be R [] ∧ Mod (fun k => k = br ∨ k = be) (W.alloc (.cells kcells 28)) w' := fun bx br be W h =>
    (add_any bx br be [] [] _ _ [kr1, kr2, kr3] [] (W.alloc (.cells kcells 28)) (h.later ((Below.refl _ _).alloc (Nat.le_refl _) _)) (krow W) ⟨none, 0, rfl, fun i x hx => by simp at hx⟩ (by decide)).mono fun e w' h => known_add h
  have hcomp : ∀ (bx br be : Nat) R W, R.Perm [kr1, kr2, kr3] → IntakeAt W bx br be R [] → Calls Tryz.prog 21 #[.pointer (some ⟨bx, 0, none⟩), .int .i64 7] W fun e w' => e = .returned (.tuple #[.int .i64 1, .bool true]) ∧ Below W.heap.size W w' := fun bx br be R W hR h =>
    (complete_any bx br be R [] 7 W h (by rw [hR.length_eq]; decide)).mono fun e w' h => by rw [ksortR hR] at h; exact known_comp h
  have hfront : ∀ (bx br be : Nat) R W, R.Perm [kr1, kr2, kr3] → IntakeAt W bx br be R [] → Calls Tryz.prog 39 #[.pointer (some ⟨bx, 0, none⟩), .int .i64 7] W fun e w' => e = .returned (.tuple #[.agg #[.bool false, .string (magB 20), .bool false, .string { data := #[] }], .bool true]) ∧ Below W.heap.size W w' := fun bx br be R W hR h =>
    (frontier_at (cor := kcor) h (by rw [hR.length_eq]; decide) (by decide) (kcorC R hR) (by rw [ksortR hR, kof]; intro r hr q hq; cases hq; exact ksq r hr) (by rw [ksortR hR, kof, ktim]; decide)).mono fun e w' h => by rw [ksortR hR, kof] at h; exact known_front h
  have hpend : ∀ (bx br be : Nat) R W, R.Perm [kr1, kr2, kr3] → IntakeAt W bx br be R [] → Calls Tryz.prog 24 #[.pointer (some ⟨bx, 0, none⟩), .int .i64 7] W fun e w' => ∃ g cap, e = .returned (.slice (some ⟨g, 0, none⟩) 1 cap) ∧ w'.cell? ⟨g, 5, none⟩ = some (.int .i64 3) ∧ Below W.heap.size W w' := fun bx br be R W hR h =>
    (pending_at (cor := kcor) h (by rw [hR.length_eq]; decide) (by decide) (kcorC R hR) (by rw [ksortR hR, kof]; intro r hr q hq; cases hq; exact ksq r hr) (by rw [ksortR hR, kof, ktim]; decide)).mono fun e w' h => by rw [ksortR hR, kof] at h; exact known_pend h
  generalize magB 20 = s20 at *
  have HA := Lib.hid hadd
  have HC := Lib.hid hcomp
  have HF := Lib.hid hfront
  have HP := Lib.hid hpend
  have HFI := Lib.hid hfi
  have HNEW := Lib.hid hnew
  clear hadd hcomp hfront hpend hfi hri hnew
  go_enter Tryz.func13, Tryz.ntmps13
  go_wp2_with fail
  refine HNEW.out.mono ?_
  rintro e w1 ⟨bx, br, be, rfl, hI1, hb1, hx1, hx2, hx3⟩
  have H1 := Lib.hid (And.intro hI1 (And.intro hb1 (And.intro hx2 hx3)))
  clear hI1 hb1 hx1 hx2 hx3
  go_wp2_with fail
  refine (HA.out bx br be w1 H1.out.1).mono ?_
  rintro e w2 ⟨rfl, R, hR, hI2, hm2⟩
  have hb2 : Below w.heap.size w w2 := by
    have hs := H1.out.2.1.size
    have h0 : Below w.heap.size w (w1.alloc (.cells kcells 28)) := H1.out.2.1.alloc hs _
    exact h0.trans (hm2.toBelow (fun k hk => by rcases hk with rfl | rfl; exact H1.out.2.2.1; exact H1.out.2.2.2) (by simp; omega))
  have H2 := Lib.hid (And.intro hR (And.intro hI2 hb2))
  clear hR hI2 hb2 hm2
  go_wp2_with fail
  refine (HC.out bx br be R w2 H2.out.1 H2.out.2.1).mono ?_
  rintro e w3 ⟨rfl, hb3⟩
  have H3 := Lib.hid (And.intro (H2.out.2.1.later hb3) (H2.out.2.2.trans (hb3.mono H2.out.2.2.size)))
  clear hb3
  go_wp2_with fail
  refine (HF.out bx br be R w3 H2.out.1 H3.out.1).mono ?_
  rintro e w4 ⟨rfl, hb4⟩
  have hI4 := H3.out.1.later hb4
  have hb04 := H3.out.2.trans (hb4.mono H3.out.2.size)
  have hI5 := hI4.later ((Below.refl _ _).alloc (Nat.le_refl _) (.cells #[.bool false, .string s20, .bool false, .string { data := #[] }] 69))
  have H4 := Lib.hid (And.intro hI5 (hb04.alloc hb04.size (.cells #[.bool false, .string s20, .bool false, .string { data := #[] }] 69)))
  clear hb4 hI4 hb04 hI5
  go_wp2_with fail
  refine (HP.out bx br be R _ H2.out.1 H4.out.1).mono ?_
  rintro e w5 ⟨g, cap, rfl, hc, hb5⟩
  obtain ⟨p, _, _⟩ := (At.new w4 #[.bool false, .string s20, .bool false, .string { data := #[] }] 69).call hb5
  have hb05 := H4.out.2.trans (hb5.mono H4.out.2.size)
  have HB := Lib.hid hb05
  have q0 := p 0
  have q1 := p 1
  have q2 := p 2
  have q3 := p 3
  simp only [List.getElem?_toArray, List.getElem?_cons_zero, List.getElem?_cons_succ] at q0 q1 q2 q3
  clear hb5 hb05 p
  go_wp2_with fail
  go_region_held3 (fun W => W.cell? ⟨w4.heap.size, 0, none⟩ = some (.bool false) ∧ W.cell? ⟨w4.heap.size, 1, none⟩ = some (.string s20) ∧ W.cell? ⟨w4.heap.size, 2, none⟩ = some (.bool false) ∧ W.cell? ⟨w4.heap.size, 3, none⟩ = some (.string { data := #[] }) ∧ W.cell? ⟨g, 5, none⟩ = some (.int .i64 3))
    (first | exact ⟨q0, q1, q2, q3, hc⟩ | go_keep)
    (first | (go_at_call 50; refine (HFI.out _).mono ?_; rintro e w' ⟨rfl, hb⟩; have hb' := (Below.refl w5.heap.size w5).drew.trans hb; have q0 := (hb'.cell (p := ⟨w4.heap.size, 0, none⟩) (block_lt_of_cell q0)).trans q0; have q1 := (hb'.cell (p := ⟨w4.heap.size, 1, none⟩) (block_lt_of_cell q1)).trans q1; have q2 := (hb'.cell (p := ⟨w4.heap.size, 2, none⟩) (block_lt_of_cell q2)).trans q2; have q3 := (hb'.cell (p := ⟨w4.heap.size, 3, none⟩) (block_lt_of_cell q3)).trans q3; have hc := (hb'.cell (p := ⟨g, 5, none⟩) (block_lt_of_cell hc)).trans hc; have hB6 := HB.out.trans (hb'.mono HB.out.size)))
  all_goals
    go_wp2_with fail
    go_ret
    exact ⟨rfl, hB6⟩
end Go.Proofs.YtfoenojohemccaaGreatDoor
