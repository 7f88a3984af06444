/- Contracts of report.fields, report.Compare and intake.order: what they compare, in what order; they lay blocks and draw, and turn nothing. -/
import Derived.Test.YtfoenojohemccaaGreatDoorC1
import Derived.Deep.RegionHeld3
import Derived.Deep.QuietTactic
import Derived.BigQuiet
import Derived.Sort.Grow
import Derived.Deep.RegionWith
import Derived.Deep.DeepCutAuto
namespace Go.Proofs.YtfoenojohemccaaGreatDoor
open Go.RowKit Go.Sort

def b2i (b : Bool) : Int := if b then 1 else 0
def flds (r : Rep) : List Int := [r.o, r.s, r.v, r.t, r.x, r.y, r.d, b2i r.c]

theorem fields_any (o s v d t x y : Int) (c : Bool) (w : World) :
    Calls Tryz.prog 92 #[.agg #[.int .i64 o, .int .i64 s, .int .i64 v, .int .i64 d, .int .i64 t, .int .i64 x, .int .i64 y, .bool c]] w fun e w' =>
      e = .returned (.agg #[.int .i64 o, .int .i64 s, .int .i64 v, .int .i64 t, .int .i64 x, .int .i64 y, .int .i64 d, .int .i64 (b2i c)]) ∧
      (w.alloc (.cells #[.int .i64 o, .int .i64 s, .int .i64 v, .int .i64 d, .int .i64 t, .int .i64 x, .int .i64 y, .bool c] 28)).alloc (.cells #[.int .i64 o, .int .i64 s, .int .i64 v, .int .i64 t, .int .i64 x, .int .i64 y, .int .i64 d, .int .i64 (b2i c)] 140) = w' := by
  cases c
  · simp only [b2i, Bool.false_eq_true, if_false]
    go_enter Tryz.func92, Tryz.ntmps92
    go_wp2
    refine bodyPost_ret (v := .agg #[.int .i64 o, .int .i64 s, .int .i64 v, .int .i64 t, .int .i64 x, .int .i64 y, .int .i64 d, .int .i64 0]) (by simp [results, Tryz.results92, go_sem]) rfl ⟨rfl, rfl⟩
  · simp only [b2i, if_true]
    go_enter Tryz.func92, Tryz.ntmps92
    go_wp2
    refine bodyPost_ret (v := .agg #[.int .i64 o, .int .i64 s, .int .i64 v, .int .i64 t, .int .i64 x, .int .i64 y, .int .i64 d, .int .i64 1]) (by simp [results, Tryz.results92, go_sem]) rfl ⟨rfl, rfl⟩

/-- the world has grown: draws and new blocks, nothing else -/
def GrowQ (w W : World) : Prop := ∃ q os, W = grow (w.drewN q) os

theorem GrowQ.refl (w : World) : GrowQ w w := ⟨0, #[], by simp [grow, World.drewN]⟩
theorem GrowQ.alloc {w W : World} (h : GrowQ w W) (o : Obj) : GrowQ w (W.alloc o) := by
  obtain ⟨q, os, rfl⟩ := h
  exact ⟨q, os.push o, by simp [grow, World.alloc]⟩
theorem GrowQ.drew {w W : World} (h : GrowQ w W) : GrowQ w W.drew := by
  obtain ⟨q, os, rfl⟩ := h
  exact ⟨q + 1, os, by simp [grow, World.drewN, World.drew, Nat.add_assoc]⟩

theorem GrowQ.drewN {w W : World} (h : GrowQ w W) (n : Nat) : GrowQ w (W.drewN n) := by
  obtain ⟨q, os, rfl⟩ := h
  exact ⟨q + n, os, by simp [grow, World.drewN, Nat.add_assoc]⟩
theorem GrowQ.below {w W : World} (h : GrowQ w W) : Below w.heap.size w W := by
  obtain ⟨q, os, rfl⟩ := h
  exact ⟨rfl, rfl, rfl, by simp [grow, World.drewN], fun k hk => heap_grow_old (w.drewN q) os hk⟩
def CmpMid (w : World) (l m : Array Value) (v5 v6 : Value) (W : World) : Prop :=
  ∃ b c, v5 = .pointer (some ⟨b, 0, none⟩) ∧ v6 = .pointer (some ⟨c, 0, none⟩) ∧ (∀ j, W.cell? ⟨b, j, none⟩ = l[j]?) ∧ (∀ j, W.cell? ⟨c, j, none⟩ = m[j]?) ∧ GrowQ w W

set_option maxHeartbeats 4000000 in
theorem cmpRep_any (o s v d t x y : Int) (c : Bool) (o' s' v' d' t' x' y' : Int) (c' : Bool) (w : World) :
    Calls Tryz.prog 55 #[.agg #[.int .i64 o, .int .i64 s, .int .i64 v, .int .i64 d, .int .i64 t, .int .i64 x, .int .i64 y, .bool c], .agg #[.int .i64 o', .int .i64 s', .int .i64 v', .int .i64 d', .int .i64 t', .int .i64 x', .int .i64 y', .bool c']] w fun e w' =>
      e = .returned (.int .i64 (lexI (flds ⟨o, s, v, d, t, x, y, c⟩) (flds ⟨o', s', v', d', t', x', y', c'⟩))) ∧ GrowQ w w' := by
  have hfin : lexI (flds ⟨o, s, v, d, t, x, y, c⟩) (flds ⟨o', s', v', d', t', x', y', c'⟩) = lexI [o, s, v, t, x, y, d, b2i c] [o', s', v', t', x', y', d', b2i c'] := rfl
  rw [hfin]
  clear hfin
  have f1 := fun W => fields_any o s v d t x y c W
  have f2 := fun W => fields_any o' s' v' d' t' x' y' c' W
  generalize b2i c = bc at *
  generalize b2i c' = bc' at *
  go_enter Tryz.func55, Tryz.ntmps55
  go_upto_region 1 with fail
  go_cut [5, 6] (fun v5 v6 wx => CmpMid w #[.int .i64 o, .int .i64 s, .int .i64 v, .int .i64 t, .int .i64 x, .int .i64 y, .int .i64 d, .int .i64 bc] #[.int .i64 o', .int .i64 s', .int .i64 v', .int .i64 t', .int .i64 x', .int .i64 y', .int .i64 d', .int .i64 bc'] v5 v6 wx)
  case first =>
    have F1 := Lib.hid f1
    have F2 := Lib.hid f2
    clear f1 f2
    go_region_held3 (fun W => (∀ j, W.cell? ⟨w.heap.size, j, none⟩ = #[Value.int .i64 o, .int .i64 s, .int .i64 v, .int .i64 d, .int .i64 t, .int .i64 x, .int .i64 y, .bool c][j]?) ∧ (∀ j, W.cell? ⟨w.heap.size + 1, j, none⟩ = #[Value.int .i64 o', .int .i64 s', .int .i64 v', .int .i64 d', .int .i64 t', .int .i64 x', .int .i64 y', .bool c'][j]?))
      (first | exact ⟨fun j => by simp [go_sem], fun j => by simp [go_sem]⟩ | go_keep)
      (first | (go_at_call 92; refine (F1.out _).mono ?_; clear F1; rintro e w' ⟨rfl, rfl⟩) | (go_at_call 92; refine (F2.out _).mono ?_; clear F2; rintro e w' ⟨rfl, rfl⟩))
    all_goals (go_wp2_with fail; go_meet)
    all_goals (refine ⟨_, _, rfl, rfl, fun j => by simp [go_sem], fun j => by simp [go_sem], ?_⟩)
    all_goals (repeat (first | exact GrowQ.refl _ | refine GrowQ.alloc ?_ _ | refine GrowQ.drew ?_))
  case rest =>
    obtain ⟨b, c, rfl, rfl, h1, h2, hg⟩ := hcut
    have hcon := fun (n : Nat) => Calls.mono (R' := fun e w' => e = .returned (.int .i64 (lexI [o, s, v, t, x, y, d, bc] [o', s', v', t', x', y', d', bc'])) ∧ w' = wc.drewN n) (slCompare_any [o, s, v, t, x, y, d, bc] [o', s', v', t', x', y', d', bc'] b 0 8 c 0 8 8 (wc.drewN n) rfl rfl (by decide)
      (by intro i hi; show wc.cell? _ = _; rw [Nat.zero_add, h1]; rcases (by omega : i = 0 ∨ i = 1 ∨ i = 2 ∨ i = 3 ∨ i = 4 ∨ i = 5 ∨ i = 6 ∨ i = 7) with rfl | rfl | rfl | rfl | rfl | rfl | rfl | rfl <;> rfl)
      (by intro i hi; show wc.cell? _ = _; rw [Nat.zero_add, h2]; rcases (by omega : i = 0 ∨ i = 1 ∨ i = 2 ∨ i = 3 ∨ i = 4 ∨ i = 5 ∨ i = 6 ∨ i = 7) with rfl | rfl | rfl | rfl | rfl | rfl | rfl | rfl <;> rfl)) (fun _ _ h => ⟨h.1, h.2.symm⟩)
    obtain ⟨res, hres⟩ : ∃ res, lexI [o, s, v, t, x, y, d, bc] [o', s', v', t', x', y', d', bc'] = res := ⟨_, rfl⟩
    rw [hres] at hcon
    have HRES := Lib.hid hres
    clear h1 h2 hres
    go_wp2_with fail
    go_quiet ((go_at_call 93; exact Calls.quiet_of_same (hcon _)))
    go_wp2
    go_ret
    exact ⟨retI HRES.out.symm, hg.drewN _⟩
end Go.Proofs.YtfoenojohemccaaGreatDoor
