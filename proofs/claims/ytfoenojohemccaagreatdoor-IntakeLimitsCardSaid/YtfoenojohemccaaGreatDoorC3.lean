/- Contract of intake.order: how exchanges are compared. -/
import Derived.Test.YtfoenojohemccaaGreatDoorC2
import Derived.StillTailTactics
namespace Go.Proofs.YtfoenojohemccaaGreatDoor
open Go.RowKit Go.Sort
theorem still_tail {P : Program} {id : Nat} {Q : Exit → Act → World → Prop} {a : Act} {w : World} {l : List Oper} (n : Nat) (hm : P.follows .mixedOrders = true) (hB : Region.lexTailB .any l.toArray n = true)
    (W : World) (hW : w.drew = W) (h : wpStill P l.toArray W (fun a' => wpList P l.toArray Q (l.drop n) a' W) (l.take n) a) : (Code.region id l.toArray true).wp P Q a w := by
  subst hW
  exact wp_region_still_tail n hm hB h
def xflds (r : Exc) : List Int := [r.f, r.t, r.s, r.r, r.l]
def xcmps (a b : Exc) : List Int := [cmpI a.f b.f, cmpI a.t b.t, cmpI a.s b.s, cmpI a.r b.r, cmpI a.l b.l]
set_option maxRecDepth 100000 in
set_option maxHeartbeats 4000000 in
theorem order_any (f t s r l f' t' s' r' l' : Int) (w : World) :
    Calls Tryz.prog 58 #[.agg #[.int .i64 f, .int .i64 t, .int .i64 s, .int .i64 r, .int .i64 l], .agg #[.int .i64 f', .int .i64 t', .int .i64 s', .int .i64 r', .int .i64 l']] w fun e w' =>
      e = .returned (.int .i64 (orI (xcmps ⟨f, t, s, r, l⟩ ⟨f', t', s', r', l'⟩))) ∧ GrowQ w w' := by
  obtain ⟨res, hres⟩ : ∃ res, orI (xcmps ⟨f, t, s, r, l⟩ ⟨f', t', s', r', l'⟩) = res := ⟨_, rfl⟩
  rw [hres]
  have hor : ∀ (b : Nat) (W : World), b = W.heap.size → Calls Tryz.prog 97 #[.slice (some ⟨b, 0, none⟩) 5 5] (W.alloc (.cells #[.int .i64 (cmpI f f'), .int .i64 (cmpI t t'), .int .i64 (cmpI s s'), .int .i64 (cmpI r r'), .int .i64 (cmpI l l')] 3)) fun e w' => e = .returned (.int .i64 res) ∧ (W.alloc (.cells #[.int .i64 (cmpI f f'), .int .i64 (cmpI t t'), .int .i64 (cmpI s s'), .int .i64 (cmpI r r'), .int .i64 (cmpI l l')] 3)) = w' := by
    intro b W hb
    subst hb
    have := orInt_any (xcmps ⟨f, t, s, r, l⟩ ⟨f', t', s', r', l'⟩) 5 W.heap.size 0 5 (W.alloc (.cells #[.int .i64 (cmpI f f'), .int .i64 (cmpI t t'), .int .i64 (cmpI s s'), .int .i64 (cmpI r r'), .int .i64 (cmpI l l')] 3)) rfl (by simp [xcmps]) (by intro i hi; simp [xcmps] at hi; rcases (by omega : i = 0 ∨ i = 1 ∨ i = 2 ∨ i = 3 ∨ i = 4) with rfl | rfl | rfl | rfl | rfl <;> simp [go_sem, xcmps])
    rw [hres] at this
    exact this
  have HOR := Lib.hid hor
  clear hor hres
  obtain ⟨W1, hW1⟩ : ∃ W1, ((w.alloc (.cells #[.int .i64 f, .int .i64 t, .int .i64 s, .int .i64 r, .int .i64 l] 36)).alloc (.cells #[.int .i64 f', .int .i64 t', .int .i64 s', .int .i64 r', .int .i64 l'] 36)).drew = W1 := ⟨_, rfl⟩
  have hg1 : GrowQ w W1 := by rw [← hW1]; exact (((GrowQ.refl w).alloc _).alloc _).drew
  have a0 : W1.cell? ⟨w.heap.size, 0, none⟩ = some (.int .i64 f) := by rw [← hW1]; simp [go_sem]
  have a1 : W1.cell? ⟨w.heap.size, 1, none⟩ = some (.int .i64 t) := by rw [← hW1]; simp [go_sem]
  have a2 : W1.cell? ⟨w.heap.size, 2, none⟩ = some (.int .i64 s) := by rw [← hW1]; simp [go_sem]
  have a3 : W1.cell? ⟨w.heap.size, 3, none⟩ = some (.int .i64 r) := by rw [← hW1]; simp [go_sem]
  have a4 : W1.cell? ⟨w.heap.size, 4, none⟩ = some (.int .i64 l) := by rw [← hW1]; simp [go_sem]
  have b0 : W1.cell? ⟨w.heap.size + 1, 0, none⟩ = some (.int .i64 f') := by rw [← hW1]; simp [go_sem]
  have b1 : W1.cell? ⟨w.heap.size + 1, 1, none⟩ = some (.int .i64 t') := by rw [← hW1]; simp [go_sem]
  have b2 : W1.cell? ⟨w.heap.size + 1, 2, none⟩ = some (.int .i64 s') := by rw [← hW1]; simp [go_sem]
  have b3 : W1.cell? ⟨w.heap.size + 1, 3, none⟩ = some (.int .i64 r') := by rw [← hW1]; simp [go_sem]
  have b4 : W1.cell? ⟨w.heap.size + 1, 4, none⟩ = some (.int .i64 l') := by rw [← hW1]; simp [go_sem]
  have HW1 := Lib.hid hW1
  clear hW1
  go_enter Tryz.func58, Tryz.ntmps58
  go_wp2_with fail
  refine still_tail 25 (by kernel_rfl) (by kernel_rfl) W1 HW1.out ?_
  simp only [List.take_succ_cons, List.take_zero, List.drop_succ_cons, List.drop_zero]
  repeat still_step
  still_call (((cmpInt_any _ _ _).mono fun _ _ h => ⟨h.1, h.2.symm⟩))
  repeat still_step
  still_call (((cmpInt_any _ _ _).mono fun _ _ h => ⟨h.1, h.2.symm⟩))
  repeat still_step
  still_call (((cmpInt_any _ _ _).mono fun _ _ h => ⟨h.1, h.2.symm⟩))
  repeat still_step
  still_call (((cmpInt_any _ _ _).mono fun _ _ h => ⟨h.1, h.2.symm⟩))
  repeat still_step
  still_call (((cmpInt_any _ _ _).mono fun _ _ h => ⟨h.1, h.2.symm⟩))
  refine wpStill_nil ?_
  go_wp2_with fail
  refine (HOR.out _ _ (by simp)).mono ?_
  rintro e w' ⟨rfl, rfl⟩
  go_wp2_with fail
  go_ret
  exact ⟨rfl, hg1.alloc _⟩
end Go.Proofs.YtfoenojohemccaaGreatDoor
