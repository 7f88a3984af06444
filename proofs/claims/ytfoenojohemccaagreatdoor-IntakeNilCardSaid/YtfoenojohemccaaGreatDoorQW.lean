/- The methods of a nil intake. | Watermark of a nil intake. -/
import Derived.Test.YtfoenojohemccaaGreatDoorKW
namespace Go.Proofs.YtfoenojohemccaaGreatDoor
open Go.RowKit Go.Sort Go.Proofs

theorem merge_nil (y : Option Addr) (w : World) : Calls Tryz.prog 43 #[.pointer none, .pointer y] w fun e w' => e = .returned (.tuple #[.int .i64 0, .int .i64 1]) ∧ w = w' := by
  go_enter Tryz.func43, Tryz.ntmps43
  go_wp2_with fail
  go_ret2
  exact ⟨rfl, rfl⟩
theorem clone_nil (w : World) : Calls Tryz.prog 38 #[.pointer none] w fun e w' => e = .returned (.pointer none) ∧ w = w' := by
  go_enter Tryz.func38, Tryz.ntmps38
  go_wp2_with fail
  go_ret
  exact ⟨rfl, rfl⟩
theorem equal_nil_nil (w : World) : Calls Tryz.prog 42 #[.pointer none, .pointer none] w fun e w' => e = .returned (.bool true) ∧ w = w' := by
  go_enter Tryz.func42, Tryz.ntmps42
  go_wp2_with fail
  go_ret
  exact ⟨rfl, rfl⟩
set_option maxRecDepth 100000 in
theorem equal_nil_some (a : Addr) (w : World) : Calls Tryz.prog 42 #[.pointer none, .pointer (some a)] w fun e w' => e = .returned (.bool false) ∧ w = w' := by
  have he : ∀ W : World, (binOp .eql 24 (.pointer none) (.pointer (some a))).run Tryz.prog W = .ok (.bool false) W := fun _ => rfl
  go_enter Tryz.func42, Tryz.ntmps42
  go_wp2_with fail
  go_ret
  exact ⟨rfl, rfl⟩
set_option maxRecDepth 100000 in
theorem equal_some_nil (a : Addr) (w : World) : Calls Tryz.prog 42 #[.pointer (some a), .pointer none] w fun e w' => e = .returned (.bool false) ∧ w = w' := by
  go_enter Tryz.func42, Tryz.ntmps42
  go_wp2_with fail
  go_ret
  exact ⟨rfl, rfl⟩
theorem late_nil (x1 x2 x3 x4 x5 x6 x7 : Int) (x8 : Bool) (w : World) : Calls Tryz.prog 33 #[.pointer none, .agg #[.int .i64 x1, .int .i64 x2, .int .i64 x3, .int .i64 x4, .int .i64 x5, .int .i64 x6, .int .i64 x7, .bool x8]] w fun e w' => e = .returned (.tuple #[.bool false, .int .i64 1]) ∧ Below w.heap.size w w' := by
  go_enter Tryz.func33, Tryz.ntmps33
  go_wp2_with fail
  go_ret2
  exact ⟨rfl, (Below.refl _ _).alloc (Nat.le_refl _) _⟩
set_option maxHeartbeats 1000000 in
theorem without_nil (w : World) : Calls Tryz.prog 44 #[.pointer none, .pointer none] w fun e w' => e = .returned (.agg #[.slice none 0 0, .slice none 0 0]) ∧ Below w.heap.size w w' := by
  have h1 := fun W => reports_nil W
  have h2 := fun W => exchanges_nil W
  go_enter Tryz.func44, Tryz.ntmps44
  go_wp2_with fail
  refine (h1 _).mono ?_
  rintro e w1 ⟨rfl, rfl⟩
  go_wp2_with fail
  refine (h2 _).mono ?_
  rintro e w2 ⟨rfl, rfl⟩
  go_wp2_with fail
  refine bodyPost_ret (v := .agg #[.slice none 0 0, .slice none 0 0]) (by simp [results, Tryz.results44, go_sem]) rfl ⟨rfl, ?_⟩
  exact (((Below.refl _ _).alloc (Nat.le_refl _) _).alloc (by simp) _).alloc (by simp; omega) _
theorem complete_nil' (o : Int) (w : World) : Calls Tryz.prog 21 #[.pointer none, .int .i64 o] w fun e w' => e = .returned (.tuple #[.int .i64 0, .bool false]) ∧ Below w.heap.size w w' :=
  (complete_nil o w).mono fun e w' ⟨n, h1, _, h3, _, h5⟩ => by
    have : n = 0 := by
      rcases Nat.eq_zero_or_pos n with h | h
      · exact h
      · have := h1 0 h; simp [seqsL] at this
    exact ⟨h3 this, h5⟩
theorem cntL_nil : cntL [] = [] := by unfold cntL; exact List.mergeSort_nil
theorem ofL_nil (o : Int) : ofL [] o = [] := by unfold ofL; rw [cntL_nil]; rfl
theorem times_nil (o : Int) (w : World) : Calls Tryz.prog 66 #[.pointer none, .int .i64 o] w fun e w' => TimesPost [] [] w e w' := by
  have h := times_gen (.pointer none) o [] [] kcor w (by decide)
    ((exchanges_nil w).mono fun e w' h => ⟨_, h.1, ⟨none, 0, rfl, fun i x hx => by simp at hx⟩, by rw [← h.2]; exact Below.refl _ _⟩)
    (fun W _ => (reports_nil W).mono fun e w' h => ⟨_, h.1, ⟨none, 0, rfl, fun i x hx => by simp at hx⟩, by rw [← h.2]; exact Below.refl _ _⟩)
    (by rw [ofL_nil]; intro r hr; simp at hr) (by rw [ofL_nil]; intro r hr; simp at hr) (by rw [ofL_nil]; decide) (by rw [ofL_nil]; decide)
  rw [ofL_nil] at h
  exact h
theorem own_slice {w : World} {B : Nat} {e : TypeId} {k n : Nat} {v : Value} {xs : List Value} (h : w.ownsRow B e k v n xs) : ∃ a cap, v = .slice a n cap := by
  rcases h.2 with ⟨rfl, rfl⟩ | ⟨g, cap, cur, rfl, _⟩
  · exact ⟨none, 0, rfl⟩
  · exact ⟨_, _, rfl⟩
theorem of_nil (o : Int) (w : World) : Calls Tryz.prog 30 #[.pointer none, .int .i64 o] w fun e w' => (∃ a cap, e = .returned (.slice a 0 cap)) ∧ Below w.heap.size w w' :=
  (of_gen _ o _ _ w (times_nil o w)).mono fun e w' ⟨v, lt, he, h1, _, h3, h4⟩ => by
    obtain rfl := List.perm_nil.1 h1
    obtain ⟨a, c, rfl⟩ := own_slice h3
    exact ⟨⟨a, c, he⟩, h4⟩
theorem untimed_nil (o : Int) (w : World) : Calls Tryz.prog 32 #[.pointer none, .int .i64 o] w fun e w' => (∃ a cap, e = .returned (.slice a 0 cap)) ∧ Below w.heap.size w w' :=
  (untimed_gen _ o _ _ w (times_nil o w)).mono fun e w' ⟨v, he, h3, h4⟩ => by
    obtain ⟨a, c, rfl⟩ := own_slice h3
    exact ⟨⟨a, c, he⟩, h4⟩
theorem pending_nil (o : Int) (w : World) : Calls Tryz.prog 24 #[.pointer none, .int .i64 o] w fun e w' => (∃ a cap, e = .returned (.slice a 0 cap)) ∧ Below w.heap.size w w' :=
  (pending_gen _ o [] [] w (by decide) (complete_nil o w) (fun W _ => of_gen _ o _ _ W (times_nil o W))).mono fun e w' ⟨n, v, lt, _, _, he, h1, _, h3, h4⟩ => by
    obtain rfl := List.perm_nil.1 h1
    obtain ⟨a, c, rfl⟩ := own_slice h3
    exact ⟨⟨a, c, he⟩, h4⟩
theorem frontier_nil (o : Int) (w : World) : Calls Tryz.prog 39 #[.pointer none, .int .i64 o] w fun e w' => e = .returned (.tuple #[.agg #[.bool false, .string { data := #[] }, .bool false, .string { data := #[] }], .bool false]) ∧ Below w.heap.size w w' :=
  (frontier_gen _ o [] [] w (by decide) (fun W _ => complete_nil o W) (fun W _ => of_gen _ o _ _ W (times_nil o W))).mono fun e w' ⟨n, h1, _, h3, h5⟩ => by
    have h0 : n = 0 := by
      rcases Nat.eq_zero_or_pos n with h | h
      · exact h
      · have := h1 0 h; simp [seqsL] at this
    rcases h3 with ⟨_, he⟩ | ⟨h, _⟩
    · exact ⟨he, h5⟩
    · exact absurd h0 h
set_option maxHeartbeats 1000000 in
theorem objects_none (w : World) : Calls Tryz.prog 20 #[.slice none 0 0] w fun e w' => e = .returned (.slice none 0 0) ∧ Below w.heap.size w w' := by
  have h := counting_any [] (.slice none 0 0) w ⟨none, 0, rfl, fun i x hx => by simp at hx⟩ (by decide)
  have h2 := fun W => Tryz.slices_Compact_int_empty none 0 W
  have H := Lib.hid h
  clear h
  go_enter Tryz.func20, Tryz.ntmps20
  go_wp2_with fail
  refine H.out.mono ?_
  rintro e w1 ⟨v, rfl, ho, hb⟩
  obtain ⟨a, c, rfl⟩ := own_slice ho
  rw [cntL_nil, List.length_nil]
  have HB := Lib.hid hb
  clear ho hb H
  go_wp2_with fail
  go_loop [3, 9] (fun s i => s = .slice none 0 0 ∧ i = .int .i64 0) (fun _ _ => 0)
  case atStart => exact ⟨rfl, rfl⟩
  case round =>
    obtain ⟨rfl, rfl⟩ := hrel
    go_wp2_with fail
    refine (h2 _).mono ?_
    rintro e w2 ⟨rfl, rfl⟩
    go_wp2_with fail
    go_ret
    exact ⟨rfl, HB.out⟩
theorem objects_nil (w : World) : Calls Tryz.prog 45 #[.pointer none] w fun e w' => e = .returned (.slice none 0 0) ∧ Below w.heap.size w w' := by
  have h1 := fun W => reports_nil W
  have h2 := fun W => objects_none W
  go_enter Tryz.func45, Tryz.ntmps45
  go_wp2_with fail
  refine (h1 _).mono ?_
  rintro e w1 ⟨rfl, rfl⟩
  go_wp2_with fail
  refine (h2 _).mono ?_
  rintro e w2 ⟨rfl, hb⟩
  go_wp2_with fail
  go_ret
  exact ⟨rfl, hb⟩
end Go.Proofs.YtfoenojohemccaaGreatDoor
namespace Go.Proofs.YtfoenojohemccaaGreatDoor
open Go.RowKit Go.Sort Go.Proofs

set_option maxHeartbeats 2000000 in
theorem watermark_nil (w : World) : Calls Tryz.prog 40 #[.pointer none] w fun e w' => e = .returned (.tuple #[.agg #[.bool false, .string { data := #[] }, .bool false, .string { data := #[] }], .bool false]) ∧ Below w.heap.size w w' := by
  have h1 := fun W => reports_nil W
  have k1 := run_makeMap (w.alloc (.cells #[.bool false, .string { data := #[] }, .bool false, .string { data := #[] }] 69)) (P := Tryz.prog) Tryz.underlying108
  have hm0 := MapIs.made intV boolV (w.alloc (.cells #[.bool false, .string { data := #[] }, .bool false, .string { data := #[] }] 69))
  have hm1 := hm0.alloc (.cells #[.bool false, .string { data := #[] }, .bool false, .string { data := #[] }] 69)
  have hs1 : (w.alloc (.cells #[.bool false, .string { data := #[] }, .bool false, .string { data := #[] }] 69)).heap.size = w.heap.size + 1 := by simp
  rw [hs1] at k1 hm1
  obtain ⟨w2, hrun, hrg, hg, hs⟩ := run_range (P := Tryz.prog) Tryz.underlying108 hm1
  have hsz : (((w.alloc (.cells #[.bool false, .string { data := #[] }, .bool false, .string { data := #[] }] 69)).alloc (.map #[] 0)).alloc (.cells #[.bool false, .string { data := #[] }, .bool false, .string { data := #[] }] 69)).heap.size = w.heap.size + 1 + 1 + 1 := by simp
  rw [hsz] at hrun hrg hs
  have hb0 : Below w.heap.size w (((w.alloc (.cells #[.bool false, .string { data := #[] }, .bool false, .string { data := #[] }] 69)).alloc (.map #[] 0)).alloc (.cells #[.bool false, .string { data := #[] }, .bool false, .string { data := #[] }] 69)) := (((Below.refl _ _).alloc (Nat.le_refl _) _).alloc (by simp) _).alloc (by simp; omega) _
  have hb2 : Below w.heap.size w w2 := hb0.grown hg (by simp; omega) (fun _ e => by cases e)
  have ha1 : At w2 w.heap.size #[.bool false, .string { data := #[] }, .bool false, .string { data := #[] }] := by
    have h0 := ((At.new w #[.bool false, .string { data := #[] }, .bool false, .string { data := #[] }] 69).alloc (.map #[] 0)).alloc (.cells #[.bool false, .string { data := #[] }, .bool false, .string { data := #[] }] 69)
    exact ⟨fun j => by rw [← h0.1 j]; exact World.cell?_of_block (a := ⟨w.heap.size, j, none⟩) (hg.block _ h0.2.2 (by simp)), fun j => by rw [← h0.2.1 j]; exact World.frozen?_of_block (a := ⟨w.heap.size, j, none⟩) (hg.block _ h0.2.2 (by simp)), Nat.lt_of_lt_of_le h0.2.2 hg.size⟩
  have ha2 : At w2 (w.heap.size + 1 + 1) #[.bool false, .string { data := #[] }, .bool false, .string { data := #[] }] := by
    have h0 := At.new ((w.alloc (.cells #[.bool false, .string { data := #[] }, .bool false, .string { data := #[] }] 69)).alloc (.map #[] 0)) #[.bool false, .string { data := #[] }, .bool false, .string { data := #[] }] 69
    have e : ((w.alloc (.cells #[.bool false, .string { data := #[] }, .bool false, .string { data := #[] }] 69)).alloc (.map #[] 0)).heap.size = w.heap.size + 1 + 1 := by simp
    rw [e] at h0
    exact ⟨fun j => by rw [← h0.1 j]; exact World.cell?_of_block (a := ⟨w.heap.size + 1 + 1, j, none⟩) (hg.block _ h0.2.2 (by simp)), fun j => by rw [← h0.2.1 j]; exact World.frozen?_of_block (a := ⟨w.heap.size + 1 + 1, j, none⟩) (hg.block _ h0.2.2 (by simp)), Nat.lt_of_lt_of_le h0.2.2 hg.size⟩
  have hnx : ∀ t, (Instr.next (.pointer (some ⟨w.heap.size + 1 + 1 + 1, 0, none⟩)) false t).run Tryz.prog w2 = .ok (.tuple #[.bool false]) w2 := by
    intro t
    rcases run_next (P := Tryz.prog) hrg t with ⟨_, h⟩ | ⟨x, left', w3, hp, _⟩
    · exact h
    · have := hp.length_eq; simp at this
  have HB := Lib.hid hb2
  obtain ⟨p1, f1, _⟩ := ha1
  obtain ⟨p2, f2, _⟩ := ha2
  clear hm0 hm1 hs1 hrg hg hs hsz hb0 hb2
  go_enter Tryz.func40, Tryz.ntmps40
  go_wp2_with fail
  refine (h1 _).mono ?_
  rintro e w1 ⟨rfl, rfl⟩
  go_wp2_with fail
  go_loop [16] (fun i => i = .int .i64 0) (fun _ => 0)
  case atStart => rfl
  case round =>
    subst hrel
    go_wp2_with fail
    go_loop [8] (fun b => b = .bool true) (fun _ => 0)
    case atStart => rfl
    case round =>
      subst hrel
      go_wp2_with fail
      refine bodyPost_ret (v := .tuple #[.agg #[.bool false, .string { data := #[] }, .bool false, .string { data := #[] }], .bool false]) (by simp [results, Tryz.results40, go_sem, p1]) rfl ⟨rfl, ?_⟩
      have h1 : w.heap.size ≤ w.heap.size := Nat.le_refl _
      exact (((HB.out.setCell h1 _).setCell h1 _).setCell h1 _).setCell h1 _
end Go.Proofs.YtfoenojohemccaaGreatDoor
