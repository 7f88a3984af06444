/- clock.Devices, Chains, Sum and Offset where there are no exchanges. -/
import Derived.Test.YtfoenojohemccaaGreatDoorQN
import Derived.Test.YtfoenojohemccaaGreatDoorQU
import Derived.Test.YtfoenojohemccaaGreatDoorQK
namespace Go.Proofs.YtfoenojohemccaaGreatDoor
open Go.RowKit Go.Sort Go.Proofs

set_option maxHeartbeats 1000000 in
theorem sorted_none (b : Nat) (w : World) (Bm : Nat) (hBm : Bm < w.heap.size) (hm : w.cell? ⟨Bm, 0, none⟩ = some (.map (some b))) (hown : MapIs intV boolV w b []) :
    Calls Tryz.prog 173 #[.func (.func 197) #[] #[.pointer (some ⟨Bm, 0, none⟩)]] w fun e w' => e = .returned (.slice none 0 0) ∧ Below w.heap.size w w' := by
  have hc := int_collectKeys b [] w (by decide) Bm hBm hm hown
  have hs := fun W => Tryz.slices_Sort_int_none none 0 W
  have HC := Lib.hid hc
  clear hm hown hc
  go_enter Tryz.func173, Tryz.ntmps173
  go_wp2_with fail
  refine HC.out.mono ?_
  rintro e w1 ⟨v, ss, rfl, hp, ho, hnil, hb⟩
  have hss : ss = [] := by simpa using hp
  obtain rfl := hnil.2 hss
  clear ho hnil hp
  go_wp2_with fail
  refine (hs _).mono ?_
  rintro e w2 ⟨rfl, rfl⟩
  go_wp2_with fail
  go_ret
  exact ⟨rfl, hb⟩

set_option maxHeartbeats 1000000 in
theorem devices_none (a : Option Addr) (cap : Nat) (w : World) :
    Calls Tryz.prog 136 #[.slice a 0 cap] w fun e w' => e = .returned (.slice none 0 0) ∧ Below w.heap.size w w' := by
  have k1 := run_makeMap w (P := Tryz.prog) Tryz.underlying108
  have hm0 := (MapIs.made intV boolV w).alloc (.cells #[.map (some w.heap.size)] 108)
  have hk := fun W => int_keys (some w.heap.size) W
  have hs := sorted_none w.heap.size ((w.alloc (.map #[] 0)).alloc (.cells #[.map (some w.heap.size)] 108)) (w.heap.size + 1) (by simp) (by simp [go_sem]) hm0
  have HS := Lib.hid hs
  clear hs hm0
  go_enter Tryz.func136, Tryz.ntmps136
  go_wp2_with fail
  go_loopw [5, 9] (fun _ i wr => i = .int .i64 0 ∧ wr = w.alloc (.map #[] 0)) (fun _ _ _ => 0)
  case atStart => exact ⟨rfl, rfl⟩
  case round =>
    obtain ⟨rfl, rfl⟩ := hrel
    clear k1
    go_wp2_with fail
    refine (hk _).mono ?_
    rintro e w1 ⟨rfl, rfl⟩
    have hsz : (w.alloc (.map #[] 0)).heap.size = w.heap.size + 1 := by simp
    rw [hsz]
    clear hk
    go_wp2_with fail
    refine HS.out.mono ?_
    rintro e w2 ⟨rfl, hb⟩
    go_wp2_with fail
    go_ret
    exact ⟨rfl, (((Below.refl _ _).alloc (Nat.le_refl _) _).alloc (by simp) _).trans (hb.mono (by simp; omega))⟩

set_option maxHeartbeats 1000000 in
theorem chains_none (a : Option Addr) (cap : Nat) (d : Int) (h0 : 0 ≤ d) (h1 : d ≤ 1073741824) (w : World) :
    Calls Tryz.prog 107 #[.slice a 0 cap, .int .i64 d] w fun e w' => e = .returned (.tuple #[.slice none 0 0, .slice none 0 0, .int .i64 0]) ∧ Below w.heap.size w w' := by
  have hd := devices_none a cap w
  have hb := fun W => Tryz.slices_BinarySearch_int_empty none 0 d W
  go_enter Tryz.func107, Tryz.ntmps107
  go_wp2_with fail
  refine hd.mono ?_
  rintro e w1 ⟨rfl, hb1⟩
  go_wp2_with fail
  refine (hb _).mono ?_
  rintro e w2 ⟨rfl, rfl⟩
  go_wp2_with fail
  all_goals
    go_ret3
    exact ⟨rfl, hb1⟩

set_option maxHeartbeats 1000000 in
theorem sum_none (a : Option Addr) (cap : Nat) (f t : Int) (w : World) :
    Calls Tryz.prog 108 #[.slice a 0 cap, .slice none 0 0, .int .i64 f, .int .i64 t] w fun e w' => (∃ x : Int, e = .returned (.tuple #[.int .i64 0, .int .i64 x])) ∧ w' = w := by
  go_enter Tryz.func108, Tryz.ntmps108
  go_wp2_with fail
  go_loop [8, 10, 16] (fun u v i => u = .int .i64 0 ∧ v = .int .i64 f ∧ i = .int .i64 0) (fun _ _ _ => 0)
  case atStart => exact ⟨rfl, rfl, rfl⟩
  case round =>
    obtain ⟨rfl, rfl, rfl⟩ := hrel
    go_wp2_with fail
    all_goals
      go_ret2
      exact ⟨⟨_, rfl⟩, rfl⟩

set_option maxHeartbeats 1000000 in
theorem offset_none (a : Option Addr) (cap : Nat) (d : Int) (h0 : 0 ≤ d) (h1 : d ≤ 1073741824) (w : World) :
    Calls Tryz.prog 68 #[.slice a 0 cap, .int .i64 d] w fun e w' => e = .returned (.tuple #[.agg #[.int .i64 0, .int .i64 0], .int .i64 0]) ∧ Below w.heap.size w w' := by
  have hch := fun W => chains_none a cap d h0 h1 W
  have hs1 := fun W => sum_none a cap 0 d W
  have hs2 := fun W => sum_none a cap d 0 W
  clear h0 h1
  go_enter Tryz.func68, Tryz.ntmps68
  go_wp2_with fail
  refine (hch _).mono ?_
  rintro e w1 ⟨rfl, hb⟩
  have c0 := blk_at hb (by simp) 0
  have c1 := blk_at hb (by simp) 1
  simp only [List.getElem?_toArray, List.getElem?_cons_zero, List.getElem?_cons_succ] at c0 c1
  obtain ⟨c0, f0⟩ := c0
  obtain ⟨c1, f1⟩ := c1
  have HB := Lib.hid hb
  clear hb
  go_wp2_with fail
  refine (hs1 _).mono ?_
  rintro e w2 ⟨⟨x, rfl⟩, rfl⟩
  go_wp2_with fail
  refine (hs2 _).mono ?_
  rintro e w3 ⟨⟨y, rfl⟩, rfl⟩
  go_wp2_with fail
  refine bodyPost_ret (v := .tuple #[.agg #[.int .i64 0, .int .i64 0], .int .i64 0]) (by simp [results, Tryz.results68, go_sem, c0, c1]) rfl ⟨rfl, ?_⟩
  exact (((Below.refl _ _).alloc (Nat.le_refl _) _).trans (HB.out.mono (by simp))).setCell (Nat.le_refl _) _ |>.setCell (Nat.le_refl _) _
end Go.Proofs.YtfoenojohemccaaGreatDoor
