/- slices.Clone, slices.Compact at reports without neighbours that are equal, report.Set of such, report.Counting. -/
import Derived.Test.YtfoenojohemccaaGreatDoorN1
import Derived.Test.YtfoenojohemccaaGreatDoorQM
import Derived.IntWalk
namespace Go.Proofs.YtfoenojohemccaaGreatDoor
open Go.RowKit Go.Sort Go.Proofs

theorem oneCellR (x : Rep) : ∀ u ∈ x.cells, u.oneCell' = true := by
  intro u hu
  simp [Rep.cells] at hu
  rcases hu with rfl | rfl | rfl | rfl | rfl | rfl | rfl | rfl <;> rfl
theorem oneCellRs (l : List Rep) : ∀ u ∈ l.flatMap Rep.cells, u.oneCell' = true := by
  intro u hu
  obtain ⟨x, _, hx⟩ := List.mem_flatMap.1 hu
  exact oneCellR x u hx

theorem app1R (W : World) (v : Value) (done : List Rep) (x : Rep) (base : Nat) (h : W.ownsRow base 28 8 v done.length (done.flatMap Rep.cells)) (hN : done.length ≤ 4294967296) (hb : base ≤ W.heap.size) :
    ∃ v' w', (Builtin.append_ #[26, 26] 26 #[v, .slice (some ⟨W.heap.size, 0, none⟩) 1 1]).run Tryz.prog (W.alloc (.cells x.cells.toArray 28)) = .ok v' w' ∧ w'.ownsRow base 28 8 v' (done ++ [x]).length ((done ++ [x]).flatMap Rep.cells) ∧ (W.alloc (.cells x.cells.toArray 28)).grownBy w' v.ownBlock := by
  obtain ⟨i0, hi, hz0, hz1, hz2⟩ := info_parts Tryz.info28
  obtain ⟨v', w', h1, h2, h3, _⟩ := run_append_own (P := Tryz.prog) (W.alloc (.cells x.cells.toArray 28)) base 26 26 28 i0 _ 8 64 Tryz.underlying26 hi hz0 hz1 hz2 rfl (by decide) v done.length _ (h.alloc _) ⟨W.heap.size, 0, none⟩ 1 1 x.cells rfl (rep_new W _ 28) (oneCellR x) (by simp only [maxLen]; omega) (by omega) (by simp; omega)
  exact ⟨v', w', h1, by simpa [List.flatMap_append] using h2, h3⟩

theorem row_news {α : Type} {enc : α → List Value} {k : Nat} (h0 : ∀ x, (enc x).length = k) (hk : 0 < k) {l : List α} {ad : Addr} {w : World}
    (hcr : ∀ i (x : α), l[i]? = some x → ∃ g off, some ad = some ⟨g, off, none⟩ ∧ ∀ j, j < k → w.cell? ⟨g, off + i * k + j, none⟩ = (enc x)[j]?) :
    ∀ j u, (l.flatMap enc)[j]? = some u → w.cell? (ad.add j) = some u := by
  intro j u hu
  have hlt : j < (l.flatMap enc).length := (List.getElem?_eq_some_iff.1 hu).1
  have hl : (l.flatMap enc).length = l.length * k := by
    clear hcr hu hlt
    induction l with
    | nil => simp
    | cons x l ih => simp [List.flatMap_cons, h0, ih, Nat.add_mul, Nat.add_comm]
  rw [hl] at hlt
  have hi : j / k < l.length := (Nat.div_lt_iff_lt_mul hk).2 hlt
  have hj : j % k < k := Nat.mod_lt _ hk
  have hx : l[j / k]? = some l[j / k] := List.getElem?_eq_getElem hi
  have e : j / k * k + j % k = j := Nat.div_add_mod' j k
  obtain ⟨g, off, ha, hc⟩ := hcr _ _ hx
  have h1 := hc (j % k) hj
  have h2 := flat_at h0 l _ _ _ hx hj
  rw [e, hu] at h2
  cases ha
  rw [← h2] at h1
  rw [show (⟨g, off, none⟩ : Addr).add j = ⟨g, off + j / k * k + j % k, none⟩ from by
    rw [Nat.add_assoc, e]
    simp only [Addr.add]
    split <;> simp_all]
  exact h1

set_option maxHeartbeats 1000000 in
set_option maxRecDepth 100000 in
theorem clone_any (l : List Rep) (v : Value) (w : World) (hr : RowOf Rep.cells 8 w v l) (hN : l.length ≤ 4294967296) :
    Calls Tryz.prog 131 #[v] w fun e w' => ∃ v', e = .returned v' ∧ w'.ownsRow w.heap.size 28 8 v' l.length (l.flatMap Rep.cells) ∧ Below w.heap.size w w' := by
  obtain ⟨a, cap, rfl, hcr⟩ := hr
  cases a with
  | none =>
    have hl : l = [] := by
      cases l with
      | nil => rfl
      | cons x l => obtain ⟨g, off, h, _⟩ := hcr 0 x rfl; cases h
    subst hl
    have hq := eqlNil 0 cap w
    go_enter Tryz.func131, Tryz.ntmps131
    go_wp2_with fail
    go_ret
    exact ⟨_, rfl, World.ownsRow_nil _ _ _ _, Below.refl _ _⟩
  | some ad =>
    obtain ⟨i0, hi, hz0, hz1, hz2⟩ := info_parts Tryz.info28
    have hn0 := row_news Rep.cells_len (by decide) hcr
    have hown : (w.alloc (.cells #[] 28)).ownsRow w.heap.size 28 8 (.slice (some ⟨w.heap.size, 0, none⟩) 0 0) 0 [] := ⟨rfl, .inr ⟨w.heap.size, 0, #[], rfl, Nat.le_refl _, World.alloc_heap_new w _, Nat.le_refl _, by simp [maxLen], rfl, rfl⟩⟩
    have hn1 : ∀ j u, (l.flatMap Rep.cells)[j]? = some u → (w.alloc (.cells #[] 28)).cell? (ad.add j) = some u := fun j u hu => ((Mod.refl (fun _ => False) w).alloc _).cell (hn0 j u hu) (fun e => e)
    have hq := eqlSome ad l.length cap w
    have hone := oneCellRs l
    have hfl := flat_len Rep.cells_len l
    have HH := Lib.hid (And.intro hown (And.intro hn1 (And.intro hone hfl)))
    clear hcr hn0 hn1 hown hone hfl
    go_enter Tryz.func131, Tryz.ntmps131
    go_wp2_with (at_builtin; refine wpList_append_own _ rfl _ _ 26 rfl w.heap.size 28 i0 (Rep.val ⟨0, 0, 0, 0, 0, 0, 0, false⟩) 8 64 Tryz.underlying26 hi hz0 hz1 hz2 rfl (by decide) _ 0 [] rfl HH.out.1 ad l.length cap (l.flatMap Rep.cells) rfl HH.out.2.2.2 HH.out.2.1 HH.out.2.2.1 (by simp only [maxLen]; omega) (by omega) (by simp) ?_; intro v' w3 hown' hgrow _)
    go_ret
    exact ⟨_, rfl, by simpa using hown', ((Below.refl _ _).alloc (Nat.le_refl _) _).grown hgrow (by simp) (fun k e => by cases e; exact Nat.le_refl _)⟩

theorem rep_ne (x1 x2 x3 x4 x5 x6 x7 : Int) (x8 : Bool) (u1 u2 u3 u4 u5 u6 u7 : Int) (u8 : Bool) (h : (⟨x1, x2, x3, x4, x5, x6, x7, x8⟩ : Rep) ≠ ⟨u1, u2, u3, u4, u5, u6, u7, u8⟩) :
    (x1 ≠ u1) ∨ (x1 = u1 ∧ x2 ≠ u2) ∨ (x1 = u1 ∧ x2 = u2 ∧ x3 ≠ u3) ∨ (x1 = u1 ∧ x2 = u2 ∧ x3 = u3 ∧ x4 ≠ u4) ∨ (x1 = u1 ∧ x2 = u2 ∧ x3 = u3 ∧ x4 = u4 ∧ x5 ≠ u5) ∨ (x1 = u1 ∧ x2 = u2 ∧ x3 = u3 ∧ x4 = u4 ∧ x5 = u5 ∧ x6 ≠ u6) ∨ (x1 = u1 ∧ x2 = u2 ∧ x3 = u3 ∧ x4 = u4 ∧ x5 = u5 ∧ x6 = u6 ∧ x7 ≠ u7) ∨ (x1 = u1 ∧ x2 = u2 ∧ x3 = u3 ∧ x4 = u4 ∧ x5 = u5 ∧ x6 = u6 ∧ x7 = u7 ∧ x8 ≠ u8) := by
  simp only [ne_eq, Rep.mk.injEq] at h
  by_cases h1 : x1 = u1
  case neg => simp [h1]
  by_cases h2 : x2 = u2
  case neg => simp [h1, h2]
  by_cases h3 : x3 = u3
  case neg => simp [h1, h2, h3]
  by_cases h4 : x4 = u4
  case neg => simp [h1, h2, h3, h4]
  by_cases h5 : x5 = u5
  case neg => simp [h1, h2, h3, h4, h5]
  by_cases h6 : x6 = u6
  case neg => simp [h1, h2, h3, h4, h5, h6]
  by_cases h7 : x7 = u7
  case neg => simp [h1, h2, h3, h4, h5, h6, h7]
  simp_all

set_option maxHeartbeats 1000000 in
set_option maxRecDepth 100000 in
/-- slices.Compact where no neighbours are equal -/
theorem compact_id (l : List Rep) (v : Value) (w : World) (hr : RowOf Rep.cells 8 w v l) (hN : l.length ≤ 4294967296) (hch : ∀ k (h : k + 1 < l.length), l[k + 1] ≠ l[k]) :
    Calls Tryz.prog 132 #[v] w fun e w' => e = .returned v ∧ GrowQ w w' := by
  obtain ⟨a, cap, rfl, hcr⟩ := hr
  go_enter Tryz.func132, Tryz.ntmps132
  go_wp2_with fail
  · go_ret
    exact ⟨rfl, GrowQ.refl _⟩
  go_loopw [3] (fun i wr => ∃ k : Nat, 1 ≤ k ∧ k ≤ l.length ∧ i = .int .i64 k ∧ GrowQ w wr) (fun i _ => l.length - (intOf i).toNat)
  case atStart => exact ⟨1, Nat.le_refl _, by omega, rfl, GrowQ.refl _⟩
  case round =>
    obtain ⟨k, hk1, hk, rfl, hg⟩ := hrel
    by_cases hlr : k < l.length
    · obtain ⟨g, off, rfl, hcx, hglt⟩ := row_cells hcr hg.below hlr
      obtain ⟨k0, rfl⟩ : ∃ k0, k = k0 + 1 := ⟨k - 1, by omega⟩
      obtain ⟨g', off', he, hcy, _⟩ := row_cells hcr hg.below (show k0 < l.length by omega)
      cases he
      have hne := hch k0 hlr
      obtain ⟨y, hy⟩ : ∃ y, y = l[k0 + 1] := ⟨_, rfl⟩
      obtain ⟨z, hz⟩ : ∃ z, z = l[k0] := ⟨_, rfl⟩
      rw [← hy] at hcx hne
      rw [← hz] at hcy hne
      have q0 := hcx 0 (by decide)
      have q1 := hcx 1 (by decide)
      have q2 := hcx 2 (by decide)
      have q3 := hcx 3 (by decide)
      have q4 := hcx 4 (by decide)
      have q5 := hcx 5 (by decide)
      have q6 := hcx 6 (by decide)
      have q7 := hcx 7 (by decide)
      have r0 := hcy 0 (by decide)
      have r1 := hcy 1 (by decide)
      have r2 := hcy 2 (by decide)
      have r3 := hcy 3 (by decide)
      have r4 := hcy 4 (by decide)
      have r5 := hcy 5 (by decide)
      have r6 := hcy 6 (by decide)
      have r7 := hcy 7 (by decide)
      have HG := Lib.hid hg
      clear hcr hcx hcy hy hz hch hg
      obtain ⟨x1, x2, x3, x4, x5, x6, x7, x8⟩ := y
      obtain ⟨u1, u2, u3, u4, u5, u6, u7, u8⟩ := z
      simp only [Rep.cells, Nat.add_zero, List.getElem?_cons_zero, List.getElem?_cons_succ] at q0 q1 q2 q3 q4 q5 q6 q7 r0 r1 r2 r3 r4 r5 r6 r7
      have hz1 : (0 : Int) ≤ (k0 : Int) + 1 := by omega
      have hz2 : ((k0 : Int) + 1).toNat = k0 + 1 := by omega
      have hz4 : k0 < l.length := by omega
      have hz3 : IntKind.i64.wrap (k0 : Int) = k0 := IntWalk.i64_in _ (by omega)
      rcases rep_ne _ _ _ _ _ _ _ _ _ _ _ _ _ _ _ _ hne with hx1 | ⟨rfl, hx2⟩ | ⟨rfl, rfl, hx3⟩ | ⟨rfl, rfl, rfl, hx4⟩ | ⟨rfl, rfl, rfl, rfl, hx5⟩ | ⟨rfl, rfl, rfl, rfl, rfl, hx6⟩ | ⟨rfl, rfl, rfl, rfl, rfl, rfl, hx7⟩ | ⟨rfl, rfl, rfl, rfl, rfl, rfl, rfl, hx8⟩
      all_goals
        clear hne
        go_wp2_with fail
        go_region
        go_wp2_with fail
        exact ⟨⟨k0 + 2, by omega, by omega, by simp; omega, HG.out.drew⟩, by simp [intOf]; omega⟩
    · obtain rfl : k = l.length := by omega
      go_wp2_with fail
      go_ret
      exact ⟨rfl, hg⟩
end Go.Proofs.YtfoenojohemccaaGreatDoor
