/- slices.insertionSortCmpFunc at reports with times. (Printed by wip/tools/gen_ins.py.) -/
import Derived.Test.YtfoenojohemccaaGreatDoorDT
import Derived.Deep.LoopGhost
import Derived.Sort.WalkA
import Derived.Sort.LotA
namespace Go.Proofs.YtfoenojohemccaaGreatDoor
open Go.RowKit Go.Sort Go.Proofs

/-- the row of an array of reports with times -/
def rowT (d : Array Tim) : List Value := d.toList.flatMap Tim.cells
abbrev HasT (W : World) (B gr cap n : Nat) (d : Array Tim) : Prop := W.ownsRow B 89 12 (.slice (some ⟨gr, 0, none⟩) n cap) n (rowT d)
theorem rowT_set (d : Array Tim) (i : Nat) (x : Tim) (hi : i < d.size) : setL (rowT d) (i * 12) x.cells = rowT (d.setIfInBounds i x) := by
  rw [rowT, flat_set Tim.cells_len _ _ _ (by simpa using hi), rowT]; simp
/-- two elements exchanged -/
theorem rowT_swap {w : World} {B gr cap n : Nat} {d : Array Tim} (h : HasT w B gr cap n d) (hn : d.size = n) (i j : Nat) (hi : i < n) (hj : j < n) :
    HasT (setC (setC w gr (i * 12) d[j]!.cells) gr (j * 12) d[i]!.cells) B gr cap n (swp d i j) ∧ w.grownBy (setC (setC w gr (i * 12) d[j]!.cells) gr (j * 12) d[i]!.cells) (some gr) := by
  have h1 := stored_chain d[j]!.cells (i * 12) h
  rw [rowT_set _ _ _ (by omega)] at h1
  have h2 := stored_chain d[i]!.cells (j * 12) h1.1
  rw [rowT_set _ _ _ (by simp; omega)] at h2
  exact ⟨h2.1, h1.2.trans h2.2⟩
theorem swp_comm (d : Array Tim) (i j : Nat) (hne : i ≠ j) : swp d i j = swp d j i := by
  rw [swp, swp, Array.setIfInBounds_comm _ _ hne]
theorem rowT_at {W : World} {B gr cap n : Nat} {d : Array Tim} (h : HasT W B gr cap n d) (hn : d.size = n) (i : Nat) (hi : i < n) :
    (∀ c, c < 12 → W.cell? ⟨gr, i * 12 + c, none⟩ = d[i]!.flat.cells[c]?) ∧ (∀ c, W.frozen? ⟨gr, c, none⟩ = false) := by
  have hr : RowOf Tim.cells 12 W (.slice (some ⟨gr, 0, none⟩) d.toList.length cap) d.toList := RowOf.of_owns Tim.cells_len (by rw [Array.length_toList, hn]; exact h)
  obtain ⟨a, c, he, hc⟩ := hr
  cases he
  obtain ⟨g, off, he, hx⟩ := hc i d[i]! (by rw [getElem!_pos d i (by omega), Array.getElem?_toList]; exact Array.getElem?_eq_getElem (by omega))
  cases he
  exact ⟨fun c hc => by have := hx c hc; simpa [Tim.cells] using this, fun c => World.ownsRow.frozenAt h _⟩
theorem grown_of_below {w w' : World} (h : Below w.heap.size w w') (row : Option Nat) : w.grownBy w' row := ⟨h.os, h.tape, h.output, h.size, fun k hk _ => h.block k hk⟩
theorem HasT.below {W W' : World} {B gr cap n : Nat} {d : Array Tim} (h : HasT W B gr cap n d) (hb : Below W.heap.size W W') : HasT W' B gr cap n d :=
  ownsRow_mod h (Mod.of_below (fun _ => False) hb) (fun _ _ e => e)

theorem HasT.drew' {W : World} {B gr cap n : Nat} {d : Array Tim} (h : HasT W B gr cap n d) : HasT W.drew B gr cap n d := h.below (Below.refl _ _).drew

set_option maxHeartbeats 8000000 in
set_option maxRecDepth 100000 in
theorem ins_any (cf : Tim → Tim → Int) (hcmp : ∀ (x y : Tim) W, Calls Tryz.prog 104 #[x.val, y.val] W fun e w' => e = .returned (.int .i64 (cf x y)) ∧ Below W.heap.size W w')
    (d : Array Tim) (B gr cap n a b : Nat) (w : World) (hown : HasT w B gr cap n d) (hn : d.size = n) (hab : a ≤ b) (hb : b ≤ n) (hN : n ≤ 4294967296) :
    Calls Tryz.prog 169 #[.slice (some ⟨gr, 0, none⟩) n cap, .int .i64 a, .int .i64 b, .func (.func 104) #[] #[]] w fun e w' =>
      e = .returned (.tuple #[]) ∧ HasT w' B gr cap n (Sort.insertionSort (ltOf cf) d a b) ∧ w.grownBy w' (some gr) := by
  have HC := Lib.hid hcmp
  have HOWN := Lib.hid hown
  have HN := Lib.hid hn
  clear hcmp hown hn
  go_enter Tryz.func169, Tryz.ntmps169
  go_wp2_with fail
  go_loopg [8] (b - a) (fun g1 vi wr => ∃ (i : Nat) (dk : Array Tim), vi = .int .i64 i ∧ a < i ∧ i ≤ b + 1 ∧ b + 1 - i ≤ g1 + 1 ∧ Hid (dk.size = n) ∧ Hid (HasT wr B gr cap n dk ∧ w.grownBy wr (some gr)) ∧ Hid (insOuter (ltOf cf) a b i dk = insOuter (ltOf cf) a b (a + 1) d))
  case atStart => exact ⟨a + 1, d, by go_num, by omega, by omega, by omega, HN, ⟨HOWN.out, World.grownBy.refl w _⟩, rfl⟩
  case round =>
    obtain ⟨i, dk, rfl, hai, hib, hg1, hsk, HR, HO⟩ := hrel
    by_cases hlt : i < b
    · have hltz : (i : Int) < (b : Int) := by omega
      go_wp2_with fail
      go_loopg [9] i (fun g2 vj wr2 => ∃ (j : Nat) (dj : Array Tim), vj = .int .i64 j ∧ a ≤ j ∧ j ≤ i ∧ j ≤ g2 ∧ Hid (dj.size = n) ∧ Hid (HasT wr2 B gr cap n dj ∧ w.grownBy wr2 (some gr)) ∧ Hid (insInner (ltOf cf) a j dj = insInner (ltOf cf) a i dk))
      case atStart => exact ⟨i, dk, rfl, by omega, Nat.le_refl _, Nat.le_refl _, hsk, HR, rfl⟩
      case round =>
        obtain ⟨j, dj, rfl, haj, hji, hg2, hsj, HJ, HI⟩ := hrel
        have OUT : Aside ((j ≤ a ∨ ltOf cf dj[j]! dj[j - 1]! = false) → Hid (insOuter (ltOf cf) a b (i + 1) dj = insOuter (ltOf cf) a b (a + 1) d)) := fun hs => by
          show _ = _
          rw [← HO.out, insOuter_go _ _ _ _ _ hlt, ← HI.out, insInner_stop _ _ _ _ hs]
        by_cases hja : a < j
        · have hjaz : (a : Int) < (j : Int) := by omega
          obtain ⟨jp, rfl⟩ : ∃ jp, j = jp + 1 := ⟨j - 1, by omega⟩
          obtain ⟨xj, hxj⟩ : ∃ x, dj[jp + 1]! = x := ⟨_, rfl⟩
          obtain ⟨xp, hxp⟩ : ∃ x, dj[jp]! = x := ⟨_, rfl⟩
          have HX := Lib.hid (And.intro hxj hxp)
          have hq := (rowT_at HJ.out.1.drew' hsj.out (jp + 1) (by omega)).1
          have hr := (rowT_at HJ.out.1.drew' hsj.out jp (by omega)).1
          have hgrow := HJ.out.2
          have hrow := HJ.out.1
          rw [hxj] at hq
          rw [hxp] at hr
          have hc := fun W => HC.out xj xp W
          have hbk : ∀ W, HasT W B gr cap n dj → ((∀ c, c < 12 → W.cell? ⟨gr, (jp + 1) * 12 + c, none⟩ = xj.flat.cells[c]?) ∧ (∀ c, c < 12 → W.cell? ⟨gr, jp * 12 + c, none⟩ = xp.flat.cells[c]?) ∧ (∀ c, W.frozen? ⟨gr, c, none⟩ = false)) := fun W hW => by
            have e1 := rowT_at hW hsj.out (jp + 1) (by omega)
            have e2 := rowT_at hW hsj.out jp (by omega)
            rw [hxj] at e1
            rw [hxp] at e2
            exact ⟨e1.1, e2.1, e1.2⟩
          have hsw := fun W (hW : HasT W B gr cap n dj) => rowT_swap hW hsj.out (jp + 1) jp (by omega) (by omega)
          have hsw2 := fun W (hW : HasT W B gr cap n dj) => rowT_swap hW hsj.out jp (jp + 1) (by omega) (by omega)
          rw [swp_comm _ jp (jp + 1) (by omega)] at hsw2
          rw [hxj, hxp] at hsw hsw2
          have hcv : Tim.val xj = .agg xj.flat.cells.toArray ∧ Tim.val xp = .agg xp.flat.cells.toArray := ⟨rfl, rfl⟩
          rw [hcv.1, hcv.2] at hc
          rw [show xj.cells = xj.flat.cells from rfl, show xp.cells = xp.flat.cells from rfl] at hsw hsw2
          have hlv := fun (h : cf xj xp < 0) => insInner_go (ltOf cf) a (jp + 1) dj hja (by simp only [Nat.add_sub_cancel]; rw [hxj, hxp]; exact decide_eq_true h)
          have hnv := fun (h : ¬ cf xj xp < 0) => OUT.out (.inr (by simp only [Nat.add_sub_cancel]; rw [hxj, hxp]; exact decide_eq_false h))
          have HLV := Lib.hid (And.intro hlv hnv)
          clear hlv hnv OUT hcv
          generalize cf xj xp = cv at hc HLV
          generalize xj.flat = yj at hq hr hc hbk hsw hsw2
          generalize xp.flat = yp at hq hr hc hbk hsw hsw2
          obtain ⟨x0, x1, x2, x3, x4, x5, x6, x7, x8, x9, x10, x11⟩ := yj
          obtain ⟨y0, y1, y2, y3, y4, y5, y6, y7, y8, y9, y10, y11⟩ := yp
          simp only [T12.cells] at hq hr hc hbk hsw hsw2
          simp only [setC, Nat.add_assoc, Nat.reduceAdd] at hsw hsw2
          have HCC := Lib.hid hc
          have HBK := Lib.hid hbk
          have HSW := Lib.hid (And.intro hsw hsw2)
          have HRW := Lib.hid (And.intro hrow hgrow)
          have q0 := hq 0 (by decide)
          have q1 := hq 1 (by decide)
          have q2 := hq 2 (by decide)
          have q3 := hq 3 (by decide)
          have q4 := hq 4 (by decide)
          have q5 := hq 5 (by decide)
          have q6 := hq 6 (by decide)
          have q7 := hq 7 (by decide)
          have q8 := hq 8 (by decide)
          have q9 := hq 9 (by decide)
          have q10 := hq 10 (by decide)
          have q11 := hq 11 (by decide)
          have r0 := hr 0 (by decide)
          have r1 := hr 1 (by decide)
          have r2 := hr 2 (by decide)
          have r3 := hr 3 (by decide)
          have r4 := hr 4 (by decide)
          have r5 := hr 5 (by decide)
          have r6 := hr 6 (by decide)
          have r7 := hr 7 (by decide)
          have r8 := hr 8 (by decide)
          have r9 := hr 9 (by decide)
          have r10 := hr 10 (by decide)
          have r11 := hr 11 (by decide)
          simp only [List.getElem?_cons_zero, List.getElem?_cons_succ, Nat.add_zero] at q0 q1 q2 q3 q4 q5 q6 q7 q8 q9 q10 q11 r0 r1 r2 r3 r4 r5 r6 r7 r8 r9 r10 r11
          clear hc hbk hsw hsw2 hq hr hrow hgrow hxj hxp
          have jz : (jp : Int) + 1 < (n : Int) := by omega
          have jz1 : (jp : Int) < (n : Int) := by omega
          have jz2 : jp + 1 < n := by omega
          have jz3 : jp < n := by omega
          have p0 : (0 : Int) ≤ (jp : Int) + 1 := by omega
          have p1 : (0 : Int) ≤ (jp : Int) := by omega
          have e0 : ((jp : Int) + 1).toNat = jp + 1 := by omega
          have hgd : decide ((a : Int) < (jp : Int) + 1) = true := decide_eq_true (by omega)
          have hwp : IntKind.i64.wrap (jp : Int) = (jp : Int) := IntWalk.i64_in _ (by omega)
          by_cases hlv : cv < 0
          · go_wp2_with fail
            go_region_held3 (fun W => W.cell? ⟨gr, (jp + 1) * 12, none⟩ = some (.bool x0) ∧ W.cell? ⟨gr, (jp + 1) * 12 + 1, none⟩ = some (.string x1) ∧ W.cell? ⟨gr, (jp + 1) * 12 + 2, none⟩ = some (.bool x2) ∧ W.cell? ⟨gr, (jp + 1) * 12 + 3, none⟩ = some (.string x3) ∧ W.cell? ⟨gr, (jp + 1) * 12 + 4, none⟩ = some (.int .i64 x4) ∧ W.cell? ⟨gr, (jp + 1) * 12 + 5, none⟩ = some (.int .i64 x5) ∧ W.cell? ⟨gr, (jp + 1) * 12 + 6, none⟩ = some (.int .i64 x6) ∧ W.cell? ⟨gr, (jp + 1) * 12 + 7, none⟩ = some (.int .i64 x7) ∧ W.cell? ⟨gr, (jp + 1) * 12 + 8, none⟩ = some (.int .i64 x8) ∧ W.cell? ⟨gr, (jp + 1) * 12 + 9, none⟩ = some (.int .i64 x9) ∧ W.cell? ⟨gr, (jp + 1) * 12 + 10, none⟩ = some (.int .i64 x10) ∧ W.cell? ⟨gr, (jp + 1) * 12 + 11, none⟩ = some (.bool x11) ∧ W.cell? ⟨gr, jp * 12, none⟩ = some (.bool y0) ∧ W.cell? ⟨gr, jp * 12 + 1, none⟩ = some (.string y1) ∧ W.cell? ⟨gr, jp * 12 + 2, none⟩ = some (.bool y2) ∧ W.cell? ⟨gr, jp * 12 + 3, none⟩ = some (.string y3) ∧ W.cell? ⟨gr, jp * 12 + 4, none⟩ = some (.int .i64 y4) ∧ W.cell? ⟨gr, jp * 12 + 5, none⟩ = some (.int .i64 y5) ∧ W.cell? ⟨gr, jp * 12 + 6, none⟩ = some (.int .i64 y6) ∧ W.cell? ⟨gr, jp * 12 + 7, none⟩ = some (.int .i64 y7) ∧ W.cell? ⟨gr, jp * 12 + 8, none⟩ = some (.int .i64 y8) ∧ W.cell? ⟨gr, jp * 12 + 9, none⟩ = some (.int .i64 y9) ∧ W.cell? ⟨gr, jp * 12 + 10, none⟩ = some (.int .i64 y10) ∧ W.cell? ⟨gr, jp * 12 + 11, none⟩ = some (.bool y11))
              (first | exact ⟨q0, q1, q2, q3, q4, q5, q6, q7, q8, q9, q10, q11, r0, r1, r2, r3, r4, r5, r6, r7, r8, r9, r10, r11⟩)
              (first | (go_at_call 104; refine (HCC.out _).mono ?_; rintro e w' ⟨rfl, hb⟩; have hT := HasT.below HRW.out.1 ((Below.refl _ _).drew.trans hb); obtain ⟨hq, hr, hfz⟩ := HBK.out w' hT; have q0 := hq 0 (by decide); have q1 := hq 1 (by decide); have q2 := hq 2 (by decide); have q3 := hq 3 (by decide); have q4 := hq 4 (by decide); have q5 := hq 5 (by decide); have q6 := hq 6 (by decide); have q7 := hq 7 (by decide); have q8 := hq 8 (by decide); have q9 := hq 9 (by decide); have q10 := hq 10 (by decide); have q11 := hq 11 (by decide); have r0 := hr 0 (by decide); have r1 := hr 1 (by decide); have r2 := hr 2 (by decide); have r3 := hr 3 (by decide); have r4 := hr 4 (by decide); have r5 := hr 5 (by decide); have r6 := hr 6 (by decide); have r7 := hr 7 (by decide); have r8 := hr 8 (by decide); have r9 := hr 9 (by decide); have r10 := hr 10 (by decide); have r11 := hr 11 (by decide); simp only [List.getElem?_cons_zero, List.getElem?_cons_succ, Nat.add_zero] at q0 q1 q2 q3 q4 q5 q6 q7 q8 q9 q10 q11 r0 r1 r2 r3 r4 r5 r6 r7 r8 r9 r10 r11))
            all_goals
              have f0 := hfz ((jp + 1) * 12 + 0)
              have f1 := hfz ((jp + 1) * 12 + 1)
              have f2 := hfz ((jp + 1) * 12 + 2)
              have f3 := hfz ((jp + 1) * 12 + 3)
              have f4 := hfz ((jp + 1) * 12 + 4)
              have f5 := hfz ((jp + 1) * 12 + 5)
              have f6 := hfz ((jp + 1) * 12 + 6)
              have f7 := hfz ((jp + 1) * 12 + 7)
              have f8 := hfz ((jp + 1) * 12 + 8)
              have f9 := hfz ((jp + 1) * 12 + 9)
              have f10 := hfz ((jp + 1) * 12 + 10)
              have f11 := hfz ((jp + 1) * 12 + 11)
              have g0 := hfz (jp * 12 + 0)
              have g1 := hfz (jp * 12 + 1)
              have g2 := hfz (jp * 12 + 2)
              have g3 := hfz (jp * 12 + 3)
              have g4 := hfz (jp * 12 + 4)
              have g5 := hfz (jp * 12 + 5)
              have g6 := hfz (jp * 12 + 6)
              have g7 := hfz (jp * 12 + 7)
              have g8 := hfz (jp * 12 + 8)
              have g9 := hfz (jp * 12 + 9)
              have g10 := hfz (jp * 12 + 10)
              have g11 := hfz (jp * 12 + 11)
              simp only [Nat.add_zero] at f0 f1 f2 f3 f4 f5 f6 f7 f8 f9 f10 f11 g0 g1 g2 g3 g4 g5 g6 g7 g8 g9 g10 g11
              have HT := Lib.hid (And.intro hT (HRW.out.2.trans ((grown_of_below ((Below.refl _ _).drew.trans hb) _))))
              clear hq hr hfz hT hb
              go_wp2_with fail
              go_region
              all_goals
                have h1 := HSW.out.1 _ HT.out.1
                have h2 := HSW.out.2 _ HT.out.1
                have HH := Lib.hid (And.intro h1 h2)
                clear h1 h2
                go_wp2_with fail
                go_roundg jp
                case measure => omega
                case rel =>
                  refine ⟨jp, swp dj (jp + 1) jp, by first | rfl | go_num | (congr 1; omega), by omega, by omega, Nat.le_refl _, (by rw [size_swp]; exact hsj.out : (swp dj (jp + 1) jp).size = n), ?_, (show Hid _ from ?_)⟩
                  · have hh := HH.out
                    clear HH
                    obtain ⟨⟨k1, k2⟩, k3, k4⟩ := hh
                    have k5 := (HT.out.2.trans k2).trans (grown_of_below (Below.refl _ _).drew _)
                    have k6 := (HT.out.2.trans k4).trans (grown_of_below (Below.refl _ _).drew _)
                    have k1 := k1.drew'
                    have k3 := k3.drew'
                    change HasT _ _ _ _ _ _ ∧ _
                    first
                      | (with_reducible exact ⟨k1, k5⟩)
                      | (with_reducible exact ⟨k3, k6⟩)
                      | (trace_state; fail)
                  · show _ = _
                    rw [← HI.out, HLV.out.1 hlv]
                    rfl
          · go_wp2_with fail
            go_region_held3 (fun W => W.cell? ⟨gr, (jp + 1) * 12, none⟩ = some (.bool x0) ∧ W.cell? ⟨gr, (jp + 1) * 12 + 1, none⟩ = some (.string x1) ∧ W.cell? ⟨gr, (jp + 1) * 12 + 2, none⟩ = some (.bool x2) ∧ W.cell? ⟨gr, (jp + 1) * 12 + 3, none⟩ = some (.string x3) ∧ W.cell? ⟨gr, (jp + 1) * 12 + 4, none⟩ = some (.int .i64 x4) ∧ W.cell? ⟨gr, (jp + 1) * 12 + 5, none⟩ = some (.int .i64 x5) ∧ W.cell? ⟨gr, (jp + 1) * 12 + 6, none⟩ = some (.int .i64 x6) ∧ W.cell? ⟨gr, (jp + 1) * 12 + 7, none⟩ = some (.int .i64 x7) ∧ W.cell? ⟨gr, (jp + 1) * 12 + 8, none⟩ = some (.int .i64 x8) ∧ W.cell? ⟨gr, (jp + 1) * 12 + 9, none⟩ = some (.int .i64 x9) ∧ W.cell? ⟨gr, (jp + 1) * 12 + 10, none⟩ = some (.int .i64 x10) ∧ W.cell? ⟨gr, (jp + 1) * 12 + 11, none⟩ = some (.bool x11) ∧ W.cell? ⟨gr, jp * 12, none⟩ = some (.bool y0) ∧ W.cell? ⟨gr, jp * 12 + 1, none⟩ = some (.string y1) ∧ W.cell? ⟨gr, jp * 12 + 2, none⟩ = some (.bool y2) ∧ W.cell? ⟨gr, jp * 12 + 3, none⟩ = some (.string y3) ∧ W.cell? ⟨gr, jp * 12 + 4, none⟩ = some (.int .i64 y4) ∧ W.cell? ⟨gr, jp * 12 + 5, none⟩ = some (.int .i64 y5) ∧ W.cell? ⟨gr, jp * 12 + 6, none⟩ = some (.int .i64 y6) ∧ W.cell? ⟨gr, jp * 12 + 7, none⟩ = some (.int .i64 y7) ∧ W.cell? ⟨gr, jp * 12 + 8, none⟩ = some (.int .i64 y8) ∧ W.cell? ⟨gr, jp * 12 + 9, none⟩ = some (.int .i64 y9) ∧ W.cell? ⟨gr, jp * 12 + 10, none⟩ = some (.int .i64 y10) ∧ W.cell? ⟨gr, jp * 12 + 11, none⟩ = some (.bool y11))
              (first | exact ⟨q0, q1, q2, q3, q4, q5, q6, q7, q8, q9, q10, q11, r0, r1, r2, r3, r4, r5, r6, r7, r8, r9, r10, r11⟩)
              (first | (go_at_call 104; refine (HCC.out _).mono ?_; rintro e w' ⟨rfl, hb⟩; have hT := HasT.below HRW.out.1 ((Below.refl _ _).drew.trans hb); obtain ⟨hq, hr, hfz⟩ := HBK.out w' hT; have q0 := hq 0 (by decide); have q1 := hq 1 (by decide); have q2 := hq 2 (by decide); have q3 := hq 3 (by decide); have q4 := hq 4 (by decide); have q5 := hq 5 (by decide); have q6 := hq 6 (by decide); have q7 := hq 7 (by decide); have q8 := hq 8 (by decide); have q9 := hq 9 (by decide); have q10 := hq 10 (by decide); have q11 := hq 11 (by decide); have r0 := hr 0 (by decide); have r1 := hr 1 (by decide); have r2 := hr 2 (by decide); have r3 := hr 3 (by decide); have r4 := hr 4 (by decide); have r5 := hr 5 (by decide); have r6 := hr 6 (by decide); have r7 := hr 7 (by decide); have r8 := hr 8 (by decide); have r9 := hr 9 (by decide); have r10 := hr 10 (by decide); have r11 := hr 11 (by decide); simp only [List.getElem?_cons_zero, List.getElem?_cons_succ, Nat.add_zero] at q0 q1 q2 q3 q4 q5 q6 q7 q8 q9 q10 q11 r0 r1 r2 r3 r4 r5 r6 r7 r8 r9 r10 r11))
            all_goals
              have hG := HRW.out.2.trans ((grown_of_below ((Below.refl _ _).drew.trans hb) _))
              clear hb
              go_wp2_with fail
              go_roundg (b - (i + 1))
              case measure => omega
              case rel => exact ⟨i + 1, dj, by go_num, by omega, by omega, by omega, hsj, ⟨hT, hG⟩, HLV.out.2 hlv⟩
        · have hgd : decide ((j : Int) > (a : Int)) = false := decide_eq_false (by omega)
          have hgd2 : ¬ (a : Int) < (j : Int) := by omega
          have hJ := HJ.out
          go_wp2_with fail
          go_region
          all_goals
            go_wp2_with fail
            go_roundg (b - (i + 1))
            case measure => omega
            case rel => exact ⟨i + 1, dj, by go_num, by omega, by omega, by omega, hsj, ⟨HJ.out.1, HJ.out.2.trans (grown_of_below (Below.refl _ _).drew _)⟩, OUT.out (.inl (by omega))⟩
    · have hltz : ¬ (i : Int) < (b : Int) := by omega
      go_wp2_with fail
      go_end0
      refine ⟨rfl, ?_, HR.out.2⟩
      have e : Sort.insertionSort (ltOf cf) d a b = dk := by unfold Sort.insertionSort; rw [← HO.out, insOuter_stop _ _ _ _ _ hlt]
      rw [e]
      exact HR.out.1
end Go.Proofs.YtfoenojohemccaaGreatDoor
