/- slices.IndexFunc and slices.DeleteFunc at T12. (Printed by wip/tools/gen_del.py.) -/
import Derived.Test.YtfoenojohemccaaGreatDoorT0
namespace Go.Proofs.YtfoenojohemccaaGreatDoor
open Go.RowKit Go.Sort Go.Proofs

set_option maxHeartbeats 1000000 in
set_option maxRecDepth 100000 in
theorem tim_indexFunc (l : List T12) (v : Value) (g : Nat) (cb : Array Value) (p : T12 → Bool) (Inv : World → Prop) (row : Option Nat) (w : World) (hr : RowOf T12.cells 12 w v l) (hN : l.length ≤ 4294967296)
    (eg : ∀ args w, (callFunc g args).run Tryz.prog w = .ok (.enter g args) w)
    (hI : ∀ W W', Inv W → W.grownBy W' row → Inv W') (h0 : Inv w)
    (hp : ∀ (x : T12) W, Inv W → Calls Tryz.prog g (#[x.val] ++ cb) W fun e w' => e = .returned (.bool (p x)) ∧ GrowQ W w') :
    Calls Tryz.prog 101 #[v, .func (.func g) #[] cb] w fun e w' => e = .returned (.int .i64 (idxR p l)) ∧ GrowQ w w' := by
  obtain ⟨a, cap, rfl, hcr⟩ := hr
  go_enter Tryz.func101, Tryz.ntmps101
  go_wp2_with fail
  go_loopw [5, 8] (fun _ i wr => ∃ k : Nat, k ≤ l.length ∧ i = .int .i64 k ∧ (∀ j (hj : j < l.length), j < k → p l[j] = false) ∧ GrowQ w wr) (fun _ i _ => l.length - (intOf i).toNat)
  case atStart => exact ⟨0, Nat.zero_le _, rfl, by intro j hj h; omega, GrowQ.refl _⟩
  case round =>
    obtain ⟨k, hk, rfl, hbef, hg⟩ := hrel
    by_cases hlr : k < l.length
    · obtain ⟨gg, off, rfl, hcx, _⟩ := tim_row_cells hcr hg.below hlr
      have hpk := hp l[k] wr (hI _ _ h0 (hg.grownBy _))
      obtain ⟨y, hy⟩ : ∃ y, y = l[k] := ⟨_, rfl⟩
      rw [← hy] at hcx hpk
      have HB := Lib.hid (And.intro hbef (And.intro hg hy))
      obtain ⟨b, hb⟩ : ∃ b, b = p y := ⟨_, rfl⟩
      rw [← hb] at hpk
      have HBB := Lib.hid hb
      have q0 := hcx 0 (by decide)
      have q1 := hcx 1 (by decide)
      have q2 := hcx 2 (by decide)
      have q3 := hcx 3 (by decide)
      have q4 := hcx 4 (by decide)
      have q5 := hcx 5 (by decide)
      have q6 := hcx 6 (by decide)
      have q7 := hcx 7 (by decide)
      have q8 := hcx 8 (by decide)
      have q9 := hcx 9 (by decide)
      have q10 := hcx 10 (by decide)
      have q11 := hcx 11 (by decide)
      clear hcr hcx hbef hg hb hy hp hI h0
      obtain ⟨x1, x2, x3, x4, x5, x6, x7, x8, x9, x10, x11, x12⟩ := y
      simp only [T12.val, T12.cells, Nat.add_zero, List.getElem?_cons_zero, List.getElem?_cons_succ] at hpk q0 q1 q2 q3 q4 q5 q6 q7 q8 q9 q10 q11
      have HPK := Lib.hid hpk
      clear hpk
      go_wp2_with fail
      refine HPK.out.mono ?_
      rintro e w1 ⟨rfl, hg1⟩
      have HG1 := Lib.hid hg1
      clear hg1
      cases b
      all_goals go_wp2_with fail
      · obtain ⟨hbef, hg, hy⟩ := HB.out
        exact ⟨⟨k + 1, by omega, by simp, fun j hj h => by rcases Nat.lt_succ_iff_lt_or_eq.1 h with h | rfl; exact hbef j hj h; rw [← hy]; exact HBB.out.symm, hg.trans HG1.out⟩, by simp [intOf]; omega⟩
      · obtain ⟨hbef, hg, hy⟩ := HB.out
        go_ret
        have := idxR_pos hlr hbef (by rw [← hy]; exact HBB.out.symm)
        exact ⟨by rw [this]; rfl, hg.trans HG1.out⟩
    · go_wp2_with fail
      go_ret
      exact ⟨by rw [idxR_neg (fun j hj => hbef j hj (by omega))]; rfl, hg⟩

set_option maxHeartbeats 4000000 in
set_option maxRecDepth 100000 in
theorem tim_deleteFunc (l : List T12) (v : Value) (B g : Nat) (cb : Array Value) (p : T12 → Bool) (Inv : World → Prop) (w : World) (hown : w.ownsRow B 89 12 v l.length (l.flatMap T12.cells)) (hN : l.length ≤ 4294967296)
    (eg : ∀ args w, (callFunc g args).run Tryz.prog w = .ok (.enter g args) w)
    (hI : ∀ W W', Inv W → W.grownBy W' v.ownBlock → Inv W') (h0 : Inv w)
    (hp : ∀ (x : T12) W, Inv W → Calls Tryz.prog g (#[x.val] ++ cb) W fun e w' => e = .returned (.bool (p x)) ∧ GrowQ W w') :
    Calls Tryz.prog 62 #[v, .func (.func g) #[] cb] w fun e w' => ∃ v', e = .returned v' ∧ w'.ownsRow B 89 12 v' (l.filter fun x => !p x).length ((l.filter fun x => !p x).flatMap T12.cells) ∧ w.grownBy w' v.ownBlock := by
  have hidx := tim_indexFunc l v g cb p Inv v.ownBlock w (RowOf.of_owns T12.cells_len hown) hN eg hI h0 hp
  rcases idxR_cases p l with ⟨hx, hall⟩ | ⟨i0, hx, hi0, hpre⟩
  · rw [hx] at hidx
    have H1 := Lib.hid (And.intro hidx hall)
    clear hidx hall hx hp hI h0
    go_enter Tryz.func62, Tryz.ntmps62
    go_wp2_with fail
    refine H1.out.1.mono ?_
    rintro e w1 ⟨rfl, hg⟩
    have HG := Lib.hid hg
    clear hg
    go_wp2_with fail
    go_ret
    rw [H1.out.2]
    exact ⟨v, rfl, ownsRow_mod hown (Mod.of_below (fun _ => False) HG.out.below) (fun _ _ e => e), HG.out.grownBy _⟩
  · rcases hown.2 with ⟨_, hn⟩ | ⟨gr, cap, cur, rfl, hB, hgr, hnc, hcm, hcs, htk⟩
    · omega
    have hncap := hnc
    clear hgr hcs htk hB hnc
    have hgb : (Value.slice (some ⟨gr, 0, none⟩) l.length cap).ownBlock = some gr := rfl
    rw [hgb] at hI ⊢
    rw [hx] at hidx
    have H1 := Lib.hid hidx
    have HP := Lib.hid (And.intro hp (And.intro hI (And.intro h0 hpre)))
    have HO := Lib.hid hown
    clear hidx hx hp hI h0 hpre hown
    go_enter Tryz.func62, Tryz.ntmps62
    go_wp2_with fail
    refine H1.out.mono ?_
    rintro e w1 ⟨rfl, hg1⟩
    have HG := Lib.hid hg1
    clear hg1 H1
    go_wp2_with fail
    go_loopw [5, 6, 7] (fun a b _ wr => ∃ (i j : Nat) (d : List T12), a = .int .i64 i ∧ b = .int .i64 j ∧ i < j ∧ j ≤ l.length ∧ d.length = l.length ∧ wr.ownsRow B 89 12 (.slice (some ⟨gr, 0, none⟩) l.length cap) l.length (d.flatMap T12.cells) ∧ d.take i = (l.take j).filter (fun x => !p x) ∧ (∀ q, j ≤ q → d[q]? = l[q]?) ∧ w.grownBy wr (some gr)) (fun _ b _ _ => l.length - (intOf b).toNat)
    case atStart =>
      exact ⟨i0, i0 + 1, l, rfl, by simp, by omega, by omega, rfl, ownsRow_mod HO.out (Mod.of_below (fun _ => False) HG.out.below) (fun _ _ e => e), HP.out.2.2.2.symm, fun _ _ => rfl, HG.out.grownBy _⟩
    case round =>
      obtain ⟨i, j, d, rfl, rfl, hij, hj, hdl, hor, hdi, hdq, hgw⟩ := hrel
      by_cases hlr : j < l.length
      · have hdj : d[j]? = some l[j] := by rw [hdq j (Nat.le_refl _), List.getElem?_eq_getElem hlr]
        have hrow : RowOf T12.cells 12 wr (.slice (some ⟨gr, 0, none⟩) d.length cap) d := RowOf.of_owns T12.cells_len (by rw [hdl]; exact hor)
        obtain ⟨aa, cc, he, hcr⟩ := hrow
        cases he
        obtain ⟨_, off, he, hcx⟩ := hcr j _ hdj
        cases he
        obtain ⟨y, hy⟩ : ∃ y, y = l[j] := ⟨_, rfl⟩
        rw [← hy] at hcx
        have hdi2 : ∀ b, b = p y → (if b then True else (d.set i y).take (i + 1) = (l.take (j + 1)).filter (fun x => !p x)) ∧ (if b then d.take i = (l.take (j + 1)).filter (fun x => !p x) else True) := by
          intro b hb
          have hl1 : l.take (j + 1) = l.take j ++ [y] := by rw [List.take_add_one, List.getElem?_eq_getElem hlr, hy]; rfl
          rw [hl1, List.filter_append, ← hdi]
          cases b
          · simp only [Bool.false_eq_true, if_false, and_true]
            rw [List.take_add_one, List.take_set_of_le (Nat.le_refl _), List.getElem?_set_self (by omega)]
            simp [← hb]
          · simp [← hb]
        have hdq2 : ∀ q, j + 1 ≤ q → (d.set i y)[q]? = l[q]? := fun q hq => by rw [List.getElem?_set_ne (by omega), hdq q (by omega)]
        have hpk := HP.out.1 y (wr.alloc (.cells y.cells.toArray 89)) (HP.out.2.1 _ _ HP.out.2.2.1 (hgw.trans (World.grownBy_alloc wr _ _)))
        have hset := flat_set T12.cells_len d i y (by omega)
        obtain ⟨b, hb⟩ : ∃ b, b = p y := ⟨_, rfl⟩
        rw [← hb] at hpk
        have hdi3 := hdi2 b hb
        have hor1 := hor.alloc (.cells y.cells.toArray 89)
        have hgrlt : gr < wr.heap.size := (hor.lt gr rfl).2
        have q0 := hcx 0 (by decide)
        have q1 := hcx 1 (by decide)
        have q2 := hcx 2 (by decide)
        have q3 := hcx 3 (by decide)
        have q4 := hcx 4 (by decide)
        have q5 := hcx 5 (by decide)
        have q6 := hcx 6 (by decide)
        have q7 := hcx 7 (by decide)
        have q8 := hcx 8 (by decide)
        have q9 := hcx 9 (by decide)
        have q10 := hcx 10 (by decide)
        have q11 := hcx 11 (by decide)
        have HH := Lib.hid (And.intro hor1 (And.intro hdi3 (And.intro hdq2 (And.intro hset (And.intro hgw (And.intro hor (And.intro hdq hdl)))))))
        have HR := Lib.hid hpk
        clear hcr hcx hdi2 hdi3 hdq2 hset hor1 hor hdi hdq hgw hdj hb hy hpk
        obtain ⟨x1, x2, x3, x4, x5, x6, x7, x8, x9, x10, x11, x12⟩ := y
        simp only [T12.cells, Nat.zero_add, Nat.add_zero, List.getElem?_cons_zero, List.getElem?_cons_succ] at q0 q1 q2 q3 q4 q5 q6 q7 q8 q9 q10 q11
        go_wp2_with fail
        refine HR.out.mono ?_
        rintro e w2 ⟨rfl, hg2⟩
        cases b
        · obtain ⟨hor1, hdi3, hdq2, hset, hgw, hor, hdq, hdl⟩ := HH.out
          have hb2 := hg2.below
          have hor2 := ownsRow_mod hor1 (Mod.of_below (fun _ => False) hb2) (fun _ _ e => e)
          obtain ⟨z, hz⟩ : ∃ z, d[i]? = some z := ⟨_, List.getElem?_eq_getElem (by omega)⟩
          obtain ⟨aa, cc, he, hcr⟩ := RowOf.of_owns T12.cells_len (by rw [hdl]; exact hor2 : w2.ownsRow B 89 12 (.slice (some ⟨gr, 0, none⟩) d.length cap) d.length (d.flatMap T12.cells))
          cases he
          obtain ⟨_, off, he, hcd⟩ := hcr i z hz
          cases he
          have hfz : ∀ c, w2.frozen? ⟨gr, i * 12 + c, none⟩ = false := fun c => World.ownsRow.frozenAt hor2 _
          have hbx : ∀ j, w2.cell? ⟨wr.heap.size, j, none⟩ = (T12.cells ⟨x1, x2, x3, x4, x5, x6, x7, x8, x9, x10, x11, x12⟩)[j]? := fun j => by rw [hb2.cell (by simp)]; simp [go_sem]
          have hch := stored_chain (T12.cells ⟨x1, x2, x3, x4, x5, x6, x7, x8, x9, x10, x11, x12⟩) (i * 12) hor2
          rw [hset] at hch
          have hg3 : wr.grownBy w2 (some gr) := (World.grownBy_alloc wr _ _).trans (hg2.grownBy _)
          have HF := Lib.hid (And.intro hch (And.intro hg3 hor2))
          have r0 := hcd 0 (by decide)
          have r1 := hcd 1 (by decide)
          have r2 := hcd 2 (by decide)
          have r3 := hcd 3 (by decide)
          have r4 := hcd 4 (by decide)
          have r5 := hcd 5 (by decide)
          have r6 := hcd 6 (by decide)
          have r7 := hcd 7 (by decide)
          have r8 := hcd 8 (by decide)
          have r9 := hcd 9 (by decide)
          have r10 := hcd 10 (by decide)
          have r11 := hcd 11 (by decide)
          have f0 := hfz 0
          have f1 := hfz 1
          have f2 := hfz 2
          have f3 := hfz 3
          have f4 := hfz 4
          have f5 := hfz 5
          have f6 := hfz 6
          have f7 := hfz 7
          have f8 := hfz 8
          have f9 := hfz 9
          have f10 := hfz 10
          have f11 := hfz 11
          have b0 := hbx 0
          have b1 := hbx 1
          have b2 := hbx 2
          have b3 := hbx 3
          have b4 := hbx 4
          have b5 := hbx 5
          have b6 := hbx 6
          have b7 := hbx 7
          have b8 := hbx 8
          have b9 := hbx 9
          have b10 := hbx 10
          have b11 := hbx 11
          simp only [T12.cells, Nat.zero_add, Nat.add_zero, List.getElem?_cons_zero, List.getElem?_cons_succ] at r0 r1 r2 r3 r4 r5 r6 r7 r8 r9 r10 r11 f0 f1 f2 f3 f4 f5 f6 f7 f8 f9 f10 f11 b0 b1 b2 b3 b4 b5 b6 b7 b8 b9 b10 b11
          clear hcr hcd hfz hbx hch hg3 hor2 hor1 hdi3 hdq2 hset hgw hor hdq hdl hb2 hg2 hz
          obtain ⟨z1, z2, z3, z4, z5, z6, z7, z8, z9, z10, z11, z12⟩ := z
          simp only [] at r0 r1 r2 r3 r4 r5 r6 r7 r8 r9 r10 r11
          go_wp2_with fail
          obtain ⟨hor1, hdi3, hdq2, hset, hgw, hor, hdq, hdl⟩ := HH.out
          obtain ⟨hch, hg3, hor2⟩ := HF.out
          go_roundw
          case rel =>
            (repeat apply Exists.intro)
            refine ⟨?_, rfl⟩
            exact ⟨i + 1, j + 1, d.set i ⟨x1, x2, x3, x4, x5, x6, x7, x8, x9, x10, x11, x12⟩, by simp, by simp, by omega, by omega, by simpa using hdl, hch.1, by simpa using hdi3, hdq2, (hgw.trans hg3).trans hch.2⟩
          case measure => simp [intOf]; omega
        · go_wp2_with fail
          obtain ⟨hor1, hdi3, hdq2, hset, hgw, hor, hdq, hdl⟩ := HH.out
          go_roundw
          case rel =>
            (repeat apply Exists.intro)
            refine ⟨?_, rfl⟩
            exact ⟨i, j + 1, d, rfl, by simp, by omega, by omega, hdl, ownsRow_mod hor1 (Mod.of_below (fun _ => False) hg2.below) (fun _ _ e => e), by simpa using hdi3, fun q hq => hdq q (by omega), hgw.trans ((World.grownBy_alloc wr _ _).trans (hg2.grownBy _))⟩
          case measure => simp [intOf]; omega
      · obtain rfl : j = l.length := by omega
        rw [List.take_length] at hdi
        obtain ⟨w3, hcl, hg3, ho3⟩ := clear_own (P := Tryz.prog) (ty := 0) (c := cap - i) Tryz.underlying52 (zeroET12) (by decide) (by decide) T12.cells_len hor hdl hij
        rw [hdi] at ho3
        have hil : i = (l.filter fun x => !p x).length := by rw [← hdi, List.length_take]; omega
        have HF := Lib.hid (And.intro ho3 (And.intro (hgw.trans hg3) hil))
        clear ho3 hg3 hgw hor hdi hdq hil
        go_wp2_with fail
        go_ret
        obtain ⟨ho3, hg4, hil⟩ := HF.out
        exact ⟨_, rfl, by rw [← hil]; exact ho3, hg4⟩
end Go.Proofs.YtfoenojohemccaaGreatDoor
