/- Intake.times: from what Correct says of each report. -/
import Derived.Test.YtfoenojohemccaaGreatDoorT3
import Derived.Test.YtfoenojohemccaaGreatDoorK1
import Derived.Test.YtfoenojohemccaaGreatDoorN7
import Derived.Maps.AppendAt
namespace Go.Proofs.YtfoenojohemccaaGreatDoor
open Go.RowKit Go.Sort Go.Proofs

theorem info89 : (Tryz.prog.info? 89).map (fun i => (i.zero, i.size, i.bytes)) = some (some (.agg #[.bool false, .string ⟨#[]⟩, .bool false, .string ⟨#[]⟩, .int .i64 0, .int .i64 0, .int .i64 0, .int .i64 0, .int .i64 0, .int .i64 0, .int .i64 0, .bool false]), 12, 112) := by kernel_rfl

open Classical in
/-- the reports that have a time, with it -/
noncomputable def timL (cor : Rep → Except Int Rat) (l : List Rep) : List Tim :=
  l.filterMap fun r => match cor r with
    | .ok q => if h : Sq q then some ⟨q, r, h⟩ else none
    | .error _ => none
/-- those that have none -/
def untL (cor : Rep → Except Int Rat) (l : List Rep) : List Rep := l.filter fun r => match cor r with | .ok _ => false | .error _ => true
theorem timL_len (cor : Rep → Except Int Rat) (l : List Rep) : (timL cor l).length ≤ l.length := List.length_filterMap_le _ _
theorem untL_len (cor : Rep → Except Int Rat) (l : List Rep) : (untL cor l).length ≤ l.length := List.length_filter_le _ _
theorem timL_ok {cor : Rep → Except Int Rat} {l : List Rep} {r : Rep} {q : Rat} (h : cor r = .ok q) (hq : Sq q) : timL cor (l ++ [r]) = timL cor l ++ [⟨q, r, hq⟩] := by
  unfold timL
  rw [List.filterMap_append]
  congr 1
  simp [h, hq]
theorem timL_err {cor : Rep → Except Int Rat} {l : List Rep} {r : Rep} {k : Int} (h : cor r = .error k) : timL cor (l ++ [r]) = timL cor l := by
  unfold timL
  rw [List.filterMap_append]
  simp [h]
theorem untL_ok {cor : Rep → Except Int Rat} {l : List Rep} {r : Rep} {q : Rat} (h : cor r = .ok q) : untL cor (l ++ [r]) = untL cor l := by
  unfold untL; rw [List.filter_append]; simp [h]
theorem untL_err {cor : Rep → Except Int Rat} {l : List Rep} {r : Rep} {k : Int} (h : cor r = .error k) : untL cor (l ++ [r]) = untL cor l ++ [r] := by
  unfold untL; rw [List.filter_append]; simp [h]

theorem own_apart {w : World} {B B' : Nat} {e e' : TypeId} {k k' n n' : Nat} {v v' : Value} {xs xs' : List Value} (h : w.ownsRow B e k v n xs) (h' : w.ownsRow B' e' k' v' n' xs') (he : e ≠ e') : v.ownBlock = none ∨ v.ownBlock ≠ v'.ownBlock := by
  rcases h.2 with ⟨rfl, _⟩ | ⟨g, cap, cur, rfl, hB, hg, _⟩
  · exact .inl rfl
  · refine .inr fun heq => ?_
    rcases h'.2 with ⟨rfl, _⟩ | ⟨g', cap', cur', rfl, hB', hg', _⟩
    · cases heq
    · have e1 : g = g' := by simpa [Value.ownBlock] using heq
      subst e1
      rw [hg] at hg'
      simp at hg'
      exact he hg'.2
def TimesPost (T : List Tim) (U : List Rep) (w : World) (e : Ending) (w' : World) : Prop :=
  ∃ (vt vu : Value) (lt : List Tim), e = .returned (.tuple #[vt, vu]) ∧ lt.Perm T ∧ SortedT lt ∧ w'.ownsRow w.heap.size 89 12 vt lt.length (lt.flatMap Tim.cells) ∧ w'.ownsRow w.heap.size 28 8 vu U.length (U.flatMap Rep.cells) ∧ Below w.heap.size w w'

set_option maxHeartbeats 4000000 in
set_option maxRecDepth 100000 in
theorem times_gen (px : Value) (o : Int) (rs : List Rep) (es : List Exc) (cor : Rep → Except Int Rat) (w : World) (hNr : rs.length ≤ 4294967296)
    (hX : Calls Tryz.prog 17 #[px] w fun e w' => ∃ v, e = .returned v ∧ RowOf Exc.cells 5 w' v es ∧ Below w.heap.size w w')
    (hR : ∀ W, Below w.heap.size w W → Calls Tryz.prog 16 #[px] W fun e w' => ∃ v, e = .returned v ∧ RowOf Rep.cells 8 w' v rs ∧ Below W.heap.size W w')
    (hC : ∀ r ∈ ofL rs o, ∀ v W, RowOf Exc.cells 5 W v es → Calls Tryz.prog 35 #[v, r.val] W fun e w' => CorPost (cor r) W e w')
    (hS : ∀ r ∈ ofL rs o, ∀ q, cor r = .ok q → Sq q) (hlen : (timL cor (ofL rs o)).length < 20) (hlen2 : (ofL rs o).length ≤ 4294967296) :
    Calls Tryz.prog 66 #[px, .int .i64 o] w fun e w' => TimesPost (timL cor (ofL rs o)) (untL cor (ofL rs o)) w e w' := by
  obtain ⟨i0, hi, hz0, hz1, hz2⟩ := info_parts info89
  obtain ⟨j0, ji, jz0, jz1, jz2⟩ := info_parts Tryz.info28
  have HX := Lib.hid hX
  have HR := Lib.hid hR
  have HC := Lib.hid hC
  have HS := Lib.hid hS
  have HL := Lib.hid hlen
  have HN := Lib.hid hNr
  clear hX hR hC hS hlen hNr
  go_enter Tryz.func66, Tryz.ntmps66
  go_wp2_with fail
  refine HX.out.mono ?_
  rintro e w1 ⟨vx, rfl, hx, hb1⟩
  have HX1 := Lib.hid (And.intro hx hb1)
  clear hx hb1
  go_wp2_with fail
  refine (HR.out w1 HX1.out.2).mono ?_
  rintro e w2 ⟨vr, rfl, hr, hb2⟩
  have HX2 := Lib.hid (And.intro hr hb2)
  clear hr hb2
  go_wp2_with fail
  refine (of_any rs vr o w2 HX2.out.1 HN.out).mono ?_
  rintro e w3 ⟨v3, rfl, ho3, hb3⟩
  obtain ⟨L, hL⟩ : ∃ L, L = ofL rs o := ⟨_, rfl⟩
  rw [← hL] at ho3 hlen2
  have hrow : RowOf Rep.cells 8 w3 v3 L := RowOf.of_owns Rep.cells_len ho3
  have hx3 : RowOf Exc.cells 5 w3 vx es := (HX1.out.1.below Exc.cells_len HX2.out.2).below Exc.cells_len hb3
  have hb0 : Below w.heap.size w w3 := (HX1.out.2.trans (HX2.out.2.mono HX1.out.2.size)).trans (hb3.mono (Nat.le_trans HX1.out.2.size HX2.out.2.size))
  obtain ⟨a, cap, rfl, hcr⟩ := hrow
  have H3 := Lib.hid (And.intro hx3 (And.intro hb0 hL))
  clear ho3 hx3 hb0 hb3 HX1 HX2 HX HR hL
  go_wp2_with fail
  go_loopw [4, 5, 8, 9, 10, 18] (fun vt vu _ _ _ i wr => ∃ k : Nat, k ≤ L.length ∧ i = .int .i64 k ∧ Hid (wr.ownsRow w3.heap.size 89 12 vt (timL cor (L.take k)).length ((timL cor (L.take k)).flatMap Tim.cells) ∧ wr.ownsRow w3.heap.size 28 8 vu (untL cor (L.take k)).length ((untL cor (L.take k)).flatMap Rep.cells) ∧ Below w3.heap.size w3 wr)) (fun _ _ _ _ _ i _ => L.length - (intOf i).toNat)
  case atStart => exact ⟨0, Nat.zero_le _, rfl, World.ownsRow_nil _ _ _ _, World.ownsRow_nil _ _ _ _, Below.refl _ _⟩
  case round =>
    obtain ⟨k, hk, rfl, HK⟩ := hrel
    by_cases hlt : k < L.length
    · obtain ⟨g, off, rfl, hcx⟩ := hcr k L[k] (List.getElem?_eq_getElem hlt)
      have hcx' : ∀ j, j < 8 → wr.cell? ⟨g, off + k * 8 + j, none⟩ = (L[k]).cells[j]? := fun j hj => by
        have hu : (L[k]).cells[j]? = some ((L[k]).cells[j]'hj) := List.getElem?_eq_getElem _
        have h0 := hcx j hj
        rw [hu] at h0 ⊢
        have := block_lt_of_cell h0
        rw [HK.out.2.2.cell (p := ⟨g, off + k * 8 + j, none⟩) this]
        exact h0
      have hmem : L[k] ∈ ofL rs o := by rw [← H3.out.2.2]; exact List.getElem_mem _
      have hcall := HC.out _ hmem vx (wr.alloc (.cells (L[k]).cells.toArray 28)) (H3.out.1.below Exc.cells_len (HK.out.2.2.alloc HK.out.2.2.size _))
      have htk : L.take (k + 1) = L.take k ++ [L[k]] := by rw [List.take_add_one, List.getElem?_eq_getElem hlt]; rfl
      have hsq := HS.out _ hmem
      obtain ⟨y, hy⟩ : ∃ y, y = L[k] := ⟨_, rfl⟩
      rw [← hy] at hcx' hcall htk hsq
      have q0 := hcx' 0 (by decide)
      have q1 := hcx' 1 (by decide)
      have q2 := hcx' 2 (by decide)
      have q3 := hcx' 3 (by decide)
      have q4 := hcx' 4 (by decide)
      have q5 := hcx' 5 (by decide)
      have q6 := hcx' 6 (by decide)
      have q7 := hcx' 7 (by decide)
      have hbox := At.new wr y.cells.toArray 28
      have HBX := Lib.hid hbox
      have HHT := Lib.hid htk
      have HHS := Lib.hid hsq
      clear hcx hcx' hmem htk hsq hy hbox
      obtain ⟨x1, x2, x3, x4, x5, x6, x7, x8⟩ := y
      simp only [Rep.val, Rep.cells] at hcall
      simp only [Rep.cells, Nat.add_zero, List.getElem?_cons_zero, List.getElem?_cons_succ] at q0 q1 q2 q3 q4 q5 q6 q7
      have HCALL := Lib.hid hcall
      clear hcall
      have hT := timL_len cor (L.take k)
      have hU := untL_len cor (L.take k)
      rw [List.length_take] at hT hU
      go_wp2_with fail
      refine HCALL.out.mono ?_
      rintro e w4 ⟨⟨v4, rfl, hv⟩, hb4⟩
      have hbw : Below w3.heap.size w3 w4 := (HK.out.2.2.alloc HK.out.2.2.size _).trans (hb4.mono (by have := HK.out.2.2.size; simp; omega))
      have hot := ownsRow_mod (HK.out.1.alloc (.cells (Rep.cells ⟨x1, x2, x3, x4, x5, x6, x7, x8⟩).toArray 28)) (Mod.of_below (fun _ => False) hb4) (fun _ _ e => e)
      have hou := ownsRow_mod (HK.out.2.1.alloc (.cells (Rep.cells ⟨x1, x2, x3, x4, x5, x6, x7, x8⟩).toArray 28)) (Mod.of_below (fun _ => False) hb4) (fun _ _ e => e)
      have hbx4 := HBX.out.call hb4
      have hsz4 : w3.heap.size ≤ w4.heap.size := hbw.size
      have HH := Lib.hid (And.intro hot (And.intro hou (And.intro hbw hbx4)))
      clear hb4 hot hou hbw
      obtain ⟨cv, hcv⟩ : ∃ cv, cv = cor ⟨x1, x2, x3, x4, x5, x6, x7, x8⟩ := ⟨_, rfl⟩
      rw [← hcv] at hv
      have hTk : (timL cor (L.take k)).length ≤ 4294967296 := by omega
      have hUk : (untL cor (L.take k)).length ≤ 4294967296 := by omega
      cases cv with
      | error kk =>
        obtain ⟨hkk, rfl⟩ := hv
        have e1 := untL_err (l := L.take k) hcv.symm
        have e2 := timL_err (l := L.take k) hcv.symm
        rw [← HHT.out] at e1 e2
        have HE := Lib.hid (And.intro e1 e2)
        obtain ⟨b0, _, _⟩ := hbx4.alloc (.cells #[.bool false, .string { data := #[] }, .bool false, .string { data := #[] }] 69)
        have hnew := rep_new (w4.alloc (.cells #[.bool false, .string { data := #[] }, .bool false, .string { data := #[] }] 69)) (Rep.cells ⟨x1, x2, x3, x4, x5, x6, x7, x8⟩) 28
        simp only [World.size_alloc] at hnew
        have HNEW := Lib.hid hnew
        clear e1 e2 hcv hbx4 hnew hT hU
        simp only [Rep.cells] at b0
        go_wp2_with (at_builtin; refine wpList_append_own _ rfl _ _ 26 rfl w3.heap.size 28 j0 (Rep.val ⟨0, 0, 0, 0, 0, 0, 0, false⟩) 8 64 Tryz.underlying26 ji jz0 jz1 jz2 rfl (by decide) u5 (untL cor (L.take k)).length ((untL cor (L.take k)).flatMap Rep.cells) rfl ((HH.out.2.1.alloc _).alloc _) ⟨w4.heap.size + 1, 0, none⟩ 1 1 (Rep.cells ⟨x1, x2, x3, x4, x5, x6, x7, x8⟩) rfl rfl HNEW.out (oneCellR _) (by simp only [maxLen]; omega) (by omega) (by simp; omega) ?_; intro v' w5 hown' hgrow _)
        obtain ⟨hot, hou, hbw, _⟩ := HH.out
        have hot5 := ((hot.alloc _).alloc _).kept hgrow (own_apart hot hou (by decide))
        have hbw5 : Below w3.heap.size w3 w5 := ((hbw.alloc hbw.size _).alloc (by simp; omega) _).grown hgrow (by simp; omega) (fun k e => by have := (((hou.alloc (.cells #[.bool false, .string { data := #[] }, .bool false, .string { data := #[] }] 69)).alloc (.cells (Rep.cells ⟨x1, x2, x3, x4, x5, x6, x7, x8⟩).toArray 28)).lt k e).1; omega)
        refine ⟨⟨k + 1, by omega, by simp, ?_⟩, by simp [intOf]; omega⟩
        show _ ∧ _ ∧ _
        rw [HE.out.1, HE.out.2]
        exact ⟨hot5, by simpa [List.flatMap_append] using hown', hbw5⟩
      | ok q =>
        obtain ⟨b1, s1, b2, s2, rfl, hq⟩ := hv
        have hsq := HHS.out q hcv.symm
        have e1 := untL_ok (l := L.take k) hcv.symm
        have e2 := timL_ok (l := L.take k) hcv.symm hsq
        rw [← HHT.out] at e1 e2
        have ec : Tim.cells ⟨q, ⟨x1, x2, x3, x4, x5, x6, x7, x8⟩, hsq⟩ = T12.cells ⟨b1, s1, b2, s2, x1, x2, x3, x4, x5, x6, x7, x8⟩ := by
          rw [hq.1.1, hq.1.2.1, hq.2.1, hq.2.2.1]; rfl
        have HE := Lib.hid (And.intro e1 (And.intro e2 ec))
        obtain ⟨b0, _, _⟩ := hbx4.alloc (.cells #[.bool b1, .string s1, .bool b2, .string s2] 69)
        have hnew := rep_new (w4.alloc (.cells #[.bool b1, .string s1, .bool b2, .string s2] 69)) (T12.cells ⟨b1, s1, b2, s2, x1, x2, x3, x4, x5, x6, x7, x8⟩) 89
        simp only [World.size_alloc] at hnew
        have HNEW := Lib.hid hnew
        have HSQ := Lib.hid hsq
        clear e1 e2 ec hcv hbx4 hnew hT hU hq
        simp only [Rep.cells] at b0
        go_wp2_with (at_builtin; refine wpList_append_own _ rfl _ _ 52 rfl w3.heap.size 89 i0 (.agg #[.bool false, .string ⟨#[]⟩, .bool false, .string ⟨#[]⟩, .int .i64 0, .int .i64 0, .int .i64 0, .int .i64 0, .int .i64 0, .int .i64 0, .int .i64 0, .bool false]) 12 112 Tryz.underlying52 hi hz0 hz1 hz2 rfl (by decide) u4 (timL cor (L.take k)).length ((timL cor (L.take k)).flatMap Tim.cells) rfl ((HH.out.1.alloc _).alloc _) ⟨w4.heap.size + 1, 0, none⟩ 1 1 (T12.cells ⟨b1, s1, b2, s2, x1, x2, x3, x4, x5, x6, x7, x8⟩) rfl rfl HNEW.out (oneCellT _) (by simp only [maxLen]; omega) (by omega) (by simp; omega) ?_; intro v' w5 hown' hgrow _)
        obtain ⟨hot, hou, hbw, _⟩ := HH.out
        have hou5 := ((hou.alloc _).alloc _).kept hgrow (own_apart hou hot (by decide))
        have hbw5 : Below w3.heap.size w3 w5 := ((hbw.alloc hbw.size _).alloc (by simp; omega) _).grown hgrow (by simp; omega) (fun k e => by have := (((hot.alloc (.cells #[.bool b1, .string s1, .bool b2, .string s2] 69)).alloc (.cells (T12.cells ⟨b1, s1, b2, s2, x1, x2, x3, x4, x5, x6, x7, x8⟩).toArray 89)).lt k e).1; omega)
        refine ⟨⟨k + 1, by omega, by simp, ?_⟩, by simp [intOf]; omega⟩
        show _ ∧ _ ∧ _
        rw [HE.out.1, HE.out.2.1]
        exact ⟨by rw [List.flatMap_append, List.flatMap_cons, List.flatMap_nil, List.append_nil, HE.out.2.2, List.length_append]; exact hown', hou5, hbw5⟩
    · obtain rfl : k = L.length := by omega
      have hk := HK.out
      rw [List.take_length] at hk
      obtain ⟨hot, hou, hbw⟩ := hk
      have hst := sortStable_small _ _ _ _ hot (by rw [H3.out.2.2]; exact HL.out)
      have HST := Lib.hid hst
      have HH := Lib.hid (And.intro hot (And.intro hou hbw))
      clear hst hot hou hbw HK
      go_wp2_with fail
      refine HST.out.mono ?_
      rintro e w4 ⟨rfl, lt, hperm, hsorted, ho4, hg4⟩
      have hou4 := HH.out.2.1.kept hg4 (own_apart HH.out.2.1 HH.out.1 (by decide))
      have hb4 : Below w.heap.size w w4 := (H3.out.2.1.trans (HH.out.2.2.mono H3.out.2.1.size)).grown hg4 (Nat.le_trans H3.out.2.1.size HH.out.2.2.size) (fun k e => by have := (HH.out.1.lt k e).1; have := H3.out.2.1.size; omega)
      have HF := Lib.hid (And.intro hperm (And.intro hsorted (And.intro ho4 (And.intro hou4 hb4))))
      clear hperm hsorted ho4 hg4 hou4 hb4
      go_wp2_with fail
      go_ret2
      obtain ⟨hperm, hsorted, ho4, hou4, hb4⟩ := HF.out
      rw [← H3.out.2.2]
      exact ⟨_, _, lt, rfl, hperm, hsorted, ownsRow_mono ho4 H3.out.2.1.size, ownsRow_mono hou4 H3.out.2.1.size, hb4⟩
end Go.Proofs.YtfoenojohemccaaGreatDoor
