/- report.identify, report.winners. -/
import Derived.Test.YtfoenojohemccaaGreatDoorQI
namespace Go.Proofs.YtfoenojohemccaaGreatDoor
open Go.RowKit Go.Sort Go.Proofs

def idn (r : Rep) : Idn := ⟨r.o, r.s⟩
theorem identify_any (o s v d t x y : Int) (c : Bool) (w : World) :
    Calls Tryz.prog 130 #[.agg #[.int .i64 o, .int .i64 s, .int .i64 v, .int .i64 d, .int .i64 t, .int .i64 x, .int .i64 y, .bool c]] w fun e w' =>
      e = .returned (.agg #[.int .i64 o, .int .i64 s]) ∧ (w.alloc (.cells #[.int .i64 o, .int .i64 s, .int .i64 v, .int .i64 d, .int .i64 t, .int .i64 x, .int .i64 y, .bool c] 28)).alloc (.cells #[.int .i64 o, .int .i64 s] 150) = w' := by
  go_enter Tryz.func130, Tryz.ntmps130
  go_wp2
  refine bodyPost_ret (v := .agg #[.int .i64 o, .int .i64 s]) (by simp [results, Tryz.results130, go_sem]) rfl ⟨rfl, rfl⟩

theorem cells_alloc2 {w : World} {b : Nat} {cs : Array Value} (h : ∀ j, w.cell? ⟨b, j, none⟩ = cs[j]?) (hlt : b < w.heap.size) (o o' : Obj) : ∀ j, ((w.alloc o).alloc o').cell? ⟨b, j, none⟩ = cs[j]? := fun j => by
  rw [← h j]
  exact World.cell?_of_block (by rw [Below.heap_alloc _ _ _ (by simp; omega), Below.heap_alloc _ _ _ hlt])
theorem cells_alloc2d {w : World} {b : Nat} {cs : Array Value} (h : ∀ j, w.cell? ⟨b, j, none⟩ = cs[j]?) (hlt : b < w.heap.size) (o o' : Obj) : ∀ j, ((w.drew.alloc o).alloc o').cell? ⟨b, j, none⟩ = cs[j]? :=
  cells_alloc2 (w := w.drew) h hlt o o'
/-- the greatest report of each identity so far -/
def winStep (kv : List (Idn × Rep)) (r : Rep) : List (Idn × Rep) :=
  match alook kv (idn r) with
  | some u => if 0 < lexI (flds r) (flds u) then aput kv (idn r) r else kv
  | none => aput kv (idn r) r
def winL (l : List Rep) : List (Idn × Rep) := l.foldl winStep []
theorem winL_go {l : List Rep} {k : Nat} (hk : k < l.length) : winL (l.take (k + 1)) = winStep (winL (l.take k)) l[k] := by
  rw [List.take_add_one, List.getElem?_eq_getElem hk, winL, List.foldl_append]
  rfl
theorem zeroRep (w : World) : (zeroValue 28).run Tryz.prog w = .ok (Rep.val ⟨0, 0, 0, 0, 0, 0, 0, false⟩) w := by
  simp [go_sem, Rep.val]
/-- one element of a row of reports, read in a later world -/
theorem row_cells {l : List Rep} {a : Option Addr} {w wr : World} (hcr : ∀ i (x : Rep), l[i]? = some x → ∃ g off, a = some ⟨g, off, none⟩ ∧ ∀ j, j < 8 → w.cell? ⟨g, off + i * 8 + j, none⟩ = (Rep.cells x)[j]?) (hb : Below w.heap.size w wr) {k : Nat} (hk : k < l.length) :
    ∃ g off, a = some ⟨g, off, none⟩ ∧ (∀ j, j < 8 → wr.cell? ⟨g, off + k * 8 + j, none⟩ = (Rep.cells l[k])[j]?) ∧ g < w.heap.size := by
  obtain ⟨g, off, rfl, hcx⟩ := hcr k l[k] (List.getElem?_eq_getElem hk)
  have h0 : ∀ j, j < 8 → ∃ u, (Rep.cells l[k])[j]? = some u := fun j hj => ⟨_, List.getElem?_eq_getElem (by rw [Rep.cells_len]; exact hj)⟩
  refine ⟨g, off, rfl, fun j hj => ?_, ?_⟩
  · obtain ⟨u, hu⟩ := h0 j hj
    rw [hu]
    exact (Mod.of_below (fun _ => False) hb).cell (by rw [hcx j hj, hu]) (fun e => e)
  · obtain ⟨u, hu⟩ := h0 0 (by decide)
    have := hcx 0 (by decide)
    rw [hu] at this
    rcases Nat.lt_or_ge g w.heap.size with h | h
    · exact h
    · rw [World.cell?, Array.getElem?_eq_none h] at this; simp at this

set_option maxHeartbeats 4000000 in
set_option maxRecDepth 100000 in
theorem winners_any (l : List Rep) (v : Value) (w : World) (hr : RowOf Rep.cells 8 w v l) (hN : l.length ≤ 4294967296) :
    Calls Tryz.prog 99 #[v] w fun e w' => e = .returned (.map (some w.heap.size)) ∧ MapIs Idn.val Rep.val w' w.heap.size (winL l) ∧ Below w.heap.size w w' := by
  obtain ⟨a, cap, rfl, hcr⟩ := hr
  have k1 := run_makeMap w (P := Tryz.prog) Tryz.underlying147
  have hm0 := MapIs.made Idn.val Rep.val w
  have hB0 : Below w.heap.size w (w.alloc (.map #[] 0)) := (Below.refl _ _).alloc (Nat.le_refl _) _
  go_enter Tryz.func99, Tryz.ntmps99
  go_wp2_with fail
  go_loopw [5, 6, 7, 11] (fun _ _ _ i wr => ∃ k : Nat, k ≤ l.length ∧ i = .int .i64 k ∧ MapIs Idn.val Rep.val wr w.heap.size (winL (l.take k)) ∧ Below w.heap.size w wr) (fun _ _ _ i _ => l.length - (intOf i).toNat)
  case atStart => exact ⟨0, Nat.zero_le _, rfl, hm0, hB0⟩
  case round =>
    obtain ⟨k, hk, rfl, hm, hbl⟩ := hrel
    clear k1 hm0 hB0
    by_cases hlr : k < l.length
    · obtain ⟨g, off, rfl, hcx, hglt⟩ := row_cells hcr hbl hlr
      have hgo := winL_go hlr
      obtain ⟨y, hy⟩ : ∃ y, y = l[k] := ⟨_, rfl⟩
      rw [← hy] at hcx hgo
      obtain ⟨kv, hkv⟩ : ∃ kv, kv = winL (l.take k) := ⟨_, rfl⟩
      rw [← hkv] at hm hgo
      have q0 := hcx 0 (by decide)
      have q1 := hcx 1 (by decide)
      have q2 := hcx 2 (by decide)
      have q3 := hcx 3 (by decide)
      have q4 := hcx 4 (by decide)
      have q5 := hcx 5 (by decide)
      have q6 := hcx 6 (by decide)
      have q7 := hcx 7 (by decide)
      have hszw := hbl.size
      have hszl := hm.lt
      have hm1 := hm.alloc (.cells y.cells.toArray 28)
      have hm2 := (hm1.alloc (.cells y.cells.toArray 28)).alloc (.cells #[.int .i64 y.o, .int .i64 y.s] 150)
      have hl := run_lookup_ok (P := Tryz.prog) keyIdn Tryz.underlying147 zeroRep hm2 (idn y)
      clear hcr hcx hkv hy hm
      obtain ⟨x1, x2, x3, x4, x5, x6, x7, x8⟩ := y
      cases hak : alook kv (idn ⟨x1, x2, x3, x4, x5, x6, x7, x8⟩) with
      | none =>
        rw [hak] at hl
        have HH := Lib.hid (And.intro hm2 (And.intro hbl (And.intro hgo hak)))
        clear hm2 hm1 hbl hgo hak
        simp only [idn, lookV, Option.isSome, Idn.val, Rep.val, Rep.cells, Nat.add_zero, List.getElem?_cons_zero, List.getElem?_cons_succ] at hl q0 q1 q2 q3 q4 q5 q6 q7
        go_wp2_with fail
        refine (identify_any x1 x2 x3 x4 x5 x6 x7 x8 _).mono ?_
        rintro e w1 ⟨rfl, rfl⟩
        go_wp2_with fail
        obtain ⟨Wx, hWx⟩ : ∃ Wx, Wx = (((wr.alloc (.cells #[Value.int .i64 x1, .int .i64 x2, .int .i64 x3, .int .i64 x4, .int .i64 x5, .int .i64 x6, .int .i64 x7, .bool x8] 28)).alloc (.cells #[Value.int .i64 x1, .int .i64 x2, .int .i64 x3, .int .i64 x4, .int .i64 x5, .int .i64 x6, .int .i64 x7, .bool x8] 28)).alloc (.cells #[.int .i64 x1, .int .i64 x2] 150)).alloc (.cells #[Value.int .i64 0, .int .i64 0, .int .i64 0, .int .i64 0, .int .i64 0, .int .i64 0, .int .i64 0, .bool false] 28) := ⟨_, rfl⟩
        obtain ⟨hm2, hbl, hgo, hak⟩ := HH.out
        have hcells : ∀ j, Wx.cell? ⟨wr.heap.size, j, none⟩ = (#[Value.int .i64 x1, .int .i64 x2, .int .i64 x3, .int .i64 x4, .int .i64 x5, .int .i64 x6, .int .i64 x7, .bool x8])[j]? := fun j => by rw [hWx]; simp [go_sem]
        have hmx : MapIs Idn.val Rep.val Wx w.heap.size kv := by rw [hWx]; exact hm2.alloc _
        have hbx : Below w.heap.size w Wx := by rw [hWx]; exact (((hbl.alloc (by omega) _).alloc (by simp; omega) _).alloc (by simp; omega) _).alloc (by simp; omega) _
        have hltx : wr.heap.size < Wx.heap.size := by rw [hWx]; simp; omega
        rw [← hWx]
        clear hm2 hbl hgo hak hWx hl q0 q1 q2 q3 q4 q5 q6 q7
        obtain ⟨w4, hup, hd4, hg4, hs4⟩ := run_mapUpdate (P := Tryz.prog) keyIdn Tryz.underlying147 ((hmx.alloc (.cells #[Value.int .i64 x1, .int .i64 x2, .int .i64 x3, .int .i64 x4, .int .i64 x5, .int .i64 x6, .int .i64 x7, .bool x8] 28)).alloc (.cells #[.int .i64 x1, .int .i64 x2] 150)).drew (idn ⟨x1, x2, x3, x4, x5, x6, x7, x8⟩) ⟨x1, x2, x3, x4, x5, x6, x7, x8⟩
        have hb4 : Below w.heap.size w w4 := (((hbx.alloc hbx.size _).alloc (by have := hbx.size; simp; omega) _).drew).grown hg4 (by have := hbx.size; simp; omega) (fun j e => by cases e; exact Nat.le_refl _)
        have hcells4 := fun j => (World.cell?_of_block (a := ⟨wr.heap.size, j, none⟩) (hg4.block wr.heap.size (by simp; omega) (by intro e; injection e; omega))).trans (cells_alloc2 hcells hltx _ _ j)
        have HD := Lib.hid (And.intro hd4 hb4)
        clear hd4 hb4 hg4 hs4 hmx hbx
        simp only [idn, Idn.val, Rep.val] at hup
        go_region_held3 (fun W => ∀ j, W.cell? ⟨wr.heap.size, j, none⟩ = (#[Value.int .i64 x1, .int .i64 x2, .int .i64 x3, .int .i64 x4, .int .i64 x5, .int .i64 x6, .int .i64 x7, .bool x8])[j]?)
          (first | exact hcells | exact cells_alloc2 hcells hltx _ _ | exact cells_alloc2d hcells hltx _ _ | exact hcells4 | go_keep)
          (first | (go_at_call 130; refine (identify_any x1 x2 x3 x4 x5 x6 x7 x8 _).mono ?_; rintro e w' ⟨rfl, rfl⟩))
        all_goals
          go_wp2_with fail
          obtain ⟨hm2, hbl, hgo, hak⟩ := HH.out
          exact ⟨⟨k + 1, by omega, by simp, by rw [hgo, winStep, hak]; exact HD.out.1, HD.out.2⟩, by simp [intOf]; omega⟩
      | some u =>
        rw [hak] at hl
        have HH := Lib.hid (And.intro hm2 (And.intro hbl (And.intro hgo hak)))
        clear hm2 hm1 hbl hgo hak
        obtain ⟨u1, u2, u3, u4, u5, u6, u7, u8⟩ := u
        simp only [idn, lookV, Option.isSome, Idn.val, Rep.val, Rep.cells, Nat.add_zero, List.getElem?_cons_zero, List.getElem?_cons_succ] at hl q0 q1 q2 q3 q4 q5 q6 q7
        go_wp2_with fail
        refine (identify_any x1 x2 x3 x4 x5 x6 x7 x8 _).mono ?_
        rintro e w1 ⟨rfl, rfl⟩
        go_wp2_with fail
        refine (cmpRep_any x1 x2 x3 x4 x5 x6 x7 x8 u1 u2 u3 u4 u5 u6 u7 u8 _).mono ?_
        rintro e Wx ⟨rfl, hgq⟩
        obtain ⟨hm2, hbl, hgo, hak⟩ := HH.out
        have hb1 := hgq.below
        have hcells : ∀ j, Wx.cell? ⟨wr.heap.size, j, none⟩ = (#[Value.int .i64 x1, .int .i64 x2, .int .i64 x3, .int .i64 x4, .int .i64 x5, .int .i64 x6, .int .i64 x7, .bool x8])[j]? := fun j => by rw [hb1.cell (by simp; omega)]; simp [go_sem]
        have hmx : MapIs Idn.val Rep.val Wx w.heap.size kv := (hm2.alloc (.cells #[Value.int .i64 u1, .int .i64 u2, .int .i64 u3, .int .i64 u4, .int .i64 u5, .int .i64 u6, .int .i64 u7, .bool u8] 28)).below hb1 (by simp; omega)
        have hbx : Below w.heap.size w Wx := ((((hbl.alloc (by omega) _).alloc (by simp; omega) _).alloc (by simp; omega) _).alloc (by simp; omega) _).trans (hb1.mono (by simp; omega))
        have hltx : wr.heap.size < Wx.heap.size := by have := hb1.size; simp at this; omega
        have HX := Lib.hid (And.intro hmx hbx)
        obtain ⟨res, hres⟩ : ∃ res, res = lexI (flds ⟨x1, x2, x3, x4, x5, x6, x7, x8⟩) (flds ⟨u1, u2, u3, u4, u5, u6, u7, u8⟩) := ⟨_, rfl⟩
        rw [← hres]
        have HR := Lib.hid hres
        clear hm2 hbl hgo hak hl q0 q1 q2 q3 q4 q5 q6 q7 hgq hb1 hres hmx hbx
        go_wp2_with fail
        · obtain ⟨hmx, hbx⟩ := HX.out
          have hpos : 0 < res := by simp_all
          have HP := Lib.hid hpos
          clear hpos
          obtain ⟨w4, hup, hd4, hg4, hs4⟩ := run_mapUpdate (P := Tryz.prog) keyIdn Tryz.underlying147 ((hmx.alloc (.cells #[Value.int .i64 x1, .int .i64 x2, .int .i64 x3, .int .i64 x4, .int .i64 x5, .int .i64 x6, .int .i64 x7, .bool x8] 28)).alloc (.cells #[.int .i64 x1, .int .i64 x2] 150)).drew (idn ⟨x1, x2, x3, x4, x5, x6, x7, x8⟩) ⟨x1, x2, x3, x4, x5, x6, x7, x8⟩
          have hb4 : Below w.heap.size w w4 := (((hbx.alloc hbx.size _).alloc (by have := hbx.size; simp; omega) _).drew).grown hg4 (by have := hbx.size; simp; omega) (fun j e => by cases e; exact Nat.le_refl _)
          have hcells4 := fun j => (World.cell?_of_block (a := ⟨wr.heap.size, j, none⟩) (hg4.block wr.heap.size (by simp; omega) (by intro e; injection e; omega))).trans (cells_alloc2 hcells hltx _ _ j)
          have HD := Lib.hid (And.intro hd4 hb4)
          clear hd4 hb4 hg4 hs4 hmx hbx
          simp only [idn, Idn.val, Rep.val] at hup
          go_region_held3 (fun W => ∀ j, W.cell? ⟨wr.heap.size, j, none⟩ = (#[Value.int .i64 x1, .int .i64 x2, .int .i64 x3, .int .i64 x4, .int .i64 x5, .int .i64 x6, .int .i64 x7, .bool x8])[j]?)
            (first | exact hcells | exact cells_alloc2 hcells hltx _ _ | exact cells_alloc2d hcells hltx _ _ | exact hcells4 | go_keep)
            (first | (go_at_call 130; refine (identify_any x1 x2 x3 x4 x5 x6 x7 x8 _).mono ?_; rintro e w' ⟨rfl, rfl⟩))
          all_goals
            go_wp2_with fail
            obtain ⟨hm2, hbl, hgo, hak⟩ := HH.out
            exact ⟨⟨k + 1, by omega, by simp, by rw [hgo, winStep, hak]; simp only []; rw [if_pos (by have := HR.out; rw [← this]; exact HP.out)]; exact HD.out.1, HD.out.2⟩, by simp [intOf]; omega⟩
        · obtain ⟨hmx, hbx⟩ := HX.out
          obtain ⟨hm2, hbl, hgo, hak⟩ := HH.out
          have HP : ¬ 0 < res := by simp_all
          exact ⟨⟨k + 1, by omega, by simp, by rw [hgo, winStep, hak]; simp only []; rw [if_neg (by have := HR.out; rw [← this]; exact HP)]; exact hmx, hbx⟩, by simp [intOf]; omega⟩
    · obtain rfl : k = l.length := by omega
      rw [List.take_length] at hm
      go_wp2_with fail
      go_ret
      exact ⟨rfl, hm, hbl⟩
end Go.Proofs.YtfoenojohemccaaGreatDoor
