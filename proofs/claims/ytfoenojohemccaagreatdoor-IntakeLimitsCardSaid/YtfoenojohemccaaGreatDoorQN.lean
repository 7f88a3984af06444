/- report.Of; Complete; nil receivers; Exchanges. | Intake.Exchanges; nil receivers; Complete. | Intake.Complete. -/
import Derived.Test.YtfoenojohemccaaGreatDoorDR
import Derived.Test.YtfoenojohemccaaGreatDoorDX
namespace Go.Proofs.YtfoenojohemccaaGreatDoor
open Go.RowKit Go.Sort Go.Proofs

theorem of_pred (o : Int) (Bo : Nat) (x : Rep) (w : World) (hc : w.cell? ⟨Bo, 0, none⟩ = some (.int .i64 o)) (hB : Bo < w.heap.size) :
    Calls Tryz.prog 102 (#[x.val] ++ #[.pointer (some ⟨Bo, 0, none⟩)]) w fun e w' => e = .returned (.bool (decide (x.o ≠ o))) ∧ GrowQ w w' := by
  obtain ⟨x1, x2, x3, x4, x5, x6, x7, x8⟩ := x
  simp only [Rep.val, List.append_toArray, List.cons_append, List.nil_append]
  go_enter Tryz.func102, Tryz.ntmps102
  go_wp2_with fail
  go_ret
  refine ⟨by simp [bne]; rfl, (GrowQ.refl _).alloc _⟩

/-- the reports of an object that count -/
def ofL (l : List Rep) (o : Int) : List Rep := (cntL l).filter fun x => !decide (x.o ≠ o)

set_option maxHeartbeats 1000000 in
theorem of_any (l : List Rep) (v : Value) (o : Int) (w : World) (hr : RowOf Rep.cells 8 w v l) (hN : l.length ≤ 4294967296) :
    Calls Tryz.prog 65 #[v, .int .i64 o] w fun e w' => ∃ v', e = .returned v' ∧ w'.ownsRow w.heap.size 28 8 v' (ofL l o).length ((ofL l o).flatMap Rep.cells) ∧ Below w.heap.size w w' := by
  have hc := counting_any l v (w.alloc (.cells #[.int .i64 o] 3)) (hr.below Rep.cells_len ((Below.refl _ _).alloc (Nat.le_refl _) _)) hN
  have hcl := cntL_len l
  have HC := Lib.hid hc
  clear hc hr
  go_enter Tryz.func65, Tryz.ntmps65
  go_wp2_with fail
  refine HC.out.mono ?_
  rintro e w1 ⟨v1, rfl, ho, hb⟩
  have hcell : w1.cell? ⟨w.heap.size, 0, none⟩ = some (.int .i64 o) := by rw [hb.cell (by simp)]; simp [go_sem]
  have hlt : w.heap.size < w1.heap.size := by have := hb.size; simp at this; omega
  have hd := rep_deleteFunc (cntL l) v1 _ 102 #[.pointer (some ⟨w.heap.size, 0, none⟩)] (fun x => decide (x.o ≠ o)) (fun W => W.cell? ⟨w.heap.size, 0, none⟩ = some (.int .i64 o) ∧ w.heap.size < W.heap.size) w1 ho (by omega) (enters_of Tryz.func102 (by kernel_rfl) rfl)
    (fun W W' h hg => ⟨hg.cell h.1 (own_ne ho (by simp)), Nat.lt_of_lt_of_le h.2 hg.size⟩) ⟨hcell, hlt⟩ (fun x W h => of_pred o w.heap.size x W h.1 h.2)
  have HD := Lib.hid hd
  clear hd hcell
  go_wp2_with fail
  refine HD.out.mono ?_
  rintro e w2 ⟨v2, rfl, ho2, hg2⟩
  go_wp2_with fail
  go_ret
  refine ⟨v2, rfl, ownsRow_mono ho2 (by simp), ?_⟩
  exact (((Below.refl _ _).alloc (Nat.le_refl _) _).trans (hb.mono (by simp))).grown hg2 (by omega) (fun k e => by have := (ho.lt k e).1; simp at this; omega)
end Go.Proofs.YtfoenojohemccaaGreatDoor
namespace Go.Proofs.YtfoenojohemccaaGreatDoor
open Go.RowKit Go.Sort Go.Proofs

set_option maxHeartbeats 1000000 in
theorem exchanges_any (bx : Nat) (rs : List Rep) (es : List Exc) (w : World) (h : IntakeIs w ⟨bx, 0, none⟩ rs es) (hN : es.length ≤ 4294967296) :
    Calls Tryz.prog 17 #[.pointer (some ⟨bx, 0, none⟩)] w fun e w' => ∃ v, e = .returned v ∧ NewX w w' v (sortX es) := by
  obtain ⟨br, be, hc0, hc1, hr, he, hne⟩ := h.ex
  have hk := fun W => exc_keys (some be) W
  have hs := sortedFuncX be _ (w.alloc (.cells #[.map (some be)] 91)) (by simpa using hN) w.heap.size (by simp) (by simp [go_sem]) (he.alloc _)
  have HS := Lib.hid hs
  have e1 : ((es.map fun r => (r, true)).map (·.1)) = es := by simp [List.map_map, Function.comp_def]
  have HE := Lib.hid e1
  clear hs hr he hne hc0 e1 h
  have hc1 : w.cell? ⟨bx, 1, none⟩ = some (.map (some be)) := by simpa [Addr.add] using hc1
  go_enter Tryz.func17, Tryz.ntmps17
  go_wp2_with fail
  refine (hk _).mono ?_
  rintro e w1 ⟨rfl, rfl⟩
  go_wp2_with fail
  refine HS.out.mono ?_
  rintro e w2 ⟨v, rfl, ho, hnil, hb⟩
  rw [HE.out] at ho hnil
  go_wp2_with fail
  go_ret
  refine ⟨v, rfl, ?_, hnil, ((Below.refl _ _).alloc (Nat.le_refl _) _).trans (hb.mono (by simp))⟩
  obtain ⟨h1, h2⟩ := ho
  refine ⟨h1, ?_⟩
  rcases h2 with h2 | ⟨g, cap, cur, hv, hbg, rest⟩
  · exact .inl h2
  · exact .inr ⟨g, cap, cur, hv, by simp at hbg; omega, rest⟩

theorem reports_nil (w : World) : Calls Tryz.prog 16 #[.pointer none] w fun e w' => e = .returned (.slice none 0 0) ∧ w = w' := by
  go_enter Tryz.func16, Tryz.ntmps16
  go_wp2_with fail
  go_ret
  exact ⟨rfl, rfl⟩
theorem exchanges_nil (w : World) : Calls Tryz.prog 17 #[.pointer none] w fun e w' => e = .returned (.slice none 0 0) ∧ w = w' := by
  go_enter Tryz.func17, Tryz.ntmps17
  go_wp2_with fail
  go_ret
  exact ⟨rfl, rfl⟩
end Go.Proofs.YtfoenojohemccaaGreatDoor
namespace Go.Proofs.YtfoenojohemccaaGreatDoor
open Go.RowKit Go.Sort Go.Proofs

/-- the numbers of an object's reports -/
def seqsL (o : Int) (l : List Rep) : List Int := l.foldl (fun acc r => if r.o = o then addL acc r.s else acc) []
theorem seqsL_snoc (o : Int) (l : List Rep) (r : Rep) : seqsL o (l ++ [r]) = if r.o = o then addL (seqsL o l) r.s else seqsL o l := by simp [seqsL]
theorem mem_addL {κ : Type} [DecidableEq κ] {l : List κ} {x y : κ} : y ∈ addL l x ↔ y ∈ l ∨ y = x := by
  unfold addL
  split
  · constructor
    · exact .inl
    · rintro (h | rfl)
      · exact h
      · assumption
  · simp
theorem mem_seqsL (o : Int) (l : List Rep) (n : Int) : n ∈ seqsL o l ↔ ∃ r ∈ l, r.o = o ∧ r.s = n := by
  suffices H : ∀ (l : List Rep) (acc : List Int), n ∈ l.foldl (fun acc r => if r.o = o then addL acc r.s else acc) acc ↔ n ∈ acc ∨ ∃ r ∈ l, r.o = o ∧ r.s = n by
    rw [seqsL, H]; simp
  intro l
  induction l with
  | nil => intro acc; simp
  | cons x l ih =>
    intro acc
    rw [List.foldl_cons, ih]
    by_cases h : x.o = o
    · rw [if_pos h, mem_addL]
      constructor
      · rintro ((h1 | h1) | ⟨r, h1, h2⟩)
        · exact .inl h1
        · exact .inr ⟨x, by simp, h, h1.symm⟩
        · exact .inr ⟨r, by simp [h1], h2⟩
      · rintro (h1 | ⟨r, h1, h2⟩)
        · exact .inl (.inl h1)
        · rcases List.mem_cons.1 h1 with rfl | h1
          · exact .inl (.inr h2.2.symm)
          · exact .inr ⟨r, h1, h2⟩
    · rw [if_neg h]
      constructor
      · rintro (h1 | ⟨r, h1, h2⟩)
        · exact .inl h1
        · exact .inr ⟨r, by simp [h1], h2⟩
      · rintro (h1 | ⟨r, h1, h2⟩)
        · exact .inl h1
        · rcases List.mem_cons.1 h1 with rfl | h1
          · exact absurd h2.1 h
          · exact .inr ⟨r, h1, h2⟩
theorem len_of_run : ∀ (n : Nat) (L : List Int), (∀ j : Nat, j < n → (j : Int) ∈ L) → n ≤ L.length
  | 0, L, _ => Nat.zero_le _
  | n + 1, L, h => by
    have hn : (n : Int) ∈ L := h n (by omega)
    have ih := len_of_run n (L.erase (n : Int)) (fun j hj => (List.mem_erase_of_ne (by omega)).2 (h j (by omega)))
    rw [List.length_erase_of_mem hn] at ih
    have := List.length_pos_of_mem hn
    omega
theorem addL_seqs_len (o : Int) (l : List Rep) : (seqsL o l).length ≤ l.length := by
  suffices H : ∀ (l : List Rep) (acc : List Int), (l.foldl (fun acc r => if r.o = o then addL acc r.s else acc) acc).length ≤ acc.length + l.length by have := H l []; simpa [seqsL] using this
  intro l
  induction l with
  | nil => intro acc; simp
  | cons x l ih =>
    intro acc
    have h1 := ih (if x.o = o then addL acc x.s else acc)
    have h2 : (if x.o = o then addL acc x.s else acc).length ≤ acc.length + 1 := by
      split
      · exact addL_len acc x.s
      · omega
    simp only [List.foldl_cons, List.length_cons]
    omega

/-- what Complete answers -/
def CompPost (o : Int) (l : List Rep) (w : World) (e : Ending) (w' : World) : Prop :=
  ∃ n : Nat, (∀ j : Nat, j < n → (j : Int) ∈ seqsL o l) ∧ (n : Int) ∉ seqsL o l ∧ (n = 0 → e = .returned (.tuple #[.int .i64 0, .bool false])) ∧ (n ≠ 0 → e = .returned (.tuple #[.int .i64 (n - 1 : Nat), .bool true])) ∧ Below w.heap.size w w'

set_option maxHeartbeats 4000000 in
set_option maxRecDepth 100000 in
theorem complete_gen (px : Value) (o : Int) (l : List Rep) (w : World) (hN : l.length ≤ 4294967296)
    (hrep : Calls Tryz.prog 16 #[px] (w.alloc (.map #[] 0)) fun e w' => ∃ v, e = .returned v ∧ RowOf Rep.cells 8 w' v l ∧ Below (w.alloc (.map #[] 0)).heap.size (w.alloc (.map #[] 0)) w') :
    Calls Tryz.prog 21 #[px, .int .i64 o] w fun e w' => CompPost o l w e w' := by
  have k1 := run_makeMap w (P := Tryz.prog) Tryz.underlying108
  have hm0 := MapIs.made intV boolV w
  have HR := Lib.hid hrep
  clear hrep
  go_enter Tryz.func21, Tryz.ntmps21
  go_wp2_with fail
  refine HR.out.mono ?_
  rintro e w1 ⟨v, rfl, hr, hb⟩
  obtain ⟨a, cap, rfl, hcr⟩ := hr
  have hm1 : MapIs intV boolV w1 w.heap.size (setOf []) := by
    have := hm0.below hb (by simp)
    simpa [setOf] using this
  have hb1 : Below w.heap.size w w1 := ((Below.refl _ _).alloc (Nat.le_refl _) _).trans (hb.mono (by simp))
  clear hm0 k1 hb HR
  go_wp2_with fail
  go_loopw [8, 14] (fun _ i wr => ∃ k : Nat, k ≤ l.length ∧ i = .int .i64 k ∧ MapIs intV boolV wr w.heap.size (setOf (seqsL o (l.take k))) ∧ Mod (· = w.heap.size) w1 wr) (fun _ i _ => l.length - (intOf i).toNat)
  case atStart => exact ⟨0, Nat.zero_le _, rfl, hm1, Mod.refl _ _⟩
  case round =>
    obtain ⟨k, hk, rfl, hm, hmod⟩ := hrel
    by_cases hlr : k < l.length
    · obtain ⟨g, off, rfl, hcx⟩ := hcr k l[k] (List.getElem?_eq_getElem hlr)
      have hgo : seqsL o (l.take (k + 1)) = if l[k].o = o then addL (seqsL o (l.take k)) l[k].s else seqsL o (l.take k) := by
        rw [List.take_add_one, List.getElem?_eq_getElem hlr]; exact seqsL_snoc o _ _
      obtain ⟨y, hy⟩ : ∃ y, y = l[k] := ⟨_, rfl⟩
      rw [← hy] at hcx hgo
      have hgne : g ≠ w.heap.size := by
        have h0 := hcx 0 (by decide)
        have hu : y.cells[0]? = some (y.cells[0]'(by rw [Rep.cells_len]; decide)) := List.getElem?_eq_getElem _
        rw [hu] at h0
        exact cell_not_map h0 hm1
      have hcx' : ∀ j, j < 8 → wr.cell? ⟨g, off + k * 8 + j, none⟩ = y.cells[j]? := fun j hj => by
        have hu : y.cells[j]? = some (y.cells[j]'hj) := List.getElem?_eq_getElem _
        rw [hu]
        exact hmod.cell (by rw [hcx j hj, hu]) hgne
      have q0 := hcx' 0 (by decide)
      have q1 := hcx' 1 (by decide)
      have q2 := hcx' 2 (by decide)
      have q3 := hcx' 3 (by decide)
      have q4 := hcx' 4 (by decide)
      have q5 := hcx' 5 (by decide)
      have q6 := hcx' 6 (by decide)
      have q7 := hcx' 7 (by decide)
      have hm2 := hm.alloc (.cells y.cells.toArray 28)
      have hmod2 := hmod.alloc (.cells y.cells.toArray 28)
      obtain ⟨w4, hup, hd4, hg4, hs4⟩ := run_mapUpdate (P := Tryz.prog) keyInt Tryz.underlying108 hm2 y.s true
      rw [aput_setOf] at hd4
      have hmod4 := hmod2.grown hg4 (fun k e => by cases e; exact .inl rfl)
      have HH := Lib.hid (And.intro hm2 (And.intro hmod2 (And.intro hd4 (And.intro hmod4 hgo))))
      clear hm2 hmod2 hd4 hmod4 hg4 hs4 hcr hcx hcx' hy hm hmod hm1 hb1 hgo hgne
      obtain ⟨x1, x2, x3, x4, x5, x6, x7, x8⟩ := y
      simp only [intV, boolV, Rep.cells, Nat.add_zero, List.getElem?_cons_zero, List.getElem?_cons_succ] at hup q0 q1 q2 q3 q4 q5 q6 q7
      go_wp2_with fail
      · obtain ⟨hm2, hmod2, hd4, hmod4, hgo⟩ := HH.out
        have hx : x1 = o := by simp_all
        exact ⟨⟨k + 1, by omega, by simp, by rw [hgo, if_pos hx]; exact hd4, hmod4⟩, by simp [intOf]; omega⟩
      · obtain ⟨hm2, hmod2, hd4, hmod4, hgo⟩ := HH.out
        have hx : ¬ x1 = o := by simp_all
        exact ⟨⟨k + 1, by omega, by simp, by rw [hgo, if_neg hx]; exact hm2, hmod2⟩, by simp [intOf]; omega⟩
    · obtain rfl : k = l.length := by omega
      rw [List.take_length] at hm
      have hfb : Below w.heap.size w wr := ⟨hmod.os.trans hb1.os, hmod.tape.trans hb1.tape, hmod.output.trans hb1.output, Nat.le_trans hb1.size hmod.size, fun i hi => (hmod.block i (Nat.lt_of_lt_of_le hi hb1.size) (fun e => by omega)).trans (hb1.block i hi)⟩
      obtain ⟨L, hL⟩ : ∃ L, L = seqsL o l := ⟨_, rfl⟩
      have hlen := addL_seqs_len o l
      rw [← hL] at hm hlen
      have HB := Lib.hid (And.intro hfb (And.intro hL hm))
      clear hcr hm1 hmod hb1 hm hL hfb
      go_wp2_with fail
      go_loop [9] (fun x => ∃ n : Nat, x = .int .i64 n ∧ ∀ j : Nat, j < n → (j : Int) ∈ L) (fun x => L.length - (intOf x).toNat)
      case atStart => exact ⟨0, rfl, by intro j hj; omega⟩
      case round =>
        obtain ⟨n, rfl, hall⟩ := hrel
        have hnl := len_of_run n L hall
        obtain ⟨hfb, hL, hm⟩ := HB.out
        have hl := run_lookup (P := Tryz.prog) keyInt Tryz.underlying108 (z := .bool false) (fun w => by simp [go_sem]) (h := hm) (n : Int)
        rw [alook_setOf] at hl
        by_cases hin : (n : Int) ∈ L
        · rw [if_pos hin] at hl
          have hall2 : ∀ j : Nat, j < n + 1 → (j : Int) ∈ L := fun j hj => by rcases Nat.lt_succ_iff_lt_or_eq.1 hj with h | rfl; exact hall j h; exact hin
          have hlt := len_of_run (n + 1) L hall2
          simp only [lookV, boolV, intV] at hl
          have HA := Lib.hid (And.intro hall2 hin)
          clear hall hall2 hin hm hfb hL
          go_wp2_with fail
          exact ⟨⟨n + 1, by simp, HA.out.1⟩, by simp [intOf]; omega⟩
        · rw [if_neg hin] at hl
          simp only [lookV, intV] at hl
          have HA := Lib.hid (And.intro hall hin)
          clear hall hin hm hfb hL
          go_wp2_with fail
          · have hn0 : n = 0 := by simp_all
            obtain ⟨hfb, hL, hm⟩ := HB.out
            go_ret2
            exact ⟨n, by rw [← hL]; exact HA.out.1, by rw [← hL]; exact HA.out.2, fun _ => rfl, fun h => absurd hn0 h, hfb⟩
          · have hn0 : n ≠ 0 := by rintro rfl; simp_all
            obtain ⟨hfb, hL, hm⟩ := HB.out
            have hcast : ((n - 1 : Nat) : Int) = (n : Int) - 1 := by omega
            go_ret2
            exact ⟨n, by rw [← hL]; exact HA.out.1, by rw [← hL]; exact HA.out.2, fun h => absurd h hn0, fun _ => by rw [hcast]; rfl, hfb⟩

theorem complete_nil (o : Int) (w : World) : Calls Tryz.prog 21 #[.pointer none, .int .i64 o] w fun e w' => CompPost o [] w e w' :=
  complete_gen _ o [] w (by decide) ((reports_nil _).mono fun e w' h => ⟨_, h.1, ⟨none, 0, rfl, fun i x hx => by simp at hx⟩, by rw [← h.2]; exact Below.refl _ _⟩)
theorem complete_any (bx br be : Nat) (rs : List Rep) (es : List Exc) (o : Int) (w : World) (h : IntakeAt w bx br be rs es) (hN : rs.length ≤ 4096) :
    Calls Tryz.prog 21 #[.pointer (some ⟨bx, 0, none⟩), .int .i64 o] w fun e w' => CompPost o (sortR rs) w e w' := by
  have hA := h.mod ((Mod.refl (fun _ => False) w).alloc (.map #[] 0)) (fun e => e) (fun e => e) (fun e => e)
  exact complete_gen _ o (sortR rs) w (by rw [sortR_len]; omega) ((reports_any bx rs es _ hA.is (by omega)).mono fun e w' h => by
    obtain ⟨v, h1, h2, _, h4⟩ := h
    exact ⟨v, h1, RowOf.of_owns Rep.cells_len h2, h4⟩)
end Go.Proofs.YtfoenojohemccaaGreatDoor
