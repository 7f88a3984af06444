/- Intake.Frontier, from what Complete and Of say. -/
import Derived.Test.YtfoenojohemccaaGreatDoorT5
namespace Go.Proofs.YtfoenojohemccaaGreatDoor
open Go.RowKit Go.Sort Go.Proofs

theorem FrontPost.none {o : Int} {l : List Rep} {T : List Tim} {w w' : World} {n : Nat} (h1 : ∀ j : Nat, j < n → (j : Int) ∈ seqsL o l) (h2 : (n : Int) ∉ seqsL o l) (h : n = 0 ∨ (n ≠ 0 ∧ ∃ lt : List Tim, lt.Perm T ∧ SortedT lt ∧ frontL n lt = [])) (hb : Below w.heap.size w w') :
    FrontPost o l T w (.returned (.tuple #[.agg #[.bool false, .string { data := #[] }, .bool false, .string { data := #[] }], .bool false])) w' := by
  refine ⟨n, h1, h2, ?_, hb⟩
  rcases h with h | ⟨h, lt, h3, h4, h5⟩
  · exact .inl ⟨h, rfl⟩
  · exact .inr ⟨h, lt, h3, h4, .inl ⟨h5, rfl⟩⟩
theorem FrontPost.some {o : Int} {l : List Rep} {T : List Tim} {w w' : World} {n : Nat} (h1 : ∀ j : Nat, j < n → (j : Int) ∈ seqsL o l) (h2 : (n : Int) ∉ seqsL o l) (hn : n ≠ 0) {lt : List Tim} (h3 : lt.Perm T) (h4 : SortedT lt) {t : Tim} (h5 : (frontL n lt).getLast? = some t)
    {b1 : Bool} {s1 : ByteArray} {b2 : Bool} {s2 : ByteArray} (hq : IsQ b1 s1 b2 s2 t.q) (hb : Below w.heap.size w w') :
    FrontPost o l T w (.returned (.tuple #[.agg #[.bool b1, .string s1, .bool b2, .string s2], .bool true])) w' :=
  ⟨n, h1, h2, .inr ⟨hn, lt, h3, h4, .inr ⟨t, b1, s1, b2, s2, h5, rfl, hq⟩⟩, hb⟩

set_option maxHeartbeats 4000000 in
set_option maxRecDepth 100000 in
theorem frontier_gen (px : Value) (o : Int) (l : List Rep) (T : List Tim) (w : World) (hT : T.length ≤ 4294967296)
    (hC : ∀ W, Below w.heap.size w W → Calls Tryz.prog 21 #[px, .int .i64 o] W fun e w' => CompPost o l W e w')
    (hO : ∀ W, Below w.heap.size w W → Calls Tryz.prog 30 #[px, .int .i64 o] W fun e w' => OfPost T W e w') :
    Calls Tryz.prog 39 #[px, .int .i64 o] w fun e w' => FrontPost o l T w e w' := by
  have HC := Lib.hid hC
  have HO := Lib.hid hO
  clear hC hO
  go_enter Tryz.func39, Tryz.ntmps39
  go_wp2_with fail
  refine (HC.out _ ((Below.refl _ _).alloc (Nat.le_refl _) _)).mono ?_
  rintro e w1 ⟨n, h1, h2, h3, h4, hb1⟩
  have hbf1 : Below w.heap.size w w1 := ((Below.refl _ _).alloc (Nat.le_refl _) _).trans (hb1.mono (by simp))
  have hat1 := (At.new w #[.bool false, .string { data := #[] }, .bool false, .string { data := #[] }] 69).call hb1
  by_cases hn : n = 0
  · have he := h3 hn
    subst he
    have HN := Lib.hid (And.intro h1 (And.intro h2 (And.intro hn hbf1)))
    obtain ⟨c0, f0, hlt⟩ := hat1
    clear h1 h2 h3 h4 hb1 hbf1 hn
    go_wp2_with fail
    refine bodyPost_ret (v := .tuple #[.agg #[.bool false, .string { data := #[] }, .bool false, .string { data := #[] }], .bool false]) (by simp [results, Tryz.results39, go_sem, c0, cell_alloc_lt, hlt]) rfl (FrontPost.none HN.out.1 HN.out.2.1 (.inl HN.out.2.2.1) ?_)
    have hb := HN.out.2.2.2
    have h1 : w.heap.size ≤ w.heap.size := Nat.le_refl _
    first
      | exact (((hb.alloc hb.size _).setCell h1 _).setCell h1 _ |>.setCell h1 _).setCell h1 _
      | exact ((((hb.setCell h1 _).setCell h1 _).setCell h1 _).setCell h1 _).alloc (by simpa using hb.size) _
      | exact hb.alloc hb.size _
  · obtain ⟨m, rfl⟩ : ∃ m, n = m + 1 := ⟨n - 1, by omega⟩
    have he := h4 hn
    rw [show m + 1 - 1 = m from rfl] at he
    subst he
    have HN := Lib.hid (And.intro h1 (And.intro h2 (And.intro hn hbf1)))
    have HA := Lib.hid hat1
    clear h1 h2 h3 h4 hb1 hbf1 hn hat1
    go_wp2_with fail
    refine (HO.out _ ?_).mono ?_
    · exact HN.out.2.2.2.alloc HN.out.2.2.2.size _
    rintro e w2 ⟨vt, lt, rfl, k1, k2, k3, k4⟩
    have hsz : w1.heap.size + 1 ≤ w2.heap.size := by have := k4.size; simpa using this
    have c1 : w2.cell? ⟨w1.heap.size, 0, none⟩ = some (.int .i64 m) := by rw [k4.cell (by first | (simp; done) | (simp; omega))]; simp [go_sem]
    rw [Tim.flat_map, ← List.length_map (f := Tim.flat)] at k3
    have hd := tim_deleteFunc (lt.map Tim.flat) vt _ 75 #[.pointer (some ⟨w1.heap.size, 0, none⟩)] (fun x => decide ((m : Int) < x.s)) (fun W => W.cell? ⟨w1.heap.size, 0, none⟩ = some (.int .i64 m) ∧ w1.heap.size < W.heap.size) w2 k3 (by rw [List.length_map, k1.length_eq]; exact hT) (enters_of Tryz.func75 (by kernel_rfl) rfl)
      (fun W W' h hg => ⟨hg.cell h.1 (own_ne k3 (by first | (simp; done) | (simp; omega))), Nat.lt_of_lt_of_le h.2 hg.size⟩) ⟨c1, by omega⟩ (fun x W h => front_pred m w1.heap.size x W h.1 h.2)
    rw [filt_flat, List.length_map, ← Tim.flat_map] at hd
    have hfl : (lt.filter fun t => !decide ((m : Int) < t.flat.s)) = frontL (m + 1) lt := by
      unfold frontL
      congr 1
      funext t
      rw [show (((m + 1 : Nat) : Int) - 1) = (m : Int) by omega]
      rfl
    rw [hfl] at hd
    have hB2 : Below w.heap.size w w2 := (HN.out.2.2.2.alloc HN.out.2.2.2.size _).trans (k4.mono (by have := HN.out.2.2.2.size; simp; omega))
    have hlow : ∀ k, vt.ownBlock = some k → w1.heap.size + 1 ≤ k := fun k hk => by have h1 := (k3.lt k hk).1; simp at h1; omega
    have hat2 : At w2 w.heap.size #[.bool false, .string { data := #[] }, .bool false, .string { data := #[] }] := (HA.out.alloc (.cells #[.int .i64 m] 3)).call k4
    have HD := Lib.hid (And.intro hd (And.intro hB2 (And.intro hlow (And.intro hat2 (And.intro k1 k2)))))
    have hlt1 : w.heap.size < w1.heap.size := HA.out.2.2
    clear hd hB2 hlow hat2 k1 k2 k3 k4 c1 hsz hfl
    go_wp2_with fail
    refine HD.out.1.mono ?_
    rintro e w3 ⟨v3, rfl, ho3, hg3⟩
    have hb3 : Below w.heap.size w w3 := HD.out.2.1.grown hg3 HD.out.2.1.size (fun k e => by have := HD.out.2.2.1 k e; omega)
    have hne : some w.heap.size ≠ vt.ownBlock := fun e => by have := HD.out.2.2.1 _ e.symm; omega
    have c0 : ∀ j, w3.cell? ⟨w.heap.size, j, none⟩ = #[Value.bool false, .string { data := #[] }, .bool false, .string { data := #[] }][j]? := fun j => by
      rw [← HD.out.2.2.2.1.1 j]
      exact World.cell?_of_block (a := ⟨w.heap.size, j, none⟩) (hg3.block _ HD.out.2.2.2.1.2.2 hne)
    have f0 : ∀ j, w3.frozen? ⟨w.heap.size, j, none⟩ = false := fun j => by
      rw [← HD.out.2.2.2.1.2.1 j]
      exact World.frozen?_of_block (a := ⟨w.heap.size, j, none⟩) (hg3.block _ HD.out.2.2.2.1.2.2 hne)
    have HB3 := Lib.hid hb3
    clear hne hg3 hb3 hlt1
    obtain ⟨F, hF⟩ : ∃ F, F = frontL (m + 1) lt := ⟨_, rfl⟩
    rw [← hF] at ho3
    have HF := Lib.hid hF
    clear hF
    have h1 : w.heap.size ≤ w.heap.size := Nat.le_refl _
    rcases ho3.2 with ⟨rfl, hn0⟩ | ⟨g, cap, cur, rfl, _⟩
    · have hF0 : F = [] := List.length_eq_zero_iff.1 hn0
      rw [hn0] at ho3
      clear ho3 hn0
      have HF0 := Lib.hid hF0
      clear hF0 h1
      go_wp2_with fail
      refine bodyPost_ret (v := .tuple #[.agg #[.bool false, .string { data := #[] }, .bool false, .string { data := #[] }], .bool false]) (by simp [results, Tryz.results39, go_sem, c0]) rfl (FrontPost.none HN.out.1 HN.out.2.1 (.inr ⟨HN.out.2.2.1, lt, HD.out.2.2.2.2.1, HD.out.2.2.2.2.2, by rw [← HF.out]; exact HF0.out⟩) ?_)
      have h1 : w.heap.size ≤ w.heap.size := Nat.le_refl _
      exact (((HB3.out.setCell h1 _).setCell h1 _).setCell h1 _).setCell h1 _
    · by_cases hl : F.length = 0
      · have hF0 : F = [] := List.length_eq_zero_iff.1 hl
        rw [hl]
        clear ho3 hl
        have HF0 := Lib.hid hF0
        clear hF0 h1
        go_wp2_with fail
        refine bodyPost_ret (v := .tuple #[.agg #[.bool false, .string { data := #[] }, .bool false, .string { data := #[] }], .bool false]) (by simp [results, Tryz.results39, go_sem, c0]) rfl (FrontPost.none HN.out.1 HN.out.2.1 (.inr ⟨HN.out.2.2.1, lt, HD.out.2.2.2.2.1, HD.out.2.2.2.2.2, by rw [← HF.out]; exact HF0.out⟩) ?_)
        have h1 : w.heap.size ≤ w.heap.size := Nat.le_refl _
        exact (((HB3.out.setCell h1 _).setCell h1 _).setCell h1 _).setCell h1 _
      · obtain ⟨i, hi⟩ : ∃ i, F.length = i + 1 := ⟨F.length - 1, by omega⟩
        have hrow := RowOf.of_owns Tim.cells_len ho3
        obtain ⟨a, c, he, hx⟩ := hrow
        cases he
        have hlast : F.getLast? = some F[i] := by rw [List.getLast?_eq_getElem?, show F.length - 1 = i by omega]; exact List.getElem?_eq_getElem (by omega)
        obtain ⟨_, off, he, hcx⟩ := hx i F[i] (List.getElem?_eq_getElem (by omega))
        cases he
        have hFl : F.length ≤ 4294967296 := by
          rw [HF.out]
          refine Nat.le_trans (List.length_filter_le _ _) ?_
          rw [HD.out.2.2.2.2.1.length_eq]; exact hT
        obtain ⟨t, ht⟩ : ∃ t, t = F[i] := ⟨_, rfl⟩
        rw [← ht] at hlast hcx
        have q0 := hcx 0 (by decide)
        have q1 := hcx 1 (by decide)
        have q2 := hcx 2 (by decide)
        have q3 := hcx 3 (by decide)
        have hQ := IsQ.mk' t.hq.qd
        rw [hi] at hFl ⊢
        simp only [Tim.cells, Tim.flat, T12.cells, Nat.zero_add, Nat.add_zero, List.getElem?_cons_zero, List.getElem?_cons_succ] at q0 q1 q2 q3
        generalize decide (t.q.num < 0) = y1 at *
        generalize magB t.q.num.natAbs = y2 at *
        generalize (if t.q.den = 1 then ({ data := #[] } : ByteArray) else magB t.q.den) = y4 at *
        have HL := Lib.hid hlast
        clear ho3 hl hx hcx ht hlast hi h1
        have jz : (i : Int) < (i : Int) + 1 := by omega
        have jz0 : (0 : Int) ≤ (i : Int) := by omega
        have hwp : IntKind.i64.wrap (i : Int) = (i : Int) := IntWalk.i64_in _ (by omega)
        go_wp2_with fail
        refine bodyPost_ret (v := .tuple #[.agg #[.bool y1, .string y2, .bool false, .string y4], .bool true]) (by simp [results, Tryz.results39, go_sem, c0]) rfl (FrontPost.some HN.out.1 HN.out.2.1 HN.out.2.2.1 HD.out.2.2.2.2.1 HD.out.2.2.2.2.2 (by rw [← HF.out]; exact HL.out) hQ ?_)
        have h1 : w.heap.size ≤ w.heap.size := Nat.le_refl _
        exact (((HB3.out.setCell h1 _).setCell h1 _).setCell h1 _).setCell h1 _
end Go.Proofs.YtfoenojohemccaaGreatDoor
