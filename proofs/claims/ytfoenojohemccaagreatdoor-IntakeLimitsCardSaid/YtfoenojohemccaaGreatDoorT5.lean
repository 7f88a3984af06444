/- Intake.Of, Untimed, Pending, Frontier, from what Complete and times say. -/
import Derived.Test.YtfoenojohemccaaGreatDoorT4
namespace Go.Proofs.YtfoenojohemccaaGreatDoor
open Go.RowKit Go.Sort Go.Proofs

def OfPost (T : List Tim) (w : World) (e : Ending) (w' : World) : Prop :=
  ∃ (vt : Value) (lt : List Tim), e = .returned vt ∧ lt.Perm T ∧ SortedT lt ∧ w'.ownsRow w.heap.size 89 12 vt lt.length (lt.flatMap Tim.cells) ∧ Below w.heap.size w w'
def UntPost (U : List Rep) (w : World) (e : Ending) (w' : World) : Prop :=
  ∃ vu : Value, e = .returned vu ∧ w'.ownsRow w.heap.size 28 8 vu U.length (U.flatMap Rep.cells) ∧ Below w.heap.size w w'

set_option maxHeartbeats 1000000 in
theorem of_gen (px : Value) (o : Int) (T : List Tim) (U : List Rep) (w : World) (h : Calls Tryz.prog 66 #[px, .int .i64 o] w fun e w' => TimesPost T U w e w') :
    Calls Tryz.prog 30 #[px, .int .i64 o] w fun e w' => OfPost T w e w' := by
  have H := Lib.hid h
  clear h
  go_enter Tryz.func30, Tryz.ntmps30
  go_wp2_with fail
  refine H.out.mono ?_
  rintro e w1 ⟨vt, vu, lt, rfl, h1, h2, h3, h4, h5⟩
  have HH := Lib.hid (And.intro h1 (And.intro h2 (And.intro h3 h5)))
  clear h1 h2 h3 h4 h5
  go_wp2_with fail
  go_ret
  exact ⟨vt, lt, rfl, HH.out.1, HH.out.2.1, HH.out.2.2.1, HH.out.2.2.2⟩
set_option maxHeartbeats 1000000 in
theorem untimed_gen (px : Value) (o : Int) (T : List Tim) (U : List Rep) (w : World) (h : Calls Tryz.prog 66 #[px, .int .i64 o] w fun e w' => TimesPost T U w e w') :
    Calls Tryz.prog 32 #[px, .int .i64 o] w fun e w' => UntPost U w e w' := by
  have H := Lib.hid h
  clear h
  go_enter Tryz.func32, Tryz.ntmps32
  go_wp2_with fail
  refine H.out.mono ?_
  rintro e w1 ⟨vt, vu, lt, rfl, h1, h2, h3, h4, h5⟩
  have HH := Lib.hid (And.intro h4 h5)
  clear h1 h2 h3 h4 h5
  go_wp2_with fail
  go_ret
  exact ⟨vu, rfl, HH.out.1, HH.out.2⟩

set_option maxHeartbeats 1000000 in
theorem front_pred (last : Int) (B : Nat) (x : T12) (w : World) (hc : w.cell? ⟨B, 0, none⟩ = some (.int .i64 last)) (hB : B < w.heap.size) :
    Calls Tryz.prog 75 (#[x.val] ++ #[.pointer (some ⟨B, 0, none⟩)]) w fun e w' => e = .returned (.bool (decide (last < x.s))) ∧ GrowQ w w' := by
  obtain ⟨x1, x2, x3, x4, x5, x6, x7, x8, x9, x10, x11, x12⟩ := x
  simp only [T12.val, List.append_toArray, List.cons_append, List.nil_append]
  go_enter Tryz.func75, Tryz.ntmps75
  go_wp2_with fail
  go_ret
  exact ⟨rfl, (GrowQ.refl _).alloc _⟩
set_option maxHeartbeats 1000000 in
theorem pend_pred (is : Bool) (last : Int) (B : Nat) (x : T12) (w : World) (hc : w.cell? ⟨B, 0, none⟩ = some (.int .i64 last)) (hc2 : w.cell? ⟨B + 1, 0, none⟩ = some (.bool is)) (hB : B + 1 < w.heap.size) :
    Calls Tryz.prog 63 (#[x.val] ++ #[.pointer (some ⟨B + 1, 0, none⟩), .pointer (some ⟨B, 0, none⟩)]) w fun e w' => e = .returned (.bool (is && decide (x.s ≤ last))) ∧ GrowQ w w' := by
  obtain ⟨x1, x2, x3, x4, x5, x6, x7, x8, x9, x10, x11, x12⟩ := x
  simp only [T12.val, List.append_toArray, List.cons_append, List.nil_append]
  have hB' : B < w.heap.size := by omega
  cases is
  all_goals
    go_enter Tryz.func63, Tryz.ntmps63
    go_wp2_with fail
    first
      | (go_ret; exact ⟨rfl, (GrowQ.refl _).alloc _⟩)
      | (go_region; all_goals (go_wp2_with fail; go_ret; exact ⟨by simp, ((GrowQ.refl _).alloc _).drew⟩))

theorem filt_flat (lt : List Tim) (p : T12 → Bool) : ((lt.map Tim.flat).filter fun x => !p x) = (lt.filter fun t => !p t.flat).map Tim.flat := by
  rw [List.filter_map]; rfl

/-- Pending: what stands behind the number n - 1 (all, where n is 0) -/
def behindL (n : Nat) (lt : List Tim) : List Tim := lt.filter fun t => !(decide (n ≠ 0) && decide (t.r.s ≤ (n : Int) - 1))
def PendPost (o : Int) (l : List Rep) (T : List Tim) (w : World) (e : Ending) (w' : World) : Prop :=
  ∃ (n : Nat) (vt : Value) (lt : List Tim), (∀ j : Nat, j < n → (j : Int) ∈ seqsL o l) ∧ (n : Int) ∉ seqsL o l ∧ e = .returned vt ∧ lt.Perm T ∧ SortedT lt ∧ w'.ownsRow w.heap.size 89 12 vt (behindL n lt).length ((behindL n lt).flatMap Tim.cells) ∧ Below w.heap.size w w'

set_option maxHeartbeats 4000000 in
set_option maxRecDepth 100000 in
theorem pending_gen (px : Value) (o : Int) (l : List Rep) (T : List Tim) (w : World) (hT : T.length ≤ 4294967296)
    (hC : Calls Tryz.prog 21 #[px, .int .i64 o] w fun e w' => CompPost o l w e w')
    (hO : ∀ W, Below w.heap.size w W → Calls Tryz.prog 30 #[px, .int .i64 o] W fun e w' => OfPost T W e w') :
    Calls Tryz.prog 24 #[px, .int .i64 o] w fun e w' => PendPost o l T w e w' := by
  have HC := Lib.hid hC
  have HO := Lib.hid hO
  clear hC hO
  go_enter Tryz.func24, Tryz.ntmps24
  go_wp2_with fail
  refine HC.out.mono ?_
  rintro e w1 ⟨n, h1, h2, h3, h4, hb1⟩
  obtain ⟨is, last, he, his⟩ : ∃ (is : Bool) (last : Int), e = .returned (.tuple #[.int .i64 last, .bool is]) ∧ (is = decide (n ≠ 0) ∧ (n ≠ 0 → last = (n : Int) - 1)) := by
    by_cases hn : n = 0
    · exact ⟨false, 0, h3 hn, by simp [hn], fun h => absurd hn h⟩
    · exact ⟨true, _, h4 hn, by simp [hn], fun _ => by omega⟩
  subst he
  have HN := Lib.hid (And.intro h1 (And.intro h2 (And.intro his hb1)))
  clear h1 h2 h3 h4 his hb1
  go_wp2_with fail
  refine (HO.out _ ?_).mono ?_
  · exact (HN.out.2.2.2.alloc HN.out.2.2.2.size _).alloc (by have := HN.out.2.2.2.size; first | omega | (simp; omega)) _
  rintro e w2 ⟨vt, lt, rfl, k1, k2, k3, k4⟩
  have hsz : w1.heap.size + 1 + 1 ≤ w2.heap.size := by have := k4.size; simpa using this
  have c1 : w2.cell? ⟨w1.heap.size, 0, none⟩ = some (.int .i64 last) := by rw [k4.cell (by first | (simp; done) | (simp; omega))]; simp [go_sem]
  have c2 : w2.cell? ⟨w1.heap.size + 1, 0, none⟩ = some (.bool is) := by rw [k4.cell (by first | (simp; done) | (simp; omega))]; simp [go_sem]
  rw [Tim.flat_map, ← List.length_map (f := Tim.flat)] at k3
  have hd := tim_deleteFunc (lt.map Tim.flat) vt _ 63 #[.pointer (some ⟨w1.heap.size + 1, 0, none⟩), .pointer (some ⟨w1.heap.size, 0, none⟩)] (fun x => is && decide (x.s ≤ last)) (fun W => W.cell? ⟨w1.heap.size, 0, none⟩ = some (.int .i64 last) ∧ W.cell? ⟨w1.heap.size + 1, 0, none⟩ = some (.bool is) ∧ w1.heap.size + 1 < W.heap.size) w2 k3 (by rw [List.length_map, k1.length_eq]; exact hT) (enters_of Tryz.func63 (by kernel_rfl) rfl)
    (fun W W' h hg => ⟨hg.cell h.1 (own_ne k3 (by first | (simp; done) | (simp; omega))), hg.cell h.2.1 (own_ne k3 (by first | (simp; done) | (simp; omega))), Nat.lt_of_lt_of_le h.2.2 hg.size⟩) ⟨c1, c2, by omega⟩ (fun x W h => pend_pred is last w1.heap.size x W h.1 h.2.1 h.2.2)
  rw [filt_flat, List.length_map, ← Tim.flat_map] at hd
  have hB2 : Below w.heap.size w w2 := ((HN.out.2.2.2.alloc HN.out.2.2.2.size _).alloc (by have := HN.out.2.2.2.size; first | omega | (simp; omega)) _).trans (k4.mono (by have := HN.out.2.2.2.size; first | omega | (simp; omega)))
  have hlow : ∀ k, vt.ownBlock = some k → w.heap.size ≤ k := fun k hk => by have h1 := (k3.lt k hk).1; have := HN.out.2.2.2.size; simp at h1; omega
  have hbase : w.heap.size ≤ ((w1.alloc (.cells #[.int .i64 last] 3)).alloc (.cells #[.bool is] 4)).heap.size := by have := HN.out.2.2.2.size; simp; omega
  have HD := Lib.hid (And.intro hd (And.intro hB2 (And.intro hlow (And.intro hbase (And.intro k1 k2)))))
  clear hd hB2 hlow hbase k1 k2 k3 k4 c1 c2 hsz
  go_wp2_with fail
  refine HD.out.1.mono ?_
  rintro e w3 ⟨v3, rfl, ho3, hg3⟩
  have HH := Lib.hid (And.intro ho3 hg3)
  clear ho3 hg3
  go_wp2_with fail
  go_ret
  obtain ⟨n1, n2, ⟨n3, n3'⟩, n4⟩ := HN.out
  have hbl : (lt.filter fun t => !(is && decide (t.flat.s ≤ last))) = behindL n lt := by
    unfold behindL
    congr 1
    funext t
    rw [n3]
    by_cases hn : n = 0
    · simp [hn]
    · rw [n3' hn]; rfl
  have hown := HH.out.1
  rw [hbl] at hown
  exact ⟨n, v3, lt, n1, n2, rfl, HD.out.2.2.2.2.1, HD.out.2.2.2.2.2, ownsRow_mono hown HD.out.2.2.2.1, HD.out.2.1.grown HH.out.2 HD.out.2.1.size HD.out.2.2.1⟩

/-- what is complete -/
def frontL (n : Nat) (lt : List Tim) : List Tim := lt.filter fun t => !decide ((n : Int) - 1 < t.r.s)
def FrontPost (o : Int) (l : List Rep) (T : List Tim) (w : World) (e : Ending) (w' : World) : Prop :=
  ∃ n : Nat, (∀ j : Nat, j < n → (j : Int) ∈ seqsL o l) ∧ (n : Int) ∉ seqsL o l ∧
    ((n = 0 ∧ e = .returned (.tuple #[.agg #[.bool false, .string { data := #[] }, .bool false, .string { data := #[] }], .bool false])) ∨
     (n ≠ 0 ∧ ∃ lt : List Tim, lt.Perm T ∧ SortedT lt ∧
       ((frontL n lt = [] ∧ e = .returned (.tuple #[.agg #[.bool false, .string { data := #[] }, .bool false, .string { data := #[] }], .bool false])) ∨
        ∃ t b1 s1 b2 s2, (frontL n lt).getLast? = some t ∧ e = .returned (.tuple #[.agg #[.bool b1, .string s1, .bool b2, .string s2], .bool true]) ∧ IsQ b1 s1 b2 s2 t.q))) ∧
    Below w.heap.size w w'
end Go.Proofs.YtfoenojohemccaaGreatDoor
