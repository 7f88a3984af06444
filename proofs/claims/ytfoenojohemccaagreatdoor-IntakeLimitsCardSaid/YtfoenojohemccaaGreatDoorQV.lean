/- Intake.times, Of, Pending, Frontier at an intake that stands in memory; Correct without exchanges. | viatorlaw27.known: the first example of the chapter. -/
import Derived.Test.YtfoenojohemccaaGreatDoorT6
namespace Go.Proofs.YtfoenojohemccaaGreatDoor
open Go.RowKit Go.Sort Go.Proofs

theorem correct_none (r : Rep) (h0 : 0 ≤ r.d) (h1 : r.d ≤ 1073741824) (ht : r.t.natAbs < 1099511627776) (v : Value) (W : World) (hv : RowOf Exc.cells 5 W v []) :
    Calls Tryz.prog 35 #[v, r.val] W fun e w' => CorPost (.ok (r.t : Rat)) W e w' := by
  obtain ⟨a, cap, rfl, _⟩ := hv
  have h := correct_ok (.slice a 0 cap) r.o r.s r.v r.d r.t r.x r.y r.c 0 0 ht (by decide) W (offset_none a cap r.d h0 h1 _)
  have e : ((r.t : Rat) - mkRat (0 + 0) 2) = r.t := by
    have : mkRat (0 + 0) 2 = 0 := by decide
    rw [this, Rat.sub_eq_add_neg]
    simp [Rat.add_zero]
  rw [e] at h
  exact h

section
variable {w : World} {bx br be : Nat} {rs : List Rep} {es : List Exc} {cor : Rep → Except Int Rat} {o : Int}
theorem IntakeAt.later {w' : World} (h : IntakeAt w bx br be rs es) (hb : Below w.heap.size w w') : IntakeAt w' bx br be rs es := h.mod (Mod.of_below (fun _ => False) hb) (fun e => e) (fun e => e) (fun e => e)
theorem ofL_len (l : List Rep) (o : Int) : (ofL l o).length ≤ l.length := Nat.le_trans (List.length_filter_le _ _) (cntL_len l)

theorem times_at (h : IntakeAt w bx br be rs es) (hN : rs.length ≤ 4096) (hE : es.length ≤ 4096)
    (hC : ∀ r ∈ ofL (sortR rs) o, ∀ v W, RowOf Exc.cells 5 W v (sortX es) → Calls Tryz.prog 35 #[v, r.val] W fun e w' => CorPost (cor r) W e w')
    (hS : ∀ r ∈ ofL (sortR rs) o, ∀ q, cor r = .ok q → Sq q) (hlen : (timL cor (ofL (sortR rs) o)).length < 20) :
    Calls Tryz.prog 66 #[.pointer (some ⟨bx, 0, none⟩), .int .i64 o] w fun e w' => TimesPost (timL cor (ofL (sortR rs) o)) (untL cor (ofL (sortR rs) o)) w e w' := by
  have hl := ofL_len (sortR rs) o
  rw [sortR_len] at hl
  refine times_gen _ o (sortR rs) (sortX es) cor w (by rw [sortR_len]; omega) ?_ ?_ hC hS hlen (by omega)
  · exact (exchanges_any bx rs es w h.is (by omega)).mono fun e w' ⟨v, he, h1, _, h3⟩ => ⟨v, he, RowOf.of_owns Exc.cells_len h1, h3⟩
  · intro W hW
    exact (reports_any bx rs es W (h.later hW).is (by omega)).mono fun e w' ⟨v, he, h1, _, h3⟩ => ⟨v, he, RowOf.of_owns Rep.cells_len h1, h3⟩
theorem of_at (h : IntakeAt w bx br be rs es) (hN : rs.length ≤ 4096) (hE : es.length ≤ 4096)
    (hC : ∀ r ∈ ofL (sortR rs) o, ∀ v W, RowOf Exc.cells 5 W v (sortX es) → Calls Tryz.prog 35 #[v, r.val] W fun e w' => CorPost (cor r) W e w')
    (hS : ∀ r ∈ ofL (sortR rs) o, ∀ q, cor r = .ok q → Sq q) (hlen : (timL cor (ofL (sortR rs) o)).length < 20) :
    Calls Tryz.prog 30 #[.pointer (some ⟨bx, 0, none⟩), .int .i64 o] w fun e w' => OfPost (timL cor (ofL (sortR rs) o)) w e w' :=
  of_gen _ o _ _ w (times_at h hN hE hC hS hlen)
theorem pending_at (h : IntakeAt w bx br be rs es) (hN : rs.length ≤ 4096) (hE : es.length ≤ 4096)
    (hC : ∀ r ∈ ofL (sortR rs) o, ∀ v W, RowOf Exc.cells 5 W v (sortX es) → Calls Tryz.prog 35 #[v, r.val] W fun e w' => CorPost (cor r) W e w')
    (hS : ∀ r ∈ ofL (sortR rs) o, ∀ q, cor r = .ok q → Sq q) (hlen : (timL cor (ofL (sortR rs) o)).length < 20) :
    Calls Tryz.prog 24 #[.pointer (some ⟨bx, 0, none⟩), .int .i64 o] w fun e w' => PendPost o (sortR rs) (timL cor (ofL (sortR rs) o)) w e w' :=
  pending_gen _ o _ _ w (by omega) (complete_any bx br be rs es o w h hN) (fun _ hW => of_at (h.later hW) hN hE hC hS hlen)
theorem frontier_at (h : IntakeAt w bx br be rs es) (hN : rs.length ≤ 4096) (hE : es.length ≤ 4096)
    (hC : ∀ r ∈ ofL (sortR rs) o, ∀ v W, RowOf Exc.cells 5 W v (sortX es) → Calls Tryz.prog 35 #[v, r.val] W fun e w' => CorPost (cor r) W e w')
    (hS : ∀ r ∈ ofL (sortR rs) o, ∀ q, cor r = .ok q → Sq q) (hlen : (timL cor (ofL (sortR rs) o)).length < 20) :
    Calls Tryz.prog 39 #[.pointer (some ⟨bx, 0, none⟩), .int .i64 o] w fun e w' => FrontPost o (sortR rs) (timL cor (ofL (sortR rs) o)) w e w' :=
  frontier_gen _ o _ _ w (by omega) (fun _ hW => complete_any bx br be rs es o _ (h.later hW) hN) (fun _ hW => of_at (h.later hW) hN hE hC hS hlen)
end

/-- one sorted order, where no two are alike -/
theorem sorted_eq : ∀ (m l : List Tim), l.Perm m → SortedT l → m.Pairwise ltT → l = m
  | [], l, h, _, _ => List.perm_nil.1 h
  | a :: m, [], h, _, _ => by simpa using h.length_eq
  | a :: m, b :: l, h, hl, hm => by
    have hl' := List.pairwise_cons.1 hl
    have hm' := List.pairwise_cons.1 hm
    have hba : b = a := by
      have ha : a ∈ b :: l := h.symm.subset (by simp)
      have hb : b ∈ a :: m := h.subset (by simp)
      rcases List.mem_cons.1 ha with e | ha
      · exact e.symm
      · rcases List.mem_cons.1 hb with e | hb
        · exact e
        · exact absurd (hm'.1 b hb) (hl'.1 a ha)
    subst hba
    rw [sorted_eq m l (List.Perm.cons_inv h) hl'.2 hm'.2]
end Go.Proofs.YtfoenojohemccaaGreatDoor
namespace Go.Proofs.YtfoenojohemccaaGreatDoor
open Go.RowKit Go.Sort Go.Proofs

def kr1 : Rep := ⟨7, 3, 0, 0, 40, 0, 0, false⟩
def kr2 : Rep := ⟨7, 0, 0, 0, 10, 0, 0, false⟩
def kr3 : Rep := ⟨7, 1, 0, 0, 20, 0, 0, false⟩
def kL : List Rep := [kr2, kr3, kr1]
theorem kwin : (winL kL).map (·.2) = kL := by decide
theorem ksort : kL.Pairwise (fun x y => (!ltR y x) = true) := by decide
theorem kfresh : freshL [] [] [kr1, kr2, kr3] = [kr1, kr2, kr3] := by decide
theorem kcheck : checkB [kr1, kr2, kr3] [] = 0 := by decide
theorem ksorted : sortR kL = kL := List.mergeSort_of_pairwise ksort
theorem ksortR {R : List Rep} (h : R.Perm [kr1, kr2, kr3]) : sortR R = kL := by
  rw [← ksorted]
  exact sortR_perm (h.trans (by decide))
theorem kof : ofL kL 7 = kL := by
  unfold ofL cntL
  rw [kwin, show (kL.filter fun r => !r.c) = kL from by decide, ksorted]
  decide
theorem foldl_addL {κ : Type} [DecidableEq κ] : ∀ (l acc : List κ), (acc ++ l).Nodup → l.foldl addL acc = acc ++ l
  | [], acc, _ => by simp
  | x :: l, acc, h => by
    have hx : x ∉ acc := by
      intro hx
      rw [List.nodup_append] at h
      exact h.2.2 x hx x (by simp) rfl
    rw [List.foldl_cons, addL, if_neg hx, foldl_addL l (acc ++ [x]) (by simpa using h)]
    simp
theorem known_add {bx br be : Nat} {w : World} {e : Ending} {w' : World} (h : AddPost bx br be [] [] [kr1, kr2, kr3] [] w e w') :
    e = .returned (.tuple #[.int .i64 3, .int .i64 0]) ∧ ∃ R, R.Perm [kr1, kr2, kr3] ∧ IntakeAt w' bx br be R [] ∧ Mod (fun k => k = br ∨ k = be) w w' := by
  rcases h with ⟨h, _⟩ | ⟨_, h⟩
  · exact absurd kcheck h
  · rw [kfresh, show freshL ([] : List Exc) [] [] = [] from rfl] at h
    rcases h with ⟨h, _⟩ | ⟨_, _, he, rs', es', h1, h2, h3, h4⟩
    · simp at h
    · have e2 : es' = [] := List.perm_nil.1 h2
      subst e2
      have hnd : rs'.Nodup := h1.nodup_iff.2 (by decide)
      rw [foldl_addL rs' [] (by simpa using hnd), List.nil_append] at h3
      exact ⟨he, rs', h1, h3, h4⟩
theorem kseq (n : Int) : n ∈ seqsL 7 kL ↔ n = 0 ∨ n = 1 ∨ n = 3 := by
  rw [mem_seqsL]
  simp [kL, kr1, kr2, kr3]
  omega
theorem kn {n : Nat} (h1 : ∀ j : Nat, j < n → (j : Int) ∈ seqsL 7 kL) (h2 : (n : Int) ∉ seqsL 7 kL) : n = 2 := by
  rw [kseq] at h2
  rcases Nat.lt_trichotomy n 2 with h | h | h
  · omega
  · exact h
  · have := (kseq _).1 (h1 2 h); omega
theorem known_comp {w : World} {e : Ending} {w' : World} (h : CompPost 7 kL w e w') : e = .returned (.tuple #[.int .i64 1, .bool true]) ∧ Below w.heap.size w w' := by
  obtain ⟨n, h1, h2, _, h4, h5⟩ := h
  obtain rfl := kn h1 h2
  exact ⟨h4 (by decide), h5⟩
def kcor (r : Rep) : Except Int Rat := .ok (r.t : Rat)
theorem ksq (r : Rep) (h : r ∈ kL) : Sq (r.t : Rat) := by
  unfold Sq
  rw [Rat.num_intCast, Rat.den_intCast]
  simp [kL] at h
  rcases h with rfl | rfl | rfl <;> decide
theorem ktim : timL kcor kL = [⟨(10 : Int), kr2, ksq kr2 (by decide)⟩, ⟨(20 : Int), kr3, ksq kr3 (by decide)⟩, ⟨(40 : Int), kr1, ksq kr1 (by decide)⟩] := by
  have e1 := timL_ok (cor := kcor) (l := []) (r := kr2) rfl (ksq kr2 (by decide))
  have e2 := timL_ok (cor := kcor) (l := [kr2]) (r := kr3) rfl (ksq kr3 (by decide))
  have e3 := timL_ok (cor := kcor) (l := [kr2, kr3]) (r := kr1) rfl (ksq kr1 (by decide))
  have e0 : timL kcor [] = [] := rfl
  rw [e0] at e1
  rw [show [] ++ [kr2] = [kr2] from rfl] at e1
  rw [e1] at e2
  rw [show [kr2] ++ [kr3] = [kr2, kr3] from rfl] at e2
  rw [e2] at e3
  exact e3
theorem kstrict : (timL kcor kL).Pairwise ltT := by
  rw [ktim]
  refine List.Pairwise.cons ?_ (List.Pairwise.cons ?_ (List.Pairwise.cons ?_ List.Pairwise.nil))
  · intro a ha
    simp at ha
    rcases ha with rfl | rfl
    · exact .inl (by decide)
    · exact .inl (by decide)
  · intro a ha
    simp at ha
    subst ha
    exact .inl (by decide)
  · intro a ha; simp at ha
theorem known_front {w : World} {e : Ending} {w' : World} (h : FrontPost 7 kL (timL kcor kL) w e w') :
    e = .returned (.tuple #[.agg #[.bool false, .string (magB 20), .bool false, .string { data := #[] }], .bool true]) ∧ Below w.heap.size w w' := by
  obtain ⟨n, h1, h2, h3, hb⟩ := h
  obtain rfl := kn h1 h2
  rcases h3 with ⟨h, _⟩ | ⟨_, lt, h4, h5, h6⟩
  · omega
  · have e1 := sorted_eq _ _ h4 h5 kstrict
    subst e1
    have hf : frontL 2 (timL kcor kL) = [⟨(10 : Int), kr2, ksq kr2 (by decide)⟩, ⟨(20 : Int), kr3, ksq kr3 (by decide)⟩] := by
      rw [ktim]; rfl
    rw [hf] at h6
    rcases h6 with ⟨h, _⟩ | ⟨t, b1, s1, b2, s2, h7, he, hq⟩
    · cases h
    · simp at h7
      subst h7
      refine ⟨?_, hb⟩
      rw [he]
      obtain ⟨⟨q1, q2, _⟩, q3, q4, _⟩ := hq
      rw [q1, q2, q3, q4]
      rfl
theorem known_pend {w : World} {e : Ending} {w' : World} (h : PendPost 7 kL (timL kcor kL) w e w') :
    ∃ g cap, e = .returned (.slice (some ⟨g, 0, none⟩) 1 cap) ∧ w'.cell? ⟨g, 5, none⟩ = some (.int .i64 3) ∧ Below w.heap.size w w' := by
  obtain ⟨n, v, lt, h1, h2, he, h4, h5, h6, hb⟩ := h
  obtain rfl := kn h1 h2
  have e1 := sorted_eq _ _ h4 h5 kstrict
  subst e1
  have hf : behindL 2 (timL kcor kL) = [⟨(40 : Int), kr1, ksq kr1 (by decide)⟩] := by
    rw [ktim]; rfl
  rw [hf] at h6
  obtain ⟨a, c, hv, hx⟩ := RowOf.of_owns Tim.cells_len h6
  obtain ⟨g, off, ha, hc⟩ := hx 0 _ rfl
  have c5 := hc 5 (by decide)
  rcases h6.2 with ⟨_, h⟩ | ⟨g', cap', cur, hv', _⟩
  · simp at h
  · rw [hv] at hv'
    rw [ha] at hv'
    simp at hv'
    obtain ⟨⟨rfl, rfl⟩, rfl⟩ := hv'
    refine ⟨g, c, by rw [he, hv, ha]; rfl, by simp only [Nat.zero_mul, Nat.zero_add] at c5; exact c5, hb⟩
end Go.Proofs.YtfoenojohemccaaGreatDoor
