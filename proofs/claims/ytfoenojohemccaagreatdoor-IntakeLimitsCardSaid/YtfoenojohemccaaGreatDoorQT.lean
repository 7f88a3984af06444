/- Sorting reports and exchanges: slices.SortFunc leaves the one sorted list, in the same memory. | Reports and Exchanges of an intake: the sorted lists. -/
import Derived.Test.YtfoenojohemccaaGreatDoorC3
import Derived.Test.YtfoenojohemccaaGreatDoorQS
import Derived.Lib.OwnBridge
import Derived.Test.YtfoenojohemccaaGreatDoorQK
namespace Go.Proofs.YtfoenojohemccaaGreatDoor
open Go.RowKit Go.Sort Go.Proofs

/-! ### the order -/
def ltL : List Int → List Int → Prop
  | x :: l, y :: m => x < y ∨ (x = y ∧ ltL l m)
  | _, _ => False
theorem lexI_lt : ∀ (l m : List Int), lexI l m < 0 ↔ ltL l m
  | [], [] => by simp [lexI, ltL]
  | [], _ :: _ => by simp [lexI, ltL]
  | _ :: _, [] => by simp [lexI, ltL]
  | x :: l, y :: m => by
    simp only [lexI, ltL]
    by_cases h : x = y
    · subst h; simp [lexI_lt l m]
    · simp only [h, if_false, false_and, or_false]
      unfold cmpI
      split
      · simp_all
      · split <;> simp_all <;> omega
theorem ltL_irrefl : ∀ l, ¬ ltL l l
  | [] => by simp [ltL]
  | x :: l => by simp only [ltL]; intro h; rcases h with h | ⟨_, h⟩; omega; exact ltL_irrefl l h
theorem ltL_trans : ∀ a b c : List Int, ltL a b → ltL b c → ltL a c
  | [], _, _, h, _ => by simp [ltL] at h
  | _ :: _, [], _, h, _ => by simp [ltL] at h
  | _ :: _, _ :: _, [], _, h => by simp [ltL] at h
  | x :: a, y :: b, z :: c, h1, h2 => by
    simp only [ltL] at *
    rcases h1 with h1 | ⟨rfl, h1⟩
    · rcases h2 with h2 | ⟨rfl, h2⟩
      · exact .inl (by omega)
      · exact .inl h1
    · rcases h2 with h2 | ⟨rfl, h2⟩
      · exact .inl h2
      · exact .inr ⟨rfl, ltL_trans a b c h1 h2⟩
theorem ltL_tri : ∀ a b : List Int, a.length = b.length → ltL a b ∨ a = b ∨ ltL b a
  | [], [], _ => .inr (.inl rfl)
  | [], _ :: _, h => by simp at h
  | _ :: _, [], h => by simp at h
  | x :: a, y :: b, h => by
    simp only [ltL]
    rcases Int.lt_trichotomy x y with hx | hx | hx
    · exact .inl (.inl hx)
    · subst hx
      rcases ltL_tri a b (by simpa using h) with h | h | h
      · exact .inl (.inr ⟨rfl, h⟩)
      · exact .inr (.inl (by rw [h]))
      · exact .inr (.inr (.inr ⟨rfl, h⟩))
    · exact .inr (.inr (.inl hx))

section
variable {α : Type} (key : α → List Int) (n : Nat) (hn : ∀ x, (key x).length = n)
include hn
theorem swo_key : SWO (ltOf fun a b : α => lexI (key a) (key b)) where
  irrefl x := by simp only [ltOf, decide_eq_false_iff_not, lexI_lt]; exact ltL_irrefl _
  trans x y z h1 h2 := by
    simp only [ltOf, decide_eq_true_eq, lexI_lt] at *
    exact ltL_trans _ _ _ h1 h2
  ntrans x y z h1 h2 := by
    simp only [ltOf, decide_eq_false_iff_not, lexI_lt] at *
    intro h3
    rcases ltL_tri (key x) (key y) (by rw [hn, hn]) with h | h | h
    · exact h1 h
    · rw [h] at h3; exact h2 h3
    · exact h2 (ltL_trans _ _ _ h h3)
theorem tot_key (inj : ∀ a b, key a = key b → a = b) : ∀ x y, ltOf (fun a b : α => lexI (key a) (key b)) x y = false → ltOf (fun a b : α => lexI (key a) (key b)) y x = false → x = y := by
  intro x y h1 h2
  simp only [ltOf, decide_eq_false_iff_not, lexI_lt] at *
  rcases ltL_tri (key x) (key y) (by rw [hn, hn]) with h | h | h
  · exact absurd h h1
  · exact inj _ _ h
  · exact absurd h h2
end
theorem flds_inj (a b : Rep) (h : flds a = flds b) : a = b := by
  obtain ⟨a1, a2, a3, a4, a5, a6, a7, a8⟩ := a
  obtain ⟨b1, b2, b3, b4, b5, b6, b7, b8⟩ := b
  simp only [flds, List.cons.injEq, and_true] at h
  obtain ⟨h1, h2, h3, h4, h5, h6, h7, h8⟩ := h
  have : a8 = b8 := by cases a8 <;> cases b8 <;> simp_all [b2i]
  subst this
  simp_all
theorem xflds_inj (a b : Exc) (h : xflds a = xflds b) : a = b := by
  obtain ⟨a1, a2, a3, a4, a5⟩ := a
  obtain ⟨b1, b2, b3, b4, b5⟩ := b
  simp only [xflds, List.cons.injEq, and_true] at h
  simp_all
theorem orI_xcmps (a b : Exc) : orI (xcmps a b) = lexI (xflds a) (xflds b) := by
  have key : ∀ x y : Int, cmpI x y = 0 ↔ x = y := fun x y => ⟨fun h => by
    by_cases e : x = y
    · exact e
    · exact absurd h (cmpI_ne e), fun e => by rw [e]; exact cmpI_eq⟩
  simp only [xcmps, xflds, orI, lexI, key]

/-! ### rows of elements of k cells -/
section
variable {α : Type} [Inhabited α] {enc : α → List Value} {k : Nat} (hk : ∀ x, (enc x).length = k)
include hk
omit [Inhabited α] in
theorem flat_len (xs : List α) : (xs.flatMap enc).length = xs.length * k := by
  induction xs with
  | nil => simp
  | cons x xs ih => simp [List.flatMap_cons, hk, ih, Nat.add_mul, Nat.add_comm]
theorem flat_get (h0 : 0 < k) : ∀ (xs : List α) (t : Nat), t < xs.length * k → (xs.flatMap enc)[t]! = (enc (xs[t / k]!))[t % k]!
  | [], t, h => by simp at h
  | x :: xs, t, h => by
    simp only [List.flatMap_cons]
    by_cases ht : t < k
    · have e1 : t / k = 0 := Nat.div_eq_of_lt ht
      have e2 : t % k = t := Nat.mod_eq_of_lt ht
      rw [e1, e2]
      simp [List.getElem!_eq_getElem?_getD, List.getElem?_append, hk, ht]
    · obtain ⟨u, rfl⟩ : ∃ u, t = u + k := ⟨t - k, by omega⟩
      have ih := flat_get h0 xs u (by simp [Nat.add_mul] at h; omega)
      have e1 : (u + k) / k = u / k + 1 := Nat.add_div_right _ h0
      have e2 : (u + k) % k = u % k := Nat.add_mod_right _ _
      rw [e1, e2]
      simp only [List.getElem!_eq_getElem?_getD] at ih ⊢
      rw [List.getElem?_append_right (by rw [hk]; omega), hk, Nat.add_sub_cancel, List.getElem?_cons_succ]
      exact ih
theorem flatK_eq (h0 : 0 < k) (xs : List α) : flatK enc k xs.toArray = (xs.flatMap enc).toArray := by
  refine ext_get! (by simp [flat_len hk]) fun t ht => ?_
  have ht' : t < xs.length * k := by simpa using ht
  rw [get_flatK _ _ _ t (by simpa using ht')]
  have := flat_get hk h0 xs t ht'
  simpa using this.symm

theorem holdsK_of_owns (h0 : 0 < k) {w : World} {base : Nat} {e : TypeId} {g n cap : Nat} {xs : List α} (h : w.ownsRow base e k (.slice (some ⟨g, 0, none⟩) n cap) n (xs.flatMap enc)) (hn : xs.length = n) :
    HoldsK enc k w g 0 xs.toArray ∧ g < w.heap.size := by
  rcases h.2 with ⟨e0, _⟩ | ⟨g', cap', cur, e0, hb, hg, hnc, hm, hs, ht⟩
  · cases e0
  · injection e0 with e1 _ e3
    injection e1 with e1
    injection e1 with e1
    subst e1; subst e3
    refine ⟨?_, (Array.getElem?_eq_some_iff.1 hg).1⟩
    unfold HoldsK
    rw [flatK_eq hk h0]
    intro j hj
    have hj' : j < n * k := by simpa [flat_len hk, hn] using hj
    refine ⟨?_, by simp [World.frozen?, hg]⟩
    have e1 : (cur.toList.take (n * k))[j]? = (xs.flatMap enc)[j]? := by rw [ht]
    rw [List.getElem?_take, if_pos hj', Array.getElem?_toList] at e1
    simp only [World.cell?, hg, Nat.zero_add]
    simp only [Option.isSome_none, Bool.false_eq_true, if_false]
    rw [e1]
    have hj2 : j < (xs.flatMap enc).length := by rw [flat_len hk, hn]; exact hj'
    rw [List.getElem?_eq_getElem hj2]
    simp [List.getElem?_eq_getElem hj2]
theorem owns_of_sorted (h0 : 0 < k) {w : World} {base : Nat} {e : TypeId} {g n cap q : Nat} {xs ys : List α} {os : Array Obj} (h : w.ownsRow base e k (.slice (some ⟨g, 0, none⟩) n cap) n (xs.flatMap enc)) (hn : ys.length = n) :
    (sortWorldK enc k w g 0 q ys.toArray os).ownsRow base e k (.slice (some ⟨g, 0, none⟩) n cap) n (ys.flatMap enc) ∧ w.grownBy (sortWorldK enc k w g 0 q ys.toArray os) (some g) := by
  rcases h.2 with ⟨e0, _⟩ | ⟨g', cap', cur, e0, hb, hg, hnc, hm, hs, ht⟩
  · cases e0
  · injection e0 with e1 _ e3
    injection e1 with e1
    injection e1 with e1
    subst e1; subst e3
    have hglt : g < w.heap.size := (Array.getElem?_eq_some_iff.1 hg).1
    have hheap : (sortWorldK enc k w g 0 q ys.toArray os).heap = (w.heap.modify g (onCells (putCells id 0 (flatK enc k ys.toArray)))) ++ os := rfl
    refine ⟨⟨by rw [flat_len hk, hn], .inr ⟨g, cap, putCells id 0 (flatK enc k ys.toArray) cur, rfl, hb, ?_, hnc, hm, by simpa [putCells] using hs, ?_⟩⟩, ⟨rfl, rfl, rfl, by rw [hheap]; simp, ?_⟩⟩
    · rw [hheap, Array.getElem?_append_left (by simpa using hglt), Array.getElem?_modify]
      simp [hg, onCells]
    · rw [flatK_eq hk h0]
      apply List.ext_getElem?
      intro j
      rw [List.getElem?_take, Array.getElem?_toList]
      have hfl : (ys.flatMap enc).length = n * k := by rw [flat_len hk, hn]
      by_cases hj : j < n * k
      · have hjc : j < cur.size := by rw [hs]; exact Nat.lt_of_lt_of_le hj (Nat.mul_le_mul_right _ hnc)
        simp only [if_pos hj, putCells, Array.getElem?_mapIdx, Array.getElem?_eq_getElem hjc, Option.map_some]
        have hj3 : j < (ys.flatMap enc).length := by omega
        rw [if_pos ⟨Nat.zero_le _, by rw [List.size_toArray, hfl]; omega⟩, List.getElem?_eq_getElem hj3]
        simp [List.getElem?_eq_getElem hj3]
      · simp only [hj, if_false]
        rw [List.getElem?_eq_none (by omega)]
    · intro i hi hne
      rw [hheap, Array.getElem?_append_left (by simpa using hi), Array.getElem?_modify, if_neg (fun e => hne (by rw [e]))]
end

theorem Rep.len (x : Rep) : x.cells.length = 8 := rfl
theorem Exc.len (x : Exc) : x.cells.length = 5 := rfl
instance : Inhabited Rep := ⟨⟨0, 0, 0, 0, 0, 0, 0, false⟩⟩
instance : Inhabited Exc := ⟨⟨0, 0, 0, 0, 0⟩⟩
def ltR (a b : Rep) : Bool := ltOf (fun a b : Rep => lexI (flds a) (flds b)) a b
def ltX (a b : Exc) : Bool := ltOf (fun a b : Exc => lexI (xflds a) (xflds b)) a b
def sortR (l : List Rep) : List Rep := l.mergeSort fun x y => !ltR y x
def sortX (l : List Exc) : List Exc := l.mergeSort fun x y => !ltX y x

theorem cmpLaysR (blk off size : Nat) (w : World) : CmpLays Tryz.prog 55 #[] Rep.cells 8 (fun a b => lexI (flds a) (flds b)) blk off size w := by
  intro m os dk _ a b
  obtain ⟨a1, a2, a3, a4, a5, a6, a7, a8⟩ := a
  obtain ⟨b1, b2, b3, b4, b5, b6, b7, b8⟩ := b
  exact cmpRep_any a1 a2 a3 a4 a5 a6 a7 a8 b1 b2 b3 b4 b5 b6 b7 b8 _
theorem cmpLaysX (blk off size : Nat) (w : World) : CmpLays Tryz.prog 58 #[] Exc.cells 5 (fun a b => lexI (xflds a) (xflds b)) blk off size w := by
  intro m os dk _ a b
  obtain ⟨a1, a2, a3, a4, a5⟩ := a
  obtain ⟨b1, b2, b3, b4, b5⟩ := b
  have := order_any a1 a2 a3 a4 a5 b1 b2 b3 b4 b5 (sortWorldK Exc.cells 5 w blk off m dk os)
  rw [orI_xcmps] at this
  exact this

theorem sortFuncR (xs : List Rep) (v : Value) (B n : Nat) (w : World) (hn : xs.length = n) (h : w.ownsRow B 28 8 v n (xs.flatMap Rep.cells)) (hsz : n < 4611686018427387904) :
    Calls Tryz.prog 90 #[v, .func (.func 55) #[] #[]] w fun e w' => e = .returned (.tuple #[]) ∧ w'.ownsRow B 28 8 v n ((sortR xs).flatMap Rep.cells) ∧ w.grownBy w' v.ownBlock := by
  rcases h.2 with ⟨rfl, rfl⟩ | ⟨g, cap, cur, rfl, _⟩
  · have hx : xs = [] := List.eq_nil_of_length_eq_zero hn
    subst hx
    refine (AnyF.slices_SortFunc_none Tryz.sortRep none 0 _ w).mono ?_
    rintro e w' ⟨rfl, rfl⟩
    exact ⟨rfl, by simpa [sortR] using h, ⟨rfl, rfl, rfl, Nat.le_refl _, fun _ _ _ => rfl⟩⟩
  · have hh := holdsK_of_owns Rep.len (by decide) h hn
    have := AnyQ.slices_SortFunc_total Tryz.sortRep 8 (fun w => Tryz.isAgg28 w) (fun w => Tryz.sizeOf28 w) Rep.cells Rep.len (by intro x u hu; simp [Rep.cells] at hu; rcases hu with rfl | rfl | rfl | rfl | rfl | rfl | rfl | rfl <;> rfl)
      (fun a b => lexI (flds a) (flds b)) (swo_key flds 8 (fun _ => rfl)) 55 #[] g 0 cap xs.toArray w (enters_of Tryz.func55 (by kernel_rfl) rfl) (cmpLaysR g 0 _ w) hh.1 hh.2 (by simpa [hn] using hsz) (tot_key flds 8 (fun _ => rfl) flds_inj)
    rw [List.size_toArray, hn] at this
    refine this.mono ?_
    rintro e w' ⟨rfl, q, os, rfl⟩
    have h2 := owns_of_sorted Rep.len (by decide) (q := q) (ys := sortR xs) (os := os) h (by simpa [sortR] using hn)
    exact ⟨rfl, h2.1, h2.2⟩
theorem sortFuncX (xs : List Exc) (v : Value) (B n : Nat) (w : World) (hn : xs.length = n) (h : w.ownsRow B 36 5 v n (xs.flatMap Exc.cells)) (hsz : n < 4611686018427387904) :
    Calls Tryz.prog 95 #[v, .func (.func 58) #[] #[]] w fun e w' => e = .returned (.tuple #[]) ∧ w'.ownsRow B 36 5 v n ((sortX xs).flatMap Exc.cells) ∧ w.grownBy w' v.ownBlock := by
  rcases h.2 with ⟨rfl, rfl⟩ | ⟨g, cap, cur, rfl, _⟩
  · have hx : xs = [] := List.eq_nil_of_length_eq_zero hn
    subst hx
    refine (AnyF.slices_SortFunc_none Tryz.sortExc none 0 _ w).mono ?_
    rintro e w' ⟨rfl, rfl⟩
    exact ⟨rfl, by simpa [sortX] using h, ⟨rfl, rfl, rfl, Nat.le_refl _, fun _ _ _ => rfl⟩⟩
  · have hh := holdsK_of_owns Exc.len (by decide) h hn
    have := AnyQ.slices_SortFunc_total Tryz.sortExc 5 (fun w => Tryz.isAgg36 w) (fun w => Tryz.sizeOf36 w) Exc.cells Exc.len (by intro x u hu; simp [Exc.cells] at hu; rcases hu with rfl | rfl | rfl | rfl | rfl <;> rfl)
      (fun a b => lexI (xflds a) (xflds b)) (swo_key xflds 5 (fun _ => rfl)) 58 #[] g 0 cap xs.toArray w (enters_of Tryz.func58 (by kernel_rfl) rfl) (cmpLaysX g 0 _ w) hh.1 hh.2 (by simpa [hn] using hsz) (tot_key xflds 5 (fun _ => rfl) xflds_inj)
    rw [List.size_toArray, hn] at this
    refine this.mono ?_
    rintro e w' ⟨rfl, q, os, rfl⟩
    have h2 := owns_of_sorted Exc.len (by decide) (q := q) (ys := sortX xs) (os := os) h (by simpa [sortX] using hn)
    exact ⟨rfl, h2.1, h2.2⟩
end Go.Proofs.YtfoenojohemccaaGreatDoor
namespace Go.Proofs.YtfoenojohemccaaGreatDoor
open Go.RowKit Go.Sort Go.Proofs

section
variable {α : Type} {lt : α → α → Bool} (hO : SWO lt) (hT : ∀ x y, lt x y = false → lt y x = false → x = y)
include hO hT
omit hT in
theorem le_trans' (a b c : α) (h1 : (!lt b a) = true) (h2 : (!lt c b) = true) : (!lt c a) = true := by
  simp only [Bool.not_eq_true'] at *
  exact hO.ntrans c b a h2 h1
omit hT in
theorem le_total' (a b : α) : ((!lt b a) || (!lt a b)) = true := by
  cases h1 : lt b a <;> cases h2 : lt a b <;> simp
  have := hO.trans a b a h2 h1
  rw [hO.irrefl] at this; cases this
theorem sort_perm {l m : List α} (h : l.Perm m) : l.mergeSort (fun x y => !lt y x) = m.mergeSort (fun x y => !lt y x) := by
  refine List.Perm.eq_of_pairwise (le := fun a b => (!lt b a) = true) ?_ (List.pairwise_mergeSort (le_trans' hO) (le_total' hO) l) (List.pairwise_mergeSort (le_trans' hO) (le_total' hO) m) ?_
  · intro a b _ _ h1 h2
    simp only [Bool.not_eq_true'] at h1 h2
    exact hT a b h2 h1
  · exact (List.mergeSort_perm l _).trans (h.trans (List.mergeSort_perm m _).symm)
end
theorem swoR : SWO ltR := swo_key flds 8 (fun _ => rfl)
theorem totR : ∀ x y, ltR x y = false → ltR y x = false → x = y := tot_key flds 8 (fun _ => rfl) flds_inj
theorem swoX : SWO ltX := swo_key xflds 5 (fun _ => rfl)
theorem totX : ∀ x y, ltX x y = false → ltX y x = false → x = y := tot_key xflds 5 (fun _ => rfl) xflds_inj
theorem sortR_perm {l m : List Rep} (h : l.Perm m) : sortR l = sortR m := sort_perm swoR totR h
theorem sortX_perm {l m : List Exc} (h : l.Perm m) : sortX l = sortX m := sort_perm swoX totX h
theorem sortR_len (l : List Rep) : (sortR l).length = l.length := by simp [sortR]
theorem sortX_len (l : List Exc) : (sortX l).length = l.length := by simp [sortX]
theorem sortR_perm_self (l : List Rep) : (sortR l).Perm l := List.mergeSort_perm l _
theorem sortX_perm_self (l : List Exc) : (sortX l).Perm l := List.mergeSort_perm l _

/-- a new slice that owns these elements; nil just where there is none -/
def NewR (w w' : World) (v : Value) (l : List Rep) : Prop :=
  w'.ownsRow w.heap.size 28 8 v l.length (l.flatMap Rep.cells) ∧ (v = .slice none 0 0 ↔ l = []) ∧ Below w.heap.size w w'
def NewX (w w' : World) (v : Value) (l : List Exc) : Prop :=
  w'.ownsRow w.heap.size 36 5 v l.length (l.flatMap Exc.cells) ∧ (v = .slice none 0 0 ↔ l = []) ∧ Below w.heap.size w w'

theorem below_grow {B : Nat} {a w w' : World} {base n k : Nat} {e : TypeId} {v : Value} {xs : List Value} (h : Below B a w) (hB : B ≤ w.heap.size) (ho : w.ownsRow base e k v n xs) (hb : B ≤ base) (hg : w.grownBy w' v.ownBlock) : Below B a w' :=
  h.grown hg hB (fun j e => Nat.le_trans hb (ho.lt j e).1)

set_option maxHeartbeats 1000000 in
theorem sortedFuncR (b : Nat) (kv : List (Rep × Bool)) (w : World) (hN : kv.length ≤ 4294967296) (Bm : Nat) (hBm : Bm < w.heap.size) (hm : w.cell? ⟨Bm, 0, none⟩ = some (.map (some b))) (hown : MapIs Rep.val boolV w b kv) :
    Calls Tryz.prog 53 #[.func (.func 91) #[] #[.pointer (some ⟨Bm, 0, none⟩)], .func (.func 55) #[] #[]] w fun e w' => ∃ v, e = .returned v ∧ NewR w w' v (sortR (kv.map (·.1))) := by
  have hc := rep_collectKeys b kv w hN Bm hBm hm hown
  clear hm hown
  go_enter Tryz.func53, Tryz.ntmps53
  go_wp2_with fail
  refine hc.mono ?_
  rintro e w1 ⟨v, ss, rfl, hp, ho, hnil, hb⟩
  have hl : ss.length ≤ 4294967296 := by rw [hp.length_eq]; simpa using hN
  have hs := sortFuncR ss v _ _ w1 rfl ho (by omega)
  have HS := Lib.hid hs
  clear hs
  go_wp2_with fail
  refine HS.out.mono ?_
  rintro e w2 ⟨rfl, ho2, hg⟩
  go_wp2_with fail
  go_ret
  refine ⟨v, rfl, ?_, ?_, below_grow hb hb.size ho (Nat.le_refl _) hg⟩
  · rw [← sortR_perm hp, sortR_len]; exact ho2
  · rw [hnil, ← sortR_perm hp]
    exact ⟨fun h => by rw [h]; simp [sortR], fun h => List.eq_nil_of_length_eq_zero (by rw [← sortR_len, h]; rfl)⟩
set_option maxHeartbeats 1000000 in
theorem sortedFuncX (b : Nat) (kv : List (Exc × Bool)) (w : World) (hN : kv.length ≤ 4294967296) (Bm : Nat) (hBm : Bm < w.heap.size) (hm : w.cell? ⟨Bm, 0, none⟩ = some (.map (some b))) (hown : MapIs Exc.val boolV w b kv) :
    Calls Tryz.prog 56 #[.func (.func 96) #[] #[.pointer (some ⟨Bm, 0, none⟩)], .func (.func 58) #[] #[]] w fun e w' => ∃ v, e = .returned v ∧ NewX w w' v (sortX (kv.map (·.1))) := by
  have hc := exc_collectKeys b kv w hN Bm hBm hm hown
  clear hm hown
  go_enter Tryz.func56, Tryz.ntmps56
  go_wp2_with fail
  refine hc.mono ?_
  rintro e w1 ⟨v, ss, rfl, hp, ho, hnil, hb⟩
  have hl : ss.length ≤ 4294967296 := by rw [hp.length_eq]; simpa using hN
  have hs := sortFuncX ss v _ _ w1 rfl ho (by omega)
  have HS := Lib.hid hs
  clear hs
  go_wp2_with fail
  refine HS.out.mono ?_
  rintro e w2 ⟨rfl, ho2, hg⟩
  go_wp2_with fail
  go_ret
  refine ⟨v, rfl, ?_, ?_, below_grow hb hb.size ho (Nat.le_refl _) hg⟩
  · rw [← sortX_perm hp, sortX_len]; exact ho2
  · rw [hnil, ← sortX_perm hp]
    exact ⟨fun h => by rw [h]; simp [sortX], fun h => List.eq_nil_of_length_eq_zero (by rw [← sortX_len, h]; rfl)⟩

/-- an intake at an address: its two sets, in the order in which they were filled -/
structure IntakeIs (w : World) (a : Addr) (rs : List Rep) (es : List Exc) : Prop where
  ex : ∃ br be, w.cell? a = some (.map (some br)) ∧ w.cell? (a.add 1) = some (.map (some be)) ∧ MapIs Rep.val boolV w br (rs.map fun r => (r, true)) ∧ MapIs Exc.val boolV w be (es.map fun r => (r, true)) ∧ br ≠ be

set_option maxHeartbeats 1000000 in
theorem reports_any (bx : Nat) (rs : List Rep) (es : List Exc) (w : World) (h : IntakeIs w ⟨bx, 0, none⟩ rs es) (hN : rs.length ≤ 4294967296) :
    Calls Tryz.prog 16 #[.pointer (some ⟨bx, 0, none⟩)] w fun e w' => ∃ v, e = .returned v ∧ NewR w w' v (sortR rs) := by
  obtain ⟨br, be, hc0, hc1, hr, he, hne⟩ := h.ex
  have hk := fun W => rep_keys (some br) W
  have hs := sortedFuncR br _ (w.alloc (.cells #[.map (some br)] 90)) (by simpa using hN) w.heap.size (by simp) (by simp [go_sem]) (hr.alloc _)
  have HS := Lib.hid hs
  have e1 : ((rs.map fun r => (r, true)).map (·.1)) = rs := by simp [List.map_map, Function.comp_def]
  have HE := Lib.hid e1
  clear hs hr he hne hc1 e1 h
  go_enter Tryz.func16, Tryz.ntmps16
  go_wp2_with fail
  refine (hk _).mono ?_
  rintro e w1 ⟨rfl, rfl⟩
  go_wp2_with fail
  refine HS.out.mono ?_
  rintro e w2 ⟨v, rfl, ho, hnil, hb⟩
  rw [HE.out] at ho hnil
  go_wp2_with fail
  go_ret
  refine ⟨v, rfl, ?_, hnil, ((Below.refl _ _).alloc (Nat.le_refl _) _).trans (hb.mono (by simp))⟩
  obtain ⟨h1, h2⟩ := ho
  refine ⟨h1, ?_⟩
  rcases h2 with h2 | ⟨g, cap, cur, hv, hbg, rest⟩
  · exact .inl h2
  · exact .inr ⟨g, cap, cur, hv, by simp at hbg; omega, rest⟩
end Go.Proofs.YtfoenojohemccaaGreatDoor
