/- slices.SortStableFunc at reports with times: fewer than 20. -/
import Derived.Test.YtfoenojohemccaaGreatDoorT1
import Derived.Test.YtfoenojohemccaaGreatDoorT2
namespace Go.Proofs.YtfoenojohemccaaGreatDoor
open Go.RowKit Go.Sort Go.Proofs

theorem cmpQ_neg (a b : Rat) : cmpQ a b < 0 ↔ a < b := by
  unfold cmpQ
  by_cases h : a < b
  · simp [h]
  · rw [if_neg h]
    simp only [h, iff_false]
    split <;> omega
theorem cmpQ_zero (a b : Rat) : cmpQ a b = 0 ↔ a = b := by
  rw [← cmpQ_cross, ← crossQ_eq]
  unfold cmpI
  constructor
  · intro h
    split at h
    · omega
    · split at h <;> omega
  · intro h
    rw [if_neg (by omega), if_neg (by omega)]
theorem cmpI_neg (a b : Int) : cmpI a b < 0 ↔ a < b := by
  unfold cmpI
  constructor
  · intro h
    split at h
    · assumption
    · split at h <;> omega
  · intro h; rw [if_pos h]; omega
def ltT (x y : Tim) : Prop := x.q < y.q ∨ (x.q = y.q ∧ x.r.s < y.r.s)
theorem cT_neg (x y : Tim) : cT x y < 0 ↔ ltT x y := by
  unfold cT orI ltT
  by_cases h : cmpQ x.q y.q = 0
  · rw [if_pos h]
    have hq := (cmpQ_zero _ _).1 h
    have hn : ¬ x.q < y.q := by rw [← cmpQ_neg, h]; omega
    simp only [orI]
    by_cases h2 : cmpI x.r.s y.r.s = 0
    · rw [if_pos h2]
      have : ¬ x.r.s < y.r.s := by rw [← cmpI_neg, h2]; omega
      constructor
      · intro h; omega
      · rintro (h | ⟨_, h⟩)
        · exact absurd h hn
        · exact absurd h this
    · rw [if_neg h2, cmpI_neg]
      exact ⟨fun h => .inr ⟨hq, h⟩, fun h => h.elim (fun h => absurd h hn) (·.2)⟩
  · rw [if_neg h, cmpQ_neg]
    exact ⟨.inl, fun h2 => h2.elim id fun h2 => absurd ((cmpQ_zero _ _).2 h2.1) h⟩
theorem rat_trans {a b c : Rat} (h1 : a < b) (h2 : b < c) : a < c := Rat.not_le.1 fun h : c ≤ a => Rat.not_le.2 h2 (Rat.le_trans h (Rat.le_of_lt h1))
theorem rat_tri (a b : Rat) : a < b ∨ a = b ∨ b < a := by
  by_cases h1 : a < b
  · exact .inl h1
  · by_cases h2 : b < a
    · exact .inr (.inr h2)
    · exact .inr (.inl (Rat.le_antisymm (Rat.not_lt.1 h2) (Rat.not_lt.1 h1)))
theorem swoT : SWO (ltOf cT) where
  irrefl x := by
    simp only [ltOf, decide_eq_false_iff_not, cT_neg, ltT]
    rintro (h | ⟨_, h⟩)
    · exact Rat.lt_irrefl h
    · omega
  trans x y z h1 h2 := by
    simp only [ltOf, decide_eq_true_eq, cT_neg, ltT] at *
    rcases h1 with h1 | ⟨e1, h1⟩ <;> rcases h2 with h2 | ⟨e2, h2⟩
    · exact .inl (rat_trans h1 h2)
    · exact .inl (by rw [← e2]; exact h1)
    · exact .inl (by rw [e1]; exact h2)
    · exact .inr ⟨e1.trans e2, by omega⟩
  ntrans x y z h1 h2 := by
    simp only [ltOf, decide_eq_false_iff_not, cT_neg, ltT] at *
    rintro (h | ⟨e, h⟩)
    · rcases rat_tri y.q x.q with c | c | c
      · exact h2 (.inl (rat_trans c h))
      · rcases rat_tri y.q z.q with d | d | d
        · exact h2 (.inl d)
        · rw [← c, d] at h; exact Rat.lt_irrefl h
        · rw [← c] at h; exact Rat.lt_irrefl (rat_trans h d)
      · exact h1 (.inl c)
    · rcases rat_tri x.q y.q with c | c | c
      · exact h1 (.inl c)
      · by_cases d : x.r.s < y.r.s
        · exact h1 (.inr ⟨c, d⟩)
        · exact h2 (.inr ⟨c.symm.trans e, by omega⟩)
      · exact h2 (.inl (by rw [← e]; exact c))

/-- in the order of time, then of number -/
def SortedT (l : List Tim) : Prop := l.Pairwise fun a b => ¬ ltT b a
theorem sortedT_of (d : Array Tim) (h : SortedIn (ltOf cT) 0 d.size d) : SortedT d.toList := by
  rw [SortedT, List.pairwise_iff_getElem]
  intro i j hi hj hij
  have := h i j (Nat.zero_le _) hij (by simpa using hj)
  rw [getElem!_pos d i (by simpa using hi), getElem!_pos d j (by simpa using hj)] at this
  simpa [ltOf, cT_neg] using this

def StabPost (B : Nat) (v : Value) (l : List Tim) (w : World) (e : Ending) (w' : World) : Prop :=
  e = .returned (.tuple #[]) ∧ ∃ l' : List Tim, l'.Perm l ∧ SortedT l' ∧ w'.ownsRow B 89 12 v l'.length (l'.flatMap Tim.cells) ∧ w.grownBy w' v.ownBlock

set_option maxHeartbeats 1000000 in
theorem ins_none (w : World) : Calls Tryz.prog 169 #[.slice none 0 0, .int .i64 0, .int .i64 0, .func (.func 104) #[] #[]] w fun e w' => e = .returned (.tuple #[]) ∧ w = w' := by
  go_enter Tryz.func169, Tryz.ntmps169
  go_wp2_with fail
  go_loop [8] (fun i => i = .int .i64 1) (fun _ => 0)
  case atStart => rfl
  case round =>
    subst hrel
    go_wp2_with fail
    go_end0
    exact ⟨rfl, rfl⟩

set_option maxHeartbeats 2000000 in
theorem stable_small (l : List Tim) (v : Value) (B : Nat) (w : World) (hown : w.ownsRow B 89 12 v l.length (l.flatMap Tim.cells)) (hN : l.length < 20) :
    Calls Tryz.prog 133 #[v, .int .i64 l.length, .func (.func 104) #[] #[]] w fun e w' => StabPost B v l w e w' := by
  rcases hown.2 with ⟨rfl, hn⟩ | ⟨gr, cap, cur, rfl, hB, hgr, hnc, hcm, hcs, htk⟩
  · obtain rfl : l = [] := by simpa using hn
    have hi := fun W => ins_none W
    have HI := Lib.hid hi
    have HO := Lib.hid hown
    clear hi hown hN hn
    go_enter Tryz.func133, Tryz.ntmps133
    go_wp2_with fail
    go_loop [7, 8] (fun a b => a = .int .i64 0 ∧ b = .int .i64 20) (fun _ _ => 0)
    case atStart => exact ⟨rfl, rfl⟩
    case round =>
      obtain ⟨rfl, rfl⟩ := hrel
      go_wp2_with fail
      refine (HI.out _).mono ?_
      rintro e w1 ⟨rfl, rfl⟩
      go_wp2_with fail
      go_loop [6] (fun a => a = .int .i64 20) (fun _ => 0)
      case atStart => rfl
      case round =>
        subst hrel
        go_wp2_with fail
        go_end0
        exact ⟨rfl, [], List.Perm.refl _, List.Pairwise.nil, HO.out, World.grownBy.refl w _⟩
  · have hs : HasT w B gr cap l.length l.toArray := by
      show w.ownsRow B 89 12 _ _ (rowT l.toArray)
      rw [rowT]; exact hown
    have hi := ins_any cT (fun x y W => timCmp_any x y W) l.toArray B gr cap l.length 0 l.length w hs (by simp) (Nat.zero_le _) (Nat.le_refl _) (by omega)
    have hpost := insertionSort_holds (lt := ltOf cT) swoT l.toArray 0 l.length (Nat.zero_le _) (by simp)
    obtain ⟨n, hn⟩ : ∃ n, n = l.length := ⟨_, rfl⟩
    have hfin : ∀ w', HasT w' B gr cap l.length (Sort.insertionSort (ltOf cT) l.toArray 0 l.length) → w.grownBy w' (some gr) → StabPost B (.slice (some ⟨gr, 0, none⟩) l.length cap) l w (.returned (.tuple #[])) w' := by
      intro w' hw hg
      have hsz : (Sort.insertionSort (ltOf cT) l.toArray 0 l.length).size = l.length := by rw [hpost.1.1]; simp
      have hperm := hpost.1.2.2
      have ext : ∀ (D : Array Tim) (m : Nat), D.size = m → D.extract 0 m = D := by rintro D _ rfl; simp
      have e1 := ext _ _ hsz
      have e2 : (l.toArray.extract 0 l.length) = l.toArray := by simp
      rw [e1, e2] at hperm
      have hl : (Sort.insertionSort (ltOf cT) l.toArray 0 l.length).toList.length = l.length := by rw [Array.length_toList, hsz]
      refine ⟨rfl, _, hperm, sortedT_of _ (by rw [hsz]; exact hpost.2), ?_, hg⟩
      rw [hl]
      exact hw
    rw [← hn] at hi hfin ⊢
    have HI := Lib.hid hi
    have HF := Lib.hid hfin
    rw [← hn] at hN
    clear hi hfin hpost hs hgr hcs htk hown hn hB hcm hnc
    go_enter Tryz.func133, Tryz.ntmps133
    go_wp2_with fail
    go_loop [7, 8] (fun a b => a = .int .i64 0 ∧ b = .int .i64 20) (fun _ _ => 0)
    case atStart => exact ⟨rfl, rfl⟩
    case round =>
      obtain ⟨rfl, rfl⟩ := hrel
      go_wp2_with fail
      refine HI.out.mono ?_
      rintro e w1 ⟨rfl, hw, hg⟩
      have HH := Lib.hid (HF.out w1 hw hg)
      clear hw hg
      go_wp2_with fail
      go_loop [6] (fun a => a = .int .i64 20) (fun _ => 0)
      case atStart => rfl
      case round =>
        subst hrel
        go_wp2_with fail
        go_end0
        exact HH.out

set_option maxHeartbeats 1000000 in
theorem sortStable_small (l : List Tim) (v : Value) (B : Nat) (w : World) (hown : w.ownsRow B 89 12 v l.length (l.flatMap Tim.cells)) (hN : l.length < 20) :
    Calls Tryz.prog 103 #[v, .func (.func 104) #[] #[]] w fun e w' => StabPost B v l w e w' := by
  have h := stable_small l v B w hown hN
  have HH := Lib.hid h
  rcases hown.2 with ⟨rfl, hn⟩ | ⟨gr, cap, cur, rfl, hB, hgr, hnc, hcm, hcs, htk⟩
  · obtain rfl : l = [] := by simpa using hn
    clear h hown hn hN
    go_enter Tryz.func103, Tryz.ntmps103
    go_wp2_with fail
    refine HH.out.mono ?_
    rintro e w1 ⟨rfl, hx⟩
    have HX := Lib.hid hx
    clear hx
    go_wp2_with fail
    go_end0
    exact ⟨rfl, HX.out⟩
  · clear h hown hB hgr hnc hcm hcs htk hN
    go_enter Tryz.func103, Tryz.ntmps103
    go_wp2_with fail
    refine HH.out.mono ?_
    rintro e w1 ⟨rfl, hx⟩
    have HX := Lib.hid hx
    clear hx
    go_wp2_with fail
    go_end0
    exact ⟨rfl, HX.out⟩
end Go.Proofs.YtfoenojohemccaaGreatDoor
