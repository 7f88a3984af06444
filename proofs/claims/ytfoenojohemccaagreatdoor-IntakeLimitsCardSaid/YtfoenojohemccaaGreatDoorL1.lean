/- viatorlaw27.IntakeLimits: the plain part: the reports of the law, what is new in its three batches. No walk. -/
import Derived.Test.YtfoenojohemccaaGreatDoorQI
namespace Go.Proofs.YtfoenojohemccaaGreatDoor
open Go.RowKit Go.Sort Go.Proofs

theorem foldl_addLn {κ : Type} [DecidableEq κ] : ∀ (l acc : List κ), (acc ++ l).Nodup → l.foldl addL acc = acc ++ l
  | [], acc, _ => by simp
  | x :: l, acc, h => by
    have hx : x ∉ acc := by
      intro hx
      rw [List.nodup_append] at h
      exact h.2.2 x hx x (by simp) rfl
    rw [List.foldl_cons, addL, if_neg hx, foldl_addLn l (acc ++ [x]) (by simpa using h)]
    simp
def limR (q : Int) (i : Nat) : Rep := ⟨1 + (i : Int) % 5, q + (i : Int) / 5, 0, 0, i, 0, 0, false⟩
def limL (q : Int) (n : Nat) : List Rep := (List.range n).map (limR q)
theorem limL_len (q : Int) (n : Nat) : (limL q n).length = n := by simp [limL]
theorem limL_succ (q : Int) (n : Nat) : limL q (n + 1) = limL q n ++ [limR q n] := by simp [limL, List.range_succ]
theorem limL_get (q : Int) (n i : Nat) (h : i < n) : (limL q n)[i]? = some (limR q i) := by simp [limL, h]
theorem limL_nodup (q : Int) : ∀ n : Nat, (limL q n).Nodup
  | 0 => by simp [limL]
  | n + 1 => by
    rw [limL_succ, List.nodup_append]
    refine ⟨limL_nodup q n, by simp, ?_⟩
    intro a ha b hb
    simp at hb
    subst hb
    simp [limL] at ha
    obtain ⟨i, hi, rfl⟩ := ha
    intro h
    have := congrArg Rep.t h
    simp [limR] at this
    omega
theorem limR_check (q : Int) (i : Nat) (h0 : 0 ≤ q) (h1 : q ≤ 65535) (hi : i < 4096) : checkR (limR q i) = 0 := by
  unfold checkR limR withinB anyP
  simp
  omega
theorem firstErr_all {α : Type} (f : α → Int) : ∀ (l : List α), (∀ x ∈ l, f x = 0) → firstErr f l = 0
  | [], _ => rfl
  | x :: l, h => by
    have h1 := h x (by simp)
    have h2 := firstErr_all f l fun y hy => h y (by simp [hy])
    unfold firstErr at *
    rw [List.foldr_cons, h2, if_pos h1]
theorem freshL_none {κ : Type} [DecidableEq κ] (l acc : List κ) : freshL [] acc l = l.foldl addL acc := by
  simp [freshL]
theorem foldl_addL_in {κ : Type} [DecidableEq κ] : ∀ (l acc : List κ), (∀ x ∈ l, x ∈ acc) → l.foldl addL acc = acc
  | [], acc, _ => rfl
  | x :: l, acc, h => by
    rw [List.foldl_cons, addL, if_pos (h x (by simp))]
    exact foldl_addL_in l acc fun y hy => h y (by simp [hy])
theorem fresh_first (q : Int) (k : Nat) : freshL [] [] (limL q 4096 ++ (limL q 4096).take k) = limL q 4096 := by
  rw [freshL_none, List.foldl_append, foldl_addLn _ [] (by simpa using limL_nodup q 4096), List.nil_append]
  exact foldl_addL_in _ _ fun x hx => List.mem_of_mem_take hx
theorem check_first (q : Int) (k : Nat) (h0 : 0 ≤ q) (h1 : q ≤ 65535) : checkB (limL q 4096 ++ (limL q 4096).take k) [] = 0 := by
  have hall : ∀ x ∈ limL q 4096, checkR x = 0 := by
    intro x hx
    simp [limL] at hx
    obtain ⟨i, hi, rfl⟩ := hx
    exact limR_check q i h0 h1 hi
  have : firstErr checkR (limL q 4096 ++ (limL q 4096).take k) = 0 := firstErr_all _ _ fun x hx => by
    rcases List.mem_append.1 hx with hx | hx
    · exact hall x hx
    · exact hall x (List.mem_of_mem_take hx)
  unfold checkB
  rw [if_pos this]
  rfl
def nineR : Rep := ⟨9, 0, 0, 0, 0, 0, 0, false⟩
def oneX : Exc := ⟨0, 1, 0, 0, 0⟩

theorem lim_add1 {bx br be : Nat} {q : Int} {k : Nat} (h0 : 0 ≤ q) (h1 : q ≤ 65535) {w : World} {e : Ending} {w' : World} (h : AddPost bx br be [] [] (limL q 4096 ++ (limL q 4096).take k) [] w e w') :
    e = .returned (.tuple #[.int .i64 4096, .int .i64 0]) ∧ ∃ R, R.Perm (limL q 4096) ∧ IntakeAt w' bx br be R [] ∧ Mod (fun k => k = br ∨ k = be) w w' := by
  rcases h with ⟨h, _⟩ | ⟨_, h⟩
  · exact absurd (check_first q k h0 h1) h
  · rw [fresh_first, show freshL ([] : List Exc) [] [] = [] from rfl] at h
    rcases h with ⟨h, _⟩ | ⟨_, _, he, rs', es', h1, h2, h3, h4⟩
    · rw [limL_len] at h; simp at h
    · have e2 : es' = [] := List.perm_nil.1 h2
      subst e2
      have hnd : rs'.Nodup := h1.nodup_iff.2 (limL_nodup q 4096)
      rw [foldl_addLn rs' [] (by simpa using hnd), List.nil_append] at h3
      rw [limL_len] at he
      exact ⟨he, rs', h1, h3, h4⟩
theorem lim_add2 {bx br be : Nat} {q : Int} {k : Nat} (h0 : 0 ≤ q) (h1 : q ≤ 65535) (hk : k < 4096) {R : List Rep} (hR : R.Perm (limL q 4096)) {w : World} {e : Ending} {w' : World} (h : AddPost bx br be R [] [limR q k, nineR] [] w e w') :
    e = .returned (.tuple #[.int .i64 0, .int .i64 3]) ∧ Below w.heap.size w w' := by
  have hlen : R.length = 4096 := by rw [hR.length_eq, limL_len]
  have hc : checkB [limR q k, nineR] [] = 0 := by
    have : firstErr checkR [limR q k, nineR] = 0 := firstErr_all _ _ fun x hx => by
      simp at hx
      rcases hx with rfl | rfl
      · exact limR_check q k h0 h1 hk
      · decide
    unfold checkB
    rw [if_pos this]
    rfl
  have hin : limR q k ∈ R := hR.symm.subset (by simp [limL]; exact ⟨k, hk, rfl⟩)
  have hni : nineR ∉ R := fun h => by
    have := hR.subset h
    simp [limL, limR, nineR] at this
    omega
  have hf : freshL R [] [limR q k, nineR] = [nineR] := by
    unfold freshL
    rw [List.foldl_cons, if_pos hin, List.foldl_cons, if_neg hni]
    rfl
  rcases h with ⟨h, _⟩ | ⟨_, h⟩
  · exact absurd hc h
  · rw [hf, show freshL ([] : List Exc) [] [] = [] from rfl] at h
    rcases h with ⟨_, he, hb⟩ | ⟨h, _⟩
    · exact ⟨he, hb⟩
    · rw [hlen] at h; simp at h
theorem lim_add3 {bx br be : Nat} {q : Int} {k : Nat} (h0 : 0 ≤ q) (h1 : q ≤ 65535) (hk : k < 4096) {R : List Rep} (hR : R.Perm (limL q 4096)) {w : World} {e : Ending} {w' : World} (h : AddPost bx br be R [] [limR q k] [oneX] w e w') :
    e = .returned (.tuple #[.int .i64 1, .int .i64 0]) ∧ IntakeAt w' bx br be R [oneX] ∧ Mod (fun k => k = br ∨ k = be) w w' := by
  have hlen : R.length = 4096 := by rw [hR.length_eq, limL_len]
  have hc : checkB [limR q k] [oneX] = 0 := by
    have : firstErr checkR [limR q k] = 0 := by rw [firstErr_one]; exact limR_check q k h0 h1 hk
    unfold checkB
    rw [if_pos this]
    decide
  have hin : limR q k ∈ R := hR.symm.subset (by simp [limL]; exact ⟨k, hk, rfl⟩)
  have hf : freshL R [] [limR q k] = [] := by
    unfold freshL
    rw [List.foldl_cons, if_pos hin]
    rfl
  rcases h with ⟨h, _⟩ | ⟨_, h⟩
  · exact absurd hc h
  · rw [hf, show freshL ([] : List Exc) [] [oneX] = [oneX] from by decide] at h
    rcases h with ⟨h, _⟩ | ⟨_, _, he, rs', es', h1, h2, h3, h4⟩
    · rw [hlen] at h; simp at h
    · have e1 : rs' = [] := List.perm_nil.1 h1
      have e2 : es' = [oneX] := List.perm_singleton.1 h2
      subst e1 e2
      exact ⟨he, h3, h4⟩
end Go.Proofs.YtfoenojohemccaaGreatDoor
