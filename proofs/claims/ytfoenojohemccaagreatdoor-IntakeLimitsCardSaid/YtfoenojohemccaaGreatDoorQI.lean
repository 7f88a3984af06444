/- An intake in memory: New, its frame, maps.Copy. | Intake.put and Intake.Add. | Intake.Add. -/
import Derived.Test.YtfoenojohemccaaGreatDoorQT
namespace Go.Proofs.YtfoenojohemccaaGreatDoor
open Go.RowKit Go.Sort Go.Proofs

/-- what a call leaves alone: every old block outside S -/
structure Mod (S : Nat → Prop) (w w' : World) : Prop where
  os : w'.os = w.os
  tape : w'.tape = w.tape
  output : w'.output = w.output
  size : w.heap.size ≤ w'.heap.size
  block : ∀ k, k < w.heap.size → ¬ S k → w'.heap[k]? = w.heap[k]?
theorem Mod.refl (S : Nat → Prop) (w : World) : Mod S w w := ⟨rfl, rfl, rfl, Nat.le_refl _, fun _ _ _ => rfl⟩
theorem Mod.trans {S : Nat → Prop} {a b c : World} (h : Mod S a b) (k : Mod S b c) : Mod S a c :=
  ⟨k.os.trans h.os, k.tape.trans h.tape, k.output.trans h.output, Nat.le_trans h.size k.size, fun i hi hs => (k.block i (Nat.lt_of_lt_of_le hi h.size) hs).trans (h.block i hi hs)⟩
theorem Mod.mono {S T : Nat → Prop} {a b : World} (h : Mod S a b) (hs : ∀ k, k < a.heap.size → S k → T k) : Mod T a b :=
  ⟨h.os, h.tape, h.output, h.size, fun i hi ht => h.block i hi (fun e => ht (hs i hi e))⟩
theorem Mod.below {S : Nat → Prop} {B : Nat} {a w w' : World} (h : Mod S a w) (hb : Below B w w') (hB : a.heap.size ≤ B) : Mod S a w' :=
  ⟨hb.os.trans h.os, hb.tape.trans h.tape, hb.output.trans h.output, Nat.le_trans h.size hb.size, fun i hi hs => (hb.block i (Nat.lt_of_lt_of_le hi hB)).trans (h.block i hi hs)⟩
theorem Mod.grown {S : Nat → Prop} {a w w' : World} {row : Option Nat} (h : Mod S a w) (hg : w.grownBy w' row) (hr : ∀ k, row = some k → S k ∨ a.heap.size ≤ k) : Mod S a w' :=
  ⟨hg.os.trans h.os, hg.tape.trans h.tape, hg.output.trans h.output, Nat.le_trans h.size hg.size, fun i hi hs => (hg.block i (Nat.lt_of_lt_of_le hi h.size) (fun e => by
    rcases hr i e.symm with h1 | h1
    · exact hs h1
    · omega)).trans (h.block i hi hs)⟩
theorem Mod.alloc {S : Nat → Prop} {a w : World} (h : Mod S a w) (o : Obj) : Mod S a (w.alloc o) := h.grown (World.grownBy_alloc w o none) (fun _ e => by cases e)
theorem Mod.drew {S : Nat → Prop} {a w : World} (h : Mod S a w) : Mod S a w.drew := ⟨h.os, h.tape, h.output, h.size, h.block⟩
theorem Mod.setCell {S : Nat → Prop} {a w : World} (h : Mod S a w) (p : Addr) (u : Value) (hp : S p.block ∨ a.heap.size ≤ p.block) : Mod S a (w.setCell p u) := by
  exact h.grown ⟨rfl, rfl, rfl, by simp, fun k hk hne => Below.heap_setCell w p u k (fun e => hne (by rw [e]))⟩ (row := some p.block) (fun k e => by cases e; exact hp)
theorem Mod.toBelow {S : Nat → Prop} {a w : World} {B : Nat} (h : Mod S a w) (hS : ∀ k, S k → B ≤ k) (hB : B ≤ a.heap.size) : Below B a w :=
  ⟨h.os, h.tape, h.output, h.size, fun k hk => h.block k (by omega) (fun e => by have := hS k e; omega)⟩
theorem Mod.of_below {a w : World} (S : Nat → Prop) (h : Below a.heap.size a w) : Mod S a w := (Mod.refl S a).below h (Nat.le_refl _)
theorem Mod.cell {S : Nat → Prop} {a w : World} (h : Mod S a w) {p : Addr} {v : Value} (hc : a.cell? p = some v) (hs : ¬ S p.block) : w.cell? p = some v := by
  have hlt : p.block < a.heap.size := by
    rcases Nat.lt_or_ge p.block a.heap.size with h | h
    · exact h
    · rw [World.cell?, Array.getElem?_eq_none h] at hc; simp at hc
  rw [World.cell?_of_block (h.block _ hlt hs), hc]
theorem MapIs.mod {κ ν : Type} {enc : κ → Value} {encV : ν → Value} {w w' : World} {b : Nat} {kv : List (κ × ν)} {S : Nat → Prop} (h : MapIs enc encV w b kv) (hm : Mod S w w') (hs : ¬ S b) : MapIs enc encV w' b kv := h.of_block (hm.block b h.lt hs)
theorem ownsRow_mod {w w' : World} {base : Nat} {e : TypeId} {size : Nat} {v : Value} {n : Nat} {xs : List Value} {S : Nat → Prop} (h : w.ownsRow base e size v n xs) (hm : Mod S w w') (hs : ∀ k, v.ownBlock = some k → ¬ S k) : w'.ownsRow base e size v n xs := by
  refine ⟨h.1, ?_⟩
  rcases h.2 with h2 | ⟨g, cap, cur, rfl, hb, hg, rest⟩
  · exact .inl h2
  · exact .inr ⟨g, cap, cur, rfl, hb, (hm.block g (Array.getElem?_eq_some_iff.1 hg).1 (hs g rfl)).trans hg, rest⟩

theorem run_makeMap {P : Program} {M T E : TypeId} (w : World) (_ : P.underlying M = some (.map T E)) : (Instr.makeMap M none).run P w = .ok (.map (some w.heap.size)) (w.alloc (.map #[] 0)) := by
  simp [Instr.makeMap, newObj, Sem.run]
/-- a set as an association list -/
def setOf {κ : Type} (l : List κ) : List (κ × Bool) := l.map fun r => (r, true)
def addL {κ : Type} [DecidableEq κ] (l : List κ) (x : κ) : List κ := if x ∈ l then l else l ++ [x]
section
variable {κ : Type} [DecidableEq κ]
theorem alook_setOf (l : List κ) (x : κ) : alook (setOf l) x = if x ∈ l then some true else none := by
  rw [alook, setOf, List.find?_map]
  by_cases h : x ∈ l
  · rw [if_pos h]
    have : ∃ y, l.find? ((fun p : κ × Bool => p.1 == x) ∘ fun r => (r, true)) = some y := by
      rw [← Option.isSome_iff_exists, List.find?_isSome]
      exact ⟨x, h, by simp⟩
    obtain ⟨y, hy⟩ := this
    rw [hy]; rfl
  · rw [if_neg h]
    have : l.find? ((fun p : κ × Bool => p.1 == x) ∘ fun r => (r, true)) = none := by
      rw [List.find?_eq_none]
      intro y hy e
      simp at e
      exact h (e ▸ hy)
    rw [this]; rfl
theorem aput_setOf (l : List κ) (x : κ) : aput (setOf l) x true = setOf (addL l x) := by
  rw [addL]
  by_cases h : x ∈ l
  · rw [if_pos h]
    cases hf : (setOf l).findIdx? (fun p => p.1 == x) with
    | none =>
      rw [List.findIdx?_eq_none_iff] at hf
      have := hf (x, true) (by simp [setOf, h])
      simp at this
    | some i =>
      rw [aput_keys_some hf]
      obtain ⟨v, h1, _⟩ := alook_some hf
      have hv : v = true := by
        rw [setOf, List.getElem?_map] at h1
        cases hl : l[i]? with
        | none => rw [hl] at h1; cases h1
        | some y => rw [hl] at h1; simp at h1; exact h1.2
      subst hv
      apply List.ext_getElem?
      intro j
      rw [List.getElem?_set]
      split
      · rename_i e
        subst e
        rw [h1]
        simp [(List.getElem?_eq_some_iff.1 h1).1]
      · rfl
  · rw [if_neg h]
    cases hf : (setOf l).findIdx? (fun p => p.1 == x) with
    | some i =>
      obtain ⟨v, h1, _⟩ := alook_some hf
      exfalso; apply h
      rw [setOf, List.getElem?_map] at h1
      cases hl : l[i]? with
      | none => rw [hl] at h1; cases h1
      | some y => rw [hl] at h1; simp at h1; exact h1.1 ▸ (List.mem_of_getElem? hl)
    | none => rw [aput_keys_none hf]; simp [setOf]
end

/-- an intake: its struct at block bx, its maps at br and be -/
structure IntakeAt (w : World) (bx br be : Nat) (rs : List Rep) (es : List Exc) : Prop where
  c0 : w.cell? ⟨bx, 0, none⟩ = some (.map (some br))
  c1 : w.cell? ⟨bx, 1, none⟩ = some (.map (some be))
  mr : MapIs Rep.val boolV w br (setOf rs)
  me : MapIs Exc.val boolV w be (setOf es)
  ne : br ≠ be
theorem cell_not_map {w : World} {a : Addr} {v : Value} (h : w.cell? a = some v) {κ ν : Type} {enc : κ → Value} {encV : ν → Value} {b : Nat} {kv : List (κ × ν)} (hm : MapIs enc encV w b kv) : a.block ≠ b := by
  rintro rfl
  obtain ⟨es, clock, hb, _⟩ := hm
  rw [World.cell?, hb] at h
  simp at h
theorem IntakeAt.mod {w w' : World} {bx br be : Nat} {rs : List Rep} {es : List Exc} {S : Nat → Prop} (h : IntakeAt w bx br be rs es) (hm : Mod S w w') (h1 : ¬ S bx) (h2 : ¬ S br) (h3 : ¬ S be) : IntakeAt w' bx br be rs es :=
  ⟨hm.cell h.c0 h1, hm.cell h.c1 h1, h.mr.mod hm h2, h.me.mod hm h3, h.ne⟩
theorem IntakeAt.xr {w : World} {bx br be : Nat} {rs : List Rep} {es : List Exc} (h : IntakeAt w bx br be rs es) : bx ≠ br := cell_not_map h.c0 h.mr
theorem IntakeAt.xe {w : World} {bx br be : Nat} {rs : List Rep} {es : List Exc} (h : IntakeAt w bx br be rs es) : bx ≠ be := cell_not_map h.c0 h.me
theorem IntakeAt.lt {w : World} {bx br be : Nat} {rs : List Rep} {es : List Exc} (h : IntakeAt w bx br be rs es) : bx < w.heap.size ∧ br < w.heap.size ∧ be < w.heap.size := by
  refine ⟨?_, h.mr.lt, h.me.lt⟩
  rcases Nat.lt_or_ge bx w.heap.size with h1 | h1
  · exact h1
  · have := h.c0; rw [World.cell?, Array.getElem?_eq_none h1] at this; simp at this
theorem IntakeAt.is {w : World} {bx br be : Nat} {rs : List Rep} {es : List Exc} (h : IntakeAt w bx br be rs es) : IntakeIs w ⟨bx, 0, none⟩ rs es :=
  ⟨br, be, h.c0, by simpa [Addr.add] using h.c1, h.mr, h.me, h.ne⟩

set_option maxHeartbeats 1000000 in
theorem new_any (w : World) : Calls Tryz.prog 14 #[] w fun e w' => ∃ bx br be, e = .returned (.pointer (some ⟨bx, 0, none⟩)) ∧ IntakeAt w' bx br be [] [] ∧ Below w.heap.size w w' ∧ w.heap.size ≤ bx ∧ w.heap.size ≤ br ∧ w.heap.size ≤ be := by
  have h1 := MapIs.made Rep.val boolV w
  have h2 := MapIs.made Exc.val boolV (w.alloc (.map #[] 0))
  have k1 := run_makeMap w (P := Tryz.prog) Tryz.underlying90
  have k2 := run_makeMap (w.alloc (.map #[] 0)) (P := Tryz.prog) Tryz.underlying91
  go_enter Tryz.func14, Tryz.ntmps14
  go_wp2_with fail
  go_ret
  refine ⟨w.heap.size + 2, w.heap.size, w.heap.size + 1, by simp, ⟨by simp [go_sem], by simp [go_sem], (h1.alloc _).alloc _, ?_, by omega⟩, (((Below.refl _ _).alloc (Nat.le_refl _) _).alloc (by simp) _).alloc (by simp; omega) _, by omega, by omega, by omega⟩
  have := h2.alloc (.cells #[.map (some w.heap.size), .map (some (w.heap.size + 1))] 93)
  simpa [setOf] using this

set_option maxHeartbeats 1000000 in
/-- maps.Copy at the reports -/
theorem copyR (bd bs : Nat) (ds ss : List Rep) (w : World) (hd : MapIs Rep.val boolV w bd (setOf ds)) (hs : MapIs Rep.val boolV w bs (setOf ss)) (hne : bd ≠ bs) :
    Calls Tryz.prog 87 #[.map (some bd), .map (some bs)] w fun e w' => ∃ (v : Value) (ss' : List Rep), e = .returned v ∧ ss'.Perm ss ∧ MapIs Rep.val boolV w' bd (setOf (ss'.foldl addL ds)) ∧ Mod (· = bd) w w' := by
  obtain ⟨w0, hrun, hrg0, hg0, hs0⟩ := run_range (P := Tryz.prog) Tryz.underlying90 hs
  have hd0 := hd.grown hg0 (by simp)
  have hm0 : Mod (· = bd) w w0 := (Mod.refl _ _).grown hg0 (fun _ e => by cases e)
  have hbd := hd.lt
  have hbs := hs.lt
  go_enter Tryz.func87, Tryz.ntmps87
  go_wp2_with fail
  go_loopw [4, 5] (fun _ _ wr => ∃ (left : List (Rep × Bool)) (done : List Rep), RangeIs Rep.val boolV wr w.heap.size bs (setOf ss) left ∧ (∀ p ∈ left, p.2 = true) ∧ (done ++ left.map (·.1)).Perm ss ∧ MapIs Rep.val boolV wr bd (setOf (done.foldl addL ds)) ∧ Mod (· = bd) w wr)
    (fun _ _ wr => itLeft wr w.heap.size)
  case atStart =>
    exact ⟨setOf ss, [], hrg0, by simp [setOf], by simp [setOf, List.map_map, Function.comp_def], hd0, hm0⟩
  case round =>
    obtain ⟨left, done, hrg, htrue, hperm, hdr, hmr⟩ := hrel
    clear hrun hrg0 hg0 hs0 hd0 hm0
    rcases run_next (P := Tryz.prog) hrg 0 with ⟨rfl, hnx⟩ | ⟨x, left', w2, hp, hnx, hrg2, hg2, hs2, hen⟩
    · go_wp2_with fail
      go_end0
      exact ⟨_, done, rfl, by simpa using hperm, hdr, hmr⟩
    · have hx2 : x.2 = true := htrue x (hp.mem_iff.2 (by simp))
      have htrue2 : ∀ p ∈ left', p.2 = true := fun p h => htrue p (hp.mem_iff.2 (by simp [h]))
      have hlt := hrg.lt
      have hdr2 := hdr.grown hg2 (by intro e; cases e; omega)
      have hmr2 := hmr.grown hg2 (fun k e => by cases e; right; omega)
      have hlm : itLeft wr w.heap.size = left'.length + 1 := by rw [hrg.len, hp.length_eq]; rfl
      have hperm2 : ((done ++ [x.1]) ++ left'.map (·.1)).Perm ss := by
        refine List.Perm.trans ?_ hperm
        rw [List.append_assoc]
        exact List.Perm.append_left done (by simpa using (hp.map (·.1)).symm)
      obtain ⟨y, hy0⟩ : ∃ y, y = x.1 := ⟨_, rfl⟩
      rw [← hy0] at hnx hen hperm2
      rw [hx2] at hnx hen
      clear hs2 hg2 hperm hp hrg hdr hmr htrue hx2 hy0
      have hdr3 := hdr2.alloc (.cells (Rep.cells y).toArray 28)
      obtain ⟨w4, hup, hd4, hg4, hs4⟩ := run_mapUpdate (P := Tryz.prog) keyRep Tryz.underlying90 hdr3 y true
      rw [aput_setOf] at hd4
      have hrg4 := (hrg2.alloc (.cells (Rep.cells y).toArray 28)).grown hg4 (by intro e; cases e; exact hne rfl) (by intro e; cases e; omega)
      have hm4 : Mod (· = bd) w w4 := (hmr2.alloc _).grown hg4 (fun k e => by cases e; exact .inl rfl)
      have HH := Lib.hid (And.intro hrg4 (And.intro hm4 (And.intro hd4 (And.intro htrue2 (And.intro hperm2 hlm)))))
      clear hrg4 hm4 hd4 htrue2 hperm2 hlm hdr3 hdr2 hmr2 hrg2 hg4 hs4 hd hs
      obtain ⟨x1, x2, x3, x4, x5, x6, x7, x8⟩ := y
      simp only [Rep.val, Rep.cells, boolV] at hnx hen hup
      go_wp2_with fail
      obtain ⟨hrg4, hm4, hd4, htrue2, hperm2, hlm⟩ := HH.out
      go_roundw
      case rel => exact ⟨left', _, hrg4, htrue2, hperm2, by simpa [List.foldl_append] using hd4, hm4⟩
      case measure => rw [hrg4.len, hlm]; omega
set_option maxHeartbeats 1000000 in
/-- maps.Copy at the exchanges -/
theorem copyX (bd bs : Nat) (ds ss : List Exc) (w : World) (hd : MapIs Exc.val boolV w bd (setOf ds)) (hs : MapIs Exc.val boolV w bs (setOf ss)) (hne : bd ≠ bs) :
    Calls Tryz.prog 88 #[.map (some bd), .map (some bs)] w fun e w' => ∃ (v : Value) (ss' : List Exc), e = .returned v ∧ ss'.Perm ss ∧ MapIs Exc.val boolV w' bd (setOf (ss'.foldl addL ds)) ∧ Mod (· = bd) w w' := by
  obtain ⟨w0, hrun, hrg0, hg0, hs0⟩ := run_range (P := Tryz.prog) Tryz.underlying91 hs
  have hd0 := hd.grown hg0 (by simp)
  have hm0 : Mod (· = bd) w w0 := (Mod.refl _ _).grown hg0 (fun _ e => by cases e)
  have hbd := hd.lt
  have hbs := hs.lt
  go_enter Tryz.func88, Tryz.ntmps88
  go_wp2_with fail
  go_loopw [4, 5] (fun _ _ wr => ∃ (left : List (Exc × Bool)) (done : List Exc), RangeIs Exc.val boolV wr w.heap.size bs (setOf ss) left ∧ (∀ p ∈ left, p.2 = true) ∧ (done ++ left.map (·.1)).Perm ss ∧ MapIs Exc.val boolV wr bd (setOf (done.foldl addL ds)) ∧ Mod (· = bd) w wr)
    (fun _ _ wr => itLeft wr w.heap.size)
  case atStart =>
    exact ⟨setOf ss, [], hrg0, by simp [setOf], by simp [setOf, List.map_map, Function.comp_def], hd0, hm0⟩
  case round =>
    obtain ⟨left, done, hrg, htrue, hperm, hdr, hmr⟩ := hrel
    clear hrun hrg0 hg0 hs0 hd0 hm0
    rcases run_next (P := Tryz.prog) hrg 0 with ⟨rfl, hnx⟩ | ⟨x, left', w2, hp, hnx, hrg2, hg2, hs2, hen⟩
    · go_wp2_with fail
      go_end0
      exact ⟨_, done, rfl, by simpa using hperm, hdr, hmr⟩
    · have hx2 : x.2 = true := htrue x (hp.mem_iff.2 (by simp))
      have htrue2 : ∀ p ∈ left', p.2 = true := fun p h => htrue p (hp.mem_iff.2 (by simp [h]))
      have hlt := hrg.lt
      have hdr2 := hdr.grown hg2 (by intro e; cases e; omega)
      have hmr2 := hmr.grown hg2 (fun k e => by cases e; right; omega)
      have hlm : itLeft wr w.heap.size = left'.length + 1 := by rw [hrg.len, hp.length_eq]; rfl
      have hperm2 : ((done ++ [x.1]) ++ left'.map (·.1)).Perm ss := by
        refine List.Perm.trans ?_ hperm
        rw [List.append_assoc]
        exact List.Perm.append_left done (by simpa using (hp.map (·.1)).symm)
      obtain ⟨y, hy0⟩ : ∃ y, y = x.1 := ⟨_, rfl⟩
      rw [← hy0] at hnx hen hperm2
      rw [hx2] at hnx hen
      clear hs2 hg2 hperm hp hrg hdr hmr htrue hx2 hy0
      have hdr3 := hdr2.alloc (.cells (Exc.cells y).toArray 36)
      obtain ⟨w4, hup, hd4, hg4, hs4⟩ := run_mapUpdate (P := Tryz.prog) keyExc Tryz.underlying91 hdr3 y true
      rw [aput_setOf] at hd4
      have hrg4 := (hrg2.alloc (.cells (Exc.cells y).toArray 36)).grown hg4 (by intro e; cases e; exact hne rfl) (by intro e; cases e; omega)
      have hm4 : Mod (· = bd) w w4 := (hmr2.alloc _).grown hg4 (fun k e => by cases e; exact .inl rfl)
      have HH := Lib.hid (And.intro hrg4 (And.intro hm4 (And.intro hd4 (And.intro htrue2 (And.intro hperm2 hlm)))))
      clear hrg4 hm4 hd4 htrue2 hperm2 hlm hdr3 hdr2 hmr2 hrg2 hg4 hs4 hd hs
      obtain ⟨x1, x2, x3, x4, x5⟩ := y
      simp only [Exc.val, Exc.cells, boolV] at hnx hen hup
      go_wp2_with fail
      obtain ⟨hrg4, hm4, hd4, htrue2, hperm2, hlm⟩ := HH.out
      go_roundw
      case rel => exact ⟨left', _, hrg4, htrue2, hperm2, by simpa [List.foldl_append] using hd4, hm4⟩
      case measure => rw [hrg4.len, hlm]; omega
end Go.Proofs.YtfoenojohemccaaGreatDoor
namespace Go.Proofs.YtfoenojohemccaaGreatDoor
open Go.RowKit Go.Sort Go.Proofs

/-- a slice that can be read: its elements, each of k cells -/
def RowOf {α : Type} (enc : α → List Value) (k : Nat) (w : World) (v : Value) (l : List α) : Prop :=
  ∃ a cap, v = .slice a l.length cap ∧ ∀ i (x : α), l[i]? = some x → ∃ g off, a = some ⟨g, off, none⟩ ∧ ∀ j, j < k → w.cell? ⟨g, off + i * k + j, none⟩ = (enc x)[j]?
section
variable {α : Type} {enc : α → List Value} {k : Nat}
theorem RowOf.mod {w w' : World} {v : Value} {l : List α} {S : Nat → Prop} (h : RowOf enc k w v l) (h0 : ∀ x, (enc x).length = k) (hm : Mod S w w') (hs : ∀ g, v.ownBlock = some g → ¬ S g) : RowOf enc k w' v l := by
  obtain ⟨a, cap, rfl, hc⟩ := h
  refine ⟨a, cap, rfl, fun i x hx => ?_⟩
  obtain ⟨g, off, rfl, hj⟩ := hc i x hx
  refine ⟨g, off, rfl, fun j hjk => ?_⟩
  have h1 : ∃ u, (enc x)[j]? = some u := ⟨_, List.getElem?_eq_getElem (by rw [h0]; exact hjk)⟩
  obtain ⟨u, hu⟩ := h1
  rw [hu]
  exact hm.cell (by rw [hj j hjk, hu]) (hs g rfl)
theorem RowOf.below {w w' : World} {v : Value} {l : List α} (h : RowOf enc k w v l) (h0 : ∀ x, (enc x).length = k) (hb : Below w.heap.size w w') : RowOf enc k w' v l :=
  h.mod h0 (Mod.of_below (fun _ => False) hb) (fun _ _ e => e)
theorem flat_at (h0 : ∀ x : α, (enc x).length = k) : ∀ (xs : List α) (i j : Nat) (x : α), xs[i]? = some x → j < k → (xs.flatMap enc)[i * k + j]? = (enc x)[j]?
  | [], i, j, x, h, _ => by simp at h
  | y :: xs, 0, j, x, h, hj => by
    simp at h
    subst h
    simp only [List.flatMap_cons, Nat.zero_mul, Nat.zero_add]
    rw [List.getElem?_append_left (by rw [h0]; exact hj)]
  | y :: xs, i + 1, j, x, h, hj => by
    have ih := flat_at h0 xs i j x (by simpa using h) hj
    simp only [List.flatMap_cons]
    rw [List.getElem?_append_right (by rw [h0, Nat.add_mul]; omega), h0, show (i + 1) * k + j - k = i * k + j from by rw [Nat.add_mul]; omega, ih]
theorem RowOf.of_owns {w : World} {base : Nat} {e : TypeId} {v : Value} {l : List α} (h0 : ∀ x, (enc x).length = k) (h : w.ownsRow base e k v l.length (l.flatMap enc)) : RowOf enc k w v l := by
  rcases h.2 with ⟨rfl, hn⟩ | ⟨g, cap, cur, rfl, hb, hg, hnc, hm, hs, ht⟩
  · refine ⟨none, 0, by rw [hn], fun i x hx => ?_⟩
    rw [List.eq_nil_of_length_eq_zero hn] at hx; cases hx
  · refine ⟨_, cap, rfl, fun i x hx => ⟨g, 0, rfl, fun j hj => ?_⟩⟩
    have h1 := flat_at h0 l i j x hx hj
    have hu : (enc x)[j]? = some ((enc x)[j]'(by rw [h0]; exact hj)) := List.getElem?_eq_getElem _
    rw [hu] at h1 ⊢
    have := World.ownsRow.cells h (g := g) rfl (i * k + j) _ h1
    rw [show (⟨g, 0 + i * k + j, none⟩ : Addr) = (⟨g, 0, none⟩ : Addr).add (i * k + j) from by simp only [Addr.add]; split <;> simp_all]
    exact this
end
theorem Rep.cells_len (r : Rep) : r.cells.length = 8 := rfl
theorem Exc.cells_len (r : Exc) : r.cells.length = 5 := rfl

def freshL {κ : Type} [DecidableEq κ] (have_ : List κ) (acc : List κ) (l : List κ) : List κ := l.foldl (fun acc r => if r ∈ have_ then acc else addL acc r) acc

theorem setOf_len {κ : Type} (l : List κ) : (setOf l).length = l.length := by simp [setOf]
theorem addL_len {κ : Type} [DecidableEq κ] (l : List κ) (x : κ) : (addL l x).length ≤ l.length + 1 := by
  unfold addL; split <;> simp
theorem freshL_len {κ : Type} [DecidableEq κ] (hv : List κ) : ∀ (l acc : List κ), (freshL hv acc l).length ≤ acc.length + l.length
  | [], acc => by simp [freshL]
  | x :: l, acc => by
    have ih := freshL_len hv l (if x ∈ hv then acc else addL acc x)
    have h2 : (if x ∈ hv then acc else addL acc x).length ≤ acc.length + 1 := by
      split
      · omega
      · exact addL_len acc x
    have e : freshL hv acc (x :: l) = freshL hv (if x ∈ hv then acc else addL acc x) l := rfl
    rw [e]
    simp only [List.length_cons]
    omega

/-- what put answers: over the limit nothing has changed; else the fresh ones are in -/
def PutPost (bx br be : Nat) (rs : List Rep) (es : List Exc) (fr : List Rep) (fe : List Exc) (w : World) (e : Ending) (w' : World) : Prop :=
  ((4096 < rs.length + fr.length ∨ 4096 < es.length + fe.length) ∧ e = .returned (.tuple #[.int .i64 0, .int .i64 3]) ∧ Below w.heap.size w w') ∨
  (rs.length + fr.length ≤ 4096 ∧ es.length + fe.length ≤ 4096 ∧ e = .returned (.tuple #[.int .i64 (fr.length + fe.length : Nat), .int .i64 0]) ∧
    ∃ (rs' : List Rep) (es' : List Exc), rs'.Perm fr ∧ es'.Perm fe ∧ IntakeAt w' bx br be (rs'.foldl addL rs) (es'.foldl addL es) ∧ Mod (fun k => k = br ∨ k = be) w w')

set_option maxHeartbeats 1000000 in
set_option maxRecDepth 100000 in
theorem put_any (bx br be : Nat) (rs : List Rep) (es : List Exc) (vr ve : Value) (lr : List Rep) (le : List Exc) (w : World) (h : IntakeAt w bx br be rs es) (hr : RowOf Rep.cells 8 w vr lr) (he : RowOf Exc.cells 5 w ve le)
    (hN : rs.length ≤ 4096 ∧ es.length ≤ 4096 ∧ lr.length ≤ 4294967296 ∧ le.length ≤ 4294967296) :
    Calls Tryz.prog 52 #[.pointer (some ⟨bx, 0, none⟩), .agg #[vr, ve]] w fun e w' => PutPost bx br be rs es (freshL rs [] lr) (freshL es [] le) w e w' := by
  obtain ⟨ar, cr, rfl, hcr⟩ := hr
  obtain ⟨ae, ce, rfl, hce⟩ := he
  have k1 := run_makeMap (w.alloc (.cells #[.slice ar lr.length cr, .slice ae le.length ce] 34)) (P := Tryz.prog) Tryz.underlying90
  have k2 := run_makeMap ((w.alloc (.cells #[.slice ar lr.length cr, .slice ae le.length ce] 34)).alloc (.map #[] 0)) (P := Tryz.prog) Tryz.underlying91
  have hB0 : Below w.heap.size w (((w.alloc (.cells #[.slice ar lr.length cr, .slice ae le.length ce] 34)).alloc (.map #[] 0)).alloc (.map #[] 0)) := (((Below.refl _ _).alloc (Nat.le_refl _) _).alloc (by simp) _).alloc (by simp; omega) _
  have hm0 := (MapIs.made Rep.val boolV (w.alloc (.cells #[.slice ar lr.length cr, .slice ae le.length ce] 34))).alloc (.map #[] 0)
  have hx0 := MapIs.made Exc.val boolV ((w.alloc (.cells #[.slice ar lr.length cr, .slice ae le.length ce] 34)).alloc (.map #[] 0))
  have hlt := h.lt
  go_enter Tryz.func52, Tryz.ntmps52
  go_wp2_with fail
  go_loopw [9, 17] (fun _ i wr => ∃ k : Nat, k ≤ lr.length ∧ i = .int .i64 k ∧ MapIs Rep.val boolV wr (w.heap.size + 1) (setOf (freshL rs [] (lr.take k))) ∧ MapIs Exc.val boolV wr (w.heap.size + 2) (setOf []) ∧ Below w.heap.size w wr ∧ wr.cell? ⟨w.heap.size, 1, none⟩ = some (.slice ae le.length ce)) (fun _ i _ => lr.length - (intOf i).toNat)
  case atStart => exact ⟨0, Nat.zero_le _, rfl, by simpa [setOf, freshL] using hm0, by simpa [setOf] using hx0, hB0, by simp [go_sem]⟩
  case round =>
    obtain ⟨k, hk, rfl, hmr, hmx, hbl, hcb⟩ := hrel
    clear k1 k2 hB0 hm0 hx0
    by_cases hlr : k < lr.length
    · obtain ⟨g, off, rfl, hcx⟩ := hcr k lr[k] (List.getElem?_eq_getElem hlr)
      have hm1 : Mod (fun _ => False) w wr := Mod.of_below _ hbl
      have hA := h.mod hm1 (fun e => e) (fun e => e) (fun e => e)
      have htk : lr.take (k + 1) = lr.take k ++ [lr[k]] := by rw [List.take_add_one, List.getElem?_eq_getElem hlr]; rfl
      obtain ⟨y, hy⟩ : ∃ y, y = lr[k] := ⟨_, rfl⟩
      rw [← hy] at hcx htk
      have hcx' : ∀ j, j < 8 → wr.cell? ⟨g, off + k * 8 + j, none⟩ = y.cells[j]? := fun j hj => by
        have hu : y.cells[j]? = some (y.cells[j]'hj) := List.getElem?_eq_getElem _
        rw [hu]
        exact hm1.cell (by rw [hcx j hj, hu]) (fun e => e)
      have hl : (Instr.lookup 90 (.map (some br)) y.val false).run Tryz.prog (wr.alloc (.cells y.cells.toArray 28)).drew = .ok (.bool (decide (y ∈ rs))) (wr.alloc (.cells y.cells.toArray 28)).drew := by
        have := run_lookup (P := Tryz.prog) keyRep Tryz.underlying90 (z := .bool false) (fun w => by simp [go_sem]) (w := (wr.alloc (.cells y.cells.toArray 28)).drew) (h := (hA.mr.alloc _).drew) y
        rw [this, alook_setOf]
        by_cases hin : y ∈ rs <;> simp [hin, lookV, boolV]
      have hc0 := hA.c0
      have hxlt := hA.lt
      have hmr2 := (hmr.alloc (.cells y.cells.toArray 28)).drew
      have hmx2 := (hmx.alloc (.cells y.cells.toArray 28)).drew
      have hbl2 := (hbl.alloc hbl.size (.cells y.cells.toArray 28)).drew
      have hszw := hbl.size
      obtain ⟨w4, hup, hd4, hg4, hs4⟩ := run_mapUpdate (P := Tryz.prog) keyRep Tryz.underlying90 hmr2 y true
      rw [aput_setOf] at hd4
      have hF1 : y ∉ rs → freshL rs [] (lr.take (k + 1)) = addL (freshL rs [] (lr.take k)) y := fun hin => by rw [htk, freshL, List.foldl_append]; simp [hin, freshL]
      have hF2 : y ∈ rs → freshL rs [] (lr.take (k + 1)) = freshL rs [] (lr.take k) := fun hin => by rw [htk, freshL, List.foldl_append]; simp [hin, freshL]
      have hmx4 : MapIs Exc.val boolV w4 (w.heap.size + 2) (setOf []) := hmx2.grown hg4 (by intro e; simp at e)
      have hbl4 : Below w.heap.size w w4 := hbl2.grown hg4 (by simp; omega) (fun j e => by cases e; omega)
      have hcb2 : (wr.alloc (.cells y.cells.toArray 28)).drew.cell? ⟨w.heap.size, 1, none⟩ = some (.slice ae le.length ce) := (((Mod.refl (fun _ => False) wr).alloc (.cells y.cells.toArray 28)).drew).cell hcb (fun e => e)
      have hcb4 : w4.cell? ⟨w.heap.size, 1, none⟩ = some (.slice ae le.length ce) := hg4.cell hcb2 (by intro e; simp at e)
      have HH := Lib.hid (And.intro hmr2 (And.intro hmx2 (And.intro hbl2 (And.intro hcb2 (And.intro hd4 (And.intro hmx4 (And.intro hbl4 hcb4)))))))
      have HF := Lib.hid (And.intro hF1 hF2)
      have q0 := hcx' 0 (by decide)
      have q1 := hcx' 1 (by decide)
      have q2 := hcx' 2 (by decide)
      have q3 := hcx' 3 (by decide)
      have q4 := hcx' 4 (by decide)
      have q5 := hcx' 5 (by decide)
      have q6 := hcx' 6 (by decide)
      have q7 := hcx' 7 (by decide)
      clear hmr2 hmx2 hbl2 hd4 hg4 hs4 hmx4 hbl4 hcb4 hcb2 htk hy hcr hce h hA hm1 hcx hcx' hmr hmx hbl hF1 hF2 hcb
      obtain ⟨x1, x2, x3, x4, x5, x6, x7, x8⟩ := y
      obtain ⟨bb, hbb⟩ : ∃ bb, bb = decide ((⟨x1, x2, x3, x4, x5, x6, x7, x8⟩ : Rep) ∈ rs) := ⟨_, rfl⟩
      rw [← hbb] at hl
      have HB := Lib.hid hbb
      clear hbb
      simp only [Rep.val, Rep.cells, boolV, Nat.add_zero, List.getElem?_cons_zero, List.getElem?_cons_succ] at hl hup q0 q1 q2 q3 q4 q5 q6 q7
      go_wp2_with fail
      go_region
      go_wp2_with fail
      all_goals
        have hbb := HB.out
        obtain ⟨hmr2, hmx2, hbl2, hcb2, hd4, hmx4, hbl4, hcb4⟩ := HH.out
        obtain ⟨hF1, hF2⟩ := HF.out
        refine ⟨⟨k + 1, by omega, by simp, ?_, by assumption, by assumption, by assumption⟩, by simp [intOf]; omega⟩
        first
          | (rw [hF1 (by simp_all)]; exact hd4)
          | (rw [hF2 (by simp_all)]; exact hmr2)
    · obtain rfl : k = lr.length := by omega
      rw [List.take_length] at hmr
      have HN := Lib.hid hN
      have hNe := hN.2.2.2
      have HR := Lib.hid hcr
      clear hlr hk hcr hN
      have hmx0 := Lib.hid hmx
      have hbl0 := Lib.hid hbl
      have hmr0 := Lib.hid hmr
      clear hmx hbl hmr
      go_wp2_with fail
      go_loopw [11, 34] (fun _ i wr => ∃ k : Nat, k ≤ le.length ∧ i = .int .i64 k ∧ MapIs Rep.val boolV wr (w.heap.size + 1) (setOf (freshL rs [] lr)) ∧ MapIs Exc.val boolV wr (w.heap.size + 2) (setOf (freshL es [] (le.take k))) ∧ Below w.heap.size w wr) (fun _ i _ => le.length - (intOf i).toNat)
      case atStart => exact ⟨0, Nat.zero_le _, rfl, hmr0.out, by simpa [setOf, freshL] using hmx0.out, hbl0.out⟩
      case round =>
        obtain ⟨k, hk, rfl, hmr, hmx, hbl⟩ := hrel
        clear hcb
        by_cases hlr : k < le.length
        · obtain ⟨g, off, rfl, hcx⟩ := hce k le[k] (List.getElem?_eq_getElem hlr)
          have hm1 : Mod (fun _ => False) w wr := Mod.of_below _ hbl
          have hA := h.mod hm1 (fun e => e) (fun e => e) (fun e => e)
          have htk : le.take (k + 1) = le.take k ++ [le[k]] := by rw [List.take_add_one, List.getElem?_eq_getElem hlr]; rfl
          obtain ⟨y, hy⟩ : ∃ y, y = le[k] := ⟨_, rfl⟩
          rw [← hy] at hcx htk
          have hcx' : ∀ j, j < 5 → wr.cell? ⟨g, off + k * 5 + j, none⟩ = y.cells[j]? := fun j hj => by
            have hu : y.cells[j]? = some (y.cells[j]'hj) := List.getElem?_eq_getElem _
            rw [hu]
            exact hm1.cell (by rw [hcx j hj, hu]) (fun e => e)
          have hl : (Instr.lookup 91 (.map (some be)) y.val false).run Tryz.prog (wr.alloc (.cells y.cells.toArray 36)).drew = .ok (.bool (decide (y ∈ es))) (wr.alloc (.cells y.cells.toArray 36)).drew := by
            have := run_lookup (P := Tryz.prog) keyExc Tryz.underlying91 (z := .bool false) (fun w => by simp [go_sem]) (w := (wr.alloc (.cells y.cells.toArray 36)).drew) (h := (hA.me.alloc _).drew) y
            rw [this, alook_setOf]
            by_cases hin : y ∈ es <;> simp [hin, lookV, boolV]
          have hc0 := hA.c1
          have hxlt := hA.lt
          have hmr2 := (hmr.alloc (.cells y.cells.toArray 36)).drew
          have hmx2 := (hmx.alloc (.cells y.cells.toArray 36)).drew
          have hbl2 := (hbl.alloc hbl.size (.cells y.cells.toArray 36)).drew
          have hszw := hbl.size
          obtain ⟨w4, hup, hd4, hg4, hs4⟩ := run_mapUpdate (P := Tryz.prog) keyExc Tryz.underlying91 hmx2 y true
          rw [aput_setOf] at hd4
          have hF1 : y ∉ es → freshL es [] (le.take (k + 1)) = addL (freshL es [] (le.take k)) y := fun hin => by rw [htk, freshL, List.foldl_append]; simp [hin, freshL]
          have hF2 : y ∈ es → freshL es [] (le.take (k + 1)) = freshL es [] (le.take k) := fun hin => by rw [htk, freshL, List.foldl_append]; simp [hin, freshL]
          have hmx4 : MapIs Rep.val boolV w4 (w.heap.size + 1) (setOf (freshL rs [] lr)) := hmr2.grown hg4 (by intro e; simp at e)
          have hbl4 : Below w.heap.size w w4 := hbl2.grown hg4 (by simp; omega) (fun j e => by cases e; omega)
          have HH := Lib.hid (And.intro hmr2 (And.intro hmx2 (And.intro hbl2 (And.intro hd4 (And.intro hmx4 hbl4)))))
          have HF := Lib.hid (And.intro hF1 hF2)
          have q0 := hcx' 0 (by decide)
          have q1 := hcx' 1 (by decide)
          have q2 := hcx' 2 (by decide)
          have q3 := hcx' 3 (by decide)
          have q4 := hcx' 4 (by decide)
          clear hmr2 hmx2 hbl2 hd4 hg4 hs4 hmx4 hbl4 htk hy hce h hA hm1 hcx hcx' hmr hmx hbl hF1 hF2
          obtain ⟨x1, x2, x3, x4, x5⟩ := y
          obtain ⟨bb, hbb⟩ : ∃ bb, bb = decide ((⟨x1, x2, x3, x4, x5⟩ : Exc) ∈ es) := ⟨_, rfl⟩
          rw [← hbb] at hl
          have HB := Lib.hid hbb
          clear hbb
          simp only [Exc.val, Exc.cells, boolV, Nat.add_zero, List.getElem?_cons_zero, List.getElem?_cons_succ] at hl hup q0 q1 q2 q3 q4
          go_wp2_with fail
          go_region
          go_wp2_with fail
          all_goals
            have hbb := HB.out
            obtain ⟨hmr2, hmx2, hbl2, hd4, hmx4, hbl4⟩ := HH.out
            obtain ⟨hF1, hF2⟩ := HF.out
            refine ⟨⟨k + 1, by omega, by simp, by assumption, ?_, by assumption⟩, by simp [intOf]; omega⟩
            first
              | (rw [hF1 (by simp_all)]; exact hd4)
              | (rw [hF2 (by simp_all)]; exact hmx2)
        · obtain rfl : k = le.length := by omega
          rw [List.take_length] at hmx
          have hm1 : Mod (fun _ => False) w wr := Mod.of_below _ hbl
          have hA := h.mod hm1 (fun e => e) (fun e => e) (fun e => e)
          have hc0 := hA.c0
          have hc1 := hA.c1
          have l1 := run_len_map (P := Tryz.prog) (ty := 3) Tryz.underlying90 hA.mr
          have l2 := run_len_map (P := Tryz.prog) (ty := 3) Tryz.underlying90 hmr
          have l3 := run_len_map (P := Tryz.prog) (ty := 3) Tryz.underlying91 hA.me
          have l4 := run_len_map (P := Tryz.prog) (ty := 3) Tryz.underlying91 hmx
          simp only [setOf_len] at l1 l2 l3 l4
          have b1 := freshL_len rs lr []
          have b2 := freshL_len es le []
          have hxr := hA.xr
          have hxe := hA.xe
          have hne := hA.ne
          have C1 := copyR br (w.heap.size + 1) rs (freshL rs [] lr) wr hA.mr hmr (by omega)
          have HN2 := HN.out
          obtain ⟨n1, hn1⟩ : ∃ n1, n1 = (freshL rs [] lr).length := ⟨_, rfl⟩
          obtain ⟨n2, hn2⟩ : ∃ n2, n2 = (freshL es [] le).length := ⟨_, rfl⟩
          rw [← hn1] at l2 b1
          rw [← hn2] at l4 b2
          simp only [List.length_nil, Nat.zero_add] at b1 b2
          have HH := Lib.hid (And.intro hA (And.intro hmr (And.intro hmx (And.intro hbl (And.intro C1 (And.intro hn1 hn2))))))
          clear hA hmr hmx hbl C1 hn1 hn2 hm1 h hce HN
          have d1 : n1 ≤ 4294967296 := by omega
          have d2 : n2 ≤ 4294967296 := by omega
          have d3 := HN2.1
          have d4 := HN2.2.1
          clear b1 b2 HN2
          go_wp2_with fail
          · obtain ⟨hA, hmr, hmx, hbl, C1, hn1, hn2⟩ := HH.out
            go_ret2
            exact .inl ⟨by first | (left; omega) | (right; omega), rfl, hbl⟩
          · obtain ⟨hA, hmr, hmx, hbl, C1, hn1, hn2⟩ := HH.out
            refine C1.mono ?_
            rintro e w1 ⟨v, rs', rfl, hp, hmb, hmod⟩
            have hc1' := hmod.cell hc1 (fun e => by simp at e; omega)
            have hmxs := hmx.mod hmod (by omega)
            have hmrs := hmr.mod hmod (by omega)
            have hmes := hA.me.mod hmod (by omega)
            have C2 := copyX be (w.heap.size + 2) es (freshL es [] le) w1 hmes hmxs (by omega)
            have M1 : Mod (fun k => k = br ∨ k = be) w w1 := (Mod.of_below _ hbl).trans (hmod.mono (fun k _ e => .inl e))
            have HC2 := Lib.hid C2
            have HB2 := Lib.hid hmb
            have HH2 := Lib.hid (And.intro hmxs (And.intro hmrs (And.intro hmod M1)))
            clear C2 C1 hmxs hmrs hmes hmod M1 hmb hA hmr hmx hbl hn1 hn2 l1 l2 l3 l4 hc0 hc1
            go_wp2_with fail
            refine HC2.out.mono ?_
            rintro e w2 ⟨v2, es', rfl, hp2, hmb2, hmod2⟩
            obtain ⟨hmxs, hmrs, hmod, M1⟩ := HH2.out
            have hmb := HB2.out
            obtain ⟨hA, hmr, hmx, hbl, C1, hn1, hn2⟩ := HH.out
            have l2 := run_len_map (P := Tryz.prog) (ty := 3) Tryz.underlying90 (hmrs.mod hmod2 (by omega))
            have l4 := run_len_map (P := Tryz.prog) (ty := 3) Tryz.underlying91 (hmxs.mod hmod2 (by omega))
            simp only [setOf_len] at l2 l4
            rw [← hn1] at l2
            rw [← hn2] at l4
            have HF : PutPost bx br be rs es (freshL rs [] lr) (freshL es [] le) w (.returned (.tuple #[.int .i64 ((n1 : Int) + n2), .int .i64 0])) w2 := by
              refine .inr ⟨by omega, by omega, by rw [hn1, hn2]; rfl, rs', es', hp, hp2, ⟨?_, ?_, hmb.mod hmod2 (by omega), hmb2, hne⟩, M1.trans (hmod2.mono (fun k _ e => .inr e))⟩
              · exact hmod2.cell (hmod.cell hA.c0 (fun e => by simp at e; omega)) (fun e => by simp at e; omega)
              · exact hmod2.cell hc1' (fun e => by simp at e; omega)
            have HF := Lib.hid HF
            clear hmb hmb2 hmod2 hmxs hmrs hmod M1 hA hmr hmx hbl C1 hn1 hn2 HC2 HB2 HH2 HH hp hp2
            go_wp2_with fail
            go_ret2
            exact HF.out
          · obtain ⟨hA, hmr, hmx, hbl, C1, hn1, hn2⟩ := HH.out
            go_ret2
            exact .inl ⟨by first | (left; omega) | (right; omega), rfl, hbl⟩
end Go.Proofs.YtfoenojohemccaaGreatDoor
namespace Go.Proofs.YtfoenojohemccaaGreatDoor
open Go.RowKit Go.Sort Go.Proofs

/-- the first error of a list -/
def firstErr {α : Type} (f : α → Int) (l : List α) : Int := l.foldr (fun x acc => if f x = 0 then acc else f x) 0
theorem firstErr_append {α : Type} (f : α → Int) : ∀ (a b : List α), firstErr f (a ++ b) = if firstErr f a = 0 then firstErr f b else firstErr f a
  | [], b => by simp [firstErr]
  | x :: a, b => by
    have ih := firstErr_append f a b
    simp only [List.cons_append]
    show (if f x = 0 then firstErr f (a ++ b) else f x) = _
    show _ = if (if f x = 0 then firstErr f a else f x) = 0 then _ else (if f x = 0 then firstErr f a else f x)
    by_cases h : f x = 0 <;> simp [h, ih]
theorem firstErr_one {α : Type} (f : α → Int) (x : α) : firstErr f [x] = f x := by
  simp only [firstErr, List.foldr]
  split <;> simp_all
theorem firstErr_go {α : Type} (f : α → Int) {l : List α} {k : Nat} (hk : k < l.length) (h : firstErr f (l.take k) = 0) (hx : f l[k] = 0) : firstErr f (l.take (k + 1)) = 0 := by
  rw [List.take_add_one, List.getElem?_eq_getElem hk, firstErr_append, if_pos h]
  simp [firstErr_one, hx]
theorem firstErr_stop {α : Type} (f : α → Int) {l : List α} {k : Nat} (hk : k < l.length) (h : firstErr f (l.take k) = 0) (hx : f l[k] ≠ 0) : firstErr f l = f l[k] := by
  have h1 : firstErr f (l.take (k + 1) ++ l.drop (k + 1)) = f l[k] := by
    rw [firstErr_append, List.take_add_one, List.getElem?_eq_getElem hk, firstErr_append, if_pos h]
    simp [firstErr_one, hx]
  rwa [List.take_append_drop] at h1

theorem PutPost.pre {bx br be : Nat} {rs : List Rep} {es : List Exc} {fr : List Rep} {fe : List Exc} {w w1 w' : World} {e : Ending} (hb : Below w.heap.size w w1) (h : PutPost bx br be rs es fr fe w1 e w') : PutPost bx br be rs es fr fe w e w' := by
  rcases h with ⟨h1, h2, h3⟩ | ⟨h1, h2, h3, rs', es', h4, h5, h6, h7⟩
  · exact .inl ⟨h1, h2, hb.trans (h3.mono hb.size)⟩
  · exact .inr ⟨h1, h2, h3, rs', es', h4, h5, h6, (Mod.of_below _ hb).trans h7⟩

/-- the error of a batch -/
def checkB (lr : List Rep) (le : List Exc) : Int := if firstErr checkR lr = 0 then firstErr checkX le else firstErr checkR lr
def AddPost (bx br be : Nat) (rs : List Rep) (es : List Exc) (lr : List Rep) (le : List Exc) (w : World) (e : Ending) (w' : World) : Prop :=
  (checkB lr le ≠ 0 ∧ e = .returned (.tuple #[.int .i64 0, .int .i64 (checkB lr le)]) ∧ Below w.heap.size w w') ∨ (checkB lr le = 0 ∧ PutPost bx br be rs es (freshL rs [] lr) (freshL es [] le) w e w')

set_option maxHeartbeats 1000000 in
theorem add_nil (vb : Value × Value) (w : World) :
    Calls Tryz.prog 15 #[.pointer none, .agg #[vb.1, vb.2]] w fun e w' => e = .returned (.tuple #[.int .i64 0, .int .i64 1]) ∧ Below w.heap.size w w' := by
  go_enter Tryz.func15, Tryz.ntmps15
  go_wp2_with fail
  go_ret2
  exact ⟨rfl, (Below.refl _ _).alloc (Nat.le_refl _) _⟩

set_option maxHeartbeats 1000000 in
set_option maxRecDepth 100000 in
theorem add_any (bx br be : Nat) (rs : List Rep) (es : List Exc) (vr ve : Value) (lr : List Rep) (le : List Exc) (w : World) (h : IntakeAt w bx br be rs es) (hr : RowOf Rep.cells 8 w vr lr) (he : RowOf Exc.cells 5 w ve le)
    (hN : rs.length ≤ 4096 ∧ es.length ≤ 4096 ∧ lr.length ≤ 4294967296 ∧ le.length ≤ 4294967296) :
    Calls Tryz.prog 15 #[.pointer (some ⟨bx, 0, none⟩), .agg #[vr, ve]] w fun e w' => AddPost bx br be rs es lr le w e w' := by
  have hP := fun wr (hb : Below w.heap.size w wr) => put_any bx br be rs es vr ve lr le wr (h.mod (Mod.of_below (fun _ => False) hb) (fun e => e) (fun e => e) (fun e => e)) (hr.below Rep.cells_len hb) (he.below Exc.cells_len hb) hN
  obtain ⟨ar, cr, rfl, hcr⟩ := hr
  obtain ⟨ae, ce, rfl, hce⟩ := he
  have hP := Lib.hid hP
  have hlt := h.lt
  clear h
  obtain ⟨W0, hW0⟩ : ∃ W0, W0 = w.alloc (.cells #[.slice ar lr.length cr, .slice ae le.length ce] 34) := ⟨_, rfl⟩
  have hb0 : Below w.heap.size w W0 := by rw [hW0]; exact (Below.refl _ _).alloc (Nat.le_refl _) _
  have hsz : W0.heap.size = w.heap.size + 1 := by rw [hW0]; simp
  have hx0 : W0.cell? ⟨w.heap.size, 0, none⟩ = some (.slice ar lr.length cr) := by rw [hW0]; simp [go_sem]
  have hx1 : W0.cell? ⟨w.heap.size, 1, none⟩ = some (.slice ae le.length ce) := by rw [hW0]; simp [go_sem]
  go_enter Tryz.func15, Tryz.ntmps15
  go_wp2_with fail
  go_loopw [7, 8, 17] (fun _ _ i wr => ∃ k : Nat, k ≤ lr.length ∧ i = .int .i64 k ∧ firstErr checkR (lr.take k) = 0 ∧ Below W0.heap.size W0 wr) (fun _ _ i _ => lr.length - (intOf i).toNat)
  case atStart => exact ⟨0, Nat.zero_le _, rfl, rfl, by rw [hW0]; exact Below.refl _ _⟩
  case round =>
    obtain ⟨k, hk, rfl, hfe, hbl⟩ := hrel
    have hnr := hN.2.2.1
    by_cases hlr : k < lr.length
    · obtain ⟨g, off, rfl, hcx⟩ := hcr k lr[k] (List.getElem?_eq_getElem hlr)
      have hbw : Below w.heap.size w wr := hb0.trans (hbl.mono (by omega))
      have hstop := fun hx => firstErr_stop checkR hlr hfe hx
      have hgo := fun hx => firstErr_go checkR hlr hfe hx
      obtain ⟨y, hy⟩ : ∃ y, y = lr[k] := ⟨_, rfl⟩
      rw [← hy] at hcx hstop hgo
      have hcx' : ∀ j, j < 8 → wr.cell? ⟨g, off + k * 8 + j, none⟩ = y.cells[j]? := fun j hj => by
        have hu : y.cells[j]? = some (y.cells[j]'hj) := List.getElem?_eq_getElem _
        rw [hu]
        exact (Mod.of_below (fun _ => False) hbw).cell (by rw [hcx j hj, hu]) (fun e => e)
      have q0 := hcx' 0 (by decide)
      have q1 := hcx' 1 (by decide)
      have q2 := hcx' 2 (by decide)
      have q3 := hcx' 3 (by decide)
      have q4 := hcx' 4 (by decide)
      have q5 := hcx' 5 (by decide)
      have q6 := hcx' 6 (by decide)
      have q7 := hcx' 7 (by decide)
      have HH := Lib.hid (And.intro hstop (And.intro hgo (And.intro hbl (And.intro hbw hsz))))
      clear hstop hgo hbl hbw hcr hce hcx hcx' hfe hN hb0 hsz hx0 hx1 hy hW0
      obtain ⟨x1, x2, x3, x4, x5, x6, x7, x8⟩ := y
      simp only [Rep.cells, Nat.add_zero, List.getElem?_cons_zero, List.getElem?_cons_succ] at q0 q1 q2 q3 q4 q5 q6 q7
      go_wp2_with fail
      refine (check_any x1 x2 x3 x4 x5 x6 x7 x8 _).mono ?_
      rintro e w1 ⟨rfl, hb1⟩
      obtain ⟨ck, hck⟩ : ∃ ck, ck = checkR ⟨x1, x2, x3, x4, x5, x6, x7, x8⟩ := ⟨_, rfl⟩
      rw [← hck]
      have HK := Lib.hid hck
      have HB := Lib.hid hb1
      clear hck hb1
      go_wp2_with fail
      · obtain ⟨hstop, hgo, hbl, hbw, hsz⟩ := HH.out
        have hck := HK.out
        have hb1 := HB.out
        go_ret2
        have hne : ck ≠ 0 := by simp_all
        have h1 := hstop (by rw [← hck]; exact hne)
        have hcb : checkB lr le = ck := by rw [checkB, h1, ← hck, if_neg hne]
        exact .inl ⟨by rw [hcb]; exact hne, by rw [hcb]; rfl, (hbw.alloc hbw.size _).trans (hb1.mono (by have := hbw.size; simp; omega))⟩
      · obtain ⟨hstop, hgo, hbl, hbw, hsz⟩ := HH.out
        have hck := HK.out
        have hb1 := HB.out
        have hne : ck = 0 := by simp_all
        exact ⟨⟨k + 1, by omega, by simp, hgo (by rw [← hck]; exact hne), (hbl.alloc hbl.size _).trans (hb1.mono (by have := hbl.size; simp; omega))⟩, by simp [intOf]; omega⟩
    · obtain rfl : k = lr.length := by omega
      rw [List.take_length] at hfe
      have hRz := Lib.hid hfe
      have hNe := hN.2.2.2
      have hx1' := hbl.cell (p := ⟨w.heap.size, 1, none⟩) (by show w.heap.size < _; omega)
      rw [hx1] at hx1'
      have HL := Lib.hid hbl
      have HN := Lib.hid hN
      clear hlr hk hcr hfe hbl hN hx1 hx0
      go_wp2_with fail
      go_loopw [10, 11, 30] (fun _ _ i wr => ∃ k : Nat, k ≤ le.length ∧ i = .int .i64 k ∧ firstErr checkX (le.take k) = 0 ∧ Below W0.heap.size W0 wr) (fun _ _ i _ => le.length - (intOf i).toNat)
      case atStart => exact ⟨0, Nat.zero_le _, rfl, rfl, HL.out⟩
      case round =>
        have hRz := hRz.out
        obtain ⟨k, hk, rfl, hfe, hbl⟩ := hrel
        by_cases hle' : k < le.length
        · obtain ⟨g, off, rfl, hcx⟩ := hce k le[k] (List.getElem?_eq_getElem hle')
          have hbw : Below w.heap.size w wr := hb0.trans (hbl.mono (by omega))
          have hstop := fun hx => firstErr_stop checkX hle' hfe hx
          have hgo := fun hx => firstErr_go checkX hle' hfe hx
          obtain ⟨y, hy⟩ : ∃ y, y = le[k] := ⟨_, rfl⟩
          rw [← hy] at hcx hstop hgo
          have hcx' : ∀ j, j < 5 → wr.cell? ⟨g, off + k * 5 + j, none⟩ = y.cells[j]? := fun j hj => by
            have hu : y.cells[j]? = some (y.cells[j]'hj) := List.getElem?_eq_getElem _
            rw [hu]
            exact (Mod.of_below (fun _ => False) hbw).cell (by rw [hcx j hj, hu]) (fun e => e)
          have q0 := hcx' 0 (by decide)
          have q1 := hcx' 1 (by decide)
          have q2 := hcx' 2 (by decide)
          have q3 := hcx' 3 (by decide)
          have q4 := hcx' 4 (by decide)
          have HH := Lib.hid (And.intro hstop (And.intro hgo (And.intro hbl (And.intro hbw hsz))))
          clear hstop hgo hbl hbw hce hcx hcx' hfe hb0 hsz hy hW0
          obtain ⟨x1, x2, x3, x4, x5⟩ := y
          simp only [Exc.cells, Nat.add_zero, List.getElem?_cons_zero, List.getElem?_cons_succ] at q0 q1 q2 q3 q4
          go_wp2_with fail
          refine (checkX_any x1 x2 x3 x4 x5 _).mono ?_
          rintro e w1 ⟨rfl, hb1⟩
          obtain ⟨ck, hck⟩ : ∃ ck, ck = checkX ⟨x1, x2, x3, x4, x5⟩ := ⟨_, rfl⟩
          rw [← hck]
          have HK := Lib.hid hck
          have HB := Lib.hid hb1
          clear hck hb1
          go_wp2_with fail
          · obtain ⟨hstop, hgo, hbl, hbw, hsz⟩ := HH.out
            have hck := HK.out
            have hb1 := HB.out
            go_ret2
            have hne : ck ≠ 0 := by simp_all
            have h1 := hstop (by rw [← hck]; exact hne)
            have hcb : checkB lr le = ck := by rw [checkB, hRz, if_pos rfl, h1, ← hck]
            exact .inl ⟨by rw [hcb]; exact hne, by rw [hcb]; rfl, (hbw.alloc hbw.size _).trans (hb1.mono (by have := hbw.size; simp; omega))⟩
          · obtain ⟨hstop, hgo, hbl, hbw, hsz⟩ := HH.out
            have hck := HK.out
            have hb1 := HB.out
            have hne : ck = 0 := by simp_all
            exact ⟨⟨k + 1, by omega, by simp, hgo (by rw [← hck]; exact hne), (hbl.alloc hbl.size _).trans (hb1.mono (by have := hbl.size; simp; omega))⟩, by simp [intOf]; omega⟩
        · obtain rfl : k = le.length := by omega
          rw [List.take_length] at hfe
          have hbw : Below w.heap.size w wr := hb0.trans (hbl.mono (by omega))
          have hx0' := hbl.cell (p := ⟨w.heap.size, 0, none⟩) (by show w.heap.size < _; omega)
          have hx1'' := hbl.cell (p := ⟨w.heap.size, 1, none⟩) (by show w.heap.size < _; omega)
          rw [show W0.cell? ⟨w.heap.size, 0, none⟩ = some (.slice ar lr.length cr) from by rw [hW0]; simp [go_sem]] at hx0'
          rw [show W0.cell? ⟨w.heap.size, 1, none⟩ = some (.slice ae le.length ce) from by rw [hW0]; simp [go_sem]] at hx1''
          have hcall := Lib.hid (hP.out wr hbw)
          have hz : checkB lr le = 0 := by rw [checkB, hRz, if_pos rfl, hfe]
          have HZ := Lib.hid (And.intro hbw hz)
          clear hbw hz hfe hbl hRz hP hce hx1' hb0 hsz hW0
          go_wp2_with fail
          refine hcall.out.mono ?_
          rintro e w1 hpost
          obtain ⟨hbw, hz⟩ := HZ.out
          have hpost := hpost.pre hbw
          have HP := Lib.hid hpost
          have HZ2 := Lib.hid hz
          clear hz hbw HZ hcall
          rcases hpost with ⟨g1, rfl, g3⟩ | ⟨g1, g2, rfl, g3⟩
          · clear g1 g3
            go_wp2_with fail
            go_ret2
            exact .inr ⟨HZ2.out, HP.out⟩
          · clear g1 g2 g3
            go_wp2_with fail
            go_ret2
            exact .inr ⟨HZ2.out, HP.out⟩
end Go.Proofs.YtfoenojohemccaaGreatDoor
