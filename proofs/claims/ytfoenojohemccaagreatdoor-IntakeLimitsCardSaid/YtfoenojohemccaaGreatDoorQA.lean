/- Contracts of report.within, report.Check and report.CheckExchange: what each returns, in every world. | Contracts of report.Check and report.CheckExchange: the error of a report and of an exchange, in every world. -/
import Derived.Test.YtfoenojohemccaaGreatDoorProg
import Derived.WalkKit
import Derived.WalkSpells
import Derived.WalkLawsBesides
import Derived.Lib.Hide
import Derived.Shelf.Abstract
namespace Go.Proofs.YtfoenojohemccaaGreatDoor
open Go.RowKit

/-- closure of within: n < low || n > high -/
theorem within1_any (n lo hi : Int) (w : World) (a b : Addr) (ha : w.cell? a = some (.int .i64 lo)) (hb : w.cell? b = some (.int .i64 hi)) :
    Calls Tryz.prog 106 #[.int .i64 n, .pointer (some a), .pointer (some b)] w fun e w' => e = .returned (.bool (decide (n < lo) || decide (hi < n))) ∧ w = w' := by
  go_enter Tryz.func106, Tryz.ntmps106
  go_wp2
  all_goals go_ret
  all_goals exact ⟨rfl, rfl⟩

def idxP (p : Int → Bool) (l : List Int) : Int := match l.findIdx? p with | some i => i | none => -1

theorem idxP_pos {p : Int → Bool} {l : List Int} {k : Nat} (hk : k < l.length) (h : ∀ j, j < k → p (l.getD j 0) = false) (hp : p (l.getD k 0) = true) : idxP p l = k := by
  unfold idxP
  have : l.findIdx? p = some k := by
    rw [List.findIdx?_eq_some_iff_getElem]
    refine ⟨hk, ?_, ?_⟩
    · simpa [hk] using hp
    · intro j hj; have := h j hj; have hjl : j < l.length := by omega
      simpa [hjl] using this
  rw [this]
theorem idxP_neg {p : Int → Bool} {l : List Int} (h : ∀ j, j < l.length → p (l.getD j 0) = false) : idxP p l = -1 := by
  unfold idxP
  have : l.findIdx? p = none := by
    rw [List.findIdx?_eq_none_iff]
    intro x hx
    obtain ⟨j, hj, rfl⟩ := List.getElem_of_mem hx
    have := h j hj
    simpa [hj] using this
  rw [this]

set_option maxHeartbeats 400000 in
theorem indexFuncInt (l : List Int) (b off cap : Nat) (g : Nat) (cb : Array Value) (p : Int → Bool) (w : World)
    (hl : l.length ≤ 9223372036854775807)
    (eg : ∀ args w, (callFunc g args).run Tryz.prog w = .ok (.enter g args) w)
    (hc : ∀ i, i < l.length → w.cell? ⟨b, off + i, none⟩ = some (.int .i64 (l.getD i 0)))
    (hp : ∀ x, Calls Tryz.prog g (#[.int .i64 x] ++ cb) w fun e w' => e = .returned (.bool (p x)) ∧ w = w') :
    Calls Tryz.prog 134 #[.slice (some ⟨b, off, none⟩) l.length cap, .func (.func g) #[] cb] w fun e w' => e = .returned (.int .i64 (idxP p l)) ∧ w = w' := by
  go_enter Tryz.func134, Tryz.ntmps134
  go_wp2
  go_loop [5, 8] (fun _ i => ∃ k : Nat, k ≤ l.length ∧ i = .int .i64 k ∧ ∀ j, j < k → p (l.getD j 0) = false) (fun _ i => l.length - (intOf i).toNat)
  case atStart => exact ⟨0, Nat.zero_le _, rfl, by intro j hj; omega⟩
  case round =>
    obtain ⟨k, hk, rfl, hbef⟩ := hrel
    have HB : Hid (∀ j, j < k → p (l.getD j 0) = false) := hbef
    clear hbef
    by_cases hlt : k < l.length
    · have hcell := hc k hlt
      clear hc
      obtain ⟨x, hx⟩ : ∃ x, l.getD k 0 = x := ⟨_, rfl⟩
      have hpk := hp x
      rw [hx] at hcell
      clear hp
      cases hv : p x
      all_goals
        rw [hv] at hpk
        rw [← hx] at hv
        have HV := Lib.hid hv
        clear hv hx
        go_wp2_with fail
        refine hpk.mono ?_
        rintro e w' ⟨rfl, rfl⟩
        go_wp2_with fail
      · go_round
        case rel => exact ⟨k + 1, by omega, by go_num, fun j hj => by rcases Nat.lt_succ_iff_lt_or_eq.1 hj with h | rfl; exact HB.out j h; exact HV.out⟩
        case measure => simp [intOf]; omega
      · go_ret
        exact ⟨by rw [idxP_pos hlt HB.out HV.out]; rfl, rfl⟩
    · go_wp2
      go_ret
      exact ⟨by rw [idxP_neg (fun j hj => HB.out j (by omega))]; rfl, rfl⟩

def anyP (p : Int → Bool) (l : List Int) : Bool := l.any p
theorem idxP_any (p : Int → Bool) (l : List Int) : decide (0 ≤ idxP p l) = anyP p l := by
  unfold idxP anyP
  cases h : l.findIdx? p with
  | none => rw [List.findIdx?_eq_none_iff] at h; simp; exact fun x hx => by simpa using h x hx
  | some i =>
    rw [List.findIdx?_eq_some_iff_getElem] at h
    obtain ⟨hi, h1, _⟩ := h
    have : l.any p = true := List.any_eq_true.2 ⟨_, List.getElem_mem hi, h1⟩
    rw [this]; simp

theorem containsFuncInt (l : List Int) (b off cap : Nat) (g : Nat) (cb : Array Value) (p : Int → Bool) (w : World)
    (hl : l.length ≤ 9223372036854775807)
    (eg : ∀ args w, (callFunc g args).run Tryz.prog w = .ok (.enter g args) w)
    (hc : ∀ i, i < l.length → w.cell? ⟨b, off + i, none⟩ = some (.int .i64 (l.getD i 0)))
    (hp : ∀ x, Calls Tryz.prog g (#[.int .i64 x] ++ cb) w fun e w' => e = .returned (.bool (p x)) ∧ w = w') :
    Calls Tryz.prog 105 #[.slice (some ⟨b, off, none⟩) l.length cap, .func (.func g) #[] cb] w fun e w' => e = .returned (.bool (anyP p l)) ∧ w = w' := by
  have h := indexFuncInt l b off cap g cb p w hl eg hc hp
  have ha := idxP_any p l
  generalize idxP p l = r at *
  clear hc hp eg
  have HA := Lib.hid ha
  clear ha
  go_enter Tryz.func105, Tryz.ntmps105
  go_wp2_with fail
  refine h.mono ?_
  rintro e w' ⟨rfl, rfl⟩
  go_wp2_with fail
  go_ret
  exact ⟨by rw [← HA.out]; rfl, rfl⟩

def withinB (lo hi : Int) (l : List Int) : Bool := !anyP (fun n => decide (n < lo) || decide (hi < n)) l

theorem within_any (lo hi : Int) (l : List Int) (n b off cap : Nat) (w : World) (hn : l.length = n) (hl : l.length ≤ 9223372036854775807) (hb : b < w.heap.size)
    (hc : ∀ i, i < l.length → w.cell? ⟨b, off + i, none⟩ = some (.int .i64 (l.getD i 0))) :
    Calls Tryz.prog 67 #[.int .i64 lo, .int .i64 hi, .slice (some ⟨b, off, none⟩) n cap] w fun e w' => e = .returned (.bool (withinB lo hi l)) ∧ Below w.heap.size w w' := by
  subst hn
  go_enter Tryz.func67, Tryz.ntmps67
  go_wp2_with fail
  have hB : Below w.heap.size w ((w.alloc (.cells #[.int .i64 lo] 3)).alloc (.cells #[.int .i64 hi] 3)) := ((Below.refl _ _).alloc (Nat.le_refl _) _).alloc (by simp) _
  have e1 : ((w.alloc (.cells #[.int .i64 lo] 3)).alloc (.cells #[.int .i64 hi] 3)).cell? ⟨w.heap.size, 0, none⟩ = some (.int .i64 lo) := by simp [go_sem]
  have e2 : ((w.alloc (.cells #[.int .i64 lo] 3)).alloc (.cells #[.int .i64 hi] 3)).cell? ⟨w.heap.size + 1, 0, none⟩ = some (.int .i64 hi) := by simp [go_sem]
  refine (containsFuncInt l b off cap 106 #[.pointer (some ⟨w.heap.size, 0, none⟩), .pointer (some ⟨w.heap.size + 1, 0, none⟩)] (fun n => decide (n < lo) || decide (hi < n)) _ hl (Go.Proofs.enters_of Tryz.func106 (by kernel_rfl) rfl) ?_ ?_).mono ?_
  · intro i hi
    exact (hB.cell (p := ⟨b, off + i, none⟩) hb).trans (hc i hi)
  · intro x
    exact within1_any x lo hi _ _ _ e1 e2
  rintro e w' ⟨rfl, rfl⟩
  go_wp2_with fail
  go_ret
  exact ⟨rfl, hB⟩

structure Rep where
  (o s v d t x y : Int)
  c : Bool
  deriving DecidableEq
def Rep.cells (r : Rep) : List Value := [.int .i64 r.o, .int .i64 r.s, .int .i64 r.v, .int .i64 r.d, .int .i64 r.t, .int .i64 r.x, .int .i64 r.y, .bool r.c]
structure Exc where
  (f t s r l : Int)
  deriving DecidableEq
def Exc.cells (r : Exc) : List Value := [.int .i64 r.f, .int .i64 r.t, .int .i64 r.s, .int .i64 r.r, .int .i64 r.l]

def checkR (r : Rep) : Int :=
  if withinB 1 1073741824 [r.o] = false then 27 else if withinB 0 1073741824 [r.s, r.v, r.d] = false then 2
  else if withinB 0 1073741824 [r.t] = false then 26 else if withinB (-1048576) 1048576 [r.x, r.y] = false then 2 else 0

theorem retI {k : IntKind} {a b : Int} (h : a = b) : Ending.returned (.int k a) = .returned (.int k b) := by rw [h]

theorem box_at {w w1 : World} {B : Nat} {cs : Array Value} {T : TypeId} (hb : Below B (w.alloc (.cells cs T)) w1) (hB : w.heap.size < B) : ∀ j, w1.cell? ⟨w.heap.size, j, none⟩ = cs[j]? := by
  intro j
  rw [hb.cell (p := ⟨w.heap.size, j, none⟩) hB]
  simp [go_sem]

theorem box_at2 {w w1 : World} {cs : Array Value} {T : TypeId} {o : Obj} (hb : Below ((w.alloc (.cells cs T)).alloc o).heap.size ((w.alloc (.cells cs T)).alloc o) w1) : ∀ j, w1.cell? ⟨w.heap.size, j, none⟩ = cs[j]? :=
  box_at ((((Below.refl _ _).alloc (Nat.le_refl _) o).trans (hb.mono (by simp)))) (by simp)

theorem lit1 (a : Int) (w : World) (T : TypeId) (cs : List Int) (h : cs = [a]) : ∀ i, i < cs.length → (w.alloc (.cells #[.int .i64 a] T)).cell? ⟨w.heap.size, 0 + i, none⟩ = some (.int .i64 (cs.getD i 0)) := by
  subst h; intro i hi; simp at hi; subst hi; simp [go_sem]
theorem lit2 (a b : Int) (w : World) (T : TypeId) (cs : List Int) (h : cs = [a, b]) : ∀ i, i < cs.length → (w.alloc (.cells #[.int .i64 a, .int .i64 b] T)).cell? ⟨w.heap.size, 0 + i, none⟩ = some (.int .i64 (cs.getD i 0)) := by
  subst h; intro i hi; simp at hi; rcases (by omega : i = 0 ∨ i = 1) with rfl | rfl <;> simp [go_sem]
theorem lit3 (a b c : Int) (w : World) (T : TypeId) (cs : List Int) (h : cs = [a, b, c]) : ∀ i, i < cs.length → (w.alloc (.cells #[.int .i64 a, .int .i64 b, .int .i64 c] T)).cell? ⟨w.heap.size, 0 + i, none⟩ = some (.int .i64 (cs.getD i 0)) := by
  subst h; intro i hi; simp at hi; rcases (by omega : i = 0 ∨ i = 1 ∨ i = 2) with rfl | rfl | rfl <;> simp [go_sem]

/-- what a call that made a literal first leaves: below the start all is as it was -/
theorem below_lit {B : Nat} {w w1 w2 : World} {o : Obj} (h : Below B w w1) (hB : B ≤ w1.heap.size) (hb : Below (w1.alloc o).heap.size (w1.alloc o) w2) : Below B w w2 ∧ B ≤ w2.heap.size :=
  ⟨h.trans (((Below.refl B w1).alloc hB o).trans (hb.mono (by simp; omega))), by have := hb.size; simp at this; omega⟩

theorem within1 (lo hi a : Int) (b : Nat) (W : World) (hb : b = W.heap.size) :
    Calls Tryz.prog 67 #[.int .i64 lo, .int .i64 hi, .slice (some ⟨b, 0, none⟩) 1 1] (W.alloc (.cells #[.int .i64 a] 3)) fun e w' => e = .returned (.bool (withinB lo hi [a])) ∧ Below (W.alloc (.cells #[.int .i64 a] 3)).heap.size (W.alloc (.cells #[.int .i64 a] 3)) w' := by
  subst hb; exact within_any lo hi [a] 1 W.heap.size 0 1 _ rfl (by simp) (by simp) (lit1 a W 3 _ rfl)
theorem within2 (lo hi a c : Int) (b : Nat) (W : World) (hb : b = W.heap.size) :
    Calls Tryz.prog 67 #[.int .i64 lo, .int .i64 hi, .slice (some ⟨b, 0, none⟩) 2 2] (W.alloc (.cells #[.int .i64 a, .int .i64 c] 3)) fun e w' => e = .returned (.bool (withinB lo hi [a, c])) ∧ Below (W.alloc (.cells #[.int .i64 a, .int .i64 c] 3)).heap.size (W.alloc (.cells #[.int .i64 a, .int .i64 c] 3)) w' := by
  subst hb; exact within_any lo hi [a, c] 2 W.heap.size 0 2 _ rfl (by simp) (by simp) (lit2 a c W 3 _ rfl)
theorem within3 (lo hi a c d : Int) (b : Nat) (W : World) (hb : b = W.heap.size) :
    Calls Tryz.prog 67 #[.int .i64 lo, .int .i64 hi, .slice (some ⟨b, 0, none⟩) 3 3] (W.alloc (.cells #[.int .i64 a, .int .i64 c, .int .i64 d] 3)) fun e w' => e = .returned (.bool (withinB lo hi [a, c, d])) ∧ Below (W.alloc (.cells #[.int .i64 a, .int .i64 c, .int .i64 d] 3)).heap.size (W.alloc (.cells #[.int .i64 a, .int .i64 c, .int .i64 d] 3)) w' := by
  subst hb; exact within_any lo hi [a, c, d] 3 W.heap.size 0 3 _ rfl (by simp) (by simp) (lit3 a c d W 3 _ rfl)

/-- .. and a cell of an older block still reads as it did -/
theorem keep_at {w1 w2 : World} {b : Nat} {cs : Array Value} {o : Obj} (hb : Below (w1.alloc o).heap.size (w1.alloc o) w2) (q : ∀ j, w1.cell? ⟨b, j, none⟩ = cs[j]?) (hlt : b < w1.heap.size) : ∀ j, w2.cell? ⟨b, j, none⟩ = cs[j]? := by
  intro j
  have e1 := hb.cell (p := ⟨b, j, none⟩) (by simp; omega)
  have e2 := ((Below.refl w1.heap.size w1).alloc (Nat.le_refl _) o).cell (p := ⟨b, j, none⟩) hlt
  rw [e1, e2, q j]
end Go.Proofs.YtfoenojohemccaaGreatDoor
namespace Go.Proofs.YtfoenojohemccaaGreatDoor
open Go.RowKit

set_option maxHeartbeats 1000000 in
theorem check_any (o s v d t x y : Int) (c : Bool) (w : World) :
    Calls Tryz.prog 34 #[.agg #[.int .i64 o, .int .i64 s, .int .i64 v, .int .i64 d, .int .i64 t, .int .i64 x, .int .i64 y, .bool c]] w fun e w' => e = .returned (.int .i64 (checkR ⟨o, s, v, d, t, x, y, c⟩)) ∧ Below w.heap.size w w' := by
  have h0 : Below w.heap.size w (w.alloc (.cells #[.int .i64 o, .int .i64 s, .int .i64 v, .int .i64 d, .int .i64 t, .int .i64 x, .int .i64 y, .bool c] 28)) := (Below.refl _ _).alloc (Nat.le_refl _) _
  go_enter Tryz.func34, Tryz.ntmps34
  go_wp2_with fail
  refine (within1 1 1073741824 o _ _ (by simp)).mono ?_
  rintro e w1 ⟨rfl, hb1⟩
  have q1 := box_at2 hb1
  have y1 : w.heap.size < w1.heap.size := by have := hb1.size; simp at this; omega
  obtain ⟨g1, z1⟩ := below_lit h0 (by simp) hb1
  clear hb1 h0
  go_wp2_with fail
  · go_ret
    exact ⟨retI (by simp_all [checkR]), g1⟩
  refine (within3 0 1073741824 s v d _ _ (by simp)).mono ?_
  rintro e w2 ⟨rfl, hb2⟩
  have q2 := keep_at hb2 q1 y1
  have y2 : w.heap.size < w2.heap.size := by have := hb2.size; simp at this; omega
  obtain ⟨g2, z2⟩ := below_lit g1 z1 hb2
  clear hb2 q1 g1
  go_wp2_with fail
  · go_ret
    exact ⟨retI (by simp_all [checkR]), g2⟩
  refine (within1 0 1073741824 t _ _ (by simp)).mono ?_
  rintro e w3 ⟨rfl, hb3⟩
  have q3 := keep_at hb3 q2 y2
  have y3 : w.heap.size < w3.heap.size := by have := hb3.size; simp at this; omega
  obtain ⟨g3, z3⟩ := below_lit g2 z2 hb3
  clear hb3 q2 g2
  go_wp2_with fail
  · go_ret
    exact ⟨retI (by simp_all [checkR]), g3⟩
  refine (within2 (-1048576) 1048576 x y _ _ (by simp)).mono ?_
  rintro e w4 ⟨rfl, hb4⟩
  obtain ⟨g4, z4⟩ := below_lit g3 z3 hb4
  clear hb4 q3 g3
  go_wp2_with fail
  all_goals
    go_ret
    exact ⟨retI (by simp_all [checkR]), g4⟩

def checkX (r : Exc) : Int :=
  if withinB 0 1073741824 [r.f, r.t] = false then 2 else if r.f = r.t then 8 else if withinB 0 1073741824 [r.s, r.r, r.l] = false then 26 else 0

set_option maxHeartbeats 1000000 in
theorem checkX_any (f t s r l : Int) (w : World) :
    Calls Tryz.prog 51 #[.agg #[.int .i64 f, .int .i64 t, .int .i64 s, .int .i64 r, .int .i64 l]] w fun e w' => e = .returned (.int .i64 (checkX ⟨f, t, s, r, l⟩)) ∧ Below w.heap.size w w' := by
  have h0 : Below w.heap.size w (w.alloc (.cells #[.int .i64 f, .int .i64 t, .int .i64 s, .int .i64 r, .int .i64 l] 36)) := (Below.refl _ _).alloc (Nat.le_refl _) _
  go_enter Tryz.func51, Tryz.ntmps51
  go_wp2_with fail
  refine (within2 0 1073741824 f t _ _ (by simp)).mono ?_
  rintro e w1 ⟨rfl, hb1⟩
  have q1 := box_at2 hb1
  have y1 : w.heap.size < w1.heap.size := by have := hb1.size; simp at this; omega
  obtain ⟨g1, z1⟩ := below_lit h0 (by simp) hb1
  clear hb1 h0
  go_wp2_with fail
  iterate 2
    · go_ret
      exact ⟨retI (by simp_all [checkX]), g1⟩
  refine (within3 0 1073741824 s r l _ _ (by simp)).mono ?_
  rintro e w2 ⟨rfl, hb2⟩
  obtain ⟨g2, z2⟩ := below_lit g1 z1 hb2
  clear hb2 q1 g1
  go_wp2_with fail
  all_goals
    go_ret
    exact ⟨retI (by simp_all [checkX]), g2⟩
end Go.Proofs.YtfoenojohemccaaGreatDoor
