/- maps.Keys at the map of reports, its iterator, slices.AppendSeq and slices.Collect: the keys, each once, in some order. | maps.Keys at the map of exchanges, its iterator, slices.AppendSeq and slices.Collect: the keys, each once, in some order. | maps.Keys at the map of ints, its iterator, slices.AppendSeq and slices.Collect: the keys, each once, in some order. -/
import Derived.Test.YtfoenojohemccaaGreatDoorQM
import Derived.RangeFuncNested
import Derived.RangeFuncBound
import Derived.RangeFuncCalls
import Derived.RangeFuncLeaves
import Derived.Shelf.Abstract
import Derived.Shelf.RegionOpen
import Derived.WalkKit
import Derived.OwnWalkIn
import Derived.TacticsInMore
import Derived.LoopNIn
import Derived.LoopIn
import Derived.Maps.AppendAt
namespace Go.Proofs.YtfoenojohemccaaGreatDoor
open Go.RowKit Go.Shelf Go.Proofs
attribute [local go_sem] Oper.semAt_some

theorem rep_new (w : World) (cs : List Value) (T : TypeId) : ∀ j u, cs[j]? = some u → (w.alloc (.cells cs.toArray T)).cell? ((⟨w.heap.size, 0, none⟩ : Addr).add j) = some u := by
  intro j u h
  have : (⟨w.heap.size, 0, none⟩ : Addr).add j = ⟨w.heap.size, j, none⟩ := by simp [Addr.add]; omega
  rw [this, World.cell?_alloc_new]
  simpa using h

theorem rep_walks {κ ν : Type} {enc : κ → Value} {encV : ν → Value} {w w' : World} {r b : Nat} {kv left : List (κ × ν)} (h : RangeIs enc encV w r b kv left) (hk : KeepsWalks w w') : RangeIs enc encV w' r b kv left := by
  obtain ⟨es, clock, seen, Z, hb, hr, rest⟩ := h
  exact ⟨es, clock, seen, Z, hk.same b _ hb rfl, hk.same r _ hr rfl, rest⟩

set_option maxRecDepth 100000 in
set_option maxHeartbeats 1000000 in
theorem rep_keys1 (F : Fence) (n : Nat) (hF : F.fn 91) (hro : F.round = none) (hn : 1 ≤ n) (Bm b : Nat) (kv : List (Rep × Bool)) (w : World)
    (hBm : Bm < w.heap.size) (hm : w.cell? ⟨Bm, 0, none⟩ = some (.map (some b))) (hown : MapIs Rep.val boolV w b kv) :
    SeqStopsK F n Tryz.prog 91 #[.pointer (some ⟨Bm, 0, none⟩)] (fun x : Rep => #[Rep.val x]) KeepsWalks (fun xs => xs.Perm (kv.map (·.1))) (fun _ => True) kv.length w := by
  intro l J Jx W hW hJ hJx hY h0
  have hm' : W.cell? ⟨Bm, 0, none⟩ = some (.map (some b)) := (hW.cell (p := ⟨Bm, 0, none⟩) hBm).trans hm
  have hown' : MapIs Rep.val boolV W b kv := hown.below hW hown.lt
  clear hm hown
  obtain ⟨w0, hrun, hrg0, hg0, hs0⟩ := run_range (P := Tryz.prog) Tryz.underlying90 hown'
  have hJ0 : J [] w0 := hJ [] W w0 none h0 hg0 (fun r e => by cases e)
  refine callsIn_of_wp Tryz.func91 rfl hF ?_ hro
  simp only [Tryz.ntmps91, List.size_toArray, List.length_cons, List.length_nil, Nat.reduceAdd, Nat.reduceSub, Array.replicate_succ, Array.replicate_zero, List.push_toArray, List.append_toArray, List.nil_append, List.cons_append]
  gi_wp2
  gi_loopw [3] (fun _ wr => ∃ (left : List (Rep × Bool)) (ss : List Rep), RangeIs Rep.val boolV wr W.heap.size b kv left ∧ (ss ++ left.map (·.1)).Perm (kv.map (·.1)) ∧ ss.length + left.length = kv.length ∧ J ss wr)
    (fun _ wr => itLeft wr W.heap.size)
  case atStart =>
    exact ⟨kv, [], hrg0, by simp, by simp, hJ0⟩
  case round =>
    obtain ⟨left, ss, hrg, hperm, hlen, hJs⟩ := hrel
    clear hrun hrg0 hg0 hs0 hJ0
    rcases run_next (P := Tryz.prog) hrg 0 with ⟨rfl, hnx⟩ | ⟨x, left', w2, hp, hnx, hrg2, hg2, hs2, hen⟩
    · gi_wp2
      go_end0
      exact ⟨⟨_, rfl⟩, .inl ⟨ss, by simpa using hperm, hJs⟩⟩
    · have hJ2 : J ss w2 := hJ ss wr w2 (some W.heap.size) hJs hg2 (fun r e => by
        cases e
        obtain ⟨es, clock, seen, Z, _, hr, _⟩ := hrg
        exact ⟨Nat.le_refl _, _, hr, rfl⟩)
      have hlen2 : left.length = left'.length + 1 := by have := hp.length_eq; simpa using this
      have hperm2 : ((ss ++ [x.1]) ++ left'.map (·.1)).Perm (kv.map (·.1)) := by
        refine List.Perm.trans ?_ hperm
        rw [List.append_assoc]
        exact List.Perm.append_left ss (by simpa using (hp.map (·.1)).symm)
      have hlm : itLeft wr W.heap.size = left.length := hrg.len
      clear hs2 hg2 hperm hp hrg
      obtain ⟨y, hy0⟩ : ∃ y, y = x.1 := ⟨_, rfl⟩
      rw [← hy0] at hnx hen hperm2
      have hJ3 : J ss (w2.alloc (.cells (Rep.cells y).toArray 28)) := hJ ss w2 _ none hJ2 (World.grownBy_alloc w2 _ none) (fun r e => by cases e)
      have hrg3 := hrg2.alloc (.cells (Rep.cells y).toArray 28)
      obtain ⟨fn, tmps, assign, body, hy, hR⟩ := hY ss y (w2.alloc (.cells (Rep.cells y).toArray 28)) hJ3 (by omega)
      clear hy0 hJ3 hJ2 hrg2 hm' hown' h0
      obtain ⟨x1, x2, x3, x4, x5, x6, x7, x8⟩ := y
      simp only [Rep.val, Rep.cells, boolV] at hnx hen hy
      have hrg3 := Lib.hid hrg3
      have hperm2 := Lib.hid hperm2
      have hlm := Lib.hid hlm
      gi_wp2
      refine hR.mono ?_
      rintro e W3 (⟨rfl, hJ4, hk⟩ | ⟨rfl, hJx4⟩)
      · gi_wp2
        have hrg4 := rep_walks hrg3.out hk
        refine ⟨⟨left', _, hrg4, hperm2.out, by simp; omega, hJ4⟩, ?_⟩
        rw [hrg4.len, hlm.out]; omega
      · gi_wp2
        try simp only [Exit.inBlock, Exit.then]
        refine bodyPost_ret (results_none rfl _ _ _) rfl ?_
        exact ⟨⟨_, rfl⟩, .inr ⟨_, trivial, hJx4⟩⟩

/-- maps.Keys(m): the map is boxed; the function value captures the box. -/
theorem rep_keys (mb : Option Nat) (w : World) :
    Calls Tryz.prog 54 #[.map mb] w fun e w' => e = .returned (.func (.func 91) #[] #[.pointer (some ⟨w.heap.size, 0, none⟩)]) ∧ w.alloc (.cells #[.map mb] 90) = w' := by
  go_enter Tryz.func54, Tryz.ntmps54
  go_wp2
  go_ret
  exact ⟨rfl, rfl⟩

theorem Tryz.info28 : (Tryz.prog.info? 28).map (fun i => (i.zero, i.size, i.bytes)) = some (some (Rep.val ⟨0, 0, 0, 0, 0, 0, 0, false⟩), 8, 64) := by kernel_rfl

set_option maxRecDepth 100000 in
set_option maxHeartbeats 2000000 in
/-- slices.AppendSeq(nil, seq) against an iterator value that gives these elements -/
theorem rep_appendSeq (g : Nat) (lb : Array Value) (eg : ∀ args w, (callFunc g args).run Tryz.prog w = .ok (.enter g args) w)
    (S Sp : List Rep → Prop) (N : Nat) (hN : N ≤ 4294967296) (w : World) (hseq : ∀ n, 1 ≤ n → SeqStopsK Fence.wide n Tryz.prog g lb (fun x : Rep => #[Rep.val x]) KeepsWalks S Sp N w) :
    Calls Tryz.prog 124 #[.slice none 0 0, .func (.func g) #[] lb] w fun e w' => ∃ (v : Value) (ss : List Rep), e = .returned v ∧ S ss ∧ w'.ownsRow w.heap.size 28 8 v ss.length (ss.flatMap Rep.cells) ∧ (v = .slice none 0 0 ↔ ss = []) ∧ Below w.heap.size w w' := by
  obtain ⟨i0, hi, hz0, hz1, hz2⟩ := info_parts Tryz.info28
  refine (callsIn_wide (n := 5)).1 ?_
  refine callsIn_of_wp_marks Tryz.func124 rfl trivial ?_ rfl
  simp only [Tryz.ntmps124, List.size_toArray, List.length_cons, List.length_nil, Nat.reduceAdd, Nat.reduceSub, Array.replicate_succ, Array.replicate_zero, List.push_toArray, List.append_toArray, List.nil_append, List.cons_append]
  gi_wp2
  have hbx := Boxed.new w 26 (.slice none 0 0)
  obtain ⟨W0, hW0⟩ : ∃ W0, w.alloc (.cells #[.slice none 0 0] 26) = W0 := ⟨_, rfl⟩
  have hB0 : Below w.heap.size w W0 := by rw [← hW0]; exact (Below.refl _ w).alloc (Nat.le_refl _) _
  have hsz0 : W0.heap.size = w.heap.size + 1 := by rw [← hW0]; simp
  rw [hW0] at hbx ⊢
  refine wpIn_rangeFunc_ownH rfl (by omega) (gf := g) (lb := lb) rfl trivial eg (hseq 4 (by omega)) walksK_t walksK_b hB0 (fun _ => rfl)
    (fun pre W => (∃ v, Boxed W w.heap.size 26 v ∧ W.ownsRow w.heap.size 28 8 v pre.length (pre.flatMap Rep.cells) ∧ (v = .slice none 0 0 ↔ pre = [])) ∧ Below w.heap.size w W)
    (fun _ _ _ => False) ?hI (fun _ _ _ _ _ hs _ _ => hs) ?h0
    (fun x a' W => ∃ Bx, w.heap.size + 1 ≤ Bx ∧ W.heap[Bx]? = some (.cells (Rep.cells x).toArray 28 (0, 0)) ∧ a' = { tmps := #[.slice none 0 0, .func (.func g) #[] lb, .pointer (some ⟨w.heap.size, 0, none⟩), undef, .slice none 0 0, .pointer (some ⟨Bx, 0, none⟩), .func (.func g) #[] lb, Rep.val x, undef, undef, undef, undef, undef], defers := [] }) ?hAx ?assign ?body ?done ?stop
  case hI =>
    intro s A B row hs hg hr
    obtain ⟨⟨v, h1, h2, h3⟩, h4⟩ := hs
    refine ⟨⟨v, h1.kept hg (fun e => ?_), h2.kept hg ?_, h3⟩, h4.grown hg h4.size (fun k e => by have := (hr k e).1; omega)⟩
    · obtain ⟨_, o, ho, hc⟩ := hr _ e.symm
      rw [show A.heap[w.heap.size]? = _ from h1] at ho
      cases ho; cases hc
    · rcases h2.2 with ⟨rfl, _⟩ | ⟨gg, cap, cur, rfl, _, hgb, _⟩
      · exact .inl rfl
      · refine .inr fun e => ?_
        obtain ⟨_, o, ho, hc⟩ := hr gg (by simpa [Value.ownBlock] using e.symm)
        rw [hgb] at ho; cases ho; cases hc
  case h0 => exact ⟨⟨_, hbx, World.ownsRow_nil _ _ _ _, by simp⟩, hB0⟩
  case hAx =>
    intro x a' u A B row hs hg hr
    obtain ⟨Bx, h1, h2, h3⟩ := hs
    refine ⟨Bx, h1, (hg.block Bx (Array.getElem?_eq_some_iff.1 h2).1 (fun e => ?_)).trans h2, h3⟩
    obtain ⟨_, o, ho, hc⟩ := hr _ e.symm
    rw [h2] at ho
    cases ho; cases hc
  case assign =>
    rintro l pre x W K ⟨⟨v, h1, h2, h3⟩, h4⟩ hK
    obtain ⟨x1, x2, x3, x4, x5, x6, x7, x8⟩ := x
    have hl := h1.lt
    simp only [Rep.val]
    gi_wp2
    exact hK _ _ ((KeepsOthers.alloc _ _).from _) (KeepsWalks.alloc _ _) ⟨⟨v, h1.alloc _, h2.alloc _, h3⟩, h4.alloc h4.size _⟩ ⟨W.heap.size, by omega, World.alloc_heap_new W _, rfl⟩
  case body =>
    rintro l pre x a' W hle hlr ⟨⟨v, h1, h2, h3⟩, h4⟩ ⟨Bx, hBx, hx, rfl⟩ hlt
    clear hseq hlr hbx hW0
    obtain ⟨x1, x2, x3, x4, x5, x6, x7, x8⟩ := x
    have hcx : ∀ j, W.cell? ⟨Bx, j, none⟩ = (Rep.cells ⟨x1, x2, x3, x4, x5, x6, x7, x8⟩)[j]? := fun j => by simp [World.cell?, hx]
    simp only [Rep.cells, Rep.val] at hcx ⊢
    have hc0 := h1.cell
    have h3 := Lib.hid h3
    gi_wp2_with (gi_at_builtin; refine wpListIn_append_own _ rfl _ _ 26 rfl w.heap.size 28 i0 (Rep.val ⟨0, 0, 0, 0, 0, 0, 0, false⟩) 8 64 Tryz.underlying26 hi hz0 hz1 hz2 rfl (by decide) _ _ _ rfl (h2.alloc _) ⟨W.heap.size, 0, none⟩ 1 1 (Rep.cells ⟨x1, x2, x3, x4, x5, x6, x7, x8⟩) rfl rfl (rep_new W _ 28) (by simp [Rep.cells, Value.oneCell']) (by simp only [maxLen]; omega) (by omega) (by have := h4.size; simp; omega) ?_; intro v' w1 hown' hgrow _; obtain ⟨g', cap', rfl⟩ := ownsRow_succ hown'; obtain ⟨hv1, hv2, hr2, hk2, hb2⟩ := h1.appended (by decide) h2 h4.size (Nat.le_refl _) hown' hgrow; have hc1 := hv1.cell; have hf1 := hv1.frozen)
    exact ⟨hk2.from _, ⟨hk2.size, fun k o h hw => hk2.same k o h (by cases o <;> simp_all [Obj.isWalk, Obj.isCells])⟩, ⟨_, hv2, by simpa [List.flatMap_append] using hr2, by simp⟩, h4.trans hb2⟩
  case done =>
    rintro D xs W hD hS ⟨⟨v, h1, h2, h3⟩, h4⟩ hK
    have hc0 := h1.cell
    gi_wp2
    refine ⟨by simp, .inl ⟨_, _, rfl, run_takeDeferred hK, ?_⟩⟩
    exact ⟨v, by simp [results, Tryz.f124], v, xs, rfl, hS, ownsRow_putObj h2 _ hK rfl, h3, h4.trans (belowK_b (w := w) (Nat.le_refl _) W D _ _ (by omega) hK rfl rfl)⟩
  case stop => rintro D c pre W hD hS hF; exact hF.elim

set_option maxHeartbeats 1000000 in
theorem rep_collect (g : Nat) (lb : Array Value) (eg : ∀ args w, (callFunc g args).run Tryz.prog w = .ok (.enter g args) w)
    (S Sp : List Rep → Prop) (N : Nat) (hN : N ≤ 4294967296) (w : World) (hseq : ∀ n, 1 ≤ n → SeqStopsK Fence.wide n Tryz.prog g lb (fun x : Rep => #[Rep.val x]) KeepsWalks S Sp N w) :
    Calls Tryz.prog 89 #[.func (.func g) #[] lb] w fun e w' => ∃ (v : Value) (ss : List Rep), e = .returned v ∧ S ss ∧ w'.ownsRow w.heap.size 28 8 v ss.length (ss.flatMap Rep.cells) ∧ (v = .slice none 0 0 ↔ ss = []) ∧ Below w.heap.size w w' := by
  have hc := rep_appendSeq g lb eg S Sp N hN w hseq
  clear hseq
  go_enter Tryz.func89, Tryz.ntmps89
  go_wp2_with fail
  refine hc.mono ?_
  rintro e w' ⟨v, ss, rfl, h⟩
  go_wp2_with fail
  go_ret
  exact ⟨v, ss, rfl, h⟩

/-- what slices.Collect gives of the keys of a map -/
theorem rep_collectKeys (b : Nat) (kv : List (Rep × Bool)) (w : World) (hN : kv.length ≤ 4294967296) (Bm : Nat) (hBm : Bm < w.heap.size) (hm : w.cell? ⟨Bm, 0, none⟩ = some (.map (some b))) (hown : MapIs Rep.val boolV w b kv) :
    Calls Tryz.prog 89 #[.func (.func 91) #[] #[.pointer (some ⟨Bm, 0, none⟩)]] w fun e w' => ∃ (v : Value) (ss : List Rep), e = .returned v ∧ ss.Perm (kv.map (·.1)) ∧ w'.ownsRow w.heap.size 28 8 v ss.length (ss.flatMap Rep.cells) ∧ (v = .slice none 0 0 ↔ ss = []) ∧ Below w.heap.size w w' :=
  rep_collect 91 _ (enters_of Tryz.func91 (by kernel_rfl) rfl) _ _ kv.length hN w (fun n hn => rep_keys1 Fence.wide n trivial rfl hn Bm b kv w hBm hm hown)
end Go.Proofs.YtfoenojohemccaaGreatDoor
namespace Go.Proofs.YtfoenojohemccaaGreatDoor
open Go.RowKit Go.Shelf Go.Proofs
attribute [local go_sem] Oper.semAt_some

theorem exc_new (w : World) (cs : List Value) (T : TypeId) : ∀ j u, cs[j]? = some u → (w.alloc (.cells cs.toArray T)).cell? ((⟨w.heap.size, 0, none⟩ : Addr).add j) = some u := by
  intro j u h
  have : (⟨w.heap.size, 0, none⟩ : Addr).add j = ⟨w.heap.size, j, none⟩ := by simp [Addr.add]; omega
  rw [this, World.cell?_alloc_new]
  simpa using h

theorem exc_walks {κ ν : Type} {enc : κ → Value} {encV : ν → Value} {w w' : World} {r b : Nat} {kv left : List (κ × ν)} (h : RangeIs enc encV w r b kv left) (hk : KeepsWalks w w') : RangeIs enc encV w' r b kv left := by
  obtain ⟨es, clock, seen, Z, hb, hr, rest⟩ := h
  exact ⟨es, clock, seen, Z, hk.same b _ hb rfl, hk.same r _ hr rfl, rest⟩

set_option maxRecDepth 100000 in
set_option maxHeartbeats 1000000 in
theorem exc_keys1 (F : Fence) (n : Nat) (hF : F.fn 96) (hro : F.round = none) (hn : 1 ≤ n) (Bm b : Nat) (kv : List (Exc × Bool)) (w : World)
    (hBm : Bm < w.heap.size) (hm : w.cell? ⟨Bm, 0, none⟩ = some (.map (some b))) (hown : MapIs Exc.val boolV w b kv) :
    SeqStopsK F n Tryz.prog 96 #[.pointer (some ⟨Bm, 0, none⟩)] (fun x : Exc => #[Exc.val x]) KeepsWalks (fun xs => xs.Perm (kv.map (·.1))) (fun _ => True) kv.length w := by
  intro l J Jx W hW hJ hJx hY h0
  have hm' : W.cell? ⟨Bm, 0, none⟩ = some (.map (some b)) := (hW.cell (p := ⟨Bm, 0, none⟩) hBm).trans hm
  have hown' : MapIs Exc.val boolV W b kv := hown.below hW hown.lt
  clear hm hown
  obtain ⟨w0, hrun, hrg0, hg0, hs0⟩ := run_range (P := Tryz.prog) Tryz.underlying91 hown'
  have hJ0 : J [] w0 := hJ [] W w0 none h0 hg0 (fun r e => by cases e)
  refine callsIn_of_wp Tryz.func96 rfl hF ?_ hro
  simp only [Tryz.ntmps96, List.size_toArray, List.length_cons, List.length_nil, Nat.reduceAdd, Nat.reduceSub, Array.replicate_succ, Array.replicate_zero, List.push_toArray, List.append_toArray, List.nil_append, List.cons_append]
  gi_wp2
  gi_loopw [3] (fun _ wr => ∃ (left : List (Exc × Bool)) (ss : List Exc), RangeIs Exc.val boolV wr W.heap.size b kv left ∧ (ss ++ left.map (·.1)).Perm (kv.map (·.1)) ∧ ss.length + left.length = kv.length ∧ J ss wr)
    (fun _ wr => itLeft wr W.heap.size)
  case atStart =>
    exact ⟨kv, [], hrg0, by simp, by simp, hJ0⟩
  case round =>
    obtain ⟨left, ss, hrg, hperm, hlen, hJs⟩ := hrel
    clear hrun hrg0 hg0 hs0 hJ0
    rcases run_next (P := Tryz.prog) hrg 0 with ⟨rfl, hnx⟩ | ⟨x, left', w2, hp, hnx, hrg2, hg2, hs2, hen⟩
    · gi_wp2
      go_end0
      exact ⟨⟨_, rfl⟩, .inl ⟨ss, by simpa using hperm, hJs⟩⟩
    · have hJ2 : J ss w2 := hJ ss wr w2 (some W.heap.size) hJs hg2 (fun r e => by
        cases e
        obtain ⟨es, clock, seen, Z, _, hr, _⟩ := hrg
        exact ⟨Nat.le_refl _, _, hr, rfl⟩)
      have hlen2 : left.length = left'.length + 1 := by have := hp.length_eq; simpa using this
      have hperm2 : ((ss ++ [x.1]) ++ left'.map (·.1)).Perm (kv.map (·.1)) := by
        refine List.Perm.trans ?_ hperm
        rw [List.append_assoc]
        exact List.Perm.append_left ss (by simpa using (hp.map (·.1)).symm)
      have hlm : itLeft wr W.heap.size = left.length := hrg.len
      clear hs2 hg2 hperm hp hrg
      obtain ⟨y, hy0⟩ : ∃ y, y = x.1 := ⟨_, rfl⟩
      rw [← hy0] at hnx hen hperm2
      have hJ3 : J ss (w2.alloc (.cells (Exc.cells y).toArray 36)) := hJ ss w2 _ none hJ2 (World.grownBy_alloc w2 _ none) (fun r e => by cases e)
      have hrg3 := hrg2.alloc (.cells (Exc.cells y).toArray 36)
      obtain ⟨fn, tmps, assign, body, hy, hR⟩ := hY ss y (w2.alloc (.cells (Exc.cells y).toArray 36)) hJ3 (by omega)
      clear hy0 hJ3 hJ2 hrg2 hm' hown' h0
      obtain ⟨x1, x2, x3, x4, x5⟩ := y
      simp only [Exc.val, Exc.cells, boolV] at hnx hen hy
      have hrg3 := Lib.hid hrg3
      have hperm2 := Lib.hid hperm2
      have hlm := Lib.hid hlm
      gi_wp2
      refine hR.mono ?_
      rintro e W3 (⟨rfl, hJ4, hk⟩ | ⟨rfl, hJx4⟩)
      · gi_wp2
        have hrg4 := exc_walks hrg3.out hk
        refine ⟨⟨left', _, hrg4, hperm2.out, by simp; omega, hJ4⟩, ?_⟩
        rw [hrg4.len, hlm.out]; omega
      · gi_wp2
        try simp only [Exit.inBlock, Exit.then]
        refine bodyPost_ret (results_none rfl _ _ _) rfl ?_
        exact ⟨⟨_, rfl⟩, .inr ⟨_, trivial, hJx4⟩⟩

/-- maps.Keys(m): the map is boxed; the function value captures the box. -/
theorem exc_keys (mb : Option Nat) (w : World) :
    Calls Tryz.prog 57 #[.map mb] w fun e w' => e = .returned (.func (.func 96) #[] #[.pointer (some ⟨w.heap.size, 0, none⟩)]) ∧ w.alloc (.cells #[.map mb] 91) = w' := by
  go_enter Tryz.func57, Tryz.ntmps57
  go_wp2
  go_ret
  exact ⟨rfl, rfl⟩

theorem Tryz.info36 : (Tryz.prog.info? 36).map (fun i => (i.zero, i.size, i.bytes)) = some (some (Exc.val ⟨0, 0, 0, 0, 0⟩), 5, 40) := by kernel_rfl

set_option maxRecDepth 100000 in
set_option maxHeartbeats 2000000 in
/-- slices.AppendSeq(nil, seq) against an iterator value that gives these elements -/
theorem exc_appendSeq (g : Nat) (lb : Array Value) (eg : ∀ args w, (callFunc g args).run Tryz.prog w = .ok (.enter g args) w)
    (S Sp : List Exc → Prop) (N : Nat) (hN : N ≤ 4294967296) (w : World) (hseq : ∀ n, 1 ≤ n → SeqStopsK Fence.wide n Tryz.prog g lb (fun x : Exc => #[Exc.val x]) KeepsWalks S Sp N w) :
    Calls Tryz.prog 127 #[.slice none 0 0, .func (.func g) #[] lb] w fun e w' => ∃ (v : Value) (ss : List Exc), e = .returned v ∧ S ss ∧ w'.ownsRow w.heap.size 36 5 v ss.length (ss.flatMap Exc.cells) ∧ (v = .slice none 0 0 ↔ ss = []) ∧ Below w.heap.size w w' := by
  obtain ⟨i0, hi, hz0, hz1, hz2⟩ := info_parts Tryz.info36
  refine (callsIn_wide (n := 5)).1 ?_
  refine callsIn_of_wp_marks Tryz.func127 rfl trivial ?_ rfl
  simp only [Tryz.ntmps127, List.size_toArray, List.length_cons, List.length_nil, Nat.reduceAdd, Nat.reduceSub, Array.replicate_succ, Array.replicate_zero, List.push_toArray, List.append_toArray, List.nil_append, List.cons_append]
  gi_wp2
  have hbx := Boxed.new w 32 (.slice none 0 0)
  obtain ⟨W0, hW0⟩ : ∃ W0, w.alloc (.cells #[.slice none 0 0] 32) = W0 := ⟨_, rfl⟩
  have hB0 : Below w.heap.size w W0 := by rw [← hW0]; exact (Below.refl _ w).alloc (Nat.le_refl _) _
  have hsz0 : W0.heap.size = w.heap.size + 1 := by rw [← hW0]; simp
  rw [hW0] at hbx ⊢
  refine wpIn_rangeFunc_ownH rfl (by omega) (gf := g) (lb := lb) rfl trivial eg (hseq 4 (by omega)) walksK_t walksK_b hB0 (fun _ => rfl)
    (fun pre W => (∃ v, Boxed W w.heap.size 32 v ∧ W.ownsRow w.heap.size 36 5 v pre.length (pre.flatMap Exc.cells) ∧ (v = .slice none 0 0 ↔ pre = [])) ∧ Below w.heap.size w W)
    (fun _ _ _ => False) ?hI (fun _ _ _ _ _ hs _ _ => hs) ?h0
    (fun x a' W => ∃ Bx, w.heap.size + 1 ≤ Bx ∧ W.heap[Bx]? = some (.cells (Exc.cells x).toArray 36 (0, 0)) ∧ a' = { tmps := #[.slice none 0 0, .func (.func g) #[] lb, .pointer (some ⟨w.heap.size, 0, none⟩), undef, .slice none 0 0, .pointer (some ⟨Bx, 0, none⟩), .func (.func g) #[] lb, Exc.val x, undef, undef, undef, undef, undef], defers := [] }) ?hAx ?assign ?body ?done ?stop
  case hI =>
    intro s A B row hs hg hr
    obtain ⟨⟨v, h1, h2, h3⟩, h4⟩ := hs
    refine ⟨⟨v, h1.kept hg (fun e => ?_), h2.kept hg ?_, h3⟩, h4.grown hg h4.size (fun k e => by have := (hr k e).1; omega)⟩
    · obtain ⟨_, o, ho, hc⟩ := hr _ e.symm
      rw [show A.heap[w.heap.size]? = _ from h1] at ho
      cases ho; cases hc
    · rcases h2.2 with ⟨rfl, _⟩ | ⟨gg, cap, cur, rfl, _, hgb, _⟩
      · exact .inl rfl
      · refine .inr fun e => ?_
        obtain ⟨_, o, ho, hc⟩ := hr gg (by simpa [Value.ownBlock] using e.symm)
        rw [hgb] at ho; cases ho; cases hc
  case h0 => exact ⟨⟨_, hbx, World.ownsRow_nil _ _ _ _, by simp⟩, hB0⟩
  case hAx =>
    intro x a' u A B row hs hg hr
    obtain ⟨Bx, h1, h2, h3⟩ := hs
    refine ⟨Bx, h1, (hg.block Bx (Array.getElem?_eq_some_iff.1 h2).1 (fun e => ?_)).trans h2, h3⟩
    obtain ⟨_, o, ho, hc⟩ := hr _ e.symm
    rw [h2] at ho
    cases ho; cases hc
  case assign =>
    rintro l pre x W K ⟨⟨v, h1, h2, h3⟩, h4⟩ hK
    obtain ⟨x1, x2, x3, x4, x5⟩ := x
    have hl := h1.lt
    simp only [Exc.val]
    gi_wp2
    exact hK _ _ ((KeepsOthers.alloc _ _).from _) (KeepsWalks.alloc _ _) ⟨⟨v, h1.alloc _, h2.alloc _, h3⟩, h4.alloc h4.size _⟩ ⟨W.heap.size, by omega, World.alloc_heap_new W _, rfl⟩
  case body =>
    rintro l pre x a' W hle hlr ⟨⟨v, h1, h2, h3⟩, h4⟩ ⟨Bx, hBx, hx, rfl⟩ hlt
    clear hseq hlr hbx hW0
    obtain ⟨x1, x2, x3, x4, x5⟩ := x
    have hcx : ∀ j, W.cell? ⟨Bx, j, none⟩ = (Exc.cells ⟨x1, x2, x3, x4, x5⟩)[j]? := fun j => by simp [World.cell?, hx]
    simp only [Exc.cells, Exc.val] at hcx ⊢
    have hc0 := h1.cell
    have h3 := Lib.hid h3
    gi_wp2_with (gi_at_builtin; refine wpListIn_append_own _ rfl _ _ 32 rfl w.heap.size 36 i0 (Exc.val ⟨0, 0, 0, 0, 0⟩) 5 40 Tryz.underlying32 hi hz0 hz1 hz2 rfl (by decide) _ _ _ rfl (h2.alloc _) ⟨W.heap.size, 0, none⟩ 1 1 (Exc.cells ⟨x1, x2, x3, x4, x5⟩) rfl rfl (exc_new W _ 36) (by simp [Exc.cells, Value.oneCell']) (by simp only [maxLen]; omega) (by omega) (by have := h4.size; simp; omega) ?_; intro v' w1 hown' hgrow _; obtain ⟨g', cap', rfl⟩ := ownsRow_succ hown'; obtain ⟨hv1, hv2, hr2, hk2, hb2⟩ := h1.appended (by decide) h2 h4.size (Nat.le_refl _) hown' hgrow; have hc1 := hv1.cell; have hf1 := hv1.frozen)
    exact ⟨hk2.from _, ⟨hk2.size, fun k o h hw => hk2.same k o h (by cases o <;> simp_all [Obj.isWalk, Obj.isCells])⟩, ⟨_, hv2, by simpa [List.flatMap_append] using hr2, by simp⟩, h4.trans hb2⟩
  case done =>
    rintro D xs W hD hS ⟨⟨v, h1, h2, h3⟩, h4⟩ hK
    have hc0 := h1.cell
    gi_wp2
    refine ⟨by simp, .inl ⟨_, _, rfl, run_takeDeferred hK, ?_⟩⟩
    exact ⟨v, by simp [results, Tryz.f127], v, xs, rfl, hS, ownsRow_putObj h2 _ hK rfl, h3, h4.trans (belowK_b (w := w) (Nat.le_refl _) W D _ _ (by omega) hK rfl rfl)⟩
  case stop => rintro D c pre W hD hS hF; exact hF.elim

set_option maxHeartbeats 1000000 in
theorem exc_collect (g : Nat) (lb : Array Value) (eg : ∀ args w, (callFunc g args).run Tryz.prog w = .ok (.enter g args) w)
    (S Sp : List Exc → Prop) (N : Nat) (hN : N ≤ 4294967296) (w : World) (hseq : ∀ n, 1 ≤ n → SeqStopsK Fence.wide n Tryz.prog g lb (fun x : Exc => #[Exc.val x]) KeepsWalks S Sp N w) :
    Calls Tryz.prog 94 #[.func (.func g) #[] lb] w fun e w' => ∃ (v : Value) (ss : List Exc), e = .returned v ∧ S ss ∧ w'.ownsRow w.heap.size 36 5 v ss.length (ss.flatMap Exc.cells) ∧ (v = .slice none 0 0 ↔ ss = []) ∧ Below w.heap.size w w' := by
  have hc := exc_appendSeq g lb eg S Sp N hN w hseq
  clear hseq
  go_enter Tryz.func94, Tryz.ntmps94
  go_wp2_with fail
  refine hc.mono ?_
  rintro e w' ⟨v, ss, rfl, h⟩
  go_wp2_with fail
  go_ret
  exact ⟨v, ss, rfl, h⟩

/-- what slices.Collect gives of the keys of a map -/
theorem exc_collectKeys (b : Nat) (kv : List (Exc × Bool)) (w : World) (hN : kv.length ≤ 4294967296) (Bm : Nat) (hBm : Bm < w.heap.size) (hm : w.cell? ⟨Bm, 0, none⟩ = some (.map (some b))) (hown : MapIs Exc.val boolV w b kv) :
    Calls Tryz.prog 94 #[.func (.func 96) #[] #[.pointer (some ⟨Bm, 0, none⟩)]] w fun e w' => ∃ (v : Value) (ss : List Exc), e = .returned v ∧ ss.Perm (kv.map (·.1)) ∧ w'.ownsRow w.heap.size 36 5 v ss.length (ss.flatMap Exc.cells) ∧ (v = .slice none 0 0 ↔ ss = []) ∧ Below w.heap.size w w' :=
  exc_collect 96 _ (enters_of Tryz.func96 (by kernel_rfl) rfl) _ _ kv.length hN w (fun n hn => exc_keys1 Fence.wide n trivial rfl hn Bm b kv w hBm hm hown)
end Go.Proofs.YtfoenojohemccaaGreatDoor
namespace Go.Proofs.YtfoenojohemccaaGreatDoor
open Go.RowKit Go.Shelf Go.Proofs
attribute [local go_sem] Oper.semAt_some

theorem int_new (w : World) (cs : List Value) (T : TypeId) : ∀ j u, cs[j]? = some u → (w.alloc (.cells cs.toArray T)).cell? ((⟨w.heap.size, 0, none⟩ : Addr).add j) = some u := by
  intro j u h
  have : (⟨w.heap.size, 0, none⟩ : Addr).add j = ⟨w.heap.size, j, none⟩ := by simp [Addr.add]; omega
  rw [this, World.cell?_alloc_new]
  simpa using h

def intC (n : Int) : List Value := [intV n]
theorem int_walks {κ ν : Type} {enc : κ → Value} {encV : ν → Value} {w w' : World} {r b : Nat} {kv left : List (κ × ν)} (h : RangeIs enc encV w r b kv left) (hk : KeepsWalks w w') : RangeIs enc encV w' r b kv left := by
  obtain ⟨es, clock, seen, Z, hb, hr, rest⟩ := h
  exact ⟨es, clock, seen, Z, hk.same b _ hb rfl, hk.same r _ hr rfl, rest⟩

set_option maxRecDepth 100000 in
set_option maxHeartbeats 1000000 in
theorem int_keys1 (F : Fence) (n : Nat) (hF : F.fn 197) (hro : F.round = none) (hn : 1 ≤ n) (Bm b : Nat) (kv : List (Int × Bool)) (w : World)
    (hBm : Bm < w.heap.size) (hm : w.cell? ⟨Bm, 0, none⟩ = some (.map (some b))) (hown : MapIs intV boolV w b kv) :
    SeqStopsK F n Tryz.prog 197 #[.pointer (some ⟨Bm, 0, none⟩)] (fun x : Int => #[intV x]) KeepsWalks (fun xs => xs.Perm (kv.map (·.1))) (fun _ => True) kv.length w := by
  intro l J Jx W hW hJ hJx hY h0
  have hm' : W.cell? ⟨Bm, 0, none⟩ = some (.map (some b)) := (hW.cell (p := ⟨Bm, 0, none⟩) hBm).trans hm
  have hown' : MapIs intV boolV W b kv := hown.below hW hown.lt
  clear hm hown
  obtain ⟨w0, hrun, hrg0, hg0, hs0⟩ := run_range (P := Tryz.prog) Tryz.underlying108 hown'
  have hJ0 : J [] w0 := hJ [] W w0 none h0 hg0 (fun r e => by cases e)
  refine callsIn_of_wp Tryz.func197 rfl hF ?_ hro
  simp only [Tryz.ntmps197, List.size_toArray, List.length_cons, List.length_nil, Nat.reduceAdd, Nat.reduceSub, Array.replicate_succ, Array.replicate_zero, List.push_toArray, List.append_toArray, List.nil_append, List.cons_append]
  gi_wp2
  gi_loopw [3] (fun _ wr => ∃ (left : List (Int × Bool)) (ss : List Int), RangeIs intV boolV wr W.heap.size b kv left ∧ (ss ++ left.map (·.1)).Perm (kv.map (·.1)) ∧ ss.length + left.length = kv.length ∧ J ss wr)
    (fun _ wr => itLeft wr W.heap.size)
  case atStart =>
    exact ⟨kv, [], hrg0, by simp, by simp, hJ0⟩
  case round =>
    obtain ⟨left, ss, hrg, hperm, hlen, hJs⟩ := hrel
    clear hrun hrg0 hg0 hs0 hJ0
    rcases run_next (P := Tryz.prog) hrg 0 with ⟨rfl, hnx⟩ | ⟨x, left', w2, hp, hnx, hrg2, hg2, hs2, hen⟩
    · gi_wp2
      go_end0
      exact ⟨⟨_, rfl⟩, .inl ⟨ss, by simpa using hperm, hJs⟩⟩
    · have hJ2 : J ss w2 := hJ ss wr w2 (some W.heap.size) hJs hg2 (fun r e => by
        cases e
        obtain ⟨es, clock, seen, Z, _, hr, _⟩ := hrg
        exact ⟨Nat.le_refl _, _, hr, rfl⟩)
      have hlen2 : left.length = left'.length + 1 := by have := hp.length_eq; simpa using this
      have hperm2 : ((ss ++ [x.1]) ++ left'.map (·.1)).Perm (kv.map (·.1)) := by
        refine List.Perm.trans ?_ hperm
        rw [List.append_assoc]
        exact List.Perm.append_left ss (by simpa using (hp.map (·.1)).symm)
      have hlm : itLeft wr W.heap.size = left.length := hrg.len
      clear hs2 hg2 hperm hp hrg
      obtain ⟨y, hy0⟩ : ∃ y, y = x.1 := ⟨_, rfl⟩
      rw [← hy0] at hnx hen hperm2
      obtain ⟨fn, tmps, assign, body, hy, hR⟩ := hY ss y w2 hJ2 (by omega)
      clear hy0 hJ2 hm' hown' h0
      simp only [intV, boolV] at hnx hen hy
      have hrg3 := hrg2
      clear hrg2
      have hrg3 := Lib.hid hrg3
      have hperm2 := Lib.hid hperm2
      have hlm := Lib.hid hlm
      gi_wp2
      refine hR.mono ?_
      rintro e W3 (⟨rfl, hJ4, hk⟩ | ⟨rfl, hJx4⟩)
      · gi_wp2
        have hrg4 := int_walks hrg3.out hk
        refine ⟨⟨left', _, hrg4, hperm2.out, by simp; omega, hJ4⟩, ?_⟩
        rw [hrg4.len, hlm.out]; omega
      · gi_wp2
        try simp only [Exit.inBlock, Exit.then]
        refine bodyPost_ret (results_none rfl _ _ _) rfl ?_
        exact ⟨⟨_, rfl⟩, .inr ⟨_, trivial, hJx4⟩⟩

/-- maps.Keys(m): the map is boxed; the function value captures the box. -/
theorem int_keys (mb : Option Nat) (w : World) :
    Calls Tryz.prog 174 #[.map mb] w fun e w' => e = .returned (.func (.func 197) #[] #[.pointer (some ⟨w.heap.size, 0, none⟩)]) ∧ w.alloc (.cells #[.map mb] 108) = w' := by
  go_enter Tryz.func174, Tryz.ntmps174
  go_wp2
  go_ret
  exact ⟨rfl, rfl⟩

theorem Tryz.info3 : (Tryz.prog.info? 3).map (fun i => (i.zero, i.size, i.bytes)) = some (some (.int .i64 0), 1, 8) := by kernel_rfl

set_option maxRecDepth 100000 in
set_option maxHeartbeats 2000000 in
/-- slices.AppendSeq(nil, seq) against an iterator value that gives these elements -/
theorem int_appendSeq (g : Nat) (lb : Array Value) (eg : ∀ args w, (callFunc g args).run Tryz.prog w = .ok (.enter g args) w)
    (S Sp : List Int → Prop) (N : Nat) (hN : N ≤ 4294967296) (w : World) (hseq : ∀ n, 1 ≤ n → SeqStopsK Fence.wide n Tryz.prog g lb (fun x : Int => #[intV x]) KeepsWalks S Sp N w) :
    Calls Tryz.prog 208 #[.slice none 0 0, .func (.func g) #[] lb] w fun e w' => ∃ (v : Value) (ss : List Int), e = .returned v ∧ S ss ∧ w'.ownsRow w.heap.size 3 1 v ss.length (ss.flatMap intC) ∧ (v = .slice none 0 0 ↔ ss = []) ∧ Below w.heap.size w w' := by
  obtain ⟨i0, hi, hz0, hz1, hz2⟩ := info_parts Tryz.info3
  refine (callsIn_wide (n := 5)).1 ?_
  refine callsIn_of_wp_marks Tryz.func208 rfl trivial ?_ rfl
  simp only [Tryz.ntmps208, List.size_toArray, List.length_cons, List.length_nil, Nat.reduceAdd, Nat.reduceSub, Array.replicate_succ, Array.replicate_zero, List.push_toArray, List.append_toArray, List.nil_append, List.cons_append]
  gi_wp2
  have hbx := Boxed.new w 46 (.slice none 0 0)
  obtain ⟨W0, hW0⟩ : ∃ W0, w.alloc (.cells #[.slice none 0 0] 46) = W0 := ⟨_, rfl⟩
  have hB0 : Below w.heap.size w W0 := by rw [← hW0]; exact (Below.refl _ w).alloc (Nat.le_refl _) _
  have hsz0 : W0.heap.size = w.heap.size + 1 := by rw [← hW0]; simp
  rw [hW0] at hbx ⊢
  refine wpIn_rangeFunc_ownH rfl (by omega) (gf := g) (lb := lb) rfl trivial eg (hseq 4 (by omega)) walksK_t walksK_b hB0 (fun _ => rfl)
    (fun pre W => (∃ v, Boxed W w.heap.size 46 v ∧ W.ownsRow w.heap.size 3 1 v pre.length (pre.flatMap intC) ∧ (v = .slice none 0 0 ↔ pre = [])) ∧ Below w.heap.size w W)
    (fun _ _ _ => False) ?hI (fun _ _ _ _ _ hs _ _ => hs) ?h0
    (fun x a' _ => a' = { tmps := #[.slice none 0 0, .func (.func g) #[] lb, .pointer (some ⟨w.heap.size, 0, none⟩), undef, .slice none 0 0, intV x, .func (.func g) #[] lb, intV x, undef, undef, undef, undef, undef], defers := [] }) ?hAx ?assign ?body ?done ?stop
  case hI =>
    intro s A B row hs hg hr
    obtain ⟨⟨v, h1, h2, h3⟩, h4⟩ := hs
    refine ⟨⟨v, h1.kept hg (fun e => ?_), h2.kept hg ?_, h3⟩, h4.grown hg h4.size (fun k e => by have := (hr k e).1; omega)⟩
    · obtain ⟨_, o, ho, hc⟩ := hr _ e.symm
      rw [show A.heap[w.heap.size]? = _ from h1] at ho
      cases ho; cases hc
    · rcases h2.2 with ⟨rfl, _⟩ | ⟨gg, cap, cur, rfl, _, hgb, _⟩
      · exact .inl rfl
      · refine .inr fun e => ?_
        obtain ⟨_, o, ho, hc⟩ := hr gg (by simpa [Value.ownBlock] using e.symm)
        rw [hgb] at ho; cases ho; cases hc
  case h0 => exact ⟨⟨_, hbx, World.ownsRow_nil _ _ _ _, by simp⟩, hB0⟩
  case hAx => intro x a' u A B row hs hg hr; exact hs
  case assign =>
    rintro l pre x W K ⟨⟨v, h1, h2, h3⟩, h4⟩ hK
    have hl := h1.lt
    simp only [intV]
    gi_wp2
    exact hK _ _ (KeepsFrom.refl _ _) (KeepsWalks.refl _) ⟨⟨v, h1, h2, h3⟩, h4⟩ rfl
  case body =>
    rintro l pre x a' W hle hlr ⟨⟨v, h1, h2, h3⟩, h4⟩ rfl hlt
    clear hseq hlr hbx hW0
    simp only [intV]
    have hc0 := h1.cell
    have h3 := Lib.hid h3
    gi_wp2_with (gi_at_builtin; refine wpListIn_append_own _ rfl _ _ 46 rfl w.heap.size 3 i0 (.int .i64 0) 1 8 Tryz.underlying46 hi hz0 hz1 hz2 rfl (by decide) _ _ _ rfl (h2.alloc _) ⟨W.heap.size, 0, none⟩ 1 1 (intC x) rfl rfl (int_new W _ 3) (by simp [intC, intV, Value.oneCell']) (by simp only [maxLen]; omega) (by omega) (by have := h4.size; simp; omega) ?_; intro v' w1 hown' hgrow _; obtain ⟨g', cap', rfl⟩ := ownsRow_succ hown'; obtain ⟨hv1, hv2, hr2, hk2, hb2⟩ := h1.appended (by decide) h2 h4.size (Nat.le_refl _) hown' hgrow; have hc1 := hv1.cell; have hf1 := hv1.frozen)
    exact ⟨hk2.from _, ⟨hk2.size, fun k o h hw => hk2.same k o h (by cases o <;> simp_all [Obj.isWalk, Obj.isCells])⟩, ⟨_, hv2, by simpa [List.flatMap_append] using hr2, by simp⟩, h4.trans hb2⟩
  case done =>
    rintro D xs W hD hS ⟨⟨v, h1, h2, h3⟩, h4⟩ hK
    have hc0 := h1.cell
    gi_wp2
    refine ⟨by simp, .inl ⟨_, _, rfl, run_takeDeferred hK, ?_⟩⟩
    exact ⟨v, by simp [results, Tryz.f208], v, xs, rfl, hS, ownsRow_putObj h2 _ hK rfl, h3, h4.trans (belowK_b (w := w) (Nat.le_refl _) W D _ _ (by omega) hK rfl rfl)⟩
  case stop => rintro D c pre W hD hS hF; exact hF.elim

set_option maxHeartbeats 1000000 in
theorem int_collect (g : Nat) (lb : Array Value) (eg : ∀ args w, (callFunc g args).run Tryz.prog w = .ok (.enter g args) w)
    (S Sp : List Int → Prop) (N : Nat) (hN : N ≤ 4294967296) (w : World) (hseq : ∀ n, 1 ≤ n → SeqStopsK Fence.wide n Tryz.prog g lb (fun x : Int => #[intV x]) KeepsWalks S Sp N w) :
    Calls Tryz.prog 195 #[.func (.func g) #[] lb] w fun e w' => ∃ (v : Value) (ss : List Int), e = .returned v ∧ S ss ∧ w'.ownsRow w.heap.size 3 1 v ss.length (ss.flatMap intC) ∧ (v = .slice none 0 0 ↔ ss = []) ∧ Below w.heap.size w w' := by
  have hc := int_appendSeq g lb eg S Sp N hN w hseq
  clear hseq
  go_enter Tryz.func195, Tryz.ntmps195
  go_wp2_with fail
  refine hc.mono ?_
  rintro e w' ⟨v, ss, rfl, h⟩
  go_wp2_with fail
  go_ret
  exact ⟨v, ss, rfl, h⟩

/-- what slices.Collect gives of the keys of a map -/
theorem int_collectKeys (b : Nat) (kv : List (Int × Bool)) (w : World) (hN : kv.length ≤ 4294967296) (Bm : Nat) (hBm : Bm < w.heap.size) (hm : w.cell? ⟨Bm, 0, none⟩ = some (.map (some b))) (hown : MapIs intV boolV w b kv) :
    Calls Tryz.prog 195 #[.func (.func 197) #[] #[.pointer (some ⟨Bm, 0, none⟩)]] w fun e w' => ∃ (v : Value) (ss : List Int), e = .returned v ∧ ss.Perm (kv.map (·.1)) ∧ w'.ownsRow w.heap.size 3 1 v ss.length (ss.flatMap intC) ∧ (v = .slice none 0 0 ↔ ss = []) ∧ Below w.heap.size w w' :=
  int_collect 197 _ (enters_of Tryz.func197 (by kernel_rfl) rfl) _ _ kv.length hN w (fun n hn => int_keys1 Fence.wide n trivial rfl hn Bm b kv w hBm hm hown)
end Go.Proofs.YtfoenojohemccaaGreatDoor
