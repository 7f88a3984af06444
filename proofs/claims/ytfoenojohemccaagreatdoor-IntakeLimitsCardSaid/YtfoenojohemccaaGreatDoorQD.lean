/- report.Set of a list without doubles, report.Counting. | What slices.DeleteFunc needs of rows of elements of k cells: clear, an element stored, plain lists. -/
import Derived.Test.YtfoenojohemccaaGreatDoorN2
import Derived.Laws.CopyRow
namespace Go.Proofs.YtfoenojohemccaaGreatDoor
open Go.RowKit Go.Sort Go.Proofs

theorem ownsRow_mono {w : World} {base base' : Nat} {e : TypeId} {size : Nat} {v : Value} {n : Nat} {xs : List Value} (h : w.ownsRow base e size v n xs) (hb : base' ≤ base) : w.ownsRow base' e size v n xs := by
  refine ⟨h.1, ?_⟩
  rcases h.2 with h2 | ⟨g, cap, cur, hv, hbg, rest⟩
  · exact .inl h2
  · exact .inr ⟨g, cap, cur, hv, Nat.le_trans hb hbg, rest⟩
theorem own_ne {w : World} {base : Nat} {e : TypeId} {size : Nat} {v : Value} {n : Nat} {xs : List Value} (h : w.ownsRow base e size v n xs) {k : Nat} (hk : k < base) : some k ≠ v.ownBlock := by
  intro e
  have := (h.lt k e.symm).1
  omega
theorem nodup_chain {α : Type} {l : List α} (h : l.Nodup) : ∀ k (hk : k + 1 < l.length), l[k + 1] ≠ l[k] := by
  intro k hk e
  exact List.pairwise_iff_getElem.1 h k (k + 1) (by omega) hk (by omega) e.symm

set_option maxHeartbeats 1000000 in
theorem set_uniq (l : List Rep) (v : Value) (w : World) (hr : RowOf Rep.cells 8 w v l) (hN : l.length ≤ 4294967296) (hnd : l.Nodup) :
    Calls Tryz.prog 100 #[v] w fun e w' => ∃ v', e = .returned v' ∧ w'.ownsRow w.heap.size 28 8 v' (sortR l).length ((sortR l).flatMap Rep.cells) ∧ Below w.heap.size w w' := by
  have h1 := clone_any l v w hr hN
  go_enter Tryz.func100, Tryz.ntmps100
  go_wp2_with fail
  refine h1.mono ?_
  rintro e w1 ⟨v1, rfl, ho, hb⟩
  have h2 := sortFuncR l v1 _ _ w1 rfl ho (by omega)
  have H2 := Lib.hid h2
  clear h2 h1
  go_wp2_with fail
  refine H2.out.mono ?_
  rintro e w2 ⟨rfl, ho2, hg⟩
  rw [← sortR_len l] at ho2
  have h3 := compact_id (sortR l) v1 w2 (RowOf.of_owns Rep.cells_len ho2) (by rw [sortR_len]; exact hN) (nodup_chain ((sortR_perm_self l).nodup_iff.2 hnd))
  have H3 := Lib.hid h3
  clear h3
  go_wp2_with fail
  refine H3.out.mono ?_
  rintro e w3 ⟨rfl, hg3⟩
  go_wp2_with fail
  go_ret
  exact ⟨v1, rfl, ownsRow_mod ho2 (Mod.of_below (fun _ => False) hg3.below) (fun _ _ e => e), (below_grow hb hb.size ho (Nat.le_refl _) hg).trans (hg3.below.mono (by have := hb.size; have := hg.size; omega))⟩

theorem mem_aput {κ ν : Type} [DecidableEq κ] {kv : List (κ × ν)} {k : κ} {v : ν} {p : κ × ν} (h : p ∈ aput kv k v) : p ∈ kv ∨ p = (k, v) := by
  unfold aput at h
  split at h
  · exact (List.mem_or_eq_of_mem_set h)
  · simpa using h
theorem winL_idn (l : List Rep) : ∀ p ∈ winL l, p.1 = idn p.2 := by
  suffices H : ∀ (l : List Rep) (kv : List (Idn × Rep)), (∀ p ∈ kv, p.1 = idn p.2) → ∀ p ∈ l.foldl winStep kv, p.1 = idn p.2 from H l [] (by simp)
  intro l
  induction l with
  | nil => intro kv h; exact h
  | cons x l ih =>
    intro kv h
    refine ih _ ?_
    intro p hp
    have hput : p ∈ aput kv (idn x) x → p.1 = idn p.2 := fun hm => by
      rcases mem_aput hm with h1 | rfl
      · exact h p h1
      · rfl
    unfold winStep at hp
    split at hp
    · split at hp
      · exact hput hp
      · exact h p hp
    · exact hput hp
theorem winL_nodup (l : List Rep) (hn : ((winL l).map (·.1)).Nodup) : ((winL l).map (·.2)).Nodup := by
  have e : (winL l).map (·.1) = ((winL l).map (·.2)).map idn := by
    rw [List.map_map]
    exact List.map_congr_left fun p hp => winL_idn l p hp
  rw [e] at hn
  exact (List.pairwise_map.1 hn).imp (fun h e => h (by rw [e]))
theorem aput_len {κ ν : Type} [DecidableEq κ] (kv : List (κ × ν)) (k : κ) (v : ν) : (aput kv k v).length ≤ kv.length + 1 := by
  unfold aput; split <;> simp
theorem winL_len (l : List Rep) : (winL l).length ≤ l.length := by
  suffices H : ∀ (l : List Rep) (kv : List (Idn × Rep)), (l.foldl winStep kv).length ≤ kv.length + l.length by have := H l []; simpa [winL] using this
  intro l
  induction l with
  | nil => intro kv; simp
  | cons x l ih =>
    intro kv
    have h1 := ih (winStep kv x)
    have h2 : (winStep kv x).length ≤ kv.length + 1 := by
      have := aput_len kv (idn x) x
      unfold winStep
      split
      · split <;> omega
      · exact this
    simp only [List.foldl_cons, List.length_cons]
    omega

/-- the reports that count -/
def cntL (l : List Rep) : List Rep := sortR (((winL l).map (·.2)).filter fun r => !r.c)
theorem cntL_len (l : List Rep) : (cntL l).length ≤ l.length := by
  rw [cntL, sortR_len]
  refine Nat.le_trans (List.length_filter_le _ _) ?_
  rw [List.length_map]; exact winL_len l

set_option maxHeartbeats 4000000 in
set_option maxRecDepth 100000 in
theorem counting_any (l : List Rep) (v : Value) (w : World) (hr : RowOf Rep.cells 8 w v l) (hN : l.length ≤ 4294967296) :
    Calls Tryz.prog 60 #[v] w fun e w' => ∃ v', e = .returned v' ∧ w'.ownsRow w.heap.size 28 8 v' (cntL l).length ((cntL l).flatMap Rep.cells) ∧ Below w.heap.size w w' := by
  obtain ⟨i0, hi, hz0, hz1, hz2⟩ := info_parts Tryz.info28
  have h1 := winners_any l v w hr hN
  have hwl := winL_len l
  go_enter Tryz.func60, Tryz.ntmps60
  go_wp2_with fail
  refine h1.mono ?_
  rintro e w1 ⟨rfl, hm, hb⟩
  have hnd := winL_nodup l hm.nodup
  obtain ⟨kv, hkv⟩ : ∃ kv, kv = winL l := ⟨_, rfl⟩
  rw [← hkv] at hm hnd hwl
  have hsz1 : w.heap.size < w1.heap.size := hm.lt
  obtain ⟨w2, hrun, hrg0, hg0, hs0⟩ := run_range (P := Tryz.prog) Tryz.underlying147 hm
  have hb2 : Below w.heap.size w w2 := hb.grown hg0 hb.size (fun _ e => by cases e)
  have H0 := Lib.hid (And.intro hrg0 (And.intro hb2 (And.intro hkv hnd)))
  clear h1 hm hb hg0 hrg0 hb2 hkv hnd
  go_wp2_with fail
  go_loopw [3, 5] (fun s _ wr => ∃ (left : List (Idn × Rep)) (done : List Rep), RangeIs Idn.val Rep.val wr w1.heap.size w.heap.size kv left ∧ (done ++ (left.map (·.2)).filter fun r => !r.c).Perm ((kv.map (·.2)).filter fun r => !r.c) ∧ wr.ownsRow (w1.heap.size + 1) 28 8 s done.length (done.flatMap Rep.cells) ∧ w1.heap.size + 1 ≤ wr.heap.size ∧ Below w.heap.size w wr)
    (fun _ _ wr => itLeft wr w1.heap.size)
  case atStart =>
    obtain ⟨hrg0, hb2, _⟩ := H0.out
    exact ⟨kv, [], hrg0, by simp, World.ownsRow_nil _ _ _ _, by omega, hb2⟩
  case round =>
    obtain ⟨left, done, hrg, hperm, hown, hszr, hbl⟩ := hrel
    rcases run_next (P := Tryz.prog) hrg 0 with ⟨rfl, hnx⟩ | ⟨x, left', w3, hp, hnx, hrg2, hg2, hs2, hen⟩
    · obtain ⟨_, _, hkv, hnd⟩ := H0.out
      have hp2 : done.Perm ((kv.map (·.2)).filter fun r => !r.c) := by simpa using hperm
      have hdl : done.length ≤ 4294967296 := by
        rw [hp2.length_eq]
        refine Nat.le_trans (List.length_filter_le _ _) ?_
        rw [List.length_map]; omega
      have hset := set_uniq done
      have hsrt : sortR done = cntL l := by rw [cntL, ← hkv]; exact sortR_perm hp2
      have hdn : done.Nodup := hp2.nodup_iff.2 (hnd.filter _)
      rw [hsrt] at hset
      have HS := Lib.hid (hset u3 wr (RowOf.of_owns Rep.cells_len hown) hdl hdn)
      clear hset hperm hp2 hdl hdn hsrt hown hrg hkv hnd H0 hrun
      go_wp2_with fail
      refine HS.out.mono ?_
      rintro e w4 ⟨v', rfl, ho4, hb4⟩
      go_wp2_with fail
      go_ret
      exact ⟨v', rfl, ownsRow_mono ho4 hbl.size, hbl.trans (hb4.mono hbl.size)⟩
    · have hlt := hrg.lt
      have hown2 := hown.kept hg2 (by
        cases ho : u3.ownBlock with
        | none => exact .inl rfl
        | some b => exact .inr (fun e => by have h1 := (hown.lt b ho).1; injection e with e; omega))
      have hbl2 : Below w.heap.size w w3 := hbl.grown hg2 hbl.size (fun k e => by cases e; omega)
      have hlm : itLeft wr w1.heap.size = left'.length + 1 := by rw [hrg.len, hp.length_eq]; rfl
      have hperm2 : (done ++ ((x.2 :: left'.map (·.2)).filter fun r => !r.c)).Perm ((kv.map (·.2)).filter fun r => !r.c) := by
        refine List.Perm.trans ?_ hperm
        exact List.Perm.append_left done (((hp.map (·.2)).symm).filter _)
      obtain ⟨k, y⟩ := x
      have hdl : done.length ≤ 4294967296 := by
        have := hperm2.length_eq
        have h2 := List.length_filter_le (fun r : Rep => !r.c) (kv.map (·.2))
        rw [List.length_map] at h2
        rw [List.length_append] at this
        omega
      simp only [] at hnx hen hperm2
      clear hg2 hp hrg hperm hown hbl hrun hwl
      obtain ⟨k1, k2⟩ := k
      obtain ⟨x1, x2, x3, x4, x5, x6, x7, x8⟩ := y
      have hrg3 := hrg2.alloc (.cells (Rep.cells ⟨x1, x2, x3, x4, x5, x6, x7, x8⟩).toArray 28)
      have hown3 := hown2.alloc (.cells (Rep.cells ⟨x1, x2, x3, x4, x5, x6, x7, x8⟩).toArray 28)
      have hbl3 := hbl2.alloc hbl2.size (.cells (Rep.cells ⟨x1, x2, x3, x4, x5, x6, x7, x8⟩).toArray 28)
      simp only [Idn.val, Rep.val] at hnx hen
      have hnew : ∀ j u, (Rep.cells ⟨x1, x2, x3, x4, x5, x6, x7, x8⟩)[j]? = some u → ((w3.alloc (.cells (Rep.cells ⟨x1, x2, x3, x4, x5, x6, x7, x8⟩).toArray 28)).alloc (.cells (Rep.cells ⟨x1, x2, x3, x4, x5, x6, x7, x8⟩).toArray 28)).cell? ((⟨w3.heap.size + 1, 0, none⟩ : Addr).add j) = some u := by
        have := rep_new (w3.alloc (.cells (Rep.cells ⟨x1, x2, x3, x4, x5, x6, x7, x8⟩).toArray 28)) (Rep.cells ⟨x1, x2, x3, x4, x5, x6, x7, x8⟩) 28
        simpa only [World.size_alloc] using this
      have HN := Lib.hid hnew
      clear hnew
      have HH := Lib.hid (And.intro hrg3 (And.intro hown3 (And.intro hbl3 (And.intro hperm2 (And.intro hlm hs2)))))
      clear hrg3 hown3 hbl3 hperm2 hlm hs2 hrg2 hown2 hbl2
      cases x8
      · go_wp2_with (at_builtin; refine wpList_append_own _ rfl _ _ 26 rfl (w1.heap.size + 1) 28 i0 (Rep.val ⟨0, 0, 0, 0, 0, 0, 0, false⟩) 8 64 Tryz.underlying26 hi hz0 hz1 hz2 rfl (by decide) u3 done.length (done.flatMap Rep.cells) rfl (HH.out.2.1.alloc _) ⟨w3.heap.size + 1, 0, none⟩ 1 1 (Rep.cells ⟨x1, x2, x3, x4, x5, x6, x7, false⟩) rfl rfl HN.out (oneCellR _) (by simp only [maxLen]; omega) (by omega) (by have := HH.out.2.2.2.2.2; simp; omega) ?_; intro v' w5 hown' hgrow _)
        obtain ⟨hrg3, hown3, hbl3, hperm2, hlm, hs2⟩ := HH.out
        have hrg5 := (hrg3.alloc (.cells (Rep.cells ⟨x1, x2, x3, x4, x5, x6, x7, false⟩).toArray 28)).grown hgrow (own_ne hown3 (by omega)) (own_ne hown3 (by omega))
        have hbl5 : Below w.heap.size w w5 := (hbl3.alloc hbl3.size _).grown hgrow (by have := hbl3.size; simp at this ⊢; omega) (fun k e => by have := (hown3.lt k e).1; omega)
        refine ⟨⟨left', done ++ [⟨x1, x2, x3, x4, x5, x6, x7, false⟩], hrg5, by simpa using hperm2, by simpa [List.flatMap_append] using hown', by have := hgrow.size; simp at this; omega, hbl5⟩, ?_⟩
        rw [hrg5.len, hlm]; omega
      · go_wp2_with fail
        obtain ⟨hrg3, hown3, hbl3, hperm2, hlm, hs2⟩ := HH.out
        refine ⟨⟨left', done, hrg3, by simpa using hperm2, hown3, by simp; omega, hbl3⟩, ?_⟩
        have := hrg3.len
        simp only [Rep.cells] at this
        rw [this, hlm]; omega
end Go.Proofs.YtfoenojohemccaaGreatDoor
namespace Go.Proofs.YtfoenojohemccaaGreatDoor
open Go.RowKit Go.Sort Go.Proofs

section
variable {α : Type} {enc : α → List Value} {k : Nat}
theorem flat_take (h0 : ∀ x : α, (enc x).length = k) : ∀ (xs : List α) (i : Nat), (xs.flatMap enc).take (i * k) = (xs.take i).flatMap enc
  | [], i => by simp
  | x :: xs, 0 => by simp
  | x :: xs, i + 1 => by
    have ih := flat_take h0 xs i
    simp only [List.flatMap_cons, List.take_succ_cons]
    rw [List.take_append, h0, show (i + 1) * k - k = i * k from by rw [Nat.add_mul]; omega, ih, List.take_of_length_le (by rw [h0, Nat.add_mul]; omega)]

theorem clear_own {P : Program} {t e ty : TypeId} {z : Value} (ht : P.underlying t = some (.slice e)) (hv : ∀ w, (zeroValue e).run P w = .ok z w) (hzs : z.cells.size = k) (h1 : ∀ u ∈ z.cells.toList, u.oneCell' = true)
    (h0 : ∀ x : α, (enc x).length = k) {w : World} {B g n cap i c : Nat} {xs : List α} (h : w.ownsRow B e k (.slice (some ⟨g, 0, none⟩) n cap) n (xs.flatMap enc)) (hn : xs.length = n) (hi : i < n) :
    ∃ w', (Builtin.clear_ #[t] ty #[.slice (some ⟨g, i * k, none⟩) (n - i) c]).run P w = .ok (.tuple #[]) w' ∧ w.grownBy w' (some g) ∧ w'.ownsRow B e k (.slice (some ⟨g, 0, none⟩) i cap) i ((xs.take i).flatMap enc) := by
  rcases h.2 with ⟨e0, _⟩ | ⟨g', cap', cur, e0, hb, hg, hnc, hm, hs, htk⟩
  · cases e0
  injection e0 with e1 _ e3
  injection e1 with e1
  injection e1 with e1
  subst e1; subst e3
  obtain ⟨m, hm1⟩ : ∃ m, n - i = m + 1 := ⟨n - i - 1, by omega⟩
  have hzl : ((Builtin.zeroCells z.cells (n - i)).toList).length = (n - i) * k := by
    rw [Array.length_toList, size_zeroCells, hzs]
  have hfit : i * k + 0 + ((Builtin.zeroCells z.cells (n - i)).toList).length ≤ cur.size := by
    rw [hzl, hs, Nat.add_zero, ← Nat.add_mul]
    exact Nat.mul_le_mul_right _ (by omega)
  have hone : ∀ v ∈ (Builtin.zeroCells z.cells (n - i)).toList, v.oneCell' = true := by
    intro v hv'
    rw [Array.mem_toList_iff, Builtin.zeroCells, Array.mem_map] at hv'
    obtain ⟨a, ha, rfl⟩ := hv'
    rw [Array.mem_range] at ha
    have hp : 0 < z.cells.size := by
      rcases Nat.eq_zero_or_pos z.cells.size with h2 | h2
      · rw [h2] at ha; simp at ha
      · exact h2
    have hlt : a % z.cells.size < z.cells.size := Nat.mod_lt _ hp
    rw [getElem!_pos z.cells _ hlt]
    exact h1 _ (by simp)
  have hst := run_storeCells_at (P := P) g (i * k) e (Builtin.zeroCells z.cells (n - i)).toList 0 cur w hg hfit hone
  obtain ⟨cs, hcs⟩ : ∃ cs, cs = (List.take (i * k + 0) cur.toList ++ (Builtin.zeroCells z.cells (n - i)).toList ++ List.drop (i * k + 0 + (Builtin.zeroCells z.cells (n - i)).toList.length) cur.toList).toArray := ⟨_, rfl⟩
  rw [← hcs] at hst
  have hik : i * k ≤ cur.size := by rw [hs]; exact Nat.mul_le_mul_right _ (by omega)
  have hsz : cs.size = cur.size := by
    rw [hcs]
    simp only [List.size_toArray, List.length_append, List.length_take, List.length_drop, Array.length_toList] at hfit ⊢
    omega
  have htk2 : cs.toList.take (i * k) = (xs.take i).flatMap enc := by
    rw [hcs, ← flat_take h0, ← htk, List.take_take]
    simp only [Nat.add_zero, List.append_assoc]
    rw [List.take_append_of_le_length (by simp only [List.length_take, Array.length_toList]; exact Nat.le_min.2 ⟨Nat.le_refl _, hik⟩), List.take_take]
    congr 1
    rw [Nat.min_self, Nat.min_eq_left (Nat.mul_le_mul_right _ (by omega))]
  refine ⟨w.setRow g cs, ?_, ⟨rfl, rfl, rfl, by simp, fun j _ hj => setRow_other w g j _ (fun e => hj (by rw [e]))⟩, ⟨?_, .inr ⟨g, cap, cs, rfl, hb, setRow_heap w g cur cs e _ hg, by omega, hm, by rw [hsz, hs], htk2⟩⟩⟩
  · simp only [hm1] at hst ⊢
    simp [Builtin.clear_, run_underlying ht, hv, hst]
  · rw [flat_len h0, List.length_take, hn, Nat.min_eq_left (by omega)]
end

theorem GrowQ.trans {a b c : World} (h : GrowQ a b) (k : GrowQ b c) : GrowQ a c := by
  obtain ⟨q, os, rfl⟩ := h
  obtain ⟨q', os', rfl⟩ := k
  exact ⟨q + q', os ++ os', by simp [grow, World.drewN, Nat.add_assoc]⟩
theorem GrowQ.grownBy {w W : World} (h : GrowQ w W) (row : Option Nat) : w.grownBy W row :=
  ⟨h.below.os, h.below.tape, h.below.output, h.below.size, fun k hk _ => h.below.block k hk⟩

/-- where a predicate holds first -/
def idxR {α : Type} (p : α → Bool) (l : List α) : Int := match l.findIdx? p with | some i => (i : Int) | none => -1
theorem idxR_pos {α : Type} {p : α → Bool} {l : List α} {k : Nat} (hk : k < l.length) (h : ∀ j (hj : j < l.length), j < k → p l[j] = false) (hp : p l[k] = true) : idxR p l = k := by
  have : l.findIdx? p = some k := by
    rw [List.findIdx?_eq_some_iff_getElem]
    exact ⟨hk, hp, fun j hj => by simpa using h j (by omega) hj⟩
  simp [idxR, this]
theorem idxR_neg {α : Type} {p : α → Bool} {l : List α} (h : ∀ j (hj : j < l.length), p l[j] = false) : idxR p l = -1 := by
  have : l.findIdx? p = none := by
    rw [List.findIdx?_eq_none_iff]
    intro x hx
    obtain ⟨i, hi, rfl⟩ := List.mem_iff_getElem.1 hx
    exact h i hi
  simp [idxR, this]
theorem idxR_cases {α : Type} (p : α → Bool) (l : List α) : (idxR p l = -1 ∧ l.filter (fun x => !p x) = l) ∨ ∃ k : Nat, idxR p l = k ∧ k < l.length ∧ (l.take (k + 1)).filter (fun x => !p x) = l.take k := by
  unfold idxR
  cases h : l.findIdx? p with
  | none =>
    left
    rw [List.findIdx?_eq_none_iff] at h
    exact ⟨rfl, by rw [List.filter_eq_self]; intro x hx; simp [h x hx]⟩
  | some k =>
    right
    rw [List.findIdx?_eq_some_iff_getElem] at h
    obtain ⟨hk, h1, h2⟩ := h
    refine ⟨k, rfl, hk, ?_⟩
    rw [List.take_add_one, List.getElem?_eq_getElem hk, List.filter_append]
    have e1 : (l.take k).filter (fun x => !p x) = l.take k := by
      rw [List.filter_eq_self]
      intro x hx
      obtain ⟨i, hi, rfl⟩ := List.mem_iff_getElem.1 hx
      rw [List.length_take] at hi
      have := h2 i (by omega)
      simpa using this
    rw [e1]
    simp [h1]
/-- one element of a row, read in a later world -/
theorem any_row_cells {α : Type} {enc : α → List Value} {k : Nat} (h0 : ∀ x : α, (enc x).length = k) (hk0 : 0 < k) {l : List α} {a : Option Addr} {w wr : World} (hcr : ∀ i (x : α), l[i]? = some x → ∃ g off, a = some ⟨g, off, none⟩ ∧ ∀ j, j < k → w.cell? ⟨g, off + i * k + j, none⟩ = (enc x)[j]?) (hb : Below w.heap.size w wr) {i : Nat} (hi : i < l.length) :
    ∃ g off, a = some ⟨g, off, none⟩ ∧ (∀ j, j < k → wr.cell? ⟨g, off + i * k + j, none⟩ = (enc l[i])[j]?) ∧ g < w.heap.size := by
  obtain ⟨g, off, rfl, hcx⟩ := hcr i l[i] (List.getElem?_eq_getElem hi)
  have h1 : ∀ j, j < k → ∃ u, (enc l[i])[j]? = some u := fun j hj => ⟨_, List.getElem?_eq_getElem (by rw [h0]; exact hj)⟩
  refine ⟨g, off, rfl, fun j hj => ?_, ?_⟩
  · obtain ⟨u, hu⟩ := h1 j hj
    rw [hu]
    exact (Mod.of_below (fun _ => False) hb).cell (by rw [hcx j hj, hu]) (fun e => e)
  · obtain ⟨u, hu⟩ := h1 0 hk0
    have := hcx 0 hk0
    rw [hu] at this
    rcases Nat.lt_or_ge g w.heap.size with h | h
    · exact h
    · rw [World.cell?, Array.getElem?_eq_none h] at this; simp at this
theorem rep_row_cells {l : List Rep} {a : Option Addr} {w wr : World} (hcr : ∀ i (x : Rep), l[i]? = some x → ∃ g off, a = some ⟨g, off, none⟩ ∧ ∀ j, j < 8 → w.cell? ⟨g, off + i * 8 + j, none⟩ = (Rep.cells x)[j]?) (hb : Below w.heap.size w wr) {i : Nat} (hi : i < l.length) :
    ∃ g off, a = some ⟨g, off, none⟩ ∧ (∀ j, j < 8 → wr.cell? ⟨g, off + i * 8 + j, none⟩ = (Rep.cells l[i])[j]?) ∧ g < w.heap.size := any_row_cells Rep.cells_len (by decide) hcr hb hi
theorem exc_row_cells {l : List Exc} {a : Option Addr} {w wr : World} (hcr : ∀ i (x : Exc), l[i]? = some x → ∃ g off, a = some ⟨g, off, none⟩ ∧ ∀ j, j < 5 → w.cell? ⟨g, off + i * 5 + j, none⟩ = (Exc.cells x)[j]?) (hb : Below w.heap.size w wr) {i : Nat} (hi : i < l.length) :
    ∃ g off, a = some ⟨g, off, none⟩ ∧ (∀ j, j < 5 → wr.cell? ⟨g, off + i * 5 + j, none⟩ = (Exc.cells l[i])[j]?) ∧ g < w.heap.size := any_row_cells Exc.cells_len (by decide) hcr hb hi

/-- cells written one behind the other -/
def setC (W : World) (g : Nat) : Nat → List Value → World
  | _, [] => W
  | o, v :: r => setC (W.setCell ⟨g, o, none⟩ v) g (o + 1) r
def setL (xs : List Value) : Nat → List Value → List Value
  | _, [] => xs
  | o, v :: r => setL (xs.set o v) (o + 1) r
theorem setL_spec : ∀ (vs xs : List Value) (o : Nat), o + vs.length ≤ xs.length → setL xs o vs = xs.take o ++ vs ++ xs.drop (o + vs.length)
  | [], xs, o, h => by simp [setL]
  | v :: r, xs, o, h => by
    have h' : o < xs.length := by simp at h; omega
    have ih := setL_spec r (xs.set o v) (o + 1) (by simp at h ⊢; omega)
    simp only [setL]
    have e1 : (xs.set o v).take (o + 1) = xs.take o ++ [v] := by
      rw [List.take_add_one, List.take_set_of_le (Nat.le_refl _), List.getElem?_set_self (by simpa using h')]
      rfl
    have e2 : (xs.set o v).drop (o + 1 + r.length) = xs.drop (o + (r.length + 1)) := by
      rw [List.drop_set_of_lt (by omega)]
      congr 1
      omega
    rw [ih, e1, e2]
    simp
theorem stored_chain {base : Nat} {e : TypeId} {size g n cap : Nat} : ∀ (vs : List Value) (o : Nat) {w : World} {xs : List Value}, w.ownsRow base e size (.slice (some ⟨g, 0, none⟩) n cap) n xs →
    (setC w g o vs).ownsRow base e size (.slice (some ⟨g, 0, none⟩) n cap) n (setL xs o vs) ∧ w.grownBy (setC w g o vs) (some g)
  | [], o, w, xs, h => ⟨h, World.grownBy.refl w _⟩
  | v :: r, o, w, xs, h => by
    have h1 := World.ownsRow.stored h o v
    have h2 := stored_chain r (o + 1) h1.1
    exact ⟨h2.1, h1.2.trans h2.2⟩
theorem flat_set {α : Type} {enc : α → List Value} {k : Nat} (h0 : ∀ x : α, (enc x).length = k) (d : List α) (i : Nat) (x : α) (hi : i < d.length) : setL (d.flatMap enc) (i * k) (enc x) = (d.set i x).flatMap enc := by
  have hik : (i + 1) * k ≤ d.length * k := Nat.mul_le_mul_right _ hi
  rw [setL_spec _ _ _ (by rw [h0, flat_len h0, ← Nat.succ_mul]; exact hik), flat_take h0, h0, List.set_eq_take_append_cons_drop, if_pos hi]
  have e : (d.flatMap enc).drop (i * k + k) = (d.drop (i + 1)).flatMap enc := by
    have h1 : (d.flatMap enc).take (i * k + k) = (d.take (i + 1)).flatMap enc := by rw [← flat_take h0, Nat.add_mul, Nat.one_mul]
    have h2 : d.flatMap enc = (d.take (i + 1)).flatMap enc ++ (d.drop (i + 1)).flatMap enc := by rw [← List.flatMap_append, List.take_append_drop]
    have h3 : ((d.take (i + 1)).flatMap enc).length = i * k + k := by rw [flat_len h0, List.length_take, Nat.min_eq_left (by omega), Nat.add_mul, Nat.one_mul]
    rw [h2, ← h3, List.drop_left]
  rw [e]
  simp

theorem zeroERep (w : World) : (zeroValue 28).run Tryz.prog w = .ok (Rep.val ⟨0, 0, 0, 0, 0, 0, 0, false⟩) w := zeroRep w
theorem zeroEExc (w : World) : (zeroValue 36).run Tryz.prog w = .ok (Exc.val ⟨0, 0, 0, 0, 0⟩) w := by
  simp [go_sem, Exc.val]
end Go.Proofs.YtfoenojohemccaaGreatDoor
