/- Maps: what a map's block holds, as a list of keys with their values; the laws of look-up, store, length, over any program. | Maps: ranging over a map that is not written meanwhile: some entry that has not come yet comes next; in the end all have come. | The key types of the program's maps: reports, exchanges, identities, ints: how their values are compared. | Equality as the walk asks for it. -/
import Derived.WalkKit
import Derived.WalkSpells
import Derived.WalkLawsBesides
import Derived.Lib.Hide
import Derived.Shelf.Abstract
import Derived.Test.YtfoenojohemccaaGreatDoorQA
namespace Go.Proofs.YtfoenojohemccaaGreatDoor
open Go.RowKit

/-! ### lists of keys with values -/
section
variable {κ ν : Type} [DecidableEq κ]
def alook (kv : List (κ × ν)) (k : κ) : Option ν := (kv.find? (fun p => p.1 == k)).map (·.2)
def aput (kv : List (κ × ν)) (k : κ) (v : ν) : List (κ × ν) :=
  match kv.findIdx? (fun p => p.1 == k) with
  | some i => kv.set i (k, v)
  | none => kv ++ [(k, v)]
end

structure KeyE (P : Program) (T : TypeId) {κ : Type} [DecidableEq κ] (enc : κ → Value) : Prop where
  check : ∀ e a w, (Instr.checkKey e 10000 T (enc a)).run P w = .ok () w
  find : ∀ (k : κ) (es : List MapEntry) (ks : List κ) (w : World), es.map (·.key) = ks.map enc →
    (Instr.findKey T (enc k) es).run P w = .ok ((ks.findIdx? (· == k)).map fun i => (i, (es.getD i default).val)) w
  bits : ∀ a, Instr.sameBits 10000 (enc a) (enc a) = true

structure MapRep {κ ν : Type} (enc : κ → Value) (encV : ν → Value) (es : Array MapEntry) (clock : Nat) (kv : List (κ × ν)) : Prop where
  ents : es.toList.map (fun e => (e.key, e.val)) = kv.map (fun p => (enc p.1, encV p.2))
  born : ∀ e ∈ es.toList, e.born < clock
  once : (es.toList.map (·.born)).Nodup
  nodup : (kv.map (·.1)).Nodup

def MapIs {κ ν : Type} (enc : κ → Value) (encV : ν → Value) (w : World) (b : Nat) (kv : List (κ × ν)) : Prop :=
  ∃ es clock, w.heap[b]? = some (.map es clock) ∧ MapRep enc encV es clock kv

section
variable {P : Program} {T E : TypeId} {κ ν : Type} {enc : κ → Value} {encV : ν → Value} {w : World} {b : Nat} {kv : List (κ × ν)}

theorem MapRep.keys {es : Array MapEntry} {clock : Nat} (h : MapRep enc encV es clock kv) : es.toList.map (·.key) = (kv.map (·.1)).map enc := by
  have := congrArg (List.map (·.1)) h.ents
  simpa [List.map_map, Function.comp_def] using this
theorem MapRep.vals {es : Array MapEntry} {clock : Nat} (h : MapRep enc encV es clock kv) : es.toList.map (·.val) = (kv.map (·.2)).map encV := by
  have := congrArg (List.map (·.2)) h.ents
  simpa [List.map_map, Function.comp_def] using this
theorem MapRep.size {es : Array MapEntry} {clock : Nat} (h : MapRep enc encV es clock kv) : es.size = kv.length := by
  have := congrArg List.length h.ents
  simpa using this

theorem find_pairs [DecidableEq κ] (kv : List (κ × ν)) (k : κ) : (kv.map (·.1)).findIdx? (· == k) = kv.findIdx? (fun p => p.1 == k) := by
  rw [List.findIdx?_map]; rfl

theorem MapIs.lt (h : MapIs enc encV w b kv) : b < w.heap.size := by
  obtain ⟨es, clock, hb, _⟩ := h
  exact (Array.getElem?_eq_some_iff.1 hb).1

theorem MapIs.made (enc : κ → Value) (encV : ν → Value) (w : World) : MapIs enc encV (w.alloc (.map #[] 0)) w.heap.size [] :=
  ⟨#[], 0, (MapKept.heap_alloc w _).1, ⟨by simp, by simp, by simp, by simp⟩⟩

theorem MapIs.of_block {w' : World} (h : MapIs enc encV w b kv) (hb : w'.heap[b]? = w.heap[b]?) : MapIs enc encV w' b kv := by
  obtain ⟨es, clock, hh, hr⟩ := h
  exact ⟨es, clock, hb.trans hh, hr⟩
theorem MapIs.below {w' : World} {B : Nat} (h : MapIs enc encV w b kv) (hb : Below B w w') (hB : b < B) : MapIs enc encV w' b kv := h.of_block (hb.block b hB)
theorem MapIs.grown {w' : World} {row : Option Nat} (h : MapIs enc encV w b kv) (hg : w.grownBy w' row) (hr : some b ≠ row) : MapIs enc encV w' b kv := h.of_block (hg.block b h.lt hr)
theorem MapIs.alloc (h : MapIs enc encV w b kv) (o : Obj) : MapIs enc encV (w.alloc o) b kv := h.of_block (Below.heap_alloc w o b h.lt)
theorem MapIs.drew (h : MapIs enc encV w b kv) : MapIs enc encV w.drew b kv := h
theorem MapIs.setCell (h : MapIs enc encV w b kv) (a : Addr) (v : Value) (hne : a.block ≠ b) : MapIs enc encV (w.setCell a v) b kv := h.of_block (Below.heap_setCell w a v b (fun e => hne e.symm))

theorem MapIs.nodup (h : MapIs enc encV w b kv) : (kv.map (·.1)).Nodup := by obtain ⟨_, _, _, hr⟩ := h; exact hr.nodup

variable [DecidableEq κ]

theorem alook_some {k : κ} {i : Nat} (h : kv.findIdx? (fun p => p.1 == k) = some i) : ∃ v, kv[i]? = some (k, v) ∧ alook kv k = some v := by
  rw [List.findIdx?_eq_some_iff_getElem] at h
  obtain ⟨hi, h1, h2⟩ := h
  have hk : kv[i].1 = k := by simpa using h1
  refine ⟨kv[i].2, by rw [List.getElem?_eq_getElem hi]; simp [← hk], ?_⟩
  have : kv.find? (fun p => p.1 == k) = some kv[i] := by
    rw [List.find?_eq_some_iff_getElem]
    exact ⟨h1, i, hi, rfl, fun j hj => by have := h2 j hj; simpa using this⟩
  simp [alook, this]
theorem alook_none {k : κ} (h : kv.findIdx? (fun p => p.1 == k) = none) : alook kv k = none := by
  rw [List.findIdx?_eq_none_iff] at h
  simp only [alook, Option.map_eq_none_iff, List.find?_eq_none]
  intro x hx hh
  have := h x hx
  simp_all

omit [DecidableEq κ] in
theorem MapRep.val_at {es : Array MapEntry} {clock : Nat} (h : MapRep enc encV es clock kv) {i : Nat} {k : κ} {v : ν} (hi : kv[i]? = some (k, v)) : (es.toList.getD i default).val = encV v := by
  have h1 : es.toList.length = kv.length := by have := congrArg List.length h.ents; simpa using this
  have hlt : i < kv.length := (List.getElem?_eq_some_iff.1 hi).1
  have h2 := congrArg (fun l => l[i]?) h.vals
  simp only [List.getElem?_map, hi, Option.map_some] at h2
  rw [List.getElem?_eq_getElem (by omega)] at h2
  simp only [Option.map_some, Option.some.injEq] at h2
  rw [List.getD_eq_getElem?_getD, List.getElem?_eq_getElem (by omega)]
  exact h2

theorem run_find (K : KeyE P T enc) {es : Array MapEntry} {clock : Nat} (hr : MapRep enc encV es clock kv) (k : κ) (w : World) :
    ((Instr.findKey T (enc k) es.toList).run P w = .ok none w ∧ alook kv k = none ∧ kv.findIdx? (fun p => p.1 == k) = none) ∨
    ∃ i v, (Instr.findKey T (enc k) es.toList).run P w = .ok (some (i, encV v)) w ∧ alook kv k = some v ∧ kv.findIdx? (fun p => p.1 == k) = some i ∧ kv[i]? = some (k, v) := by
  have hf := K.find k es.toList (kv.map (·.1)) w hr.keys
  rw [find_pairs] at hf
  cases h : kv.findIdx? (fun p => p.1 == k) with
  | none => rw [h] at hf; exact .inl ⟨hf, alook_none h, rfl⟩
  | some i =>
    obtain ⟨v, h1, h2⟩ := alook_some h
    rw [h] at hf
    simp only [Option.map_some] at hf
    rw [hr.val_at h1] at hf
    exact .inr ⟨i, v, hf, h2, rfl, h1⟩

/-- what a look-up hands back -/
def lookV (encV : ν → Value) (z : Value) : Option ν → Value
  | some v => encV v
  | none => z

theorem run_lookup (K : KeyE P T enc) {M : TypeId} (hM : P.underlying M = some (.map T E)) {z : Value} (hz : ∀ w, (zeroValue E).run P w = .ok z w)
    (h : MapIs enc encV w b kv) (k : κ) :
    (Instr.lookup M (.map (some b)) (enc k) false).run P w = .ok (lookV encV z (alook kv k)) w := by
  obtain ⟨es, clock, hb, hr⟩ := h
  have hc := K.check es.isEmpty k w
  rcases run_find K hr k w with ⟨hf, ha, _⟩ | ⟨i, v, hf, ha, _, _⟩
  · simp [Instr.lookup, run_underlying hM, getObj, Sem.run, hb, hc, hf, hz, ha, lookV, Result.andThen]
  · simp [Instr.lookup, run_underlying hM, getObj, Sem.run, hb, hc, hf, ha, lookV, Result.andThen]
theorem run_lookup_ok (K : KeyE P T enc) {M : TypeId} (hM : P.underlying M = some (.map T E)) {z : Value} (hz : ∀ w, (zeroValue E).run P w = .ok z w)
    (h : MapIs enc encV w b kv) (k : κ) :
    (Instr.lookup M (.map (some b)) (enc k) true).run P w = .ok (.tuple #[lookV encV z (alook kv k), .bool (alook kv k).isSome]) w := by
  obtain ⟨es, clock, hb, hr⟩ := h
  have hc := K.check es.isEmpty k w
  rcases run_find K hr k w with ⟨hf, ha, _⟩ | ⟨i, v, hf, ha, _, _⟩
  · simp [Instr.lookup, run_underlying hM, getObj, Sem.run, hb, hc, hf, hz, ha, lookV, Result.andThen]
  · simp [Instr.lookup, run_underlying hM, getObj, Sem.run, hb, hc, hf, ha, lookV, Result.andThen]
theorem run_lookup_nil (K : KeyE P T enc) {M : TypeId} (hM : P.underlying M = some (.map T E)) {z : Value} (hz : ∀ w, (zeroValue E).run P w = .ok z w) (k : κ) (w : World) :
    (Instr.lookup M (.map none) (enc k) false).run P w = .ok z w := by
  have hc := K.check true k w
  have hf := K.find k [] [] w rfl
  simp at hf
  simp [Instr.lookup, run_underlying hM, hc, hf, hz, Result.andThen]

theorem aput_keys_some {k : κ} {v : ν} {i : Nat} (h : kv.findIdx? (fun p => p.1 == k) = some i) : aput kv k v = kv.set i (k, v) := by simp [aput, h]
theorem aput_keys_none {k : κ} {v : ν} (h : kv.findIdx? (fun p => p.1 == k) = none) : aput kv k v = kv ++ [(k, v)] := by simp [aput, h]

theorem aput_nodup (h : (kv.map (·.1)).Nodup) (k : κ) (v : ν) : ((aput kv k v).map (·.1)).Nodup := by
  cases hf : kv.findIdx? (fun p => p.1 == k) with
  | none =>
    rw [aput_keys_none hf, List.map_append, List.map_cons, List.map_nil, List.nodup_append]
    refine ⟨h, by simp, ?_⟩
    intro a ha c hc e
    simp at hc
    subst hc e
    rw [List.findIdx?_eq_none_iff] at hf
    obtain ⟨x, hx, rfl⟩ := List.mem_map.1 ha
    have := hf x hx
    simp at this
  | some i =>
    obtain ⟨v0, h1, _⟩ := alook_some hf
    rw [aput_keys_some hf, List.map_set]
    have : (kv.map (·.1)).set i k = kv.map (·.1) := by
      apply List.ext_getElem?
      intro j
      rw [List.getElem?_set]
      split
      · rename_i e
        subst e
        split
        · rw [List.getElem?_map, h1]; rfl
        · rename_i hlt
          have := (List.getElem?_eq_some_iff.1 h1).1
          simp at hlt; omega
      · rfl
    rw [this]; exact h

omit [DecidableEq κ] in
theorem MapRep.ent_at {es : Array MapEntry} {clock : Nat} (h : MapRep enc encV es clock kv) {i : Nat} {k : κ} {v : ν} (hi : kv[i]? = some (k, v)) : ∃ e, es[i]? = some e ∧ e.key = enc k ∧ e.val = encV v := by
  have h2 := congrArg (fun l => l[i]?) h.ents
  simp only [List.getElem?_map, hi, Option.map_some] at h2
  cases he : es.toList[i]? with
  | none => rw [he] at h2; simp at h2
  | some e =>
    rw [he] at h2
    simp at h2
    exact ⟨e, by simpa using he, h2.1, h2.2⟩

theorem run_mapUpdate (K : KeyE P T enc) {M : TypeId} (hM : P.underlying M = some (.map T E)) (h : MapIs enc encV w b kv) (k : κ) (v : ν) :
    ∃ w', (Instr.mapUpdate M (.map (some b)) (enc k) (encV v)).run P w = .ok () w' ∧ MapIs enc encV w' b (aput kv k v) ∧ w.grownBy w' (some b) ∧ w'.heap.size = w.heap.size := by
  obtain ⟨es, clock, hb, hr⟩ := h
  have hc := K.check false k w
  have hlt : b < w.heap.size := (Array.getElem?_eq_some_iff.1 hb).1
  have hgr : ∀ o : Obj, w.grownBy { w with heap := w.heap.setIfInBounds b o } (some b) := fun o => ⟨rfl, rfl, rfl, by simp, fun i _ hi => by
    show (w.heap.setIfInBounds b o)[i]? = _
    rw [Array.getElem?_setIfInBounds_ne (fun e => hi (by rw [e]))]⟩
  have hat : ∀ o : Obj, ({ w with heap := w.heap.setIfInBounds b o } : World).heap[b]? = some o := fun o => by
    show (w.heap.setIfInBounds b o)[b]? = _
    rw [Array.getElem?_setIfInBounds_self_of_lt hlt]
  rcases run_find K hr k w with ⟨hf, ha, hi⟩ | ⟨i, v0, hf, ha, hi, hkv⟩
  · refine ⟨{ w with heap := w.heap.setIfInBounds b (.map (es.push { key := enc k, val := encV v, born := clock }) (clock + 1)) }, ?_, ⟨_, _, hat _, ?_⟩, hgr _, by simp⟩
    · simp [Instr.mapUpdate, run_underlying hM, getObj, setObj, Sem.run, hb, hc, hf, Result.andThen]
    · rw [aput_keys_none hi]
      refine ⟨by simp [hr.ents], ?_, ?_, ?_⟩
      · intro e he
        simp at he
        rcases he with he | rfl
        · have := hr.born e (by simpa using he); omega
        · simp
      · simp only [Array.toList_push, List.map_append, List.map_cons, List.map_nil]
        rw [List.nodup_append]
        refine ⟨hr.once, by simp, ?_⟩
        intro x hx y hy e
        simp at hy
        subst hy e
        obtain ⟨z, hz, rfl⟩ := List.mem_map.1 hx
        have := hr.born z hz
        omega
      · have := aput_nodup hr.nodup k v
        rwa [aput_keys_none hi] at this
  · obtain ⟨e, he, hek, hev⟩ := hr.ent_at hkv
    have hstay : (Instr.keyThatStays (((es[i]?).map (·.key)).getD (enc k)) (enc k)).run P w = .ok (enc k) w := by
      rw [he]
      simp [Instr.keyThatStays, hek, K.bits k]
    refine ⟨{ w with heap := w.heap.setIfInBounds b (.map (es.modify i fun e => { e with key := enc k, val := encV v }) clock) }, ?_, ⟨_, _, hat _, ?_⟩, hgr _, by simp⟩
    · simp [Instr.mapUpdate, run_underlying hM, getObj, setObj, Sem.run, hb, hc, hf, hstay, Result.andThen]
    · rw [aput_keys_some hi]
      have hm : (es.modify i fun e => { e with key := enc k, val := encV v }).toList = es.toList.set i { e with key := enc k, val := encV v } := by
        apply List.ext_getElem?
        intro j
        simp only [Array.getElem?_toList, Array.getElem?_modify, List.getElem?_set]
        by_cases hij : i = j
        · subst hij
          have hli : i < es.size := (Array.getElem?_eq_some_iff.1 he).1
          simp [hli]
          rw [(Array.getElem?_eq_some_iff.1 he).2]
        · simp [hij]
      have hil : i < es.toList.length := by simpa using (Array.getElem?_eq_some_iff.1 he).1
      refine ⟨?_, ?_, ?_, ?_⟩
      · rw [hm, List.map_set, List.map_set, hr.ents]
      · intro x hx
        rw [hm] at hx
        rcases List.mem_or_eq_of_mem_set hx with hx | rfl
        · exact hr.born x hx
        · exact hr.born e (by rw [List.mem_iff_getElem?]; exact ⟨i, by simpa using he⟩)
      · rw [hm, List.map_set]
        have : (es.toList.map (·.born)).set i e.born = es.toList.map (·.born) := by
          apply List.ext_getElem?
          intro j
          rw [List.getElem?_set]
          split
          · rename_i e2
            subst e2
            have : es.toList[i]? = some e := by simpa using he
            simp [this]
            simpa using hil
          · rfl
        show ((es.toList.map (·.born)).set i e.born).Nodup
        rw [this]; exact hr.once
      · have := aput_nodup hr.nodup k v
        rwa [aput_keys_some hi] at this
end
end Go.Proofs.YtfoenojohemccaaGreatDoor
namespace Go.Proofs.YtfoenojohemccaaGreatDoor
open Go.RowKit

section
variable {P : Program} {T E : TypeId} {κ ν : Type} {enc : κ → Value} {encV : ν → Value} {w : World} {b r : Nat} {kv left : List (κ × ν)}

def unseen (seen : Array Nat) (z : MapEntry × (κ × ν)) : Bool := !seen.contains z.1.born

/-- the range at block r over the map at block b: of the map's entries those of 'left' are still to come -/
def RangeIs {κ ν : Type} (enc : κ → Value) (encV : ν → Value) (w : World) (r b : Nat) (kv left : List (κ × ν)) : Prop :=
  ∃ es clock seen, ∃ Z : List (MapEntry × (κ × ν)), w.heap[b]? = some (.map es clock) ∧ w.heap[r]? = some (.mapIter (some b) clock seen clock) ∧ b ≠ r ∧
    Z.map (·.1) = es.toList ∧ Z.map (·.2) = kv ∧ (∀ z ∈ Z, z.1.key = enc z.2.1 ∧ z.1.val = encV z.2.2 ∧ z.1.born < clock) ∧ (Z.map (·.1.born)).Nodup ∧
    left = (Z.filter (unseen seen)).map (·.2)

theorem RangeIs.lt (h : RangeIs enc encV w r b kv left) : r < w.heap.size ∧ b < w.heap.size := by
  obtain ⟨es, clock, seen, Z, hb, hr, _⟩ := h
  exact ⟨(Array.getElem?_eq_some_iff.1 hr).1, (Array.getElem?_eq_some_iff.1 hb).1⟩
theorem RangeIs.of_blocks {w' : World} (h : RangeIs enc encV w r b kv left) (h1 : w'.heap[b]? = w.heap[b]?) (h2 : w'.heap[r]? = w.heap[r]?) : RangeIs enc encV w' r b kv left := by
  obtain ⟨es, clock, seen, Z, hb, hr, rest⟩ := h
  exact ⟨es, clock, seen, Z, h1.trans hb, h2.trans hr, rest⟩
theorem RangeIs.below {w' : World} {B : Nat} (h : RangeIs enc encV w r b kv left) (hb : Below B w w') (h1 : b < B) (h2 : r < B) : RangeIs enc encV w' r b kv left :=
  h.of_blocks (hb.block b h1) (hb.block r h2)
theorem RangeIs.grown {w' : World} {row : Option Nat} (h : RangeIs enc encV w r b kv left) (hg : w.grownBy w' row) (h1 : some b ≠ row) (h2 : some r ≠ row) : RangeIs enc encV w' r b kv left :=
  h.of_blocks (hg.block b h.lt.2 h1) (hg.block r h.lt.1 h2)
theorem RangeIs.alloc (h : RangeIs enc encV w r b kv left) (o : Obj) : RangeIs enc encV (w.alloc o) r b kv left :=
  h.of_blocks (Below.heap_alloc w o b h.lt.2) (Below.heap_alloc w o r h.lt.1)

theorem MapRep.zip {es : Array MapEntry} {clock : Nat} (h : MapRep enc encV es clock kv) :
    ∃ Z : List (MapEntry × (κ × ν)), Z.map (·.1) = es.toList ∧ Z.map (·.2) = kv ∧ (∀ z ∈ Z, z.1.key = enc z.2.1 ∧ z.1.val = encV z.2.2 ∧ z.1.born < clock) ∧ (Z.map (·.1.born)).Nodup := by
  have hl : es.toList.length = kv.length := by have := congrArg List.length h.ents; simpa using this
  refine ⟨es.toList.zip kv, ?_, ?_, ?_, ?_⟩
  · exact List.map_fst_zip (by omega)
  · exact List.map_snd_zip (by omega)
  · intro z hz
    obtain ⟨i, hi, rfl⟩ := List.getElem_of_mem hz
    simp only [List.getElem_zip]
    have h2 := congrArg (fun l => l[i]?) h.ents
    simp only [List.length_zip] at hi
    simp only [List.getElem?_map] at h2
    rw [List.getElem?_eq_getElem (by omega), List.getElem?_eq_getElem (by omega)] at h2
    simp at h2
    exact ⟨by simpa using h2.1, by simpa using h2.2, h.born _ (List.getElem_mem _)⟩
  · have : (es.toList.zip kv).map (·.1.born) = es.toList.map (·.born) := by
      rw [show (fun z : MapEntry × (κ × ν) => z.1.born) = (·.born) ∘ (·.1) from rfl, ← List.map_map, List.map_fst_zip (by omega)]
    rw [this]; exact h.once

theorem run_range {M : TypeId} (hM : P.underlying M = some (.map T E)) (h : MapIs enc encV w b kv) :
    ∃ w', (Instr.range M (.map (some b))).run P w = .ok (.pointer (some ⟨w.heap.size, 0, none⟩)) w' ∧ RangeIs enc encV w' w.heap.size b kv kv ∧ w.grownBy w' none ∧ w'.heap.size = w.heap.size + 1 := by
  have hlt := h.lt
  obtain ⟨es, clock, hb, hr⟩ := h
  obtain ⟨Z, h1, h2, h3, h4⟩ := hr.zip
  refine ⟨w.alloc (.mapIter (some b) clock #[] clock), ?_, ⟨es, clock, #[], Z, ?_, (MapKept.heap_alloc w _).1, by omega, h1, h2, h3, h4, ?_⟩, World.grownBy_alloc w _ none, by simp⟩
  · simp [Instr.range, run_underlying hM, MapKept.run_getObj_map hb, newObj, Sem.run]
  · rw [Below.heap_alloc w _ b hlt]; exact hb
  · rw [← h2]
    congr 1
    symm
    rw [List.filter_eq_self]
    intro z _
    simp [unseen]

theorem perm_strike {α : Type} (f : α → Nat) : ∀ (L : List α) (e : α), (L.map f).Nodup → e ∈ L → L.Perm (e :: L.filter (fun x => !(f x == f e)))
  | [], e, _, he => by simp at he
  | x :: l, e, hn, he => by
    simp only [List.map_cons, List.nodup_cons] at hn
    by_cases hx : f x = f e
    · have hxe : x = e := by
        rcases List.mem_cons.1 he with h | h
        · exact h.symm
        · exact absurd (hx ▸ List.mem_map_of_mem h) hn.1
      subst hxe
      have : l.filter (fun y => !(f y == f x)) = l := by
        rw [List.filter_eq_self]
        intro y hy
        have : f y ≠ f x := fun e => hn.1 (e ▸ List.mem_map_of_mem hy)
        simpa using this
      simp [this]
    · have he' : e ∈ l := by
        rcases List.mem_cons.1 he with h | h
        · exact absurd (by rw [h]) hx
        · exact h
      have ih := perm_strike f l e hn.2 he'
      rw [List.filter_cons_of_pos (by simpa using hx)]
      exact (ih.cons x).trans (List.Perm.swap e x _)

theorem run_next (h : RangeIs enc encV w r b kv left) (t : TypeId) :
    (left = [] ∧ (Instr.next (.pointer (some ⟨r, 0, none⟩)) false t).run P w = .ok (.tuple #[.bool false]) w) ∨
    ∃ x left' w', left.Perm (x :: left') ∧ (Instr.next (.pointer (some ⟨r, 0, none⟩)) false t).run P w = .ok (.tuple #[.bool true, enc x.1, encV x.2]) w' ∧
      RangeIs enc encV w' r b kv left' ∧ w.grownBy w' (some r) ∧ w'.heap.size = w.heap.size ∧
      (Instr.entry (.pointer (some ⟨r, 0, none⟩))).run P w' = .ok (.tuple #[enc x.1, encV x.2]) w' := by
  have hlt := h.lt
  obtain ⟨es, clock, seen, Z, hb, hr, hne, hz1, hz2, hz3, hz4, hleft⟩ := h
  have hborn : ∀ e ∈ es.toList, e.born < clock := by
    intro e he
    rw [← hz1] at he
    obtain ⟨z, hz, rfl⟩ := List.mem_map.1 he
    exact (hz3 z hz).2.2
  have htest : (!seen.isEmpty && !es.isEmpty && es.all (fun e => decide (e.born ≥ clock))) = false := by
    cases hes : es.isEmpty
    · have : es.all (fun e => decide (e.born ≥ clock)) = false := by
        rw [Bool.eq_false_iff]
        intro hall
        have h0 : 0 < es.size := by
          rcases Nat.eq_zero_or_pos es.size with h0 | h0
          · simp [Array.isEmpty, h0] at hes
          · exact h0
        rw [Array.all_eq_true] at hall
        have h1 := hall 0 h0
        have h2 := hborn es[0] (by simp)
        simp at h1
        omega
      simp [this]
    · simp
  have hL : (es.filter fun e => !seen.contains e.born).toList = (Z.filter (unseen seen)).map (·.1) := by
    rw [Array.toList_filter, ← hz1, List.filter_map]
    rfl
  have hold : (es.filter fun e => !seen.contains e.born).filter (fun e => decide (e.born < clock)) = es.filter fun e => !seen.contains e.born := by
    rw [Array.filter_eq_self]
    intro e he
    have : e ∈ es := (Array.mem_filter.1 he).1
    simpa using hborn e (by simpa using this)
  have hnew : (es.filter fun e => !seen.contains e.born).filter (fun e => decide (e.born ≥ clock)) = #[] := by
    rw [Array.filter_eq_empty_iff]
    intro e he
    have : e ∈ es := (Array.mem_filter.1 he).1
    have := hborn e (by simpa using this)
    simp; omega
  generalize hA : (es.filter fun e => !seen.contains e.born) = A at *
  have hget : (getObj r).run P w = .ok (.mapIter (some b) clock seen clock) w := by simp [getObj, Sem.run, hr]
  have hget2 : (getObj b).run P w = .ok (.map es clock) w := by simp [getObj, Sem.run, hb]
  rcases Nat.eq_zero_or_pos A.size with h0 | h0
  · have hA0 : A = #[] := by simpa using h0
    left
    subst hA0
    refine ⟨?_, ?_⟩
    · have : Z.filter (unseen seen) = [] := by
        have := congrArg List.length hL
        simp only [List.length_map] at this
        exact List.eq_nil_of_length_eq_zero this.symm
      rw [hleft, this]; rfl
    · simp only [Instr.next, Sem.run_bind, hget, hget2, Result.andThen_ok, htest, Bool.false_eq_true, if_false, hA, hold, hnew]
      simp [choose, Sem.run, Question.forced]
  · right
    obtain ⟨j, w2, hj, hch, hw1, hw2, hw3, hw4⟩ : ∃ j w2, j < A.size ∧ (choose (.mapNext A.size)).run P w = .ok j w2 ∧ w2.heap = w.heap ∧ w2.os = w.os ∧ w2.tape = w.tape ∧ w2.output = w.output := by
      by_cases h1 : A.size ≤ 1
      · exact ⟨0, w, h0, by simp [choose, Sem.run, Question.forced, h1], rfl, rfl, rfl, rfl⟩
      · exact ⟨w.tape w.drawn (.mapNext A.size) % A.size, { w with drawn := w.drawn + 1 }, Nat.mod_lt _ h0, by simp [choose, Sem.run, Question.forced, Question.cut, h1], rfl, rfl, rfl, rfl⟩
    have hne0 : A.isEmpty = false := by simp [Array.isEmpty, Nat.pos_iff_ne_zero.1 h0]
    have hAj : A[j]? = some A[j] := Array.getElem?_eq_getElem hj
    have hmem : A[j] ∈ (Z.filter (unseen seen)).map (·.1) := by rw [← hL]; simp
    obtain ⟨z, hz, hze⟩ := List.mem_map.1 hmem
    obtain ⟨hzZ, hzu⟩ := List.mem_filter.1 hz
    have hset : ({ w2 with heap := w2.heap.setIfInBounds r (.mapIter (some b) clock (seen.push A[j].born) clock) } : World).heap[r]? = some (.mapIter (some b) clock (seen.push A[j].born) clock) := by
      show (w2.heap.setIfInBounds r _)[r]? = _
      rw [hw1, Array.getElem?_setIfInBounds_self_of_lt hlt.1]
    have hset2 : ({ w2 with heap := w2.heap.setIfInBounds r (.mapIter (some b) clock (seen.push A[j].born) clock) } : World).heap[b]? = some (.map es clock) := by
      show (w2.heap.setIfInBounds r _)[b]? = _
      rw [hw1, Array.getElem?_setIfInBounds_ne (fun e => hne e.symm), hb]
    refine ⟨z.2, (Z.filter (unseen (seen.push A[j].born))).map (·.2), { w2 with heap := w2.heap.setIfInBounds r (.mapIter (some b) clock (seen.push A[j].born) clock) }, ?_, ?_, ⟨es, clock, seen.push A[j].born, Z, hset2, hset, hne, hz1, hz2, hz3, hz4, rfl⟩, ⟨hw2, hw3, hw4, by simp [hw1], ?_⟩, by simp [hw1], ?_⟩
    · have hp := perm_strike (fun z : MapEntry × (κ × ν) => z.1.born) (Z.filter (unseen seen)) z ((List.filter_sublist.map _).nodup hz4) hz
      have := hp.map (·.2)
      rw [hleft]
      refine this.trans ?_
      rw [List.filter_filter]
      simp only [List.map_cons]
      refine List.Perm.of_eq ?_
      congr 2
      apply List.filter_congr
      intro y _
      simp only [unseen, Array.contains_push, hze, Bool.not_or]
      rw [Bool.and_comm]
    · have hso : ∀ o, (setObj r o).run P w2 = .ok () { w2 with heap := w2.heap.setIfInBounds r o } := fun o => by
        simp only [setObj, Sem.run]
        rw [hw1, hr]
      have hkv := hz3 z hzZ
      rw [hze] at hkv
      have hsz : (#[] ++ Array.map some (A ++ #[])).size = A.size := by simp
      have hgj : (#[] ++ Array.map some (A ++ #[]))[j]? = some (some A[j]) := by simp [hj]
      simp only [Instr.next, Sem.run_bind, hget, hget2, Result.andThen_ok, htest, Bool.false_eq_true, if_false, hA, hold, hnew, hne0, hsz, hch, hgj, hso, Sem.run_pure, hkv.1, hkv.2.1]
    · intro i hi hir
      show (w2.heap.setIfInBounds r _)[i]? = _
      rw [hw1, Array.getElem?_setIfInBounds_ne (fun e => hir (by rw [e]))]
    · have hkv := hz3 z hzZ
      rw [hze] at hkv
      have hfind : es.find? (·.born == A[j].born) = some A[j] := by
        rw [← Array.find?_toList]
        refine find_born A[j] es.toList ?_ ?_
        · rw [← hz1, List.map_map]; exact hz4
        · rw [← hz1, ← hze]; exact List.mem_map_of_mem hzZ
      have g1 : ∀ W : World, W.heap[r]? = some (.mapIter (some b) clock (seen.push A[j].born) clock) → (getObj r).run P W = .ok (.mapIter (some b) clock (seen.push A[j].born) clock) W := fun W h => by simp [getObj, Sem.run, h]
      have g2 : ∀ W : World, W.heap[b]? = some (.map es clock) → (getObj b).run P W = .ok (.map es clock) W := fun W h => by simp [getObj, Sem.run, h]
      simp only [Instr.entry, Sem.run_bind, g1 _ hset, g2 _ hset2, Result.andThen_ok, Array.back?_push, bne_self_eq_false, Bool.false_eq_true, if_false, hfind, Sem.run_pure, hkv.1, hkv.2.1]

/-- how many entries are still to come: for a loop's measure -/
def itLeft (w : World) (r : Nat) : Nat :=
  match w.heap[r]? with
  | some (.mapIter (some b) _ seen _) => (match w.heap[b]? with | some (.map es _) => (es.filter fun e => !seen.contains e.born).size | _ => 0)
  | _ => 0
theorem RangeIs.len (h : RangeIs enc encV w r b kv left) : itLeft w r = left.length := by
  obtain ⟨es, clock, seen, Z, hb, hr, hne, hz1, hz2, hz3, hz4, hleft⟩ := h
  simp only [itLeft, hr, hb]
  rw [hleft, List.length_map, ← Array.length_toList, Array.toList_filter, ← hz1, List.filter_map, List.length_map]
  rfl
theorem RangeIs.map {κ ν : Type} {enc : κ → Value} {encV : ν → Value} {w : World} {r b : Nat} {kv left : List (κ × ν)} (h : RangeIs enc encV w r b kv left) (hn : (kv.map (·.1)).Nodup) : MapIs enc encV w b kv := by
  obtain ⟨es, clock, seen, Z, hb, hr, hne, hz1, hz2, hz3, hz4, hleft⟩ := h
  refine ⟨es, clock, hb, ⟨?_, ?_, ?_, hn⟩⟩
  · rw [← hz1, ← hz2, List.map_map, List.map_map]
    apply List.map_congr_left
    intro z hz
    have := hz3 z hz
    simp [this.1, this.2.1]
  · intro e he
    rw [← hz1] at he
    obtain ⟨z, hz, rfl⟩ := List.mem_map.1 he
    exact (hz3 z hz).2.2
  · rw [← hz1, List.map_map]; exact hz4

/-- len of a map -/
theorem run_len_map {M ty : TypeId} (hM : P.underlying M = some (.map T E)) (h : MapIs enc encV w b kv) : (Builtin.len_ #[M] ty #[.map (some b)]).run P w = .ok (.int .i64 kv.length) w := by
  obtain ⟨es, clock, hb, hr⟩ := h
  have hg : (getObj b).run P w = .ok (.map es clock) w := by simp [getObj, Sem.run, hb]
  have hs := hr.size
  simp [Builtin.len_, run_underlying hM, hg, hs, goInt]
end
end Go.Proofs.YtfoenojohemccaaGreatDoor
namespace Go.Proofs.YtfoenojohemccaaGreatDoor
open Go.RowKit

def Rep.val (r : Rep) : Value := .agg #[.int .i64 r.o, .int .i64 r.s, .int .i64 r.v, .int .i64 r.d, .int .i64 r.t, .int .i64 r.x, .int .i64 r.y, .bool r.c]
def Exc.val (r : Exc) : Value := .agg #[.int .i64 r.f, .int .i64 r.t, .int .i64 r.s, .int .i64 r.r, .int .i64 r.l]
structure Idn where
  (o s : Int)
  deriving DecidableEq
def Idn.val (r : Idn) : Value := .agg #[.int .i64 r.o, .int .i64 r.s]
def intV (n : Int) : Value := .int .i64 n
def boolV (b : Bool) : Value := .bool b

theorem eqRep (a b : Rep) (w : World) : (Op.equal 28 a.val b.val).run Tryz.prog w = .ok (decide (a = b)) w := by
  simp [Rep.val, Op.equal, Op.maxDepth, go_sem]
  obtain ⟨a1, a2, a3, a4, a5, a6, a7, a8⟩ := a
  obtain ⟨b1, b2, b3, b4, b5, b6, b7, b8⟩ := b
  simp only [Rep.mk.injEq]
  repeat' split
  all_goals simp_all
theorem eqExc (a b : Exc) (w : World) : (Op.equal 36 a.val b.val).run Tryz.prog w = .ok (decide (a = b)) w := by
  simp [Exc.val, Op.equal, Op.maxDepth, go_sem]
  obtain ⟨a1, a2, a3, a4, a5⟩ := a
  obtain ⟨b1, b2, b3, b4, b5⟩ := b
  simp only [Exc.mk.injEq]
  repeat' split
  all_goals simp_all
theorem eqIdn (a b : Idn) (w : World) : (Op.equal 150 a.val b.val).run Tryz.prog w = .ok (decide (a = b)) w := by
  simp [Idn.val, Op.equal, Op.maxDepth, go_sem]
  obtain ⟨a1, a2⟩ := a
  obtain ⟨b1, b2⟩ := b
  simp only [Idn.mk.injEq]
  repeat' split
  all_goals simp_all

section
variable {P : Program} {T : TypeId} {κ : Type} [DecidableEq κ] {enc : κ → Value}
theorem find_asking (heq : ∀ a b w, (Op.equal T (enc a) (enc b)).run P w = .ok (decide (a = b)) w) (k : κ) : ∀ (es : List MapEntry) (ks : List κ) (i : Nat) (w : World), es.map (·.key) = ks.map enc →
    (Instr.findAsking T (enc k) es i).run P w = .ok ((ks.findIdx? (· == k)).map fun j => (i + j, (es.getD j default).val)) w
  | [], ks, i, w, h => by
    have : ks = [] := by simpa using h.symm
    subst this
    simp [Instr.findAsking]
  | e :: es, [], i, w, h => by simp at h
  | e :: es, x :: ks, i, w, h => by
    simp only [List.map_cons, List.cons.injEq] at h
    have ih := find_asking heq k es ks (i + 1) w h.2
    simp only [Instr.findAsking, Sem.run_bind, h.1, heq, Result.andThen_ok]
    by_cases hx : k = x
    · subst hx; simp [List.findIdx?_cons]
    · have hx' : (x == k) = false := by simpa using fun e => hx e.symm
      simp only [hx, decide_false, Bool.false_eq_true, if_false, ih, List.findIdx?_cons, hx']
      cases ks.findIdx? (· == k) with
      | none => simp
      | some j => simp; omega
theorem keyE_struct {fs : Array Field} (hT : P.underlying T = some (.struct fs)) (heq : ∀ a b w, (Op.equal T (enc a) (enc b)).run P w = .ok (decide (a = b)) w)
    (hcheck : ∀ e a w, (Instr.checkKey e 10000 T (enc a)).run P w = .ok () w) (hbits : ∀ a, Instr.sameBits 10000 (enc a) (enc a) = true) : KeyE P T enc where
  check := hcheck
  bits := hbits
  find := by
    intro k es ks w h
    simp only [Instr.findKey, Sem.run_bind, run_underlying hT, Result.andThen_ok]
    cases es with
    | nil =>
      have : ks = [] := by simpa using h.symm
      subst this
      simp [Instr.findNow]
    | cons e es =>
      have : Instr.findNow (.struct fs) (enc k) (e :: es) 0 = none := by simp [Instr.findNow, Instr.sameNow]
      rw [this]
      have := find_asking heq k (e :: es) ks 0 w h
      simpa using this
theorem find_now_int {kd : IntKind} (k : Int) : ∀ (es : List MapEntry) (ks : List Int) (i : Nat), es.map (·.key) = ks.map (Value.int kd) →
    Instr.findNow (.int kd) (.int kd k) es i = some ((ks.findIdx? (· == k)).map fun j => (i + j, (es.getD j default).val))
  | [], ks, i, h => by
    have : ks = [] := by simpa using h.symm
    subst this
    simp [Instr.findNow]
  | e :: es, [], i, h => by simp at h
  | e :: es, x :: ks, i, h => by
    simp only [List.map_cons, List.cons.injEq] at h
    have ih := find_now_int (kd := kd) k es ks (i + 1) h.2
    simp only [Instr.findNow, h.1, Instr.sameNow, if_true]
    by_cases hx : k = x
    · subst hx; simp [List.findIdx?_cons]
    · have hx' : (x == k) = false := by simpa using fun e => hx e.symm
      have hx2 : (k == x) = false := by simpa using hx
      rw [hx2]
      simp only [ih, List.findIdx?_cons, hx', Bool.false_eq_true, if_false]
      cases ks.findIdx? (· == k) with
      | none => simp
      | some j => simp; omega
end

theorem ck_int (e : Bool) (n : Nat) (a : Int) (w : World) : (Instr.checkKey e (n + 1) 3 (.int .i64 a)).run Tryz.prog w = .ok () w := by
  simp [Instr.checkKey, go_sem]
theorem ck_bool (e : Bool) (n : Nat) (a : Bool) (w : World) : (Instr.checkKey e (n + 1) 4 (.bool a)).run Tryz.prog w = .ok () w := by
  simp [Instr.checkKey, go_sem]
theorem ckRep (e : Bool) (n : Nat) (a : Rep) (w : World) : (Instr.checkKey e (n + 1 + 1) 28 a.val).run Tryz.prog w = .ok () w := by
  rw [Instr.checkKey]
  simp [Rep.val, go_sem, ck_int, ck_bool]
theorem ckExc (e : Bool) (n : Nat) (a : Exc) (w : World) : (Instr.checkKey e (n + 1 + 1) 36 a.val).run Tryz.prog w = .ok () w := by
  rw [Instr.checkKey]
  simp [Exc.val, go_sem, ck_int]
theorem ckIdn (e : Bool) (n : Nat) (a : Idn) (w : World) : (Instr.checkKey e (n + 1 + 1) 150 a.val).run Tryz.prog w = .ok () w := by
  rw [Instr.checkKey]
  simp [Idn.val, go_sem, ck_int]
theorem sbRep (n : Nat) (a : Rep) : Instr.sameBits (n + 1 + 1) a.val a.val = true := by simp [Rep.val, Instr.sameBits]
theorem sbExc (n : Nat) (a : Exc) : Instr.sameBits (n + 1 + 1) a.val a.val = true := by simp [Exc.val, Instr.sameBits]
theorem sbIdn (n : Nat) (a : Idn) : Instr.sameBits (n + 1 + 1) a.val a.val = true := by simp [Idn.val, Instr.sameBits]
theorem sbInt (n : Nat) (a : Int) : Instr.sameBits (n + 1) (intV a) (intV a) = true := by simp [intV, Instr.sameBits]

theorem keyRep : KeyE Tryz.prog 28 Rep.val := keyE_struct (fs := Tryz.prog.fieldsOf 28) (by simp [go_sem]) eqRep (fun e a w => ckRep e 9998 a w) (fun a => sbRep 9998 a)
theorem keyExc : KeyE Tryz.prog 36 Exc.val := keyE_struct (fs := Tryz.prog.fieldsOf 36) (by simp [go_sem]) eqExc (fun e a w => ckExc e 9998 a w) (fun a => sbExc 9998 a)
theorem keyIdn : KeyE Tryz.prog 150 Idn.val := keyE_struct (fs := Tryz.prog.fieldsOf 150) (by simp [go_sem]) eqIdn (fun e a w => ckIdn e 9998 a w) (fun a => sbIdn 9998 a)
theorem keyInt : KeyE Tryz.prog 3 intV where
  check := fun e a w => ck_int e 9999 a w
  bits := fun a => sbInt 9999 a
  find := by
    intro k es ks w h
    simp only [Instr.findKey, Sem.run_bind, run_underlying Tryz.underlying3, Result.andThen_ok]
    have := find_now_int (kd := .i64) k es ks 0 h
    rw [show intV k = Value.int .i64 k from rfl, this]
    simp
end Go.Proofs.YtfoenojohemccaaGreatDoor
namespace Go.Proofs.YtfoenojohemccaaGreatDoor
open Go.RowKit
theorem eqlRep (a b : Rep) (w : World) : (binOp .eql 28 a.val b.val).run Tryz.prog w = .ok (.bool (decide (a = b))) w := by
  have := eqRep a b w
  simp only [Rep.val] at this ⊢
  simp [binOp, this]
theorem neqRep (a b : Rep) (w : World) : (binOp .neq 28 a.val b.val).run Tryz.prog w = .ok (.bool (!decide (a = b))) w := by
  have := eqRep a b w
  simp only [Rep.val] at this ⊢
  simp [binOp, this]
theorem eqlExc (a b : Exc) (w : World) : (binOp .eql 36 a.val b.val).run Tryz.prog w = .ok (.bool (decide (a = b))) w := by
  have := eqExc a b w
  simp only [Exc.val] at this ⊢
  simp [binOp, this]
theorem neqExc (a b : Exc) (w : World) : (binOp .neq 36 a.val b.val).run Tryz.prog w = .ok (.bool (!decide (a = b))) w := by
  have := eqExc a b w
  simp only [Exc.val] at this ⊢
  simp [binOp, this]
theorem eqInSl (d : Nat) (a : Option Addr) (n c : Nat) (w : World) : (Op.equalIn (d + 1) 26 (.slice a n c) (.slice none 0 0)).run Tryz.prog w = .ok a.isNone w := by
  unfold Op.equalIn
  cases a <;> simp [run_underlying Tryz.underlying26]
theorem eqlNil (n c : Nat) (w : World) : (binOp .eql 26 (.slice none n c) (.slice none 0 0)).run Tryz.prog w = .ok (.bool true) w := by
  have := eqInSl 9999 none n c w
  simp only [Nat.reduceAdd] at this
  simp [binOp, Op.equal, Op.maxDepth, this]
theorem eqlSome (a : Addr) (n c : Nat) (w : World) : (binOp .eql 26 (.slice (some a) n c) (.slice none 0 0)).run Tryz.prog w = .ok (.bool false) w := by
  have := eqInSl 9999 (some a) n c w
  simp only [Nat.reduceAdd] at this
  simp [binOp, Op.equal, Op.maxDepth, this]
end Go.Proofs.YtfoenojohemccaaGreatDoor
