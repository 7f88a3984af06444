/- integer: word and words: the number that a magnitude of at most 8 bytes is. | integer.magnitude. | integer: made, FromInt, Negate, Sign, in the range of one word. | integer.Negate, integer.Sign, rational.one, integer.Gcd, div, DivMod, rational.quotient in the range of one word. -/
import Derived.Test.YtfoenojohemccaaGreatDoorC3
import Derived.Test.YtfoenojohemccaaGreatDoorQK
import Derived.IntWalk
import Derived.Lib.ItoaNum
import Derived.Test.YtfoenojohemccaaGreatDoorQS
namespace Go.Proofs.YtfoenojohemccaaGreatDoor
open Go.RowKit Go.Sort Go.Proofs

/-- the number of a magnitude -/
def wordN (l : List UInt8) : Nat := l.foldl (fun a b => a * 256 + b.toNat) 0
theorem wordN_snoc (l : List UInt8) (b : UInt8) : wordN (l ++ [b]) = wordN l * 256 + b.toNat := by simp [wordN]
theorem wordN_lt (l : List UInt8) : wordN l < 256 ^ l.length := by
  suffices H : ∀ (l : List UInt8) (a : Nat), l.foldl (fun a b => a * 256 + b.toNat) a < (a + 1) * 256 ^ l.length by simpa [wordN] using H l 0
  intro l
  induction l with
  | nil => intro a; simp
  | cons b l ih =>
    intro a
    refine Nat.lt_of_lt_of_le (ih (a * 256 + b.toNat)) ?_
    rw [List.length_cons, Nat.pow_succ, Nat.mul_comm (256 ^ l.length), ← Nat.mul_assoc]
    refine Nat.mul_le_mul_right _ ?_
    have := b.toNat_lt
    omega
theorem or_byte (a b : Nat) (ha : a < 2 ^ 56) (hb : b < 256) : bits BinOp.or IntKind.u64 (IntKind.u64.wrap ((a : Int) * 256)) (IntKind.u64.wrap (b : Int)) = ((a * 256 + b : Nat) : Int) := by
  have e1 : IntKind.u64.wrap ((a : Int) * 256) = ((a * 256 : Nat) : Int) := by rw [show (a : Int) * 256 = ((a * 256 : Nat) : Int) from by simp]; exact IntWalk.u64_in _ (by omega)
  have e2 : IntKind.u64.wrap (b : Int) = (b : Int) := IntWalk.u64_in _ (by omega)
  rw [e1, e2]
  unfold bits
  have h1 : (BitVec.ofInt 64 ((a * 256 : Nat) : Int)) = BitVec.ofNat 64 (a * 256) := by simp only [BitVec.ofInt_natCast]
  have h2 : (BitVec.ofInt 64 (b : Int)) = BitVec.ofNat 64 b := by simp only [BitVec.ofInt_natCast]
  have h3 : (BitVec.ofNat 64 (a * 256) ||| BitVec.ofNat 64 b).toNat = a * 256 + b := by
    rw [BitVec.toNat_or, BitVec.toNat_ofNat, BitVec.toNat_ofNat, Nat.mod_eq_of_lt (by omega), Nat.mod_eq_of_lt (by omega)]
    have := Nat.shiftLeft_add_eq_or_of_lt (i := 8) (b := b) (by omega) a
    rw [Nat.shiftLeft_eq, show (2 : Nat) ^ 8 = 256 from rfl] at this
    omega
  show IntKind.u64.wrap (((BitVec.ofInt 64 ((a * 256 : Nat) : Int)) ||| (BitVec.ofInt 64 (b : Int))).toNat : Int) = _
  rw [h1, h2, h3]
  exact IntWalk.u64_in _ (by omega)

set_option maxHeartbeats 1000000 in
theorem word_any (s : ByteArray) (w : World) (hs : s.size ≤ 8) :
    Calls Tryz.prog 201 #[.string s] w fun e w' => e = .returned (.tuple #[.int .u64 (wordN s.data.toList), .bool true]) ∧ w' = w := by
  go_enter Tryz.func201, Tryz.ntmps201
  go_wp2_with fail
  go_loop [4, 5, 11] (fun u _ i => ∃ k : Nat, k ≤ s.size ∧ i = .int .i64 k ∧ u = .int .u64 (wordN (s.data.toList.take k))) (fun _ _ i => s.size - (intOf i).toNat)
  case atStart => exact ⟨0, Nat.zero_le _, rfl, rfl⟩
  case round =>
    obtain ⟨k, hk, rfl, rfl⟩ := hrel
    by_cases hlt : k < s.size
    · have hl := wordN_lt (s.data.toList.take k)
      have hlen : s.data.toList.length = s.size := rfl
      rw [List.length_take, hlen, Nat.min_eq_left hk] at hl
      have hl2 : wordN (s.data.toList.take k) < 2 ^ 56 := Nat.lt_of_lt_of_le hl (by
        have : 256 ^ k ≤ 256 ^ 7 := Nat.pow_le_pow_right (by decide) (by omega)
        exact this)
      have hb := or_byte (wordN (s.data.toList.take k)) s[k].toNat hl2 s[k].toNat_lt
      have ht : s.data.toList.take (k + 1) = s.data.toList.take k ++ [s[k]] := by
        rw [List.take_add_one, List.getElem?_eq_getElem (by omega)]
        rfl
      have HH := Lib.hid (And.intro hb ht)
      clear hb ht hl hl2 hlen
      go_wp2_with fail
      exact ⟨⟨k + 1, by omega, by simp, by rw [HH.out.1, HH.out.2, wordN_snoc]⟩, by simp [intOf]; omega⟩
    · obtain rfl : k = s.size := by omega
      have hlen : s.data.toList.length = s.size := rfl
      rw [← hlen, List.take_length]
      clear hlen
      go_wp2_with fail
      go_ret2
      exact ⟨rfl, rfl⟩

set_option maxHeartbeats 1000000 in
theorem words_any (a b : ByteArray) (w : World) (ha : a.size ≤ 8) (hb : b.size ≤ 8) :
    Calls Tryz.prog 181 #[.string a, .string b] w fun e w' => e = .returned (.tuple #[.int .u64 (wordN a.data.toList), .int .u64 (wordN b.data.toList), .bool true]) ∧ w' = w := by
  have h1 := word_any a w ha
  have h2 := word_any b w hb
  generalize wordN a.data.toList = x at *
  generalize wordN b.data.toList = y at *
  go_enter Tryz.func181, Tryz.ntmps181
  go_wp2_with fail
  refine h1.mono ?_
  rintro e w' ⟨rfl, rfl⟩
  go_wp2_with fail
  refine h2.mono ?_
  rintro e w' ⟨rfl, rfl⟩
  go_wp2_with fail
  go_ret3
  exact ⟨rfl, rfl⟩

/-- the bytes of a number, the greatest first -/
def beL (n u : Nat) : List Int := (List.range n).map fun j => ((u / 256 ^ (n - 1 - j) % 256 : Nat) : Int)
def lenB (u : Nat) : Nat := (Lib.bitLen u + 7) / 8
def magB (u : Nat) : ByteArray := if u = 0 then ByteArray.empty else strOfNums (beL (lenB u) u)
end Go.Proofs.YtfoenojohemccaaGreatDoor
namespace Go.Proofs.YtfoenojohemccaaGreatDoor
open Go.RowKit Go.Sort Go.Proofs

theorem lenB_le (u : Nat) (h : u < 18446744073709551616) (h0 : u ≠ 0) : 1 ≤ Lib.bitLen u ∧ Lib.bitLen u ≤ 64 ∧ u < 2 ^ Lib.bitLen u := by
  have hb := Lib.bitLenAux_bounds 64 u (by omega) h0
  have h1 : Lib.bitLen u = Lib.bitLenAux 64 u := rfl
  rw [h1]
  refine ⟨hb.1, ?_, hb.2.2⟩
  rcases Nat.lt_or_ge 64 (Lib.bitLenAux 64 u) with h2 | h2
  · exfalso
    have h3 : 2 ^ 64 ≤ 2 ^ (Lib.bitLenAux 64 u - 1) := Nat.pow_le_pow_right (by decide) (by omega)
    have := hb.2.1
    omega
  · exact h2

set_option maxHeartbeats 1000000 in
set_option maxRecDepth 100000 in
theorem magnitude_any (u : Nat) (w : World) (hu : u < 18446744073709551616) :
    Calls Tryz.prog 123 #[.int .u64 u] w fun e w' => e = .returned (.string (magB u)) ∧ Below w.heap.size w w' := by
  by_cases h0 : u = 0
  · subst h0
    have hm : magB 0 = ByteArray.empty := rfl
    rw [hm]
    go_enter Tryz.func123, Tryz.ntmps123
    go_wp2_with fail
    go_ret
    exact ⟨rfl, Below.refl _ _⟩
  · have hl := lenB_le u hu h0
    have hlen := Tryz.bits_Len64 u w (by omega) (by omega)
    rw [Int.toNat_natCast] at hlen
    have hm : magB u = strOfNums (beL ((Lib.bitLen u + 7) / 8) u) := by rw [magB, if_neg h0]; rfl
    rw [hm]
    generalize Lib.bitLen u = L at *
    have HL := Lib.hid hl.2.2
    obtain ⟨hl1, hl2, _⟩ := hl
    clear hm
    go_enter Tryz.func123, Tryz.ntmps123
    go_wp2_with fail
    refine hlen.mono ?_
    rintro e w' ⟨rfl, rfl⟩
    clear hlen
    obtain ⟨N, hN⟩ : ∃ N, N = (L + 7) / 8 := ⟨_, rfl⟩
    have hNi : ((L : Int) + 7) / 8 = N := by omega
    have hN1 : 1 ≤ N := by omega
    have hN8 : N ≤ 8 := by omega
    have hb0 : Below w'.heap.size w' (w'.alloc (.cells #[.int .u8 0, .int .u8 0, .int .u8 0, .int .u8 0, .int .u8 0, .int .u8 0, .int .u8 0, .int .u8 0] 206)) := (Below.refl _ _).alloc (Nat.le_refl _) _
    go_wp2_with fail
    rw [hNi]
    go_loopw [5, 13] (fun _ a wr => ∃ (i : Nat) (arr : Array Value), i ≤ N ∧ a = .int .i64 i ∧ wr.heap[w'.heap.size]? = some (.cells arr 206 (0, 0)) ∧ arr.size = 8 ∧ (∀ j, N - i ≤ j → j < N → arr[j]? = some (.int .u8 ((u / 256 ^ (N - 1 - j) % 256 : Nat) : Int))) ∧ Below w'.heap.size w' wr) (fun _ a _ => N - (intOf a).toNat)
    case atStart => exact ⟨0, _, Nat.zero_le _, rfl, World.alloc_heap_new w' _, rfl, by intro j h1 h2; omega, hb0⟩
    case round =>
      obtain ⟨i, arr, hi, rfl, hbk, hsz, harr, hbl⟩ := hrel
      by_cases hlt : i < N
      · obtain ⟨m, hm⟩ : ∃ m, N = m + i + 1 := ⟨N - i - 1, by omega⟩
        have hcell : ∃ old, wr.cell? ⟨w'.heap.size, m, none⟩ = some old := ⟨_, by simp [World.cell?, hbk]; exact Array.getElem?_eq_getElem (by omega)⟩
        obtain ⟨old, hcell⟩ := hcell
        have hfz : wr.frozen? ⟨w'.heap.size, m, none⟩ = false := by simp [World.frozen?, hbk]
        have h1 : (N : Int) - 1 - i = m := by omega
        have hm8 : m < 8 := by omega
        have hi8 : i < 8 := by omega
        have HM := Lib.hid hm
        clear hm hN hNi HL hb0
        have hbl2 := hbl.setCell (p := ⟨w'.heap.size, m, none⟩) (Nat.le_refl _) (.int .u8 ((u / 256 ^ i % 256 : Nat) : Int))
        have HH := Lib.hid (And.intro hbk (And.intro hsz (And.intro harr (And.intro hbl hbl2))))
        clear hbk hsz harr hbl hbl2
        go_wp2_with fail
        obtain ⟨hbk, hsz, harr, hbl, hbl2⟩ := HH.out
        have hm := HM.out
        have hv : ((u : Int) / 2 ^ (8 * i) % 256) = ((u / 256 ^ i % 256 : Nat) : Int) := by
          have : (2 : Nat) ^ (8 * i) = 256 ^ i := by rw [Nat.pow_mul]
          rw [← this]
          simp
        rw [hv]
        refine ⟨⟨i + 1, arr.setIfInBounds m (.int .u8 ((u / 256 ^ i % 256 : Nat) : Int)), by omega, by simp, heap_setCell_same wr _ m arr 206 _ hbk, by simpa using hsz, ?_, hbl2⟩, by simp [intOf]; omega⟩
        intro j h2 h3
        by_cases hj : j = m
        · subst hj
          rw [Array.getElem?_setIfInBounds_self_of_lt (by omega), show N - 1 - j = i from by omega]
        · rw [Array.getElem?_setIfInBounds_ne (fun e => hj e.symm)]
          exact harr j (by omega) h3
      · obtain rfl : i = N := by omega
        have hc : ∀ q, q < i → wr.cell? ⟨w'.heap.size, 0 + q, none⟩ = some (.int .u8 ((beL i u).getD q 0)) := fun q hq => by
          rw [Nat.zero_add]
          simp only [World.cell?, hbk]
          rw [harr q (by omega) hq]
          simp [beL, hq]
        have hcv := run_convert_bytes_arg (P := Tryz.prog) wr 207 5 Tryz.underlying207 Tryz.underlying5 w'.heap.size 0 i 8 (beL i u) (by simp [beL]) hc 9 Tryz.underlying9
        have hsl : (Instr.sliceAt 206 (.pointer (some ⟨w'.heap.size, 0, none⟩)) none (some (.int .i64 i)) none).run Tryz.prog wr = .ok (.slice (some ⟨w'.heap.size, 0, none⟩) i 8) wr := by
          have hal : Tryz.prog.arrayLen 206 = 8 := by kernel_rfl
          rw [run_sliceAt_array_h (P := Tryz.prog) wr 206 _ (by kernel_rfl) .i64 (i : Int) (by omega) (by rw [hal]; omega)]
          simp [go_sem]
          try omega
        have HF := Lib.hid (And.intro hbl hN)
        clear hc harr hbk hbl hN hNi HL hb0 hsz
        go_wp2_with fail
        go_ret
        exact ⟨by rw [← HF.out.2]; rfl, HF.out.1⟩
end Go.Proofs.YtfoenojohemccaaGreatDoor
namespace Go.Proofs.YtfoenojohemccaaGreatDoor
open Go.RowKit Go.Sort Go.Proofs

theorem beL_succ (n u : Nat) : beL (n + 1) u = beL n (u / 256) ++ [((u % 256 : Nat) : Int)] := by
  unfold beL
  rw [List.range_succ, List.map_append]
  congr 1
  · apply List.map_congr_left
    intro j hj
    rw [List.mem_range] at hj
    rw [show n + 1 - 1 - j = (n - 1 - j) + 1 from by omega, Nat.pow_succ, Nat.mul_comm, ← Nat.div_div_eq_div_mul]
  · simp
theorem wordN_beL : ∀ (n u : Nat), u < 256 ^ n → wordN ((beL n u).map fun k => UInt8.ofNat k.toNat) = u
  | 0, u, h => by simp at h; subst h; rfl
  | n + 1, u, h => by
    rw [beL_succ, List.map_append, List.map_cons, List.map_nil, wordN_snoc, wordN_beL n (u / 256) (by rw [Nat.pow_succ] at h; omega)]
    have : (UInt8.ofNat ((u % 256 : Nat) : Int).toNat).toNat = u % 256 := by
      rw [Int.toNat_natCast, UInt8.toNat_ofNat_of_lt' (by have := Nat.mod_lt u (show 0 < 256 by decide); simpa using this)]
    rw [this]
    omega
theorem magB_word (u : Nat) (h : u < 18446744073709551616) : wordN (magB u).data.toList = u := by
  by_cases h0 : u = 0
  · subst h0; rfl
  · rw [magB, if_neg h0, strOfNums_data]
    have hl := lenB_le u h h0
    refine wordN_beL _ _ (Nat.lt_of_lt_of_le hl.2.2 ?_)
    rw [show (256 : Nat) = 2 ^ 8 from rfl, ← Nat.pow_mul]
    exact Nat.pow_le_pow_right (by decide) (by unfold lenB; omega)
theorem magB_size (u : Nat) (h : u < 18446744073709551616) : (magB u).size ≤ 8 := by
  by_cases h0 : u = 0
  · subst h0; decide
  · rw [magB, if_neg h0, strOfNums_size]
    have hl := lenB_le u h h0
    simp [beL, lenB]
    omega
theorem magB_inj (u v : Nat) (hu : u < 18446744073709551616) (hv : v < 18446744073709551616) (h : magB u = magB v) : u = v := by
  rw [← magB_word u hu, h, magB_word v hv]
theorem magB_empty (u : Nat) (hu : u < 18446744073709551616) : magB u = ByteArray.empty ↔ u = 0 := by
  constructor
  · intro h
    exact magB_inj u 0 hu (by decide) (by rw [h]; rfl)
  · rintro rfl; rfl

/-- an integer of one word as the program holds it -/
def zI (z : Int) : Value := .agg #[.bool (decide (z < 0)), .string (magB z.natAbs)]
def zcells (z : Int) : Array Value := #[.bool (decide (z < 0)), .string (magB z.natAbs)]

theorem emp_toList (s : ByteArray) : s.toList.isEmpty = decide (s = ByteArray.empty) := by
  rw [Lib.toList_data]
  obtain ⟨⟨l⟩⟩ := s
  cases l with
  | nil => rfl
  | cons x l =>
    simp
    intro h
    cases h
theorem emp_magB (u : Nat) (hu : u < 18446744073709551616) : (magB u).toList.isEmpty = decide (u = 0) := by
  rw [emp_toList]
  exact decide_eq_decide.2 (magB_empty u hu)

set_option maxHeartbeats 1000000 in
theorem made_any (b : Bool) (u : Nat) (hu : u < 18446744073709551616) (w : World) :
    Calls Tryz.prog 122 #[.bool b, .string (magB u)] w fun e w' => e = .returned (.agg #[.bool (b && !decide (u = 0)), .string (magB u)]) ∧ Below w.heap.size w w' := by
  have he := emp_magB u hu
  obtain ⟨s, hs⟩ : ∃ s, s = magB u := ⟨_, rfl⟩
  rw [← hs] at he ⊢
  obtain ⟨d, hd⟩ : ∃ d, d = decide (u = 0) := ⟨_, rfl⟩
  rw [← hd] at he ⊢
  have HD := Lib.hid (And.intro hd hs)
  clear hd hs
  cases b
  · go_enter Tryz.func122, Tryz.ntmps122
    go_wp2_with fail
    refine bodyPost_ret (v := .agg #[.bool false, .string s]) (by simp [results, Tryz.results122, go_sem]) rfl ⟨rfl, (Below.refl _ _).alloc (Nat.le_refl _) _⟩
  · go_enter Tryz.func122, Tryz.ntmps122
    go_wp2_with fail
    refine bodyPost_ret (v := .agg #[.bool (!d), .string s]) (by simp [results, Tryz.results122, go_sem]) rfl ⟨rfl, (Below.refl _ _).alloc (Nat.le_refl _) _⟩

/-- a result's block, behind calls that leave it alone -/
theorem blk_at {w W : World} {cs : Array Value} {T : TypeId} {B : Nat} (hb : Below B (w.alloc (.cells cs T)) W) (hB : w.heap.size < B) (j : Nat) : W.cell? ⟨w.heap.size, j, none⟩ = cs[j]? ∧ W.frozen? ⟨w.heap.size, j, none⟩ = false := by
  constructor
  · rw [hb.cell hB]; simp [go_sem]
  · rw [hb.frozen hB]; simp [go_sem]
theorem u64_neg (z : Int) (h : z.natAbs < 9223372036854775808) (h0 : z < 0) : IntKind.u64.wrap (-IntKind.u64.wrap z) = z.natAbs := by
  rw [IntKind.wrap_u64, IntKind.wrap_u64]; omega

/-- the bounds of one word -/
def Wd (z : Int) : Prop := z.natAbs < 9223372036854775808

set_option maxHeartbeats 1000000 in
set_option maxRecDepth 100000 in
theorem fromInt_any (z : Int) (hz : Wd z) (w : World) :
    Calls Tryz.prog 86 #[.int .i64 z] w fun e w' => e = .returned (zI z) ∧ Below w.heap.size w w' := by
  unfold Wd at hz
  by_cases hs : z < 0
  · have hm := fun W => magnitude_any z.natAbs W (by omega)
    have hd := fun (b : Bool) W => made_any b z.natAbs (by omega) W
    have hneg := u64_neg z hz hs
    go_enter Tryz.func86, Tryz.ntmps86
    go_wp2_with fail
    refine (hm _).mono ?_
    rintro e w1 ⟨rfl, hb1⟩
    go_wp2_with fail
    refine (hd true _).mono ?_
    rintro e w2 ⟨rfl, hb2⟩
    have hb := hb1.trans (hb2.mono hb1.size)
    have c0 := blk_at hb (by simp) 0
    have c1 := blk_at hb (by simp) 1
    simp only [List.getElem?_toArray, List.getElem?_cons_zero, List.getElem?_cons_succ] at c0 c1
    obtain ⟨c0, f0⟩ := c0
    obtain ⟨c1, f1⟩ := c1
    have HB := Lib.hid hb
    clear hb hb1 hb2
    go_wp2_with fail
    refine bodyPost_ret (v := zI z) (by simp [results, Tryz.results86, go_sem, c0, c1, zI, hs]; omega) rfl ⟨rfl, ?_⟩
    exact (((Below.refl _ _).alloc (Nat.le_refl _) _).trans (HB.out.mono (by simp))).setCell (Nat.le_refl _) _ |>.setCell (Nat.le_refl _) _
  · obtain ⟨n, rfl⟩ : ∃ n : Nat, z = n := ⟨z.toNat, by omega⟩
    rw [Int.natAbs_natCast] at hz
    have hm := fun W => magnitude_any n W (by omega)
    have hd := fun (b : Bool) W => made_any b n (by omega) W
    have hzi : zI (n : Int) = .agg #[.bool false, .string (magB n)] := by simp [zI]
    rw [hzi]
    obtain ⟨s, hsn⟩ : ∃ s, s = magB n := ⟨_, rfl⟩
    rw [← hsn] at hm hd ⊢
    clear hzi hsn
    go_enter Tryz.func86, Tryz.ntmps86
    go_wp2_with fail
    refine (hm _).mono ?_
    rintro e w1 ⟨rfl, hb1⟩
    go_wp2_with fail
    refine (hd false _).mono ?_
    rintro e w2 ⟨rfl, hb2⟩
    have hb := hb1.trans (hb2.mono hb1.size)
    have c0 := blk_at hb (by simp) 0
    have c1 := blk_at hb (by simp) 1
    simp only [List.getElem?_toArray, List.getElem?_cons_zero, List.getElem?_cons_succ] at c0 c1
    obtain ⟨c0, f0⟩ := c0
    obtain ⟨c1, f1⟩ := c1
    have HB := Lib.hid hb
    clear hb hb1 hb2
    go_wp2_with fail
    refine bodyPost_ret (v := .agg #[.bool false, .string s]) (by simp [results, Tryz.results86, go_sem, c0, c1]) rfl ⟨rfl, ?_⟩
    exact (((Below.refl _ _).alloc (Nat.le_refl _) _).trans (HB.out.mono (by simp))).setCell (Nat.le_refl _) _ |>.setCell (Nat.le_refl _) _
end Go.Proofs.YtfoenojohemccaaGreatDoor
namespace Go.Proofs.YtfoenojohemccaaGreatDoor
open Go.RowKit Go.Sort Go.Proofs

set_option maxHeartbeats 1000000 in
set_option maxRecDepth 100000 in
theorem negate_any (z : Int) (hz : Wd z) (w : World) :
    Calls Tryz.prog 144 #[zI z] w fun e w' => e = .returned (zI (-z)) ∧ Below w.heap.size w w' := by
  unfold Wd at hz
  have hd := fun (b : Bool) W => made_any b z.natAbs (by omega) W
  have hzi : zI (-z) = .agg #[.bool (!decide (z < 0) && !decide (z.natAbs = 0)), .string (magB z.natAbs)] := by
    rw [zI, Int.natAbs_neg]
    congr 4
    rw [Bool.eq_iff_iff]
    simp
    omega
  rw [hzi, zI]
  generalize magB z.natAbs = s at *
  generalize decide (z < 0) = b at *
  generalize decide (z.natAbs = 0) = d at *
  clear hzi
  go_enter Tryz.func144, Tryz.ntmps144
  go_wp2_with fail
  refine (hd _ _).mono ?_
  rintro e w2 ⟨rfl, hb⟩
  have hb' : Below (w.heap.size + 1 + 1) ((w.alloc (.cells #[.bool b, .string s] 67)).alloc (.cells #[.bool false, .string { data := #[] }] 67)) w2 := by simpa using hb
  have c0 : w2.cell? ⟨w.heap.size + 1, 0, none⟩ = some (.bool false) := by rw [hb'.cell (by simp)]; simp [go_sem]
  have c1 : w2.cell? ⟨w.heap.size + 1, 1, none⟩ = some (.string { data := #[] }) := by rw [hb'.cell (by simp)]; simp [go_sem]
  have f0 : w2.frozen? ⟨w.heap.size + 1, 0, none⟩ = false := by rw [hb'.frozen (by simp)]; simp [go_sem]
  have f1 : w2.frozen? ⟨w.heap.size + 1, 1, none⟩ = false := by rw [hb'.frozen (by simp)]; simp [go_sem]
  have HB := Lib.hid hb
  clear hb hb'
  go_wp2_with fail
  refine bodyPost_ret (v := .agg #[.bool (!b && !d), .string s]) (by simp [results, Tryz.results144, go_sem, c0, c1]) rfl ⟨rfl, ?_⟩
  exact ((((Below.refl _ _).alloc (Nat.le_refl _) _).alloc (by simp) _).trans (HB.out.mono (by simp; omega))).setCell (by show w.heap.size ≤ _; simp) _ |>.setCell (by show w.heap.size ≤ _; simp) _

set_option maxHeartbeats 1000000 in
theorem sign_any (z : Int) (hz : Wd z) (w : World) :
    Calls Tryz.prog 114 #[zI z] w fun e w' => e = .returned (.int .i64 (if z = 0 then 0 else if z < 0 then -1 else 1)) ∧ Below w.heap.size w w' := by
  unfold Wd at hz
  have he := emp_magB z.natAbs (by omega)
  rw [zI]
  have hb : Below w.heap.size w (w.alloc (.cells #[.bool (decide (z < 0)), .string (magB z.natAbs)] 67)) := (Below.refl _ _).alloc (Nat.le_refl _) _
  by_cases h0 : z = 0
  · subst h0
    rw [if_pos rfl]
    generalize magB (Int.natAbs 0) = s at *
    go_enter Tryz.func114, Tryz.ntmps114
    go_wp2_with fail
    go_ret
    exact ⟨rfl, hb⟩
  · rw [if_neg h0]
    have hne : decide (z.natAbs = 0) = false := by simp; omega
    rw [hne] at he
    generalize magB z.natAbs = s at *
    by_cases hs : z < 0
    · rw [if_pos hs]
      have hd : decide (z < 0) = true := by simp [hs]
      rw [hd] at hb ⊢
      clear hd hs h0 hne
      go_enter Tryz.func114, Tryz.ntmps114
      go_wp2_with fail
      go_ret
      exact ⟨rfl, hb⟩
    · rw [if_neg hs]
      have hd : decide (z < 0) = false := by simp; omega
      rw [hd] at hb ⊢
      clear hd hs h0 hne
      go_enter Tryz.func114, Tryz.ntmps114
      go_wp2_with fail
      go_ret
      exact ⟨rfl, hb⟩

set_option maxHeartbeats 2000000 in
set_option maxRecDepth 100000 in
theorem gcd_any (a b : Int) (ha : Wd a) (hb : Wd b) (w : World) :
    Calls Tryz.prog 177 #[zI a, zI b] w fun e w' => e = .returned (zI (Int.gcd a b : Nat)) ∧ Below w.heap.size w w' := by
  unfold Wd at ha hb
  have hg : Int.gcd a b < 9223372036854775808 := by
    show Nat.gcd a.natAbs b.natAbs < _
    rcases Nat.eq_zero_or_pos a.natAbs with h | h
    · rw [h, Nat.gcd_zero_left]; exact hb
    · exact Nat.lt_of_le_of_lt (Nat.gcd_le_left _ h) ha
  have hzi : zI ((Int.gcd a b : Nat) : Int) = .agg #[.bool false, .string (magB (Int.gcd a b))] := by simp [zI]
  have hw := words_any (magB a.natAbs) (magB b.natAbs)
  rw [magB_word _ (by omega), magB_word _ (by omega)] at hw
  have hw := fun W => hw W (magB_size _ (by omega)) (magB_size _ (by omega))
  have hm := fun (u : Nat) (hu : u < 9223372036854775808) W => magnitude_any u W (by omega)
  have hd := fun (u : Nat) (hu : u < 9223372036854775808) W => made_any false u (by omega) W
  have he := emp_magB b.natAbs (by omega)
  rw [hzi, zI, zI]
  have hgab : Int.gcd a b = Nat.gcd a.natAbs b.natAbs := rfl
  rw [hgab] at hg ⊢
  clear hzi hgab
  generalize decide (a < 0) = na at *
  generalize decide (b < 0) = nb at *
  obtain ⟨sa, hsa⟩ : ∃ s, s = magB a.natAbs := ⟨_, rfl⟩
  obtain ⟨sb, hsb⟩ : ∃ s, s = magB b.natAbs := ⟨_, rfl⟩
  rw [← hsa, ← hsb] at hw
  rw [← hsb] at he
  rw [← hsa, ← hsb]
  have HS := Lib.hid (And.intro hsa hsb)
  clear hsa hsb
  generalize a.natAbs = x at *
  generalize b.natAbs = y at *
  have hb0 : Below w.heap.size w (((w.alloc (.cells #[.bool na, .string sa] 67)).alloc (.cells #[.bool nb, .string sb] 67)).alloc (.cells #[.bool false, .string { data := #[] }] 67)) := (((Below.refl _ _).alloc (Nat.le_refl _) _).alloc (by simp) _).alloc (by simp; omega) _
  go_enter Tryz.func177, Tryz.ntmps177
  go_wp2_with fail
  go_region
  go_wp2_with fail
  go_loopw [5, 6] (fun u v wr => u = .string sa ∧ v = .string sb ∧ Below (w.heap.size + 1 + 1 + 1) (((w.alloc (.cells #[.bool na, .string sa] 67)).alloc (.cells #[.bool nb, .string sb] 67)).alloc (.cells #[.bool false, .string { data := #[] }] 67)) wr) (fun _ _ _ => 0)
  case atStart => exact ⟨rfl, rfl, (Below.refl _ _).drew⟩
  case round =>
    obtain ⟨rfl, rfl, hbr⟩ := hrel
    have hbw : Below w.heap.size w wr := hb0.trans (hbr.mono (by omega))
    have hszr : w.heap.size + 1 + 1 + 1 ≤ wr.heap.size := by have := hbr.size; simpa using this
    have hfin : ∀ W, Below (w.heap.size + 1 + 1 + 1) wr W → (W.cell? ⟨w.heap.size + 1 + 1, 0, none⟩ = some (.bool false) ∧ W.cell? ⟨w.heap.size + 1 + 1, 1, none⟩ = some (.string { data := #[] }) ∧ W.frozen? ⟨w.heap.size + 1 + 1, 0, none⟩ = false ∧ W.frozen? ⟨w.heap.size + 1 + 1, 1, none⟩ = false) ∧ Below w.heap.size w W := by
      intro W hW
      have hbr2 := hbr.trans hW
      exact ⟨⟨by rw [hbr2.cell (by simp)]; simp [go_sem], by rw [hbr2.cell (by simp)]; simp [go_sem], by rw [hbr2.frozen (by simp)]; simp [go_sem], by rw [hbr2.frozen (by simp)]; simp [go_sem]⟩, hb0.trans (hbr2.mono (by omega))⟩
    have HFIN := Lib.hid hfin
    clear hfin hbr hbw hb0
    by_cases hy : y = 0
    · have hyd : decide (y = 0) = true := by simp [hy]
      rw [hyd] at he
      have hgx : Nat.gcd x y = x := by rw [hy, Nat.gcd_zero_right]
      have HD := Lib.hid (hd x (by omega))
      have hsx : sa = magB x := HS.out.1
      clear hd hm hw
      go_wp2_with fail
      rw [hsx]
      refine (HD.out _).mono ?_
      rintro e w2 ⟨rfl, hb2⟩
      obtain ⟨⟨c0, c1, f0, f1⟩, hbf⟩ := HFIN.out w2 (hb2.mono hszr)
      clear hsx
      go_wp2_with fail
      refine bodyPost_ret (v := .agg #[.bool false, .string (magB x)]) (by simp [results, Tryz.results177, go_sem, c0, c1]) rfl ⟨by rw [hgx], ?_⟩
      exact hbf.setCell (by show w.heap.size ≤ w.heap.size + 1 + 1; omega) _ |>.setCell (by show w.heap.size ≤ w.heap.size + 1 + 1; omega) _
    · have hyd : decide (y = 0) = false := by simp [hy]
      rw [hyd] at he
      have HM := Lib.hid hm
      have HD := Lib.hid hd
      clear hm hd
      go_wp2_with fail
      refine (hw _).mono ?_
      rintro e w1 ⟨rfl, rfl⟩
      clear hw
      go_wp2_with fail
      go_loopw [7, 8] (fun u v wq => ∃ p q : Nat, u = .int .u64 p ∧ v = .int .u64 q ∧ p < 9223372036854775808 ∧ q < 9223372036854775808 ∧ Nat.gcd p q = Nat.gcd x y ∧ Below w1.heap.size w1 wq) (fun _ v _ => (intOf v).toNat)
      case atStart => exact ⟨x, y, rfl, rfl, by omega, by omega, rfl, Below.refl _ _⟩
      case round =>
        obtain ⟨p, q, rfl, rfl, hp, hq, hgc, hbq⟩ := hrel
        by_cases hq0 : q = 0
        · subst hq0
          rw [Nat.gcd_zero_right] at hgc
          subst hgc
          have HDp := Lib.hid (HD.out (Nat.gcd x y) hg)
          have HMp := Lib.hid (HM.out (Nat.gcd x y) hg)
          obtain ⟨gg, hgg⟩ : ∃ gg, gg = Nat.gcd x y := ⟨_, rfl⟩
          rw [← hgg] at HDp HMp ⊢
          have HGG := Lib.hid hgg
          clear hgg hg
          go_wp2_with fail
          refine (HMp.out _).mono ?_
          rintro e w2 ⟨rfl, hb2⟩
          go_wp2_with fail
          refine (HDp.out _).mono ?_
          rintro e w3 ⟨rfl, hb3⟩
          obtain ⟨⟨c0, c1, f0, f1⟩, hbf⟩ := HFIN.out w3 ((hbq.mono hszr).trans ((hb2.mono (by have := hbq.size; omega)).trans (hb3.mono (by have := hbq.size; have := hb2.size; omega))))
          clear hb2 hb3 hbq
          go_wp2_with fail
          refine bodyPost_ret (v := .agg #[.bool false, .string (magB gg)]) (by simp [results, Tryz.results177, go_sem, c0, c1]) rfl ⟨by rw [HGG.out], ?_⟩
          exact hbf.setCell (by show w.heap.size ≤ w.heap.size + 1 + 1; omega) _ |>.setCell (by show w.heap.size ≤ w.heap.size + 1 + 1; omega) _
        · have hmod : p % q < q := Nat.mod_lt _ (by omega)
          have hgc2 : Nat.gcd q (p % q) = Nat.gcd x y := by rw [← hgc, Nat.gcd_comm, ← Nat.gcd_rec, Nat.gcd_comm]
          go_wp2_with fail
          go_region
          go_wp2_with fail
          refine ⟨⟨q, p % q, rfl, by simp, hq, by omega, hgc2, hbq.drew⟩, ?_⟩
          have e1 : ((p : Int) % q) = ((p % q : Nat) : Int) := by simp
          rw [e1]
          show (((p % q : Nat) : Int)).toNat < ((q : Nat) : Int).toNat
          omega
end Go.Proofs.YtfoenojohemccaaGreatDoor
