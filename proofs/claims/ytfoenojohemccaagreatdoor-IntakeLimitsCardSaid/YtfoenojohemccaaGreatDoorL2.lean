/- viatorlaw27.IntakeLimits: the walk: it returns true, if known does. -/
import Derived.Test.YtfoenojohemccaaGreatDoorL1
import Derived.Test.YtfoenojohemccaaGreatDoorQN
import Derived.Test.YtfoenojohemccaaGreatDoorQH
import Derived.Deep.RegionHeldLaw
namespace Go.Proofs.YtfoenojohemccaaGreatDoor
open Go.RowKit Go.Sort Go.Proofs

/-- append to a row of the call's own, as one step of a region that draws -/
theorem step_append_own {P : Program} {ops : Array Oper} {o : Oper} {a : Act} {w : World} {K : Act → World → Prop} {Q : Exit → Act → World → Prop} {E : Prop}
    (hg : o.guard = none) (s x : Operand) (t : TypeId) (hop : o.op = Op.call { callee := Callee.builtin Builtin.append, args := #[s, x], argTypes := #[t, t] })
    (base : Nat) (e : TypeId) (i : TypeInfo) (z : Value) (size bytes : Nat) (ht : P.underlying t = some (.slice e)) (hi : P.info? e = some i) (hz : i.zero = some z) (hsize : i.size = size) (hby : i.bytes = bytes) (hzs : z.cells.size = size) (hsz : 0 < size)
    (v : Value) (n : Nat) (xs : List Value) (hs : a.eval s = v) (hown : w.ownsRow base e size v n xs) (ad : Addr) (m c : Nat) (news : List Value) (hx : a.eval x = .slice (some ad) m c) (hl : news.length = m * size)
    (hnews : ∀ j u, news[j]? = some u → w.cell? (ad.add j) = some u) (h1 : ∀ u ∈ news, u.oneCell' = true) (h63 : n + m ≤ maxLen) (hbytes : (n + m) * bytes ≤ 140737488355328) (hbase : base ≤ w.heap.size)
    (hK : ∀ v' w', w'.ownsRow base e size v' (n + m) (xs ++ news) → w.grownBy w' v.ownBlock → K (a.put o.dst v') w') :
    if Region.wanted o (yielded ops a.tmps) = true then Oper.wp P o a w K Q else E := by
  have hw : Region.wanted o (yielded ops a.tmps) = true := by simp [Region.wanted, hg]
  rw [if_pos hw]
  obtain ⟨v', w', hrun, h2, h3, _⟩ := run_append_own (P := P) w base t o.type e i z size bytes ht hi hz hsize hby hzs hsz v n xs hown ad m c news hl hnews h1 h63 hbytes hbase
  unfold Oper.wp
  simp [execOp, hop, resolve, invoke, builtin, hs, hx, hrun, Result.andThen]
  exact hK v' w' h2 h3

/-- a literal of reports -/
theorem rowLit (W : World) (l : List Rep) (c : Nat) : RowOf Rep.cells 8 (W.alloc (.cells (l.flatMap Rep.cells).toArray 28)) (.slice (some ⟨W.heap.size, 0, none⟩) l.length c) l :=
  ⟨_, _, rfl, fun i x hx => ⟨_, _, rfl, fun j hj => by
    rw [(At.new W (l.flatMap Rep.cells).toArray 28).1, List.getElem?_toArray, Nat.zero_add]
    exact flat_at Rep.cells_len l i j x hx hj⟩⟩
theorem rowLitX (W : World) (l : List Exc) (c : Nat) : RowOf Exc.cells 5 (W.alloc (.cells (l.flatMap Exc.cells).toArray 36)) (.slice (some ⟨W.heap.size, 0, none⟩) l.length c) l :=
  ⟨_, _, rfl, fun i x hx => ⟨_, _, rfl, fun j hj => by
    rw [(At.new W (l.flatMap Exc.cells).toArray 36).1, List.getElem?_toArray, Nat.zero_add]
    exact flat_at Exc.cells_len l i j x hx hj⟩⟩
theorem IntakeAt.later' {w w' : World} {bx br be : Nat} {rs : List Rep} {es : List Exc} (h : IntakeAt w bx br be rs es) (hb : Below w.heap.size w w') : IntakeAt w' bx br be rs es := h.mod (Mod.of_below (fun _ => False) hb) (fun e => e) (fun e => e) (fun e => e)
theorem rowNone {α : Type} (enc : α → List Value) (k : Nat) (W : World) : RowOf enc k W (.slice none 0 0) [] := ⟨none, 0, rfl, fun i x hx => by simp at hx⟩

theorem owns_some {w : World} {base ty size n : Nat} {v : Value} {xs : List Value} (hn : n ≠ 0) (h : w.ownsRow base ty size v n xs) : ∃ g c, v = .slice (some ⟨g, 0, none⟩) n c := by
  rcases h.2 with ⟨_, h⟩ | ⟨g, c, cur, h, _⟩
  · exact absurd h hn
  · exact ⟨g, c, h⟩
theorem lim_call1 (bx br be : Nat) (q : Int) (k : Nat) (h0 : 0 ≤ q) (h1 : q ≤ 65535) (hk : k ≤ 255) (v : Value) (W : World) (h : IntakeAt W bx br be [] []) (hr : RowOf Rep.cells 8 W v (limL q 4096 ++ (limL q 4096).take k)) :
    Calls Tryz.prog 15 #[.pointer (some ⟨bx, 0, none⟩), .agg #[v, .slice none 0 0]] W fun e w' => e = .returned (.tuple #[.int .i64 4096, .int .i64 0]) ∧ ∃ R, R.Perm (limL q 4096) ∧ IntakeAt w' bx br be R [] ∧ Mod (fun k => k = br ∨ k = be) W w' :=
  (add_any bx br be [] [] _ _ _ [] W h hr (rowNone _ _ _) ⟨by decide, by decide, by rw [List.length_append, limL_len, List.length_take, limL_len]; omega, by decide⟩).mono fun e w' h => lim_add1 h0 h1 h
theorem lim_call2 (bx br be : Nat) (q : Int) (k : Nat) (h0 : 0 ≤ q) (h1 : q ≤ 65535) (hk : k ≤ 255) (R : List Rep) (hR : R.Perm (limL q 4096)) (v : Value) (W : World) (h : IntakeAt W bx br be R []) (hr : RowOf Rep.cells 8 W v [limR q k, nineR]) :
    Calls Tryz.prog 15 #[.pointer (some ⟨bx, 0, none⟩), .agg #[v, .slice none 0 0]] W fun e w' => e = .returned (.tuple #[.int .i64 0, .int .i64 3]) ∧ Below W.heap.size W w' :=
  (add_any bx br be R [] _ _ [limR q k, nineR] [] _ h hr (rowNone _ _ _) ⟨by rw [hR.length_eq, limL_len]; exact Nat.le_refl _, by decide, by simp, by decide⟩).mono fun e w' h => lim_add2 h0 h1 (by omega) hR h
theorem lim_call3 (bx br be : Nat) (q : Int) (k : Nat) (h0 : 0 ≤ q) (h1 : q ≤ 65535) (hk : k ≤ 255) (R : List Rep) (hR : R.Perm (limL q 4096)) (v u : Value) (W : World) (h : IntakeAt W bx br be R []) (hr : RowOf Rep.cells 8 W v [limR q k]) (hx : RowOf Exc.cells 5 W u [oneX]) :
    Calls Tryz.prog 15 #[.pointer (some ⟨bx, 0, none⟩), .agg #[v, u]] W fun e w' => e = .returned (.tuple #[.int .i64 1, .int .i64 0]) ∧ IntakeAt w' bx br be R [oneX] ∧ Mod (fun k => k = br ∨ k = be) W w' :=
  (add_any bx br be R [] _ _ [limR q k] [oneX] _ h hr hx ⟨by rw [hR.length_eq, limL_len]; exact Nat.le_refl _, by decide, by simp, by decide⟩).mono fun e w' h => lim_add3 h0 h1 (by omega) hR h
set_option maxRecDepth 100000 in
theorem limrow2 (W : World) (q A B : Int) (k : Nat) (hA : A = 1 + (k : Int) % 5) (hB : B = q + (k : Int) / 5) :
    RowOf Rep.cells 8 (W.alloc (.cells #[.int .i64 A, .int .i64 B, .int .i64 0, .int .i64 0, .int .i64 k, .int .i64 0, .int .i64 0, .bool false, .int .i64 9, .int .i64 0, .int .i64 0, .int .i64 0, .int .i64 0, .int .i64 0, .int .i64 0, .bool false] 28)) (.slice (some ⟨W.heap.size, 0, none⟩) 2 2) [limR q k, nineR] := by
  have h := rowLit W [limR q k, nineR] 2
  have e : ([limR q k, nineR].flatMap Rep.cells).toArray = #[.int .i64 A, .int .i64 B, .int .i64 0, .int .i64 0, .int .i64 k, .int .i64 0, .int .i64 0, .bool false, .int .i64 9, .int .i64 0, .int .i64 0, .int .i64 0, .int .i64 0, .int .i64 0, .int .i64 0, .bool false] := by
    subst hA hB
    simp [List.flatMap_cons, Rep.cells, limR, nineR]
  rw [e] at h
  exact h
set_option maxRecDepth 100000 in
theorem limrow1 (W : World) (q A B : Int) (k : Nat) (hA : A = 1 + (k : Int) % 5) (hB : B = q + (k : Int) / 5) :
    RowOf Rep.cells 8 (W.alloc (.cells #[.int .i64 A, .int .i64 B, .int .i64 0, .int .i64 0, .int .i64 k, .int .i64 0, .int .i64 0, .bool false] 28)) (.slice (some ⟨W.heap.size, 0, none⟩) 1 1) [limR q k] := by
  have h := rowLit W [limR q k] 1
  have e : ([limR q k].flatMap Rep.cells).toArray = #[.int .i64 A, .int .i64 B, .int .i64 0, .int .i64 0, .int .i64 k, .int .i64 0, .int .i64 0, .bool false] := by
    subst hA hB
    simp [List.flatMap_cons, Rep.cells, limR]
  rw [e] at h
  exact h
set_option maxRecDepth 100000 in
theorem limcells {W : World} {g cap : Nat} {q A B : Int} {k : Nat} (hk : k ≤ 255) (hA : A = 1 + (k : Int) % 5) (hB : B = q + (k : Int) / 5) (h : RowOf Rep.cells 8 W (.slice (some ⟨g, 0, none⟩) 4096 cap) (limL q 4096)) :
    W.cell? ⟨g, k * 8, none⟩ = some (.int .i64 A) ∧ W.cell? ⟨g, k * 8 + 1, none⟩ = some (.int .i64 B) ∧ W.cell? ⟨g, k * 8 + 2, none⟩ = some (.int .i64 0) ∧ W.cell? ⟨g, k * 8 + 3, none⟩ = some (.int .i64 0) ∧ W.cell? ⟨g, k * 8 + 4, none⟩ = some (.int .i64 k) ∧ W.cell? ⟨g, k * 8 + 5, none⟩ = some (.int .i64 0) ∧ W.cell? ⟨g, k * 8 + 6, none⟩ = some (.int .i64 0) ∧ W.cell? ⟨g, k * 8 + 7, none⟩ = some (.bool false) := by
  subst hA hB
  obtain ⟨a, c, he, hx⟩ := h
  cases he
  obtain ⟨g', off, he, hx⟩ := hx k (limR q k) (limL_get q 4096 k (by omega))
  cases he
  simp only [Nat.zero_add] at hx
  exact ⟨hx 0 (by omega), hx 1 (by omega), hx 2 (by omega), hx 3 (by omega), hx 4 (by omega), hx 5 (by omega), hx 6 (by omega), hx 7 (by omega)⟩

theorem lim_call3w (bx br be : Nat) (q : Int) (k : Nat) (h0 : 0 ≤ q) (h1 : q ≤ 65535) (hk : k ≤ 255) (R : List Rep) (hR : R.Perm (limL q 4096)) (A B : Int) (hA : A = 1 + (k : Int) % 5) (hB : B = q + (k : Int) / 5) (w4 : World) (h : IntakeAt w4 bx br be R []) (b : Nat) (hb : b = w4.heap.size + 1) :
    Calls Tryz.prog 15 #[.pointer (some ⟨bx, 0, none⟩), .agg #[.slice (some ⟨w4.heap.size, 0, none⟩) 1 1, .slice (some ⟨b, 0, none⟩) 1 1]] ((w4.alloc (.cells #[.int .i64 A, .int .i64 B, .int .i64 0, .int .i64 0, .int .i64 k, .int .i64 0, .int .i64 0, .bool false] 28)).alloc (.cells #[.int .i64 0, .int .i64 1, .int .i64 0, .int .i64 0, .int .i64 0] 36)) fun e w' =>
      e = .returned (.tuple #[.int .i64 1, .int .i64 0]) ∧ IntakeAt w' bx br be R [oneX] ∧ Mod (fun k => k = br ∨ k = be) ((w4.alloc (.cells #[.int .i64 A, .int .i64 B, .int .i64 0, .int .i64 0, .int .i64 k, .int .i64 0, .int .i64 0, .bool false] 28)).alloc (.cells #[.int .i64 0, .int .i64 1, .int .i64 0, .int .i64 0, .int .i64 0] 36)) w' := by
  have hr := limrow1 w4 q A B k hA hB
  have ha := h.later' ((Below.refl w4.heap.size w4).alloc (Nat.le_refl _) (.cells #[.int .i64 A, .int .i64 B, .int .i64 0, .int .i64 0, .int .i64 k, .int .i64 0, .int .i64 0, .bool false] 28))
  have hs : b = (w4.alloc (.cells #[.int .i64 A, .int .i64 B, .int .i64 0, .int .i64 0, .int .i64 k, .int .i64 0, .int .i64 0, .bool false] 28)).heap.size := by rw [World.size_alloc]; exact hb
  generalize (w4.alloc (.cells #[.int .i64 A, .int .i64 B, .int .i64 0, .int .i64 0, .int .i64 k, .int .i64 0, .int .i64 0, .bool false] 28)) = W at *
  have hbW := (Below.refl W.heap.size W).alloc (Nat.le_refl _) (.cells #[.int .i64 0, .int .i64 1, .int .i64 0, .int .i64 0, .int .i64 0] 36)
  subst hs
  exact lim_call3 bx br be q k h0 h1 hk R hR _ _ _ (ha.later' hbW) (hr.below Rep.cells_len hbW) (rowLitX W [oneX] 1)
set_option maxHeartbeats 4000000 in
set_option maxRecDepth 100000 in
theorem limits_gen (hk : ∀ W, Calls Tryz.prog 13 #[] W fun e w' => e = .returned (.bool true) ∧ Below W.heap.size W w') (q : Int) (k : Nat) (h0 : 0 ≤ q) (h1 : q ≤ 65535) (hk8 : k ≤ 255) (w : World) :
    Calls Tryz.prog 3 #[.int .u16 q, .int .u8 k] w fun e w' => e = .returned (.bool true) ∧ Below w.heap.size w w' := by
  obtain ⟨i0, hi, hz0, hz1, hz2⟩ := info_parts Tryz.info28
  have HK := Lib.hid hk
  clear hk
  go_enter Tryz.func3, Tryz.ntmps3
  go_wp2_with fail
  refine (HK.out _).mono ?_
  rintro e w1 ⟨rfl, hb1⟩
  have HB1 := Lib.hid hb1
  clear hb1
  go_wp2_with fail
  refine (new_any _).mono ?_
  rintro e w2 ⟨bx, br, be, rfl, hI2, hb2, hx1, hx2, hx3⟩
  have HI2 := Lib.hid (And.intro hI2 (And.intro (HB1.out.trans (hb2.mono HB1.out.size)) (And.intro hb2 (And.intro hx1 (And.intro hx2 hx3)))))
  clear hI2 hb2 hx1 hx2 hx3
  go_wp2_with fail
  go_loopw [6, 7] (fun s i wr => ∃ n : Nat, n ≤ 4096 ∧ i = .int .i64 n ∧ Hid (wr.ownsRow w2.heap.size 28 8 s n ((limL q n).flatMap Rep.cells) ∧ Below w2.heap.size w2 wr)) (fun _ i _ => 4096 - (intOf i).toNat)
  case atStart => exact ⟨0, by omega, rfl, World.ownsRow_nil _ _ _ _, Below.refl _ _⟩
  case round =>
    obtain ⟨n, hn, rfl, HN⟩ := hrel
    by_cases hlt : n < 4096
    · have hnew := rep_new wr (Rep.cells (limR q n)) 28
      have HNEW := Lib.hid hnew
      clear hnew
      have hnz : (0 : Int) ≤ (n : Int) := by omega
      go_wp2_with (at_builtin; refine wpList_append_own _ rfl _ _ 26 rfl w2.heap.size 28 i0 (Rep.val ⟨0, 0, 0, 0, 0, 0, 0, false⟩) 8 64 Tryz.underlying26 hi hz0 hz1 hz2 rfl (by decide) u6 n ((limL q n).flatMap Rep.cells) rfl (HN.out.1.alloc _) ⟨wr.heap.size, 0, none⟩ 1 1 (Rep.cells (limR q n)) rfl rfl HNEW.out (oneCellR _) (by simp only [maxLen]; omega) (by omega) (by have := HN.out.2.size; simp; omega) ?_; intro v' w5 hown' hgrow _)
      have hb5 : Below w2.heap.size w2 w5 := (HN.out.2.alloc HN.out.2.size _).grown hgrow (by have := HN.out.2.size; simp; omega) (fun k e => by have := (HN.out.1.lt k e).1; omega)
      refine ⟨⟨n + 1, by omega, by simp, ?_⟩, by simp [intOf]; omega⟩
      show _ ∧ _
      rw [limL_succ, List.flatMap_append, List.flatMap_cons, List.flatMap_nil, List.append_nil]
      exact ⟨hown', hb5⟩
    · obtain rfl : n = 4096 := by omega
      have hown := HN.out.1
      rcases hown.2 with ⟨_, h⟩ | ⟨g, cap, cur, rfl, hgb, hgr, hnc, hcm, hcs, htk⟩
      · omega
      have hrow : RowOf Rep.cells 8 wr (.slice (some ⟨g, 0, none⟩) 4096 cap) (limL q 4096) := RowOf.of_owns Rep.cells_len (by rw [limL_len]; exact hown)
      have hcell : (wr.alloc (.cells #[] 28)).ownsRow wr.heap.size 28 8 (.slice (some ⟨wr.heap.size, 0, none⟩) 0 0) 0 [] :=
        ⟨rfl, .inr ⟨wr.heap.size, 0, #[], rfl, Nat.le_refl _, World.alloc_heap_new wr _, Nat.le_refl _, by decide, rfl, rfl⟩⟩
      have hb0 : Below wr.heap.size wr (wr.alloc (.cells #[] 28)).drew := ((Below.refl _ _).alloc (Nat.le_refl _) _).drew
      have hglt : g < wr.heap.size := (hown.lt g rfl).2
      have hnews : ∀ W, Below wr.heap.size wr W → ∀ (j : Nat) u, ((limL q 4096).flatMap Rep.cells)[j]? = some u → W.cell? ((⟨g, 0, none⟩ : Addr).add j) = some u := fun W hW => by
        obtain ⟨a, c, he, hx⟩ := hrow.below Rep.cells_len hW
        cases he
        exact row_news Rep.cells_len (by decide) hx
      have hnews2 : ∀ W, Below wr.heap.size wr W → ∀ (j : Nat) u, (((limL q 4096).take k).flatMap Rep.cells)[j]? = some u → W.cell? ((⟨g, 0, none⟩ : Addr).add j) = some u := fun W hW j u hu => by
        refine hnews W hW j u ?_
        have hsp : (limL q 4096).flatMap Rep.cells = ((limL q 4096).take k).flatMap Rep.cells ++ ((limL q 4096).drop k).flatMap Rep.cells := by
          rw [← List.flatMap_append, List.take_append_drop]
        rw [hsp, List.getElem?_append_left (List.getElem?_eq_some_iff.1 hu).1]
        exact hu
      have hlenF : ((limL q 4096).flatMap Rep.cells).length = 4096 * 8 := by rw [flat_len Rep.cells_len, limL_len]
      have hlenT : (((limL q 4096).take k).flatMap Rep.cells).length = k * 8 := by rw [flat_len Rep.cells_len, List.length_take, limL_len, Nat.min_eq_left (by omega)]
      have HQ := Lib.hid (And.intro hcell (And.intro hnews (And.intro hnews2 (And.intro hlenF (And.intro hlenT (And.intro hrow hb0))))))
      clear hown hgr hcs htk hcell hnews hnews2 hlenF hlenT hrow hb0
      have kz : (0 : Int) ≤ (k : Int) := by omega
      have kc : (k : Int) ≤ (cap : Int) := by omega
      go_wp2_with fail
      go_region_held_law (fun _ => True)
        (exact trivial)
        (first
          | (refine step_append_own rfl _ _ 26 rfl wr.heap.size 28 i0 (Rep.val ⟨0, 0, 0, 0, 0, 0, 0, false⟩) 8 64 Tryz.underlying26 hi hz0 hz1 hz2 rfl (by decide) (.slice (some ⟨wr.heap.size, 0, none⟩) 0 0) 0 [] rfl HQ.out.1 ⟨g, 0, none⟩ 4096 cap _ rfl HQ.out.2.2.2.1 (HQ.out.2.1 _ HQ.out.2.2.2.2.2.2) (oneCellRs _) (by decide) (by decide) (by simp) ?_; intro v1 wA hownA hgrowA; simp only [Nat.zero_add, List.nil_append] at hownA; have hbA : Below wr.heap.size wr wA := HQ.out.2.2.2.2.2.2.grown hgrowA (by simp) (fun k e => by cases e; exact Nat.le_refl _))
          | (refine step_append_own rfl _ _ 26 rfl wr.heap.size 28 i0 (Rep.val ⟨0, 0, 0, 0, 0, 0, 0, false⟩) 8 64 Tryz.underlying26 hi hz0 hz1 hz2 rfl (by decide) v1 4096 _ rfl hownA ⟨g, 0, none⟩ k cap _ rfl HQ.out.2.2.2.2.1 (HQ.out.2.2.1 _ hbA) (oneCellRs _) (by simp only [maxLen]; omega) (by omega) hbA.size ?_; intro v2 wB hownB hgrowB; have hbB : Below wr.heap.size wr wB := hbA.grown hgrowB hbA.size (fun k e => (hownA.lt k e).1); obtain ⟨g2, c2, rfl⟩ := owns_some (by omega) hownB)
          | (go_at_call 15; refine (lim_call1 bx br be q k h0 h1 hk8 _ _ ((HI2.out.1.later' HN.out.2).later' hbB) (RowOf.of_owns Rep.cells_len (by rw [List.length_append, limL_len, List.length_take, limL_len, Nat.min_eq_left (by omega), List.flatMap_append]; exact hownB))).mono ?_; rintro e w3 ⟨rfl, R, hR, hI3, hm3⟩))
      have hI2 := (HI2.out.1.later' HN.out.2).later' hbB
      have hbr : br < w2.heap.size ∧ be < w2.heap.size := HI2.out.1.lt.2
      have hrow3 : RowOf Rep.cells 8 w3 (.slice (some ⟨g, 0, none⟩) 4096 cap) (limL q 4096) :=
        (HQ.out.2.2.2.2.2.1.below Rep.cells_len hbB).mod Rep.cells_len hm3 (fun g' e => by cases e; intro h; have h' : g = br ∨ g = be := h; omega)
      obtain ⟨A, hA⟩ : ∃ A : Int, A = 1 + (k : Int) % 5 := ⟨_, rfl⟩
      obtain ⟨B, hB⟩ : ∃ B : Int, B = q + (k : Int) / 5 := ⟨_, rfl⟩
      have hbw : Below w.heap.size w w3 := by
        have hs1 := HB1.out.size
        have hs2 := HI2.out.2.1.size
        have hs3 := HN.out.2.size
        have hs4 := hbB.size
        have h2 : Below w.heap.size w wr := HI2.out.2.1.trans (HN.out.2.mono hs2)
        have h3 : Below w.heap.size w wB := h2.trans (hbB.mono (by omega))
        exact h3.trans (hm3.toBelow (fun k hk => by rcases hk with rfl | rfl; exact Nat.le_trans hs1 HI2.out.2.2.2.2.1; exact Nat.le_trans hs1 HI2.out.2.2.2.2.2) (by omega))
      have hbx : w.heap.size ≤ br ∧ w.heap.size ≤ be := ⟨Nat.le_trans HB1.out.size HI2.out.2.2.2.2.1, Nat.le_trans HB1.out.size HI2.out.2.2.2.2.2⟩
      have HA := Lib.hid (And.intro hA (And.intro hB (And.intro hR (And.intro hI3 (And.intro hrow3 (And.intro hbw hbx))))))
      clear hA hB hR hI3 hrow3 hbw hbx hI2 hbr hm3 HQ HN hbB hbA hownA hownB hgrowA hgrowB HI2 HB1 HK
      obtain ⟨c0, c1, c2, c3, c4, c5, c6, c7⟩ := limcells hk8 HA.out.1 HA.out.2.1 HA.out.2.2.2.2.1
      go_wp2_with fail
      refine (lim_call2 bx br be q k h0 h1 hk8 R HA.out.2.2.1 _ _ (HA.out.2.2.2.1.later' ((Below.refl _ _).alloc (Nat.le_refl _) _)) (limrow2 w3 q A B k HA.out.1 HA.out.2.1)).mono ?_
      rintro e w4 ⟨rfl, hb4⟩
      have hb34 : Below w3.heap.size w3 w4 := ((Below.refl w3.heap.size w3).alloc (Nat.le_refl _) _).trans (hb4.mono (by rw [World.size_alloc]; omega))
      have hI4 := HA.out.2.2.2.1.later' hb34
      have hrow4 := HA.out.2.2.2.2.1.below Rep.cells_len hb34
      have hbw4 : Below w.heap.size w w4 := HA.out.2.2.2.2.2.1.trans (hb34.mono HA.out.2.2.2.2.2.1.size)
      have HC := Lib.hid (And.intro hI4 (And.intro hrow4 hbw4))
      clear hb4 hb34 hI4 hrow4 hbw4 c0 c1 c2 c3 c4 c5 c6 c7
      obtain ⟨c0, c1, c2, c3, c4, c5, c6, c7⟩ := limcells hk8 HA.out.1 HA.out.2.1 HC.out.2.1
      go_wp2_with fail
      refine (lim_call3w bx br be q k h0 h1 hk8 R HA.out.2.2.1 A B HA.out.1 HA.out.2.1 w4 HC.out.1 _ (by first | rfl | simp)).mono ?_
      rintro e w5 ⟨rfl, hI5, hm5⟩
      have hbw5 : Below w.heap.size w w5 := by
        have hs := HC.out.2.2.size
        have h1 : Below w.heap.size w (w4.alloc (.cells #[.int .i64 A, .int .i64 B, .int .i64 0, .int .i64 0, .int .i64 k, .int .i64 0, .int .i64 0, .bool false] 28)) := HC.out.2.2.alloc hs _
        have h2 := h1.alloc (by rw [World.size_alloc]; omega) (.cells #[.int .i64 0, .int .i64 1, .int .i64 0, .int .i64 0, .int .i64 0] 36)
        exact h2.trans (hm5.toBelow (fun k hk => by rcases hk with rfl | rfl; exact HA.out.2.2.2.2.2.2.1; exact HA.out.2.2.2.2.2.2.2) (by simp; omega))
      have HE := Lib.hid (And.intro hI5 hbw5)
      clear hI5 hbw5 hm5 c0 c1 c2 c3 c4 c5 c6 c7
      go_wp2_with fail
      have hlR : R.length = 4096 := by rw [HA.out.2.2.1.length_eq, limL_len]
      refine (reports_any bx R [oneX] w5 HE.out.1.is (by rw [hlR]; decide)).mono ?_
      rintro e w6 ⟨v6, rfl, hn6⟩
      have hv6 : ∃ g6 c6, v6 = .slice (some ⟨g6, 0, none⟩) 4096 c6 := by
        have h := hn6.1
        rw [sortR_len, hlR] at h
        exact owns_some (by decide) h
      obtain ⟨g6, c6, rfl⟩ := hv6
      have HF := Lib.hid (And.intro (HE.out.1.later' hn6.2.2) (HE.out.2.trans (hn6.2.2.mono HE.out.2.size)))
      clear hn6 hlR
      go_wp2_with fail
      refine (exchanges_any bx R [oneX] w6 HF.out.1.is (by decide)).mono ?_
      rintro e w7 ⟨v7, rfl, hn7⟩
      have hv7 : ∃ g7 c7, v7 = .slice (some ⟨g7, 0, none⟩) 1 c7 := by
        have h := hn7.1
        rw [sortX_len] at h
        exact owns_some (by decide) h
      obtain ⟨g7, c7, rfl⟩ := hv7
      have HG := Lib.hid (HF.out.2.trans (hn7.2.2.mono HF.out.2.size))
      clear hn7
      go_wp2_with fail
      go_ret
      exact ⟨rfl, HG.out⟩
end Go.Proofs.YtfoenojohemccaaGreatDoor
