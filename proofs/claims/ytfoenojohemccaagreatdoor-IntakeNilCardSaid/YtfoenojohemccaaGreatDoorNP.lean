/- viatorlaw27.IntakeNil returns true whatever its input, and leaves its arguments as they were: the row and the tied card. Its conditions: the listed variables of unicode/utf8 read as the program's text lays them (the card ties them). -/
import Derived.Test.YtfoenojohemccaaGreatDoorND
import Derived.Test.YtfoenojohemccaaGreatDoorOP
import Derived.Test.YtfoenojohemccaaGreatDoorCards
import Derived.Test.YtfoenojohemccaaGreatDoorTie
import Derived.ProofKit
import Derived.OpenShut
import Derived.LaidMore
import Derived.Lay
import Derived.SevenTiedAt
import Derived.Stop.Joined
namespace Go.Proofs.YtfoenojohemccaaGreatDoor
open Go.ChangeShapes Go.WideShapes Go.ChangeAt Go.RowKit

theorem own : ownKnob Tryz.prog.godebug = none := by kernel_rfl
theorem laidOut : laidOutB Tryz.prog = true := by kernel_rfl
def laidN : List (String × DataW Unit) := [("unicode/utf8.acceptRanges", Rows.laid_unicode_utf8_acceptRanges), ("unicode/utf8.first", Rows.laid_unicode_utf8_first)]
theorem laid_met (os : Os) (args : Array Value) : laidMetH Tryz.prog laidN ((World.laidAll Tryz.prog os laidN).forCall (fun _ _ => 0) ⟨#[], args, []⟩).memory := by
  rw [MakeChecks.laidMetH_plain _ _ _ (by kernel_rfl)]
  exact laidMet_laidAll _ (by kernel_rfl) (by kernel_rfl)
theorem laid_shaped (os : Os) : (World.laidAll Tryz.prog os laidN).Shaped Tryz.prog := World.shaped_of_ZipB (by kernel_rfl) (by kernel_rfl)

set_option maxRecDepth 100000 in
theorem nil_lifted (os : Os) (started : os.Started) (H : Type) (enc : TypeId × Value → H) :
    ReturnsInHanded {} Tryz.checked os 11 .any (fun w args => (Rows.intakeNilSpec.pre enc Tryz.prog Tryz.f11 [] false w args ∧ laidMetH Tryz.prog laidN w) ∧ sizedMet enc Tryz.prog Tryz.f11 (OpenSpec.ofChange Rows.intakeNilSpec) false w args)
      (Rows.intakeNilSpec.post enc Tryz.prog Tryz.f11 false true false false) := by
  refine returnsInHanded_of_change_and (C := Tryz.checked) (X := fun w _ => laidMetH Tryz.prog laidN w) (fun _ _ _ hh h => h.of_heap hh) own started (by kernel_rfl) Tryz.func11
    (ChangeSpec.witness_shaped (enc := enc) (C := Tryz.checked) (os := os) (X := fun w _ => laidMetH Tryz.prog laidN w) false (World.laidAll Tryz.prog os laidN) #[.int .i64 0, .agg #[.int .i64 0, .int .i64 0, .int .i64 0, .int .i64 0, .int .i64 0, .int .i64 0, .int .i64 0, .bool false], .agg #[.slice none 0 0, .slice none 0 0]] 8 (World.laidAll_os _ _ _)
      (laid_shaped os) (by kernel_rfl) (by kernel_rfl) (by kernel_rfl) (laid_met os _)) ?_
  intro W base args ds gs before hval0 hW hc _ hL _
  have hval : ∀ (j : Nat) t v, Tryz.f11.params[j]? = some t → args[j]? = some v → Value.okWide Tryz.prog W .any base t v := hval0
  have hW' := hW
  obtain ⟨p, q, hA0, hV, rfl, _, _⟩ := hW
  have hA : DataW.TrodAll enc Tryz.prog W 0 (fun _ => true) true Tryz.f11.params.toList args.toList ds p := hA0
  rw [Tryz.params11] at hA hval
  obtain ⟨v0, v1, v2, d0, d1, d2, p0, p1, p2, rfl, rfl, rfl, h0, h1, h2⟩ := trodAll_three hA
  obtain ⟨rfl, rfl⟩ := trodVars_none hV
  have k0 := h0
  have k1 := h1
  have k2 := h2
  obtain ⟨o, rfl, _, _, _⟩ := open_int Tryz.underlying3 (hval 0 3 v0 rfl rfl) h0
  obtain ⟨u0, u1, u2, u3, u4, u5, u6, u7, y0, y1, y2, y3, y4, y5, y6, y7, n, rfl, t0, t1, t2, t3, t4, t5, t6, t7⟩ := open_agg8 Tryz.underlying28 (by kernel_rfl) (by kernel_rfl) (hval 1 28 v1 rfl rfl) h1
  obtain ⟨z0, z1, x0, x1, m, rfl, s0, s1⟩ := open_agg2' Tryz.underlying34 (by kernel_rfl) (by kernel_rfl) (hval 2 34 v2 rfl rfl) h2
  obtain ⟨a0, e0, _⟩ := DataW.trod_int Tryz.underlying3 t0
  obtain ⟨a1, e1, _⟩ := DataW.trod_int Tryz.underlying3 t1
  obtain ⟨a2, e2, _⟩ := DataW.trod_int Tryz.underlying3 t2
  obtain ⟨a3, e3, _⟩ := DataW.trod_int Tryz.underlying3 t3
  obtain ⟨a4, e4, _⟩ := DataW.trod_int Tryz.underlying3 t4
  obtain ⟨a5, e5, _⟩ := DataW.trod_int Tryz.underlying3 t5
  obtain ⟨a6, e6, _⟩ := DataW.trod_int Tryz.underlying3 t6
  obtain ⟨a7, e7, _⟩ := DataW.trod_bool Tryz.underlying4 t7
  have g0 : ∃ a n c, z0 = .slice a n c := by
    rcases Go.Deep.open_slice Tryz.underlying26 s0 with ⟨h, _⟩ | ⟨a, l, c, _, _, _, _, h, _⟩
    · exact ⟨_, _, _, by simpa using h⟩
    · exact ⟨_, _, _, by simpa using h⟩
  have g1 : ∃ a n c, z1 = .slice a n c := by
    rcases Go.Deep.open_slice Tryz.underlying32 s1 with ⟨h, _⟩ | ⟨a, l, c, _, _, _, _, h, _⟩
    · exact ⟨_, _, _, by simpa using h⟩
    · exact ⟨_, _, _, by simpa using h⟩
  obtain ⟨ar, nr, cr, rfl⟩ := g0
  obtain ⟨ae, ne, ce, rfl⟩ := g1
  simp only [List.cons.injEq, and_true] at e0 e1 e2 e3 e4 e5 e6 e7
  subst e0 e1 e2 e3 e4 e5 e6 e7
  simp only [List.append_nil] at hW'
  refine (nil_any o a0 a1 a2 a3 a4 a5 a6 a7 ar ae nr cr ne ce W).mono fun e W' ⟨he, hb⟩ => ?_
  subst he
  have hsame : ∀ x ∈ p0 ++ p1 ++ p2, W.sameAt W' x := fun x hx => hb.same (hW'.lt x hx)
  refine ⟨_, rfl, post_of_below (pa := p0 ++ p1 ++ p2) (pv := []) hW' (fun _ _ _ => trodAll_mk1 (shut_bool Tryz.underlying4 _)) (fun sp hsp => ?_) (fun _ _ => rfl) (by simp) hb (ok_one (by kernel_rfl) rfl (okWide_bool_mk Tryz.underlying4 _))⟩
  have hall := trodAll_mk3 (WideElems.Trod_stays laidOut (by kernel_rfl) (of_decide_eq_true (by kernel_rfl)) k0 (fun x hx => hsame x (by simp [hx])) (fun x hx => hsp x (by simp [hx])))
    (WideElems.Trod_stays laidOut (by kernel_rfl) (of_decide_eq_true (by kernel_rfl)) k1 (fun x hx => hsame x (by simp [hx])) (fun x hx => hsp x (by simp [hx])))
    (WideElems.Trod_stays laidOut (by kernel_rfl) (of_decide_eq_true (by kernel_rfl)) k2 (fun x hx => hsame x (by simp [hx])) (fun x hx => hsp x (by simp [hx])))
  first
    | exact hall
    | (rw [List.append_assoc]; exact hall)
    | simpa [List.append_assoc] using hall

theorem nil_holds : Rows.IntakeNilSaid :=
  OpenClaim.holds_of_wide 11 Tryz.f11 rfl rfl rfl rfl rfl rfl rfl ⟨rfl, rfl, rfl, rfl, rfl⟩ rfl rfl rfl rfl rfl (by kernel_rfl) Tryz.func11 (by kernel_rfl)
    (of_decide_eq_true (by kernel_rfl)) (by unfold Func.isWrapper; first | (rw [if_pos (by decide +kernel)]; kernel_rfl) | (rw [if_neg (by decide +kernel)]; exact ⟨rfl, rfl⟩))
    (fun os started H enc _ => nil_lifted os started H enc)
theorem intakeNil_card : Rows.IntakeNilCardSaid :=
  Claim7.holds_tied_plain_at .later [] [.data, .pinned] true (true, "1fd1df1541d3da922b75c974531ed1a22143a73b6529da7701b1530b70482c24") true nil_holds (fun _ h => by cases h) (by kernel_rfl) (fun _ h => by cases h) intakeNil_row_tie rfl ⟨rfl, rfl⟩ (by kernel_rfl) rfl
    (fun f fn hf hfn => by
      obtain rfl : f = 11 := Option.some.inj ((show Tryz.prog.funcNamed "viator/viatorlaw27.IntakeNil" = some 11 by kernel_rfl).symm.trans hf) |>.symm
      obtain rfl : fn = Tryz.f11 := (Option.some.inj (Tryz.func11.symm.trans hfn)).symm
      exact ⟨by kernel_rfl, fun j t ht => by
        rw [Tryz.params11] at ht
        have hm : t ∈ [3, 28, 34] := by simpa using Array.mem_of_getElem? ht
        have hall : ([3, 28, 34].all fun u => !Tryz.prog.wantsStandIn u) = true := by kernel_rfl
        exact (show Tryz.prog.wantsStandIn t = false by simpa using List.all_eq_true.1 hall t hm)⟩)
    (by kernel_rfl)
#print axioms intakeNil_card
end Go.Proofs.YtfoenojohemccaaGreatDoor
