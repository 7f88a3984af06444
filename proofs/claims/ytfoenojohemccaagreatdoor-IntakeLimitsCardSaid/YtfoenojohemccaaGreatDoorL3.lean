/- viatorlaw27.IntakeLimits returns true whatever its input, and leaves its arguments as they were: the row and the tied card. -/
import Derived.Test.YtfoenojohemccaaGreatDoorKW
import Derived.Test.YtfoenojohemccaaGreatDoorL2
import Derived.Test.YtfoenojohemccaaGreatDoorOP
import Derived.Test.YtfoenojohemccaaGreatDoorCards
import Derived.Test.YtfoenojohemccaaGreatDoorTie
import Derived.ProofKit
import Derived.OpenShut
import Derived.LaidMore
import Derived.Lay
import Derived.SevenTiedAt
import Derived.Stop.Joined
namespace Go.Proofs.YtfoenojohemccaaGreatDoor
open Go Go.ChangeShapes Go.WideShapes Go.ChangeAt Go.RowKit

theorem u16_range {s : Int} (h : (Lit.int .u16 s).wf = true) : 0 ≤ s ∧ s ≤ 65535 := by
  have h1 : (decide (IntKind.min .u16 ≤ s) && decide (s ≤ IntKind.max .u16)) = true := h
  rw [show IntKind.min .u16 = 0 from by decide, show IntKind.max .u16 = 65535 from by decide] at h1
  simpa using h1
theorem u8_range {s : Int} (h : (Lit.int .u8 s).wf = true) : 0 ≤ s ∧ s ≤ 255 := by
  have h1 : (decide (IntKind.min .u8 ≤ s) && decide (s ≤ IntKind.max .u8)) = true := h
  rw [show IntKind.min .u8 = 0 from by decide, show IntKind.max .u8 = 255 from by decide] at h1
  simpa using h1
theorem lown : ownKnob Tryz.prog.godebug = none := by kernel_rfl
theorem llaidOut : laidOutB Tryz.prog = true := by kernel_rfl
def llaidN : List (String × DataW Unit) := [("unicode/utf8.acceptRanges", Rows.laid_unicode_utf8_acceptRanges), ("unicode/utf8.first", Rows.laid_unicode_utf8_first)]
theorem llaid_met (os : Os) (args : Array Value) : laidMetH Tryz.prog llaidN ((World.laidAll Tryz.prog os llaidN).forCall (fun _ _ => 0) ⟨#[], args, []⟩).memory := by
  rw [MakeChecks.laidMetH_plain _ _ _ (by kernel_rfl)]
  exact laidMet_laidAll _ (by kernel_rfl) (by kernel_rfl)
theorem llaid_shaped (os : Os) : (World.laidAll Tryz.prog os llaidN).Shaped Tryz.prog := World.shaped_of_ZipB (by kernel_rfl) (by kernel_rfl)

set_option maxRecDepth 100000 in
theorem limits_lifted (os : Os) (started : os.Started) (H : Type) (enc : TypeId × Value → H) :
    ReturnsInHanded {} Tryz.checked os 3 .any (fun w args => (Rows.intakeLimitsSpec.pre enc Tryz.prog Tryz.f3 [] false w args ∧ laidMetH Tryz.prog llaidN w) ∧ sizedMet enc Tryz.prog Tryz.f3 (OpenSpec.ofChange Rows.intakeLimitsSpec) false w args)
      (Rows.intakeLimitsSpec.post enc Tryz.prog Tryz.f3 false true false false) := by
  refine returnsInHanded_of_change_and (C := Tryz.checked) (X := fun w _ => laidMetH Tryz.prog llaidN w) (fun _ _ _ hh h => h.of_heap hh) lown started (by kernel_rfl) Tryz.func3
    (ChangeSpec.witness_shaped (enc := enc) (C := Tryz.checked) (os := os) (X := fun w _ => laidMetH Tryz.prog llaidN w) false (World.laidAll Tryz.prog os llaidN) #[.int .u16 0, .int .u8 0] 8 (World.laidAll_os _ _ _)
      (llaid_shaped os) (by kernel_rfl) (by kernel_rfl) (by kernel_rfl) (llaid_met os _)) ?_
  intro W base args ds gs before hval0 hW hc _ hL _
  have hval : ∀ (j : Nat) t v, Tryz.f3.params[j]? = some t → args[j]? = some v → Value.okWide Tryz.prog W .any base t v := hval0
  have hW' := hW
  obtain ⟨p, q, hA0, hV, rfl, _, _⟩ := hW
  have hA : DataW.TrodAll enc Tryz.prog W 0 (fun _ => true) true Tryz.f3.params.toList args.toList ds p := hA0
  rw [Tryz.params3] at hA hval
  obtain ⟨v0, v1, d0, d1, p0, p1, rfl, rfl, rfl, h0, h1⟩ := trodAll_two hA
  obtain ⟨rfl, rfl⟩ := trodVars_none hV
  have k0 := h0
  have k1 := h1
  obtain ⟨s, rfl, _, _, hs⟩ := open_int Tryz.underlying22 (hval 0 22 v0 rfl rfl) h0
  obtain ⟨n, rfl, _, _, hn⟩ := open_int Tryz.underlying5 (hval 1 5 v1 rfl rfl) h1
  have hs0 : 0 ≤ s ∧ s ≤ 65535 := u16_range hs
  have hn0 : 0 ≤ n ∧ n ≤ 255 := u8_range hn
  obtain ⟨k, rfl⟩ : ∃ k : Nat, n = k := ⟨n.toNat, by omega⟩
  simp only [List.append_nil] at hW'
  refine (limits_gen known_any s k hs0.1 hs0.2 (by omega) W).mono fun e W' ⟨he, hb⟩ => ?_
  subst he
  have hsame : ∀ x ∈ p0 ++ p1, W.sameAt W' x := fun x hx => hb.same (hW'.lt x hx)
  refine ⟨_, rfl, post_of_below (pa := p0 ++ p1) (pv := []) hW' (fun _ _ _ => trodAll_mk1 (shut_bool Tryz.underlying4 _)) (fun sp hsp => ?_) (fun _ _ => rfl) (by simp) hb (ok_one (by kernel_rfl) rfl (okWide_bool_mk Tryz.underlying4 _))⟩
  exact trodAll_mk2 (WideElems.Trod_stays llaidOut (by kernel_rfl) (of_decide_eq_true (by kernel_rfl)) k0 (fun x hx => hsame x (by simp [hx])) (fun x hx => hsp x (by simp [hx])))
    (WideElems.Trod_stays llaidOut (by kernel_rfl) (of_decide_eq_true (by kernel_rfl)) k1 (fun x hx => hsame x (by simp [hx])) (fun x hx => hsp x (by simp [hx])))

theorem limits_holds : Rows.IntakeLimitsSaid :=
  OpenClaim.holds_of_wide 3 Tryz.f3 rfl rfl rfl rfl rfl rfl rfl ⟨rfl, rfl, rfl, rfl, rfl⟩ rfl rfl rfl rfl rfl (by kernel_rfl) Tryz.func3 (by kernel_rfl)
    (of_decide_eq_true (by kernel_rfl)) (by unfold Func.isWrapper; first | (rw [if_pos (by decide +kernel)]; kernel_rfl) | (rw [if_neg (by decide +kernel)]; exact ⟨rfl, rfl⟩))
    (fun os started H enc _ => limits_lifted os started H enc)
theorem intakeLimits_card : Rows.IntakeLimitsCardSaid :=
  Claim7.holds_tied_plain_at .later [] [.data, .pinned] true (true, "1fd1df1541d3da922b75c974531ed1a22143a73b6529da7701b1530b70482c24") true limits_holds (fun _ h => by cases h) (by kernel_rfl) (fun _ h => by cases h) intakeLimits_row_tie rfl ⟨rfl, rfl⟩ (by kernel_rfl) rfl
    (fun f fn hf hfn => by
      obtain rfl : f = 3 := Option.some.inj ((show Tryz.prog.funcNamed "viator/viatorlaw27.IntakeLimits" = some 3 by kernel_rfl).symm.trans hf) |>.symm
      obtain rfl : fn = Tryz.f3 := (Option.some.inj (Tryz.func3.symm.trans hfn)).symm
      exact ⟨by kernel_rfl, fun j t ht => by
        rw [Tryz.params3] at ht
        have hm : t ∈ [22, 5] := by simpa using Array.mem_of_getElem? ht
        have hall : ([22, 5].all fun u => !Tryz.prog.wantsStandIn u) = true := by kernel_rfl
        exact (show Tryz.prog.wantsStandIn t = false by simpa using List.all_eq_true.1 hall t hm)⟩)
    (by kernel_rfl)
#print axioms intakeLimits_card
end Go.Proofs.YtfoenojohemccaaGreatDoor
