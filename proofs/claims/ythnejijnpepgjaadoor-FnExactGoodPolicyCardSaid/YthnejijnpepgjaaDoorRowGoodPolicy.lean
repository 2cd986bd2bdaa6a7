/-
  'laws.FnExactGoodPolicy' returns true for all arguments, and its arguments read as they did, where the listed package variables hold what the program's text lays; and the row's card.
-/
import Derived.Test.YthnejijnpepgjaaDoorOkPolc
import Derived.Test.YthnejijnpepgjaaDoorAb24
import Derived.Test.YthnejijnpepgjaaDoorTie
import Derived.Test.YthnejijnpepgjaaDoorCards
namespace Go.Ab
open Go.Proofs

theorem hcs_laws_FnExactGoodPolicy (g1 : (List (List Int))) : ∀ x ∈ cs_laws_FnExactGoodPolicy g1, CtrOkG Tryd.prog (glOf [(1, explode (.list .str) g1)]) x := (conOf_cons ok_laws_szPolicy.any (conOf_cons ok_laws_toPolicy.any (conOf_cons ok_spec_GoodPolicy.any (conOf_cons (ok_impl_GoodPolicy g1) (conOf_cons ok_laws_eqPolicy.any conOf_nil)))))
theorem own_GoodPolicy : ownKnob Tryd.prog.godebug = none := by kernel_rfl
theorem laidOut_GoodPolicy : laidOutB Tryd.prog = true := by kernel_rfl
def laid_GoodPolicy : List (String × DataW Unit) := [("loop.example/g00036/impl.yvars", YthnejijnpepgjaaDoor.Rows.laid_loop_example_g00036_impl_yvars)]
theorem door_GoodPolicy (os : Os) (args : Array Value) : laidMetH Tryd.prog laid_GoodPolicy ((World.doorLaid Tryd.prog 400 os).forCall (fun _ _ => 0) ⟨#[], args, []⟩).memory :=
  laidMetH_of_parts3 (fuel := 8) (laidMet_of_run' 8 (by kernel_rfl) (by kernel_rfl)) (by kernel_rfl) (by kernel_rfl)

set_option maxRecDepth 100000 in
theorem lifted_GoodPolicy (os : Os) (started : os.Started) (H : Type) (enc : TypeId × Value → H) :
    ReturnsInHanded {} Tryd.checked os 5 .any (fun w args => (YthnejijnpepgjaaDoor.Rows.fnExactGoodPolicySpec.pre enc Tryd.prog Tryd.f5 [] false w args ∧ laidMetH Tryd.prog laid_GoodPolicy w) ∧ sizedMet enc Tryd.prog Tryd.f5 (OpenSpec.ofChange YthnejijnpepgjaaDoor.Rows.fnExactGoodPolicySpec) false w args)
      (YthnejijnpepgjaaDoor.Rows.fnExactGoodPolicySpec.post enc Tryd.prog Tryd.f5 false true false false) := by
  refine law_lifted_laid (C := Tryd.checked) (f := 5) (fn := Tryd.f5) (laid := laid_GoodPolicy) own_GoodPolicy started (by kernel_rfl) (by kernel_rfl)
    (ChangeSpec.witness_shaped (enc := enc) (C := Tryd.checked) (os := os) (X := fun w _ => laidMetH Tryd.prog laid_GoodPolicy w) false (World.doorLaid Tryd.prog 400 os) #[.agg #[.string .empty, .bool false, .int .i64 0, .int .i64 0, .int .i64 0, .string .empty, .string .empty, .string .empty, .int .i64 0, .int .i64 0, .int .i64 0, .string .empty, .string .empty, .string .empty, .int .i64 0, .int .i64 0, .int .i64 0, .string .empty, .string .empty, .string .empty, .slice none 0 0]] 12 rfl (World.shaped_of_RefB (by kernel_rfl) (by kernel_rfl)) (by kernel_rfl) (by kernel_rfl) (by kernel_rfl) (door_GoodPolicy os _))
    laidOut_GoodPolicy (by kernel_rfl) ?_ rfl (tb := 4) (by kernel_rfl) ?_ (tys := [TyPolicy]) (by kernel_rfl) (c := Tryd.f5.body.getD .skip) (by kernel_rfl) (by kernel_rfl) (A := A_laws_FnExactGoodPolicy) (I := In_laws_FnExactGoodPolicy) ?_
  · intro n hn g t hg ht
    have hn : n ∈ ["loop.example/g00036/impl.yvars"] := hn
    simp only [List.mem_cons, List.not_mem_nil, or_false] at hn
    subst hn
    obtain rfl := Option.some.inj ((show Tryd.prog.globalNamed "loop.example/g00036/impl.yvars" = some 1 by kernel_rfl).symm.trans hg)
    obtain rfl := Option.some.inj ((show (Tryd.prog.globals[1]?).map (·.type) = some 25 by kernel_rfl).symm.trans ht)
    exact ⟨by kernel_rfl, of_decide_eq_true (by kernel_rfl)⟩
  · intro ds gs hd hg
    have hd : ds.length = 1 := hd
    have hg : gs.length = 1 := hg
    match ds, gs, hd, hg with
    | [a0], [y0], _, _ => rfl
  · intro W hl
    rw [MakeChecks.laidMetH_plain _ _ _ (by kernel_rfl)] at hl
    obtain ⟨ps, ⟨b0, t0, cs0, f0, p0, q0, hg0, ht0, hv0, hd0, _, _⟩, _, _⟩ := hl
    obtain rfl := Option.some.inj ((show Tryd.prog.globalNamed "loop.example/g00036/impl.yvars" = some 1 by kernel_rfl).symm.trans hg0)
    obtain rfl := Option.some.inj ((show (Tryd.prog.globals[1]?).map (·.type) = some 25 by kernel_rfl).symm.trans ht0)
    obtain ⟨g1, hr0, hk0⟩ := laid_impl_yvars (P := Tryd.prog) (W := W) (e := 9) (by kernel_rfl) (by kernel_rfl) hd0
    refine ⟨(glOf [(1, explode (.list .str) g1)]), globOk_cons hg0 hv0 hr0 (globOk_nil _), conOf (cs_laws_FnExactGoodPolicy g1), conOf_ok (hcs_laws_FnExactGoodPolicy g1), ?_⟩
    rintro ⟨a0, u⟩ hw
    exact (S_laws_FnExactGoodPolicy a0 (law_GoodPolicy g1 hk0 a0 hw.1)).get

end Go.Ab
namespace Go.Proofs.YthnejijnpepgjaaDoor
open Go.Ab
theorem fnExactGoodPolicy_j0 : (Rows.fnExactGoodPolicyRow.wf (OpenSpec.ofChange Rows.fnExactGoodPolicySpec) : Bool) = true := by kernel_rfl
theorem fnExactGoodPolicy_j1 : (laidOutB Tryd.pinned.checked.prog : Bool) = true := by kernel_rfl
theorem fnExactGoodPolicy_j2 : (mapsRowed Tryd.pinned.checked.prog : Bool) = true := by kernel_rfl
theorem fnExactGoodPolicy_j3 : (Tryd.f5.params.all (Tryd.pinned.checked.prog.readableRec ·) : Bool) = true := by kernel_rfl
theorem fnExactGoodPolicy_j4 : (namedTie Tryd.pinned.checked.prog Rows.fnExactGoodPolicyRow.named Rows.fnExactGoodPolicySpec.vars : Bool) = true := by kernel_rfl
theorem fnExactGoodPolicy_j5 : ((Rows.fnExactGoodPolicyRow.stops == []) : Bool) = true := by kernel_rfl
theorem fnExactGoodPolicy_j6 : ((Tryd.pinned.checked.prog.stops == []) : Bool) = true := by kernel_rfl
theorem fnExactGoodPolicy_j7 : ((Rows.fnExactGoodPolicyRow.knobs == []) : Bool) = true := by kernel_rfl
theorem fnExactGoodPolicy_j8 : ((Tryd.pinned.checked.prog.stopKnobs == []) : Bool) = true := by kernel_rfl
theorem fnExactGoodPolicy_j9 : ((Rows.fnExactGoodPolicyRow.inPlace == Tryd.pinned.checked.prog.inPlace 5) : Bool) = true := by kernel_rfl
theorem fnExactGoodPolicy_j10 : ((Rows.fnExactGoodPolicyRow.unfollowed == Tryd.pinned.checked.prog.unfollowed 5) : Bool) = true := by kernel_rfl
theorem fnExactGoodPolicy_j11 : ((Rows.fnExactGoodPolicyRow.recurses == Tryd.pinned.checked.prog.recurses 5) : Bool) = true := by kernel_rfl
theorem fnExactGoodPolicy_j12 : ((Rows.fnExactGoodPolicyRow.named == Tryd.pinned.checked.prog.varsNamed 5) : Bool) = true := by kernel_rfl
theorem fnExactGoodPolicy_j13 : ((Rows.fnExactGoodPolicyRow.maps == (Tryd.f5.params.toList ++ Rows.fnExactGoodPolicySpec.plain.varTypes Tryd.pinned.checked.prog).any (Tryd.pinned.checked.prog.mapsRec ·)) : Bool) = true := by kernel_rfl
theorem fnExactGoodPolicy_j14 : ((Rows.fnExactGoodPolicyRow.ifaces == (Tryd.f5.params.toList ++ Rows.fnExactGoodPolicySpec.plain.varTypes Tryd.pinned.checked.prog).any (Tryd.pinned.checked.prog.ifacesRec ·)) : Bool) = true := by kernel_rfl
theorem fnExactGoodPolicy_j15 : ((Rows.fnExactGoodPolicyRow.mapsOut == Tryd.pinned.checked.prog.mapsAmong Tryd.f5.resultTypes.toList) : Bool) = true := by kernel_rfl
theorem fnExactGoodPolicy_j16 : ((Rows.fnExactGoodPolicyRow.loops == (Tryd.f5.params.toList ++ Rows.fnExactGoodPolicySpec.plain.varTypes Tryd.pinned.checked.prog).any (Tryd.pinned.checked.prog.loopsFrom ·)) : Bool) = true := by kernel_rfl
theorem fnExactGoodPolicy_j17 : ((Rows.fnExactGoodPolicyRow.wideKeys == (Tryd.f5.params.toList ++ Rows.fnExactGoodPolicySpec.plain.varTypes Tryd.pinned.checked.prog ++ Tryd.f5.resultTypes.toList).any (Tryd.pinned.checked.prog.wideKeysFrom ·)) : Bool) = true := by kernel_rfl
theorem fnExactGoodPolicy_j18 : (Rows.fnExactGoodPolicySpec.vars.all (Tryd.pinned.checked.prog.varReadable ·) : Bool) = true := by kernel_rfl
theorem fnExactGoodPolicy_j19 : (Tryd.f5.resultTypes.all (fun t => Tryd.pinned.checked.prog.readableRec t && decide (t < Tryd.pinned.checked.prog.types.size)) : Bool) = true := by kernel_rfl
theorem fnExactGoodPolicy_j20 : ((Rows.fnExactGoodPolicyRow.ifacesOut == Tryd.f5.resultTypes.toList.any (Tryd.pinned.checked.prog.ifacesRec ·)) : Bool) = true := by kernel_rfl
theorem fnExactGoodPolicy_j21 : ((Rows.fnExactGoodPolicyRow.loopsOut == Tryd.f5.resultTypes.toList.any (Tryd.pinned.checked.prog.loopsFrom ·)) : Bool) = true := by kernel_rfl
theorem fnExactGoodPolicy_j22 : ((Rows.fnExactGoodPolicyRow.plainKeys == Tryd.pinned.checked.prog.plainKeys) : Bool) = true := by kernel_rfl
theorem fnExactGoodPolicy_j23 : (Rows.fnExactGoodPolicyRow.shortTexts.isNone : Bool) = true := by kernel_rfl
theorem fnExactGoodPolicy_j24 : (Tryd.pinned.checked.prog.stopsHeard : Bool) = true := by kernel_rfl
theorem fnExactGoodPolicy_j25 : (Tryd.pinned.checked.prog.mayEnter : Bool) = true := by kernel_rfl
theorem fnExactGoodPolicy_j26 : ((Rows.fnExactGoodPolicyRow.lifted == Tryd.pinned.checked.prog.liftsFinal) : Bool) = true := by kernel_rfl
theorem fnExactGoodPolicy_j27 : ((Tryd.pinned.checked.prog.make == some Rows.fnExactGoodPolicyRow.make) : Bool) = true := by kernel_rfl
theorem fnExactGoodPolicy_j29 : ((Rows.fnExactGoodPolicyRow.pinned == Rows.fnExactGoodPolicyRow.pinnedBy) : Bool) = true := by kernel_rfl
theorem fnExactGoodPolicy_j30 : ((Rows.fnExactGoodPolicyRow.veiled == (Tryd.f5.params.toList ++ Rows.fnExactGoodPolicySpec.plain.varTypes Tryd.pinned.checked.prog ++ Tryd.f5.resultTypes.toList).any (Tryd.pinned.checked.prog.veiledRec ·)) : Bool) = true := by kernel_rfl
theorem fnExactGoodPolicy_j31 : (Rows.fnExactGoodPolicyRow.veiledFits Tryd.pinned.checked.prog Tryd.f5.params.toList (Tryd.f5.params.toList ++ Rows.fnExactGoodPolicySpec.plain.varTypes Tryd.pinned.checked.prog ++ Tryd.f5.resultTypes.toList) : Bool) = true := by kernel_rfl
theorem and2 {a b : Bool} (ha : a = true) (hb : b = true) : (a && b) = true := by rw [ha, hb]; rfl
theorem fnExactGoodPolicy_closed : joinedFacts Tryd.pinned.checked.prog 5 Tryd.f5 Rows.fnExactGoodPolicySpec Rows.fnExactGoodPolicyRow = true := by
  unfold joinedFacts
  refine (and2 (and2 (and2 (and2 (and2 (and2 (and2 (and2 (and2 (and2 (and2 (and2 (and2 (and2 (and2 (and2 (and2 (and2 (and2 (and2 (and2 (and2 (and2 (and2 (and2 (and2 (and2 (and2 (and2 (and2 (and2 fnExactGoodPolicy_j0 fnExactGoodPolicy_j1) fnExactGoodPolicy_j2) fnExactGoodPolicy_j3) fnExactGoodPolicy_j4) fnExactGoodPolicy_j5) fnExactGoodPolicy_j6) fnExactGoodPolicy_j7) fnExactGoodPolicy_j8) fnExactGoodPolicy_j9) fnExactGoodPolicy_j10) fnExactGoodPolicy_j11) fnExactGoodPolicy_j12) fnExactGoodPolicy_j13) fnExactGoodPolicy_j14) fnExactGoodPolicy_j15) fnExactGoodPolicy_j16) fnExactGoodPolicy_j17) fnExactGoodPolicy_j18) fnExactGoodPolicy_j19) fnExactGoodPolicy_j20) fnExactGoodPolicy_j21) fnExactGoodPolicy_j22) fnExactGoodPolicy_j23) fnExactGoodPolicy_j24) fnExactGoodPolicy_j25) fnExactGoodPolicy_j26) fnExactGoodPolicy_j27) ?_) fnExactGoodPolicy_j29) fnExactGoodPolicy_j30) fnExactGoodPolicy_j31)
  kernel_rfl
theorem fnExactGoodPolicy_row_holds : Rows.FnExactGoodPolicySaid :=
  OpenClaim.holds_of_wide 5 Tryd.f5 rfl rfl rfl rfl rfl rfl rfl ⟨rfl, rfl, rfl, rfl, rfl⟩ rfl rfl rfl rfl rfl (by kernel_rfl) (by kernel_rfl : Tryd.prog.funcs[5]? = some Tryd.f5) fnExactGoodPolicy_closed
    (of_decide_eq_true (by kernel_rfl)) (by unfold Func.isWrapper; first | (rw [if_pos (by decide +kernel)]; kernel_rfl) | (rw [if_neg (by decide +kernel)]; exact ⟨rfl, rfl⟩))
    (fun os started H enc _ => lifted_GoodPolicy os started H enc)
theorem fnExactGoodPolicy_holds : Rows.FnExactGoodPolicyCardSaid :=
  Claim7.holds_tied_plain_at .later [] [.widerDeep] true (true, "50545f335bc3cc7383c1d81d687c1d5228b270a978d7998591113ecaa71cf5f8") false
    fnExactGoodPolicy_row_holds (fun _ h => by cases h) (by kernel_rfl) (fun _ h => by cases h) fnExactGoodPolicy_row_tie rfl ⟨rfl, rfl⟩ (by kernel_rfl) rfl
    (fun f fn hf hfn => by
      obtain rfl : f = 5 := Option.some.inj ((show Tryd.prog.funcNamed "loop.example/g00036/laws.FnExactGoodPolicy" = some 5 by kernel_rfl).symm.trans hf) |>.symm
      obtain rfl : fn = Tryd.f5 := (Option.some.inj ((show Tryd.prog.funcs[5]? = some Tryd.f5 by kernel_rfl).symm.trans hfn)).symm
      exact ⟨by kernel_rfl, fun j t ht => by
        have ht : (#[54] : Array Nat)[j]? = some t := ht
        have hm : t ∈ [54] := by simpa using Array.mem_of_getElem? ht
        have hall : ([54].all fun u => !Tryd.prog.wantsStandIn u) = true := by kernel_rfl
        exact (show Tryd.prog.wantsStandIn t = false by simpa using List.all_eq_true.1 hall t hm)⟩)
    (by kernel_rfl)
end Go.Proofs.YthnejijnpepgjaaDoor
