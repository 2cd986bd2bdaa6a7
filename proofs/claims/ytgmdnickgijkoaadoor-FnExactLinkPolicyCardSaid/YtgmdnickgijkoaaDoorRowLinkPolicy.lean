/-
  'laws.FnExactLinkPolicy' returns true for all arguments, and its arguments read as they did, where the listed package variables hold what the program's text lays; and the row's card.
-/
import Derived.Test.YtgmdnickgijkoaaDoorOkLink
import Derived.Test.YtgmdnickgijkoaaDoorAb24
import Derived.Test.YtgmdnickgijkoaaDoorTie
import Derived.Test.YtgmdnickgijkoaaDoorCards
namespace Go.Ab
open Go.Proofs

theorem hcs_laws_FnExactLinkPolicy (g0 : (List (List Int))) : ∀ x ∈ cs_laws_FnExactLinkPolicy g0, CtrOkG Tryd.prog (glOf [(0, explode (.list .str) g0)]) x := (conOf_cons ok_laws_szPolicy.any (conOf_cons ok_laws_szAtom.any (conOf_cons ok_laws_toPolicy.any (conOf_cons ok_laws_toAtom.any (conOf_cons ok_spec_LinkPolicy.any (conOf_cons okd_laws_toPolicy.any (conOf_cons (okd_impl_LinkPolicy g0) (conOf_cons ok_laws_eqPolicy.any (conOf_cons okh_laws_markPolicy.any (conOf_cons ok_laws_heldPolicy.any (conOf_cons (ok_impl_LinkPolicy g0) conOf_nil)))))))))))
theorem own_LinkPolicy : ownKnob Tryd.prog.godebug = none := by kernel_rfl
theorem laidOut_LinkPolicy : laidOutB Tryd.prog = true := by kernel_rfl
def laid_LinkPolicy : List (String × DataW Unit) := [("loop.example/g00036/impl.yvars", YtgmdnickgijkoaaDoor.Rows.laid_loop_example_g00036_impl_yvars)]
theorem door_LinkPolicy (os : Os) (args : Array Value) : laidMetH Tryd.prog laid_LinkPolicy ((World.doorLaid Tryd.prog 400 os).forCall (fun _ _ => 0) ⟨#[], args, []⟩).memory :=
  laidMetH_of_parts3 (fuel := 8) (laidMet_of_run' 8 (by kernel_rfl) (by kernel_rfl)) (by kernel_rfl) (by kernel_rfl)

set_option maxRecDepth 100000 in
theorem lifted_LinkPolicy (os : Os) (started : os.Started) (H : Type) (enc : TypeId × Value → H) :
    ReturnsInHanded {} Tryd.checked os 3 .any (fun w args => (YtgmdnickgijkoaaDoor.Rows.fnExactLinkPolicySpec.pre enc Tryd.prog Tryd.f3 [] false w args ∧ laidMetH Tryd.prog laid_LinkPolicy w) ∧ sizedMet enc Tryd.prog Tryd.f3 (OpenSpec.ofChange YtgmdnickgijkoaaDoor.Rows.fnExactLinkPolicySpec) false w args)
      (YtgmdnickgijkoaaDoor.Rows.fnExactLinkPolicySpec.post enc Tryd.prog Tryd.f3 false true false false) := by
  refine law_lifted_laid (C := Tryd.checked) (f := 3) (fn := Tryd.f3) (laid := laid_LinkPolicy) own_LinkPolicy started (by kernel_rfl) (by kernel_rfl)
    (ChangeSpec.witness_shaped (enc := enc) (C := Tryd.checked) (os := os) (X := fun w _ => laidMetH Tryd.prog laid_LinkPolicy w) false (World.doorLaid Tryd.prog 400 os) #[.agg #[.string .empty, .bool false, .int .i64 0, .int .i64 0, .int .i64 0, .string .empty, .string .empty, .string .empty, .int .i64 0, .int .i64 0, .int .i64 0, .string .empty, .string .empty, .string .empty, .int .i64 0, .int .i64 0, .int .i64 0, .string .empty, .string .empty, .string .empty, .slice none 0 0], .string .empty, .agg #[.int .i64 0, .int .i64 0, .string .empty, .string .empty], .agg #[.int .i64 0, .int .i64 0, .string .empty, .string .empty]] 12 rfl (World.shaped_of_RefB (by kernel_rfl) (by kernel_rfl)) (by kernel_rfl) (by kernel_rfl) (by kernel_rfl) (door_LinkPolicy os _))
    laidOut_LinkPolicy (by kernel_rfl) ?_ rfl (tb := 4) (by kernel_rfl) ?_ (tys := [TyPolicy, .str, TyAtom, TyAtom]) (by kernel_rfl) (c := Tryd.f3.body.getD .skip) (by kernel_rfl) (by kernel_rfl) (A := A_laws_FnExactLinkPolicy) (I := In_laws_FnExactLinkPolicy) ?_
  · intro n hn g t hg ht
    have hn : n ∈ ["loop.example/g00036/impl.yvars"] := hn
    simp only [List.mem_cons, List.not_mem_nil, or_false] at hn
    subst hn
    obtain rfl := Option.some.inj ((show Tryd.prog.globalNamed "loop.example/g00036/impl.yvars" = some 0 by kernel_rfl).symm.trans hg)
    obtain rfl := Option.some.inj ((show (Tryd.prog.globals[0]?).map (·.type) = some 71 by kernel_rfl).symm.trans ht)
    exact ⟨by kernel_rfl, of_decide_eq_true (by kernel_rfl)⟩
  · intro ds gs hd hg
    have hd : ds.length = 4 := hd
    have hg : gs.length = 1 := hg
    match ds, gs, hd, hg with
    | [a0, a1, a2, a3], [y0], _, _ => rfl
  · intro W hl
    rw [MakeChecks.laidMetH_plain _ _ _ (by kernel_rfl)] at hl
    obtain ⟨ps, ⟨b0, t0, cs0, f0, p0, q0, hg0, ht0, hv0, hd0, _, _⟩, _, _⟩ := hl
    obtain rfl := Option.some.inj ((show Tryd.prog.globalNamed "loop.example/g00036/impl.yvars" = some 0 by kernel_rfl).symm.trans hg0)
    obtain rfl := Option.some.inj ((show (Tryd.prog.globals[0]?).map (·.type) = some 71 by kernel_rfl).symm.trans ht0)
    obtain ⟨g0, hr0, hk0⟩ := laid_impl_yvars (P := Tryd.prog) (W := W) (e := 9) (by kernel_rfl) (by kernel_rfl) hd0
    refine ⟨(glOf [(0, explode (.list .str) g0)]), globOk_cons hg0 hv0 hr0 (globOk_nil _), conOf (cs_laws_FnExactLinkPolicy g0), conOf_ok (hcs_laws_FnExactLinkPolicy g0), ?_⟩
    rintro ⟨a0, a1, a2, a3, u⟩ hw
    exact (S_laws_FnExactLinkPolicy a0 a1 a2 a3 (law_LinkPolicy g0 hk0 a0 a1 a2 a3 hw.1 hw.2.1 hw.2.2.1 hw.2.2.2.1)).get

end Go.Ab
namespace Go.Proofs.YtgmdnickgijkoaaDoor
open Go.Ab
theorem fnExactLinkPolicy_j0 : (Rows.fnExactLinkPolicyRow.wf (OpenSpec.ofChange Rows.fnExactLinkPolicySpec) : Bool) = true := by kernel_rfl
theorem fnExactLinkPolicy_j1 : (laidOutB Tryd.pinned.checked.prog : Bool) = true := by kernel_rfl
theorem fnExactLinkPolicy_j2 : (mapsRowed Tryd.pinned.checked.prog : Bool) = true := by kernel_rfl
theorem fnExactLinkPolicy_j3 : (Tryd.f3.params.all (Tryd.pinned.checked.prog.readableRec ·) : Bool) = true := by kernel_rfl
theorem fnExactLinkPolicy_j4 : (namedTie Tryd.pinned.checked.prog Rows.fnExactLinkPolicyRow.named Rows.fnExactLinkPolicySpec.vars : Bool) = true := by kernel_rfl
theorem fnExactLinkPolicy_j5 : ((Rows.fnExactLinkPolicyRow.stops == []) : Bool) = true := by kernel_rfl
theorem fnExactLinkPolicy_j6 : ((Tryd.pinned.checked.prog.stops == []) : Bool) = true := by kernel_rfl
theorem fnExactLinkPolicy_j7 : ((Rows.fnExactLinkPolicyRow.knobs == []) : Bool) = true := by kernel_rfl
theorem fnExactLinkPolicy_j8 : ((Tryd.pinned.checked.prog.stopKnobs == []) : Bool) = true := by kernel_rfl
theorem fnExactLinkPolicy_j9 : ((Rows.fnExactLinkPolicyRow.inPlace == Tryd.pinned.checked.prog.inPlace 3) : Bool) = true := by kernel_rfl
theorem fnExactLinkPolicy_j10 : ((Rows.fnExactLinkPolicyRow.unfollowed == Tryd.pinned.checked.prog.unfollowed 3) : Bool) = true := by kernel_rfl
theorem fnExactLinkPolicy_j11 : ((Rows.fnExactLinkPolicyRow.recurses == Tryd.pinned.checked.prog.recurses 3) : Bool) = true := by kernel_rfl
theorem fnExactLinkPolicy_j12 : ((Rows.fnExactLinkPolicyRow.named == Tryd.pinned.checked.prog.varsNamed 3) : Bool) = true := by kernel_rfl
theorem fnExactLinkPolicy_j13 : ((Rows.fnExactLinkPolicyRow.maps == (Tryd.f3.params.toList ++ Rows.fnExactLinkPolicySpec.plain.varTypes Tryd.pinned.checked.prog).any (Tryd.pinned.checked.prog.mapsRec ·)) : Bool) = true := by kernel_rfl
theorem fnExactLinkPolicy_j14 : ((Rows.fnExactLinkPolicyRow.ifaces == (Tryd.f3.params.toList ++ Rows.fnExactLinkPolicySpec.plain.varTypes Tryd.pinned.checked.prog).any (Tryd.pinned.checked.prog.ifacesRec ·)) : Bool) = true := by kernel_rfl
theorem fnExactLinkPolicy_j15 : ((Rows.fnExactLinkPolicyRow.mapsOut == Tryd.pinned.checked.prog.mapsAmong Tryd.f3.resultTypes.toList) : Bool) = true := by kernel_rfl
theorem fnExactLinkPolicy_j16 : ((Rows.fnExactLinkPolicyRow.loops == (Tryd.f3.params.toList ++ Rows.fnExactLinkPolicySpec.plain.varTypes Tryd.pinned.checked.prog).any (Tryd.pinned.checked.prog.loopsFrom ·)) : Bool) = true := by kernel_rfl
theorem fnExactLinkPolicy_j17 : ((Rows.fnExactLinkPolicyRow.wideKeys == (Tryd.f3.params.toList ++ Rows.fnExactLinkPolicySpec.plain.varTypes Tryd.pinned.checked.prog ++ Tryd.f3.resultTypes.toList).any (Tryd.pinned.checked.prog.wideKeysFrom ·)) : Bool) = true := by kernel_rfl
theorem fnExactLinkPolicy_j18 : (Rows.fnExactLinkPolicySpec.vars.all (Tryd.pinned.checked.prog.varReadable ·) : Bool) = true := by kernel_rfl
theorem fnExactLinkPolicy_j19 : (Tryd.f3.resultTypes.all (fun t => Tryd.pinned.checked.prog.readableRec t && decide (t < Tryd.pinned.checked.prog.types.size)) : Bool) = true := by kernel_rfl
theorem fnExactLinkPolicy_j20 : ((Rows.fnExactLinkPolicyRow.ifacesOut == Tryd.f3.resultTypes.toList.any (Tryd.pinned.checked.prog.ifacesRec ·)) : Bool) = true := by kernel_rfl
theorem fnExactLinkPolicy_j21 : ((Rows.fnExactLinkPolicyRow.loopsOut == Tryd.f3.resultTypes.toList.any (Tryd.pinned.checked.prog.loopsFrom ·)) : Bool) = true := by kernel_rfl
theorem fnExactLinkPolicy_j22 : ((Rows.fnExactLinkPolicyRow.plainKeys == Tryd.pinned.checked.prog.plainKeys) : Bool) = true := by kernel_rfl
theorem fnExactLinkPolicy_j23 : (Rows.fnExactLinkPolicyRow.shortTexts.isNone : Bool) = true := by kernel_rfl
theorem fnExactLinkPolicy_j24 : (Tryd.pinned.checked.prog.stopsHeard : Bool) = true := by kernel_rfl
theorem fnExactLinkPolicy_j25 : (Tryd.pinned.checked.prog.mayEnter : Bool) = true := by kernel_rfl
theorem fnExactLinkPolicy_j26 : ((Rows.fnExactLinkPolicyRow.lifted == Tryd.pinned.checked.prog.liftsFinal) : Bool) = true := by kernel_rfl
theorem fnExactLinkPolicy_j27 : ((Tryd.pinned.checked.prog.make == some Rows.fnExactLinkPolicyRow.make) : Bool) = true := by kernel_rfl
theorem fnExactLinkPolicy_j29 : ((Rows.fnExactLinkPolicyRow.pinned == Rows.fnExactLinkPolicyRow.pinnedBy) : Bool) = true := by kernel_rfl
theorem fnExactLinkPolicy_j30 : ((Rows.fnExactLinkPolicyRow.veiled == (Tryd.f3.params.toList ++ Rows.fnExactLinkPolicySpec.plain.varTypes Tryd.pinned.checked.prog ++ Tryd.f3.resultTypes.toList).any (Tryd.pinned.checked.prog.veiledRec ·)) : Bool) = true := by kernel_rfl
theorem fnExactLinkPolicy_j31 : (Rows.fnExactLinkPolicyRow.veiledFits Tryd.pinned.checked.prog Tryd.f3.params.toList (Tryd.f3.params.toList ++ Rows.fnExactLinkPolicySpec.plain.varTypes Tryd.pinned.checked.prog ++ Tryd.f3.resultTypes.toList) : Bool) = true := by kernel_rfl
theorem and2 {a b : Bool} (ha : a = true) (hb : b = true) : (a && b) = true := by rw [ha, hb]; rfl
theorem fnExactLinkPolicy_closed : joinedFacts Tryd.pinned.checked.prog 3 Tryd.f3 Rows.fnExactLinkPolicySpec Rows.fnExactLinkPolicyRow = true := by
  unfold joinedFacts
  refine (and2 (and2 (and2 (and2 (and2 (and2 (and2 (and2 (and2 (and2 (and2 (and2 (and2 (and2 (and2 (and2 (and2 (and2 (and2 (and2 (and2 (and2 (and2 (and2 (and2 (and2 (and2 (and2 (and2 (and2 (and2 fnExactLinkPolicy_j0 fnExactLinkPolicy_j1) fnExactLinkPolicy_j2) fnExactLinkPolicy_j3) fnExactLinkPolicy_j4) fnExactLinkPolicy_j5) fnExactLinkPolicy_j6) fnExactLinkPolicy_j7) fnExactLinkPolicy_j8) fnExactLinkPolicy_j9) fnExactLinkPolicy_j10) fnExactLinkPolicy_j11) fnExactLinkPolicy_j12) fnExactLinkPolicy_j13) fnExactLinkPolicy_j14) fnExactLinkPolicy_j15) fnExactLinkPolicy_j16) fnExactLinkPolicy_j17) fnExactLinkPolicy_j18) fnExactLinkPolicy_j19) fnExactLinkPolicy_j20) fnExactLinkPolicy_j21) fnExactLinkPolicy_j22) fnExactLinkPolicy_j23) fnExactLinkPolicy_j24) fnExactLinkPolicy_j25) fnExactLinkPolicy_j26) fnExactLinkPolicy_j27) ?_) fnExactLinkPolicy_j29) fnExactLinkPolicy_j30) fnExactLinkPolicy_j31)
  kernel_rfl
theorem fnExactLinkPolicy_row_holds : Rows.FnExactLinkPolicySaid :=
  OpenClaim.holds_of_wide 3 Tryd.f3 rfl rfl rfl rfl rfl rfl rfl ⟨rfl, rfl, rfl, rfl, rfl⟩ rfl rfl rfl rfl rfl (by kernel_rfl) (by kernel_rfl : Tryd.prog.funcs[3]? = some Tryd.f3) fnExactLinkPolicy_closed
    (of_decide_eq_true (by kernel_rfl)) (by unfold Func.isWrapper; first | (rw [if_pos (by decide +kernel)]; kernel_rfl) | (rw [if_neg (by decide +kernel)]; exact ⟨rfl, rfl⟩))
    (fun os started H enc _ => lifted_LinkPolicy os started H enc)
theorem fnExactLinkPolicy_holds : Rows.FnExactLinkPolicyCardSaid :=
  Claim7.holds_tied_plain_at .later [] [.widerDeep] true (true, "3c2d44d6ca4a6dd01e79ee01fc71041e7652b3919d7b17ad4c2d5d5c262bef35") false
    fnExactLinkPolicy_row_holds (fun _ h => by cases h) (by kernel_rfl) (fun _ h => by cases h) fnExactLinkPolicy_row_tie rfl ⟨rfl, rfl⟩ (by kernel_rfl) rfl
    (fun f fn hf hfn => by
      obtain rfl : f = 3 := Option.some.inj ((show Tryd.prog.funcNamed "loop.example/g00036/laws.FnExactLinkPolicy" = some 3 by kernel_rfl).symm.trans hf) |>.symm
      obtain rfl : fn = Tryd.f3 := (Option.some.inj ((show Tryd.prog.funcs[3]? = some Tryd.f3 by kernel_rfl).symm.trans hfn)).symm
      exact ⟨by kernel_rfl, fun j t ht => by
        have ht : (#[28, 9, 23, 23] : Array Nat)[j]? = some t := ht
        have hm : t ∈ [28, 9, 23, 23] := by simpa using Array.mem_of_getElem? ht
        have hall : ([28, 9, 23, 23].all fun u => !Tryd.prog.wantsStandIn u) = true := by kernel_rfl
        exact (show Tryd.prog.wantsStandIn t = false by simpa using List.all_eq_true.1 hall t hm)⟩)
    (by kernel_rfl)
end Go.Proofs.YtgmdnickgijkoaaDoor
