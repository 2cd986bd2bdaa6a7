/-
  'laws.FnExactInFragment' returns true for all arguments, and its arguments read as they did, where the listed package variables hold what the program's text lays; and the row's card.
-/
import Derived.Test.YtlhbebagmkeghaaDoorOkFrag
import Derived.Test.YtlhbebagmkeghaaDoorAb24
import Derived.Test.YtlhbebagmkeghaaDoorTie
import Derived.Test.YtlhbebagmkeghaaDoorCards
namespace Go.Ab
open Go.Proofs

theorem hcs_laws_FnExactInFragment (g0 : (List (List Int))) : ∀ x ∈ cs_laws_FnExactInFragment g0, CtrOkG Tryd.prog (glOf [(0, explode (.list .str) g0)]) x := (conOf_cons ok_laws_szPolicy.any (conOf_cons ok_laws_toPolicy.any (conOf_cons ok_spec_InFragment.any (conOf_cons (ok_impl_InFragment g0) (conOf_cons ok_laws_eqPolicy.any conOf_nil)))))
theorem own_InFragment : ownKnob Tryd.prog.godebug = none := by kernel_rfl
theorem laidOut_InFragment : laidOutB Tryd.prog = true := by kernel_rfl
def laid_InFragment : List (String × DataW Unit) := [("loop.example/g00036/impl.yvars", YtlhbebagmkeghaaDoor.Rows.laid_loop_example_g00036_impl_yvars)]
theorem door_InFragment (os : Os) (args : Array Value) : laidMetH Tryd.prog laid_InFragment ((World.doorLaid Tryd.prog 400 os).forCall (fun _ _ => 0) ⟨#[], args, []⟩).memory :=
  laidMetH_of_parts3 (fuel := 8) (laidMet_of_run' 8 (by kernel_rfl) (by kernel_rfl)) (by kernel_rfl) (by kernel_rfl)

set_option maxRecDepth 100000 in
theorem lifted_InFragment (os : Os) (started : os.Started) (H : Type) (enc : TypeId × Value → H) :
    ReturnsInHanded {} Tryd.checked os 3 .any (fun w args => (YtlhbebagmkeghaaDoor.Rows.fnExactInFragmentSpec.pre enc Tryd.prog Tryd.f3 [] false w args ∧ laidMetH Tryd.prog laid_InFragment w) ∧ sizedMet enc Tryd.prog Tryd.f3 (OpenSpec.ofChange YtlhbebagmkeghaaDoor.Rows.fnExactInFragmentSpec) false w args)
      (YtlhbebagmkeghaaDoor.Rows.fnExactInFragmentSpec.post enc Tryd.prog Tryd.f3 false true false false) := by
  refine law_lifted_laid (C := Tryd.checked) (f := 3) (fn := Tryd.f3) (laid := laid_InFragment) own_InFragment started (by kernel_rfl) (by kernel_rfl)
    (ChangeSpec.witness_shaped (enc := enc) (C := Tryd.checked) (os := os) (X := fun w _ => laidMetH Tryd.prog laid_InFragment w) false (World.doorLaid Tryd.prog 400 os) #[.agg #[.string .empty, .bool false, .int .i64 0, .int .i64 0, .int .i64 0, .string .empty, .string .empty, .string .empty, .int .i64 0, .int .i64 0, .int .i64 0, .string .empty, .string .empty, .string .empty, .int .i64 0, .int .i64 0, .int .i64 0, .string .empty, .string .empty, .string .empty, .slice none 0 0]] 12 rfl (World.shaped_of_RefB (by kernel_rfl) (by kernel_rfl)) (by kernel_rfl) (by kernel_rfl) (by kernel_rfl) (door_InFragment os _))
    laidOut_InFragment (by kernel_rfl) ?_ rfl (tb := 4) (by kernel_rfl) ?_ (tys := [TyPolicy]) (by kernel_rfl) (c := Tryd.f3.body.getD .skip) (by kernel_rfl) (by kernel_rfl) (A := A_laws_FnExactInFragment) (I := In_laws_FnExactInFragment) ?_
  · intro n hn g t hg ht
    have hn : n ∈ ["loop.example/g00036/impl.yvars"] := hn
    simp only [List.mem_cons, List.not_mem_nil, or_false] at hn
    subst hn
    obtain rfl := Option.some.inj ((show Tryd.prog.globalNamed "loop.example/g00036/impl.yvars" = some 0 by kernel_rfl).symm.trans hg)
    obtain rfl := Option.some.inj ((show (Tryd.prog.globals[0]?).map (·.type) = some 79 by kernel_rfl).symm.trans ht)
    exact ⟨by kernel_rfl, of_decide_eq_true (by kernel_rfl)⟩
  · intro ds gs hd hg
    have hd : ds.length = 1 := hd
    have hg : gs.length = 1 := hg
    match ds, gs, hd, hg with
    | [a0], [y0], _, _ => rfl
  · intro W hl
    rw [MakeChecks.laidMetH_plain _ _ _ (by kernel_rfl)] at hl
    obtain ⟨ps, ⟨b0, t0, cs0, f0, p0, q0, hg0, ht0, hv0, hd0, _, _⟩, _, _⟩ := hl
    obtain rfl := Option.some.inj ((show Tryd.prog.globalNamed "loop.example/g00036/impl.yvars" = some 0 by kernel_rfl).symm.trans hg0)
    obtain rfl := Option.some.inj ((show (Tryd.prog.globals[0]?).map (·.type) = some 79 by kernel_rfl).symm.trans ht0)
    obtain ⟨g0, hr0, hk0⟩ := laid_impl_yvars (P := Tryd.prog) (W := W) (e := 9) (by kernel_rfl) (by kernel_rfl) hd0
    refine ⟨(glOf [(0, explode (.list .str) g0)]), globOk_cons hg0 hv0 hr0 (globOk_nil _), conOf (cs_laws_FnExactInFragment g0), conOf_ok (hcs_laws_FnExactInFragment g0), ?_⟩
    rintro ⟨a0, u⟩ hw
    exact (S_laws_FnExactInFragment a0 (law_InFragment g0 hk0 a0 hw.1)).get

end Go.Ab
namespace Go.Proofs.YtlhbebagmkeghaaDoor
open Go.Ab
theorem fnExactInFragment_j0 : (Rows.fnExactInFragmentRow.wf (OpenSpec.ofChange Rows.fnExactInFragmentSpec) : Bool) = true := by kernel_rfl
theorem fnExactInFragment_j1 : (laidOutB Tryd.pinned.checked.prog : Bool) = true := by kernel_rfl
theorem fnExactInFragment_j2 : (mapsRowed Tryd.pinned.checked.prog : Bool) = true := by kernel_rfl
theorem fnExactInFragment_j3 : (Tryd.f3.params.all (Tryd.pinned.checked.prog.readableRec ·) : Bool) = true := by kernel_rfl
theorem fnExactInFragment_j4 : (namedTie Tryd.pinned.checked.prog Rows.fnExactInFragmentRow.named Rows.fnExactInFragmentSpec.vars : Bool) = true := by kernel_rfl
theorem fnExactInFragment_j5 : ((Rows.fnExactInFragmentRow.stops == []) : Bool) = true := by kernel_rfl
theorem fnExactInFragment_j6 : ((Tryd.pinned.checked.prog.stops == []) : Bool) = true := by kernel_rfl
theorem fnExactInFragment_j7 : ((Rows.fnExactInFragmentRow.knobs == []) : Bool) = true := by kernel_rfl
theorem fnExactInFragment_j8 : ((Tryd.pinned.checked.prog.stopKnobs == []) : Bool) = true := by kernel_rfl
theorem fnExactInFragment_j9 : ((Rows.fnExactInFragmentRow.inPlace == Tryd.pinned.checked.prog.inPlace 3) : Bool) = true := by kernel_rfl
theorem fnExactInFragment_j10 : ((Rows.fnExactInFragmentRow.unfollowed == Tryd.pinned.checked.prog.unfollowed 3) : Bool) = true := by kernel_rfl
theorem fnExactInFragment_j11 : ((Rows.fnExactInFragmentRow.recurses == Tryd.pinned.checked.prog.recurses 3) : Bool) = true := by kernel_rfl
theorem fnExactInFragment_j12 : ((Rows.fnExactInFragmentRow.named == Tryd.pinned.checked.prog.varsNamed 3) : Bool) = true := by kernel_rfl
theorem fnExactInFragment_j13 : ((Rows.fnExactInFragmentRow.maps == (Tryd.f3.params.toList ++ Rows.fnExactInFragmentSpec.plain.varTypes Tryd.pinned.checked.prog).any (Tryd.pinned.checked.prog.mapsRec ·)) : Bool) = true := by kernel_rfl
theorem fnExactInFragment_j14 : ((Rows.fnExactInFragmentRow.ifaces == (Tryd.f3.params.toList ++ Rows.fnExactInFragmentSpec.plain.varTypes Tryd.pinned.checked.prog).any (Tryd.pinned.checked.prog.ifacesRec ·)) : Bool) = true := by kernel_rfl
theorem fnExactInFragment_j15 : ((Rows.fnExactInFragmentRow.mapsOut == Tryd.pinned.checked.prog.mapsAmong Tryd.f3.resultTypes.toList) : Bool) = true := by kernel_rfl
theorem fnExactInFragment_j16 : ((Rows.fnExactInFragmentRow.loops == (Tryd.f3.params.toList ++ Rows.fnExactInFragmentSpec.plain.varTypes Tryd.pinned.checked.prog).any (Tryd.pinned.checked.prog.loopsFrom ·)) : Bool) = true := by kernel_rfl
theorem fnExactInFragment_j17 : ((Rows.fnExactInFragmentRow.wideKeys == (Tryd.f3.params.toList ++ Rows.fnExactInFragmentSpec.plain.varTypes Tryd.pinned.checked.prog ++ Tryd.f3.resultTypes.toList).any (Tryd.pinned.checked.prog.wideKeysFrom ·)) : Bool) = true := by kernel_rfl
theorem fnExactInFragment_j18 : (Rows.fnExactInFragmentSpec.vars.all (Tryd.pinned.checked.prog.varReadable ·) : Bool) = true := by kernel_rfl
theorem fnExactInFragment_j19 : (Tryd.f3.resultTypes.all (fun t => Tryd.pinned.checked.prog.readableRec t && decide (t < Tryd.pinned.checked.prog.types.size)) : Bool) = true := by kernel_rfl
theorem fnExactInFragment_j20 : ((Rows.fnExactInFragmentRow.ifacesOut == Tryd.f3.resultTypes.toList.any (Tryd.pinned.checked.prog.ifacesRec ·)) : Bool) = true := by kernel_rfl
theorem fnExactInFragment_j21 : ((Rows.fnExactInFragmentRow.loopsOut == Tryd.f3.resultTypes.toList.any (Tryd.pinned.checked.prog.loopsFrom ·)) : Bool) = true := by kernel_rfl
theorem fnExactInFragment_j22 : ((Rows.fnExactInFragmentRow.plainKeys == Tryd.pinned.checked.prog.plainKeys) : Bool) = true := by kernel_rfl
theorem fnExactInFragment_j23 : (Rows.fnExactInFragmentRow.shortTexts.isNone : Bool) = true := by kernel_rfl
theorem fnExactInFragment_j24 : (Tryd.pinned.checked.prog.stopsHeard : Bool) = true := by kernel_rfl
theorem fnExactInFragment_j25 : (Tryd.pinned.checked.prog.mayEnter : Bool) = true := by kernel_rfl
theorem fnExactInFragment_j26 : ((Rows.fnExactInFragmentRow.lifted == Tryd.pinned.checked.prog.liftsFinal) : Bool) = true := by kernel_rfl
theorem fnExactInFragment_j27 : ((Tryd.pinned.checked.prog.make == some Rows.fnExactInFragmentRow.make) : Bool) = true := by kernel_rfl
theorem fnExactInFragment_j29 : ((Rows.fnExactInFragmentRow.pinned == Rows.fnExactInFragmentRow.pinnedBy) : Bool) = true := by kernel_rfl
theorem fnExactInFragment_j30 : ((Rows.fnExactInFragmentRow.veiled == (Tryd.f3.params.toList ++ Rows.fnExactInFragmentSpec.plain.varTypes Tryd.pinned.checked.prog ++ Tryd.f3.resultTypes.toList).any (Tryd.pinned.checked.prog.veiledRec ·)) : Bool) = true := by kernel_rfl
theorem fnExactInFragment_j31 : (Rows.fnExactInFragmentRow.veiledFits Tryd.pinned.checked.prog Tryd.f3.params.toList (Tryd.f3.params.toList ++ Rows.fnExactInFragmentSpec.plain.varTypes Tryd.pinned.checked.prog ++ Tryd.f3.resultTypes.toList) : Bool) = true := by kernel_rfl
theorem and2 {a b : Bool} (ha : a = true) (hb : b = true) : (a && b) = true := by rw [ha, hb]; rfl
theorem fnExactInFragment_closed : joinedFacts Tryd.pinned.checked.prog 3 Tryd.f3 Rows.fnExactInFragmentSpec Rows.fnExactInFragmentRow = true := by
  unfold joinedFacts
  refine (and2 (and2 (and2 (and2 (and2 (and2 (and2 (and2 (and2 (and2 (and2 (and2 (and2 (and2 (and2 (and2 (and2 (and2 (and2 (and2 (and2 (and2 (and2 (and2 (and2 (and2 (and2 (and2 (and2 (and2 (and2 fnExactInFragment_j0 fnExactInFragment_j1) fnExactInFragment_j2) fnExactInFragment_j3) fnExactInFragment_j4) fnExactInFragment_j5) fnExactInFragment_j6) fnExactInFragment_j7) fnExactInFragment_j8) fnExactInFragment_j9) fnExactInFragment_j10) fnExactInFragment_j11) fnExactInFragment_j12) fnExactInFragment_j13) fnExactInFragment_j14) fnExactInFragment_j15) fnExactInFragment_j16) fnExactInFragment_j17) fnExactInFragment_j18) fnExactInFragment_j19) fnExactInFragment_j20) fnExactInFragment_j21) fnExactInFragment_j22) fnExactInFragment_j23) fnExactInFragment_j24) fnExactInFragment_j25) fnExactInFragment_j26) fnExactInFragment_j27) ?_) fnExactInFragment_j29) fnExactInFragment_j30) fnExactInFragment_j31)
  kernel_rfl
theorem fnExactInFragment_row_holds : Rows.FnExactInFragmentSaid :=
  OpenClaim.holds_of_wide 3 Tryd.f3 rfl rfl rfl rfl rfl rfl rfl ⟨rfl, rfl, rfl, rfl, rfl⟩ rfl rfl rfl rfl rfl (by kernel_rfl) (by kernel_rfl : Tryd.prog.funcs[3]? = some Tryd.f3) fnExactInFragment_closed
    (of_decide_eq_true (by kernel_rfl)) (by unfold Func.isWrapper; first | (rw [if_pos (by decide +kernel)]; kernel_rfl) | (rw [if_neg (by decide +kernel)]; exact ⟨rfl, rfl⟩))
    (fun os started H enc _ => lifted_InFragment os started H enc)
theorem fnExactInFragment_holds : Rows.FnExactInFragmentCardSaid :=
  Claim7.holds_tied_plain_at .later [] [.widerDeep] true (true, "af1999dfb7e881feee9c524df2bf90a0f1fad775e442595d6bfe346ed5196a41") false
    fnExactInFragment_row_holds (fun _ h => by cases h) (by kernel_rfl) (fun _ h => by cases h) fnExactInFragment_row_tie rfl ⟨rfl, rfl⟩ (by kernel_rfl) rfl
    (fun f fn hf hfn => by
      obtain rfl : f = 3 := Option.some.inj ((show Tryd.prog.funcNamed "loop.example/g00036/laws.FnExactInFragment" = some 3 by kernel_rfl).symm.trans hf) |>.symm
      obtain rfl : fn = Tryd.f3 := (Option.some.inj ((show Tryd.prog.funcs[3]? = some Tryd.f3 by kernel_rfl).symm.trans hfn)).symm
      exact ⟨by kernel_rfl, fun j t ht => by
        have ht : (#[28] : Array Nat)[j]? = some t := ht
        have hm : t ∈ [28] := by simpa using Array.mem_of_getElem? ht
        have hall : ([28].all fun u => !Tryd.prog.wantsStandIn u) = true := by kernel_rfl
        exact (show Tryd.prog.wantsStandIn t = false by simpa using List.all_eq_true.1 hall t hm)⟩)
    (by kernel_rfl)
end Go.Proofs.YtlhbebagmkeghaaDoor
