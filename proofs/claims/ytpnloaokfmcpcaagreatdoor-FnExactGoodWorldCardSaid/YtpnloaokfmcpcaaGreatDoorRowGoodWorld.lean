/-
  'laws.FnExactGoodWorld' returns true for all arguments, and its arguments read as they did, where the listed package variables hold what the program's text lays; and the row's card.
-/
import Derived.Test.YtpnloaokfmcpcaaGreatDoorOkWorld
import Derived.Test.YtpnloaokfmcpcaaGreatDoorAb24
import Derived.Test.YtpnloaokfmcpcaaGreatDoorTie
import Derived.Test.YtpnloaokfmcpcaaGreatDoorCards
namespace Go.Ab
open Go.Proofs

theorem hcs_laws_FnExactGoodWorld (g1 : (List ((List Int) × Int))) : ∀ x ∈ cs_laws_FnExactGoodWorld g1, CtrOkG Tryz.prog (glOf [(1, explode (.map .str I64) g1)]) x := (conOf_cons ok_laws_szPolSchema.any (conOf_cons ok_laws_szThingS.any (conOf_cons ok_laws_szRequest.any (conOf_cons ok_laws_toPolSchema.any (conOf_cons ok_laws_toThingS.any (conOf_cons ok_laws_toRequest.any (conOf_cons ok_spec_GoodWorld.any (conOf_cons (ok_impl_GoodWorld g1) (conOf_cons ok_laws_eqPolSchema.any (conOf_cons ok_laws_eqThingS.any (conOf_cons ok_laws_eqRequest.any conOf_nil)))))))))))
theorem own_GoodWorld : ownKnob Tryz.prog.godebug = none := by kernel_rfl
theorem laidOut_GoodWorld : laidOutB Tryz.prog = true := by kernel_rfl
def laid_GoodWorld : List (String × DataW Unit) := [("loop.example/g00036/impl.yplainKinds", YtpnloaokfmcpcaaGreatDoor.Rows.laid_loop_example_g00036_impl_yplainKinds)]
theorem door_GoodWorld (os : Os) (args : Array Value) : laidMetH Tryz.prog laid_GoodWorld ((World.doorLaid Tryz.prog 400 os).forCall (fun _ _ => 0) ⟨#[], args, []⟩).memory :=
  laidMetH_of_parts3 (fuel := 8) (laidMet_of_run' 8 (by kernel_rfl) (by kernel_rfl)) (by kernel_rfl) (by kernel_rfl)

set_option maxRecDepth 100000 in
theorem lifted_GoodWorld (os : Os) (started : os.Started) (H : Type) (enc : TypeId × Value → H) :
    ReturnsInHanded {} Tryz.checked os 3 .any (fun w args => (YtpnloaokfmcpcaaGreatDoor.Rows.fnExactGoodWorldSpec.pre enc Tryz.prog Tryz.f3 [] false w args ∧ laidMetH Tryz.prog laid_GoodWorld w) ∧ sizedMet enc Tryz.prog Tryz.f3 (OpenSpec.ofChange YtpnloaokfmcpcaaGreatDoor.Rows.fnExactGoodWorldSpec) false w args)
      (YtpnloaokfmcpcaaGreatDoor.Rows.fnExactGoodWorldSpec.post enc Tryz.prog Tryz.f3 false true false false) := by
  refine law_lifted_laid (C := Tryz.checked) (f := 3) (fn := Tryz.f3) (laid := laid_GoodWorld) own_GoodWorld started (by kernel_rfl) (by kernel_rfl)
    (ChangeSpec.witness_shaped (enc := enc) (C := Tryz.checked) (os := os) (X := fun w _ => laidMetH Tryz.prog laid_GoodWorld w) false (World.doorLaid Tryz.prog 400 os) #[.agg #[.slice none 0 0, .slice none 0 0], .slice none 0 0, .agg #[.int .i64 0, .int .i64 0, .string .empty, .string .empty, .int .i64 0, .int .i64 0, .string .empty, .string .empty, .int .i64 0, .int .i64 0, .string .empty, .string .empty, .slice none 0 0, .slice none 0 0]] 12 rfl (World.shaped_of_RefB (by kernel_rfl) (by kernel_rfl)) (by kernel_rfl) (by kernel_rfl) (by kernel_rfl) (door_GoodWorld os _))
    laidOut_GoodWorld (by kernel_rfl) ?_ rfl (tb := 4) (by kernel_rfl) ?_ (tys := [TyPolSchema, (.list TyThing), TyRequest]) (by kernel_rfl) (c := Tryz.f3.body.getD .skip) (by kernel_rfl) (by kernel_rfl) (A := A_laws_FnExactGoodWorld) (I := In_laws_FnExactGoodWorld) ?_
  · intro n hn g t hg ht
    have hn : n ∈ ["loop.example/g00036/impl.yplainKinds"] := hn
    simp only [List.mem_cons, List.not_mem_nil, or_false] at hn
    subst hn
    obtain rfl := Option.some.inj ((show Tryz.prog.globalNamed "loop.example/g00036/impl.yplainKinds" = some 1 by kernel_rfl).symm.trans hg)
    obtain rfl := Option.some.inj ((show (Tryz.prog.globals[1]?).map (·.type) = some 223 by kernel_rfl).symm.trans ht)
    exact ⟨by kernel_rfl, of_decide_eq_true (by kernel_rfl)⟩
  · intro ds gs hd hg
    have hd : ds.length = 3 := hd
    have hg : gs.length = 1 := hg
    match ds, gs, hd, hg with
    | [a0, a1, a2], [y0], _, _ => rfl
  · intro W hl
    rw [MakeChecks.laidMetH_plain _ _ _ (by kernel_rfl)] at hl
    obtain ⟨ps, ⟨b0, t0, cs0, f0, p0, q0, hg0, ht0, hv0, hd0, _, _⟩, _, _⟩ := hl
    obtain rfl := Option.some.inj ((show Tryz.prog.globalNamed "loop.example/g00036/impl.yplainKinds" = some 1 by kernel_rfl).symm.trans hg0)
    obtain rfl := Option.some.inj ((show (Tryz.prog.globals[1]?).map (·.type) = some 223 by kernel_rfl).symm.trans ht0)
    obtain ⟨g1, hr0, hk0⟩ := laid_impl_yplainKinds (P := Tryz.prog) (W := W) (k := 9) (e := 3) (by kernel_rfl) (by kernel_rfl) (by kernel_rfl) hd0
    refine ⟨(glOf [(1, explode (.map .str I64) g1)]), globOk_cons hg0 hv0 hr0 (globOk_nil _), conOf (cs_laws_FnExactGoodWorld g1), conOf_ok (hcs_laws_FnExactGoodWorld g1), ?_⟩
    rintro ⟨a0, a1, a2, u⟩ hw
    exact (S_laws_FnExactGoodWorld a0 a1 a2 (law_GoodWorld g1 hk0 a0 a1 a2 hw.1 hw.2.1 hw.2.2.1)).get

end Go.Ab
namespace Go.Proofs.YtpnloaokfmcpcaaGreatDoor
open Go.Ab
theorem fnExactGoodWorld_j0 : (Rows.fnExactGoodWorldRow.wf (OpenSpec.ofChange Rows.fnExactGoodWorldSpec) : Bool) = true := by kernel_rfl
theorem fnExactGoodWorld_j1 : (laidOutB Tryz.pinned.checked.prog : Bool) = true := by kernel_rfl
theorem fnExactGoodWorld_j2 : (mapsRowed Tryz.pinned.checked.prog : Bool) = true := by kernel_rfl
theorem fnExactGoodWorld_j3 : (Tryz.f3.params.all (Tryz.pinned.checked.prog.readableRec ·) : Bool) = true := by kernel_rfl
theorem fnExactGoodWorld_j4 : (namedTie Tryz.pinned.checked.prog Rows.fnExactGoodWorldRow.named Rows.fnExactGoodWorldSpec.vars : Bool) = true := by kernel_rfl
theorem fnExactGoodWorld_j5 : ((Rows.fnExactGoodWorldRow.stops == []) : Bool) = true := by kernel_rfl
theorem fnExactGoodWorld_j6 : ((Tryz.pinned.checked.prog.stops == []) : Bool) = true := by kernel_rfl
theorem fnExactGoodWorld_j7 : ((Rows.fnExactGoodWorldRow.knobs == []) : Bool) = true := by kernel_rfl
theorem fnExactGoodWorld_j8 : ((Tryz.pinned.checked.prog.stopKnobs == []) : Bool) = true := by kernel_rfl
theorem fnExactGoodWorld_j9 : ((Rows.fnExactGoodWorldRow.inPlace == Tryz.pinned.checked.prog.inPlace 3) : Bool) = true := by kernel_rfl
theorem fnExactGoodWorld_j10 : ((Rows.fnExactGoodWorldRow.unfollowed == Tryz.pinned.checked.prog.unfollowed 3) : Bool) = true := by kernel_rfl
theorem fnExactGoodWorld_j11 : ((Rows.fnExactGoodWorldRow.recurses == Tryz.pinned.checked.prog.recurses 3) : Bool) = true := by kernel_rfl
theorem fnExactGoodWorld_j12 : ((Rows.fnExactGoodWorldRow.named == Tryz.pinned.checked.prog.varsNamed 3) : Bool) = true := by kernel_rfl
theorem fnExactGoodWorld_j13 : ((Rows.fnExactGoodWorldRow.maps == (Tryz.f3.params.toList ++ Rows.fnExactGoodWorldSpec.plain.varTypes Tryz.pinned.checked.prog).any (Tryz.pinned.checked.prog.mapsRec ·)) : Bool) = true := by kernel_rfl
theorem fnExactGoodWorld_j14 : ((Rows.fnExactGoodWorldRow.ifaces == (Tryz.f3.params.toList ++ Rows.fnExactGoodWorldSpec.plain.varTypes Tryz.pinned.checked.prog).any (Tryz.pinned.checked.prog.ifacesRec ·)) : Bool) = true := by kernel_rfl
theorem fnExactGoodWorld_j15 : ((Rows.fnExactGoodWorldRow.mapsOut == Tryz.pinned.checked.prog.mapsAmong Tryz.f3.resultTypes.toList) : Bool) = true := by kernel_rfl
theorem fnExactGoodWorld_j16 : ((Rows.fnExactGoodWorldRow.loops == (Tryz.f3.params.toList ++ Rows.fnExactGoodWorldSpec.plain.varTypes Tryz.pinned.checked.prog).any (Tryz.pinned.checked.prog.loopsFrom ·)) : Bool) = true := by kernel_rfl
theorem fnExactGoodWorld_j17 : ((Rows.fnExactGoodWorldRow.wideKeys == (Tryz.f3.params.toList ++ Rows.fnExactGoodWorldSpec.plain.varTypes Tryz.pinned.checked.prog ++ Tryz.f3.resultTypes.toList).any (Tryz.pinned.checked.prog.wideKeysFrom ·)) : Bool) = true := by kernel_rfl
theorem fnExactGoodWorld_j18 : (Rows.fnExactGoodWorldSpec.vars.all (Tryz.pinned.checked.prog.varReadable ·) : Bool) = true := by kernel_rfl
theorem fnExactGoodWorld_j19 : (Tryz.f3.resultTypes.all (fun t => Tryz.pinned.checked.prog.readableRec t && decide (t < Tryz.pinned.checked.prog.types.size)) : Bool) = true := by kernel_rfl
theorem fnExactGoodWorld_j20 : ((Rows.fnExactGoodWorldRow.ifacesOut == Tryz.f3.resultTypes.toList.any (Tryz.pinned.checked.prog.ifacesRec ·)) : Bool) = true := by kernel_rfl
theorem fnExactGoodWorld_j21 : ((Rows.fnExactGoodWorldRow.loopsOut == Tryz.f3.resultTypes.toList.any (Tryz.pinned.checked.prog.loopsFrom ·)) : Bool) = true := by kernel_rfl
theorem fnExactGoodWorld_j22 : ((Rows.fnExactGoodWorldRow.plainKeys == Tryz.pinned.checked.prog.plainKeys) : Bool) = true := by kernel_rfl
theorem fnExactGoodWorld_j23 : (Rows.fnExactGoodWorldRow.shortTexts.isNone : Bool) = true := by kernel_rfl
theorem fnExactGoodWorld_j24 : (Tryz.pinned.checked.prog.stopsHeard : Bool) = true := by kernel_rfl
theorem fnExactGoodWorld_j25 : (Tryz.pinned.checked.prog.mayEnter : Bool) = true := by kernel_rfl
theorem fnExactGoodWorld_j26 : ((Rows.fnExactGoodWorldRow.lifted == Tryz.pinned.checked.prog.liftsFinal) : Bool) = true := by kernel_rfl
theorem fnExactGoodWorld_j27 : ((Tryz.pinned.checked.prog.make == some Rows.fnExactGoodWorldRow.make) : Bool) = true := by kernel_rfl
theorem fnExactGoodWorld_j29 : ((Rows.fnExactGoodWorldRow.pinned == Rows.fnExactGoodWorldRow.pinnedBy) : Bool) = true := by kernel_rfl
theorem fnExactGoodWorld_j30 : ((Rows.fnExactGoodWorldRow.veiled == (Tryz.f3.params.toList ++ Rows.fnExactGoodWorldSpec.plain.varTypes Tryz.pinned.checked.prog ++ Tryz.f3.resultTypes.toList).any (Tryz.pinned.checked.prog.veiledRec ·)) : Bool) = true := by kernel_rfl
theorem fnExactGoodWorld_j31 : (Rows.fnExactGoodWorldRow.veiledFits Tryz.pinned.checked.prog Tryz.f3.params.toList (Tryz.f3.params.toList ++ Rows.fnExactGoodWorldSpec.plain.varTypes Tryz.pinned.checked.prog ++ Tryz.f3.resultTypes.toList) : Bool) = true := by kernel_rfl
theorem and2 {a b : Bool} (ha : a = true) (hb : b = true) : (a && b) = true := by rw [ha, hb]; rfl
theorem fnExactGoodWorld_closed : joinedFacts Tryz.pinned.checked.prog 3 Tryz.f3 Rows.fnExactGoodWorldSpec Rows.fnExactGoodWorldRow = true := by
  unfold joinedFacts
  refine (and2 (and2 (and2 (and2 (and2 (and2 (and2 (and2 (and2 (and2 (and2 (and2 (and2 (and2 (and2 (and2 (and2 (and2 (and2 (and2 (and2 (and2 (and2 (and2 (and2 (and2 (and2 (and2 (and2 (and2 (and2 fnExactGoodWorld_j0 fnExactGoodWorld_j1) fnExactGoodWorld_j2) fnExactGoodWorld_j3) fnExactGoodWorld_j4) fnExactGoodWorld_j5) fnExactGoodWorld_j6) fnExactGoodWorld_j7) fnExactGoodWorld_j8) fnExactGoodWorld_j9) fnExactGoodWorld_j10) fnExactGoodWorld_j11) fnExactGoodWorld_j12) fnExactGoodWorld_j13) fnExactGoodWorld_j14) fnExactGoodWorld_j15) fnExactGoodWorld_j16) fnExactGoodWorld_j17) fnExactGoodWorld_j18) fnExactGoodWorld_j19) fnExactGoodWorld_j20) fnExactGoodWorld_j21) fnExactGoodWorld_j22) fnExactGoodWorld_j23) fnExactGoodWorld_j24) fnExactGoodWorld_j25) fnExactGoodWorld_j26) fnExactGoodWorld_j27) ?_) fnExactGoodWorld_j29) fnExactGoodWorld_j30) fnExactGoodWorld_j31)
  kernel_rfl
theorem fnExactGoodWorld_row_holds : Rows.FnExactGoodWorldSaid :=
  OpenClaim.holds_of_wide 3 Tryz.f3 rfl rfl rfl rfl rfl rfl rfl ⟨rfl, rfl, rfl, rfl, rfl⟩ rfl rfl rfl rfl rfl (by kernel_rfl) (by kernel_rfl : Tryz.prog.funcs[3]? = some Tryz.f3) fnExactGoodWorld_closed
    (of_decide_eq_true (by kernel_rfl)) (by unfold Func.isWrapper; first | (rw [if_pos (by decide +kernel)]; kernel_rfl) | (rw [if_neg (by decide +kernel)]; exact ⟨rfl, rfl⟩))
    (fun os started H enc _ => lifted_GoodWorld os started H enc)
theorem fnExactGoodWorld_holds : Rows.FnExactGoodWorldCardSaid :=
  Claim7.holds_tied_plain_at .later [] [.mapped] true (true, "46663eba63a90106fe7ce59f7d7d29c1df27bcb937e5d8fe0d7f548777b8a437") true
    fnExactGoodWorld_row_holds (fun _ h => by cases h) (by kernel_rfl) (fun _ h => by cases h) fnExactGoodWorld_row_tie rfl ⟨rfl, rfl⟩ (by kernel_rfl) rfl
    (fun f fn hf hfn => by
      obtain rfl : f = 3 := Option.some.inj ((show Tryz.prog.funcNamed "loop.example/g00036/laws.FnExactGoodWorld" = some 3 by kernel_rfl).symm.trans hf) |>.symm
      obtain rfl : fn = Tryz.f3 := (Option.some.inj ((show Tryz.prog.funcs[3]? = some Tryz.f3 by kernel_rfl).symm.trans hfn)).symm
      exact ⟨by kernel_rfl, fun j t ht => by
        have ht : (#[25, 26, 32] : Array Nat)[j]? = some t := ht
        have hm : t ∈ [25, 26, 32] := by simpa using Array.mem_of_getElem? ht
        have hall : ([25, 26, 32].all fun u => !Tryz.prog.wantsStandIn u) = true := by kernel_rfl
        exact (show Tryz.prog.wantsStandIn t = false by simpa using List.all_eq_true.1 hall t hm)⟩)
    (by kernel_rfl)
end Go.Proofs.YtpnloaokfmcpcaaGreatDoor
