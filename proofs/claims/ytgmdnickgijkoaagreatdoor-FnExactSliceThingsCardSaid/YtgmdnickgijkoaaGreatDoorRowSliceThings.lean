/-
  'laws.FnExactSliceThings' returns true for all arguments, and its arguments read as they did, where the listed package variables hold what the program's text lays; and the row's card.
-/
import Derived.Test.YtgmdnickgijkoaaGreatDoorOkSliceT
import Derived.Test.YtgmdnickgijkoaaGreatDoorAb24
import Derived.Test.YtgmdnickgijkoaaGreatDoorTie
import Derived.Test.YtgmdnickgijkoaaGreatDoorCards
namespace Go.Ab
open Go.Proofs
theorem Qf9 (g0 : (List (List Int))) : ∀ x ∈ Vx g0,CtrOkG Tryz.prog (Xt [(0,Qq (.list .str) g0)]) x:=(Qd Qya.any (Qd Qv7.any (Qd Qwb.any (Qd QxS.any (Qd QvQ.any (Qd QvU.any (Qd QqR.any (Qd QvL.any (Qd QtI.any (Qd QtN.any (Qd (QpN g0) (Qd Qym.any (Qd Qwj.any (Qd Qwn.any (Qd Qrl.any (Qd QpQ.any (Qd QpY.any (Qd QtS.any (Qd (Qrb g0) Qk)))))))))))))))))))
theorem QAo : ownKnob Tryz.prog.godebug = none:=by kernel_rfl
theorem QrB : laidOutB Tryz.prog = true:=by kernel_rfl
def WN : List (String × DataW Unit) := [("loop.example/g00036/impl.yvars", YtgmdnickgijkoaaGreatDoor.Rows.laid_loop_example_g00036_impl_yvars)]
theorem Qyy (os : Os) (args : Array Value) : laidMetH Tryz.prog WN ((World.doorLaid Tryz.prog 400 os).forCall (fun _ _=>0) ⟨#[],args,[]⟩).memory :=
 laidMetH_of_parts3 (fuel:=8) (laidMet_of_run' 8 (by kernel_rfl) (by kernel_rfl)) (by kernel_rfl) (by kernel_rfl)
set_option maxRecDepth 100000 in
theorem Quf (os : Os) (started : os.Started) (H : Type) (enc : TypeId × Value → H) :
  ReturnsInHanded {} Tryz.checked os 3 .any (fun w args=>(YtgmdnickgijkoaaGreatDoor.Rows.fnExactSliceThingsSpec.pre enc Tryz.prog Tryz.f3 [] false w args ∧ laidMetH Tryz.prog WN w) ∧ sizedMet enc Tryz.prog Tryz.f3 (OpenSpec.ofChange YtgmdnickgijkoaaGreatDoor.Rows.fnExactSliceThingsSpec) false w args)
   (YtgmdnickgijkoaaGreatDoor.Rows.fnExactSliceThingsSpec.post enc Tryz.prog Tryz.f3 false true false false):=by
 refine Qy4 (C:=Tryz.checked) (f:=3) (fn:=Tryz.f3) (laid:=WN) QAo started (by kernel_rfl) (by kernel_rfl)
  (ChangeSpec.witness_shaped (enc:=enc) (C:=Tryz.checked) (os:=os) (X:=fun w _=>laidMetH Tryz.prog WN w) false (World.doorLaid Tryz.prog 400 os) #[.slice none 0 0,.agg #[.int .i64 0,.int .i64 0,.string .empty,.string .empty,.int .i64 0,.int .i64 0,.string .empty,.string .empty,.int .i64 0,.int .i64 0,.string .empty,.string .empty,.slice none 0 0,.slice none 0 0],.slice none 0 0] 12 rfl (World.shaped_of_RefB (by kernel_rfl) (by kernel_rfl)) (by kernel_rfl) (by kernel_rfl) (by kernel_rfl) (Qyy os _))
  QrB (by kernel_rfl) ?_ rfl (tb:=4) (by kernel_rfl) ?_ (tys:=[(.list Qe),Qu,(.list Qg)]) (by kernel_rfl) (c:=Tryz.f3.body.getD .skip) (by kernel_rfl) (by kernel_rfl) (A:=Xg) (I:=G4) ?_
 ·intro n hn g t hg ht
  have hn : n ∈ ["loop.example/g00036/impl.yvars"] := hn
  simp only [List.mem_cons,List.not_mem_nil,or_false] at hn
  subst hn
  obtain rfl := Option.some.inj ((show Tryz.prog.globalNamed "loop.example/g00036/impl.yvars" = some 0 by kernel_rfl).symm.trans hg)
  obtain rfl:=Option.some.inj ((show (Tryz.prog.globals[0]?).map (·.type) = some 25 by kernel_rfl).symm.trans ht)
  exact ⟨by kernel_rfl,of_decide_eq_true (by kernel_rfl)⟩
 ·intro ds gs hd hg
  have hd : ds.length = 3:=hd
  have hg : gs.length = 1:=hg
  match ds,gs,hd,hg with
  | [a0,a1,a2],[y0],_,_=>rfl
 ·intro W hl
  rw [MakeChecks.laidMetH_plain _ _ _ (by kernel_rfl)] at hl
  obtain ⟨ps,⟨b0,t0,cs0,f0,p0,q0,hg0,ht0,hv0,hd0,_,_⟩,_,_⟩:=hl
  obtain rfl := Option.some.inj ((show Tryz.prog.globalNamed "loop.example/g00036/impl.yvars" = some 0 by kernel_rfl).symm.trans hg0)
  obtain rfl:=Option.some.inj ((show (Tryz.prog.globals[0]?).map (·.type) = some 25 by kernel_rfl).symm.trans ht0)
  obtain ⟨g0,hr0,hk0⟩:=QAl (P:=Tryz.prog) (W:=W) (e:=9) (by kernel_rfl) (by kernel_rfl) hd0
  refine ⟨(Xt [(0,Qq (.list .str) g0)]),QEL hg0 hv0 hr0 (QFQ _),Qn (Vx g0),QuD (Qf9 g0),?_⟩
  rintro ⟨a0,a1,a2,u⟩ hw
  exact (QhS a0 a1 a2 (QAn g0 hk0 a0 a1 a2 hw.1 hw.2.1 hw.2.2.1)).get
end Go.Ab
namespace Go.Proofs.YtgmdnickgijkoaaGreatDoor
open Go.Ab
theorem Qn5 : (Rows.fnExactSliceThingsRow.wf (OpenSpec.ofChange Rows.fnExactSliceThingsSpec) : Bool) = true:=by kernel_rfl
theorem Qn6 : (laidOutB Tryz.pinned.checked.prog : Bool) = true:=by kernel_rfl
theorem Qn7 : (mapsRowed Tryz.pinned.checked.prog : Bool) = true:=by kernel_rfl
theorem Qn8 : (Tryz.f3.params.all (Tryz.pinned.checked.prog.readableRec ·) : Bool) = true:=by kernel_rfl
theorem Qn9 : (namedTie Tryz.pinned.checked.prog Rows.fnExactSliceThingsRow.named Rows.fnExactSliceThingsSpec.vars : Bool) = true:=by kernel_rfl
theorem Qoa : ((Rows.fnExactSliceThingsRow.stops == []) : Bool) = true:=by kernel_rfl
theorem Qob : ((Tryz.pinned.checked.prog.stops == []) : Bool) = true:=by kernel_rfl
theorem Qoc : ((Rows.fnExactSliceThingsRow.knobs == []) : Bool) = true:=by kernel_rfl
theorem Qod : ((Tryz.pinned.checked.prog.stopKnobs == []) : Bool) = true:=by kernel_rfl
theorem Qoe : ((Rows.fnExactSliceThingsRow.inPlace == Tryz.pinned.checked.prog.inPlace 3) : Bool) = true:=by kernel_rfl
theorem QlZ : ((Rows.fnExactSliceThingsRow.unfollowed == Tryz.pinned.checked.prog.unfollowed 3) : Bool) = true:=by kernel_rfl
theorem Ql0 : ((Rows.fnExactSliceThingsRow.recurses == Tryz.pinned.checked.prog.recurses 3) : Bool) = true:=by kernel_rfl
theorem Ql1 : ((Rows.fnExactSliceThingsRow.named == Tryz.pinned.checked.prog.varsNamed 3) : Bool) = true:=by kernel_rfl
theorem Ql2 : ((Rows.fnExactSliceThingsRow.maps == (Tryz.f3.params.toList ++ Rows.fnExactSliceThingsSpec.plain.varTypes Tryz.pinned.checked.prog).any (Tryz.pinned.checked.prog.mapsRec ·)) : Bool) = true:=by kernel_rfl
theorem Ql3 : ((Rows.fnExactSliceThingsRow.ifaces == (Tryz.f3.params.toList ++ Rows.fnExactSliceThingsSpec.plain.varTypes Tryz.pinned.checked.prog).any (Tryz.pinned.checked.prog.ifacesRec ·)) : Bool) = true:=by kernel_rfl
theorem Ql4 : ((Rows.fnExactSliceThingsRow.mapsOut == Tryz.pinned.checked.prog.mapsAmong Tryz.f3.resultTypes.toList) : Bool) = true:=by kernel_rfl
theorem Ql5 : ((Rows.fnExactSliceThingsRow.loops == (Tryz.f3.params.toList ++ Rows.fnExactSliceThingsSpec.plain.varTypes Tryz.pinned.checked.prog).any (Tryz.pinned.checked.prog.loopsFrom ·)) : Bool) = true:=by kernel_rfl
theorem Ql6 : ((Rows.fnExactSliceThingsRow.wideKeys == (Tryz.f3.params.toList ++ Rows.fnExactSliceThingsSpec.plain.varTypes Tryz.pinned.checked.prog ++ Tryz.f3.resultTypes.toList).any (Tryz.pinned.checked.prog.wideKeysFrom ·)) : Bool) = true:=by kernel_rfl
theorem Ql7 : (Rows.fnExactSliceThingsSpec.vars.all (Tryz.pinned.checked.prog.varReadable ·) : Bool) = true:=by kernel_rfl
theorem Ql8 : (Tryz.f3.resultTypes.all (fun t=>Tryz.pinned.checked.prog.readableRec t && decide (t < Tryz.pinned.checked.prog.types.size)) : Bool) = true:=by kernel_rfl
theorem Ql9 : ((Rows.fnExactSliceThingsRow.ifacesOut == Tryz.f3.resultTypes.toList.any (Tryz.pinned.checked.prog.ifacesRec ·)) : Bool) = true:=by kernel_rfl
theorem Qma : ((Rows.fnExactSliceThingsRow.loopsOut == Tryz.f3.resultTypes.toList.any (Tryz.pinned.checked.prog.loopsFrom ·)) : Bool) = true:=by kernel_rfl
theorem Qmb : ((Rows.fnExactSliceThingsRow.plainKeys == Tryz.pinned.checked.prog.plainKeys) : Bool) = true:=by kernel_rfl
theorem Qmc : (Rows.fnExactSliceThingsRow.shortTexts.isNone : Bool) = true:=by kernel_rfl
theorem Qmd : (Tryz.pinned.checked.prog.stopsHeard : Bool) = true:=by kernel_rfl
theorem Qme : (Tryz.pinned.checked.prog.mayEnter : Bool) = true:=by kernel_rfl
theorem Qmf : ((Rows.fnExactSliceThingsRow.lifted == Tryz.pinned.checked.prog.liftsFinal) : Bool) = true:=by kernel_rfl
theorem Qmg : ((Tryz.pinned.checked.prog.make == some Rows.fnExactSliceThingsRow.make) : Bool) = true:=by kernel_rfl
theorem Qmh : ((Rows.fnExactSliceThingsRow.pinned == Rows.fnExactSliceThingsRow.pinnedBy) : Bool) = true:=by kernel_rfl
theorem Qmi : ((Rows.fnExactSliceThingsRow.veiled == (Tryz.f3.params.toList ++ Rows.fnExactSliceThingsSpec.plain.varTypes Tryz.pinned.checked.prog ++ Tryz.f3.resultTypes.toList).any (Tryz.pinned.checked.prog.veiledRec ·)) : Bool) = true:=by kernel_rfl
theorem Qmj : (Rows.fnExactSliceThingsRow.veiledFits Tryz.pinned.checked.prog Tryz.f3.params.toList (Tryz.f3.params.toList ++ Rows.fnExactSliceThingsSpec.plain.varTypes Tryz.pinned.checked.prog ++ Tryz.f3.resultTypes.toList) : Bool) = true:=by kernel_rfl
theorem QaI {a b : Bool} (ha : a = true) (hb : b = true) : (a && b) = true:=by rw [ha,hb]; rfl
theorem QhT : joinedFacts Tryz.pinned.checked.prog 3 Tryz.f3 Rows.fnExactSliceThingsSpec Rows.fnExactSliceThingsRow = true:=by
 unfold joinedFacts
 refine (QaI (QaI (QaI (QaI (QaI (QaI (QaI (QaI (QaI (QaI (QaI (QaI (QaI (QaI (QaI (QaI (QaI (QaI (QaI (QaI (QaI (QaI (QaI (QaI (QaI (QaI (QaI (QaI (QaI (QaI (QaI Qn5 Qn6) Qn7) Qn8) Qn9) Qoa) Qob) Qoc) Qod) Qoe) QlZ) Ql0) Ql1) Ql2) Ql3) Ql4) Ql5) Ql6) Ql7) Ql8) Ql9) Qma) Qmb) Qmc) Qmd) Qme) Qmf) Qmg) ?_) Qmh) Qmi) Qmj)
 kernel_rfl
theorem fnExactSliceThings_row_holds : Rows.FnExactSliceThingsSaid :=
 OpenClaim.holds_of_wide 3 Tryz.f3 rfl rfl rfl rfl rfl rfl rfl ⟨rfl,rfl,rfl,rfl,rfl⟩ rfl rfl rfl rfl rfl (by kernel_rfl) (by kernel_rfl : Tryz.prog.funcs[3]? = some Tryz.f3) QhT
  (of_decide_eq_true (by kernel_rfl)) (by unfold Func.isWrapper; first | (rw [if_pos (by decide +kernel)]; kernel_rfl) | (rw [if_neg (by decide +kernel)]; exact ⟨rfl,rfl⟩))
  (fun os started H enc _=>Quf os started H enc)
theorem fnExactSliceThings_holds : Rows.FnExactSliceThingsCardSaid :=
 Claim7.holds_tied_plain_at .later [] [.widerDeep] true (true, "e16a0e38c4df1b98649ac34566928d1d3618b5f59b33e550d05d03c4081f4af3") false
  fnExactSliceThings_row_holds (fun _ h=>by cases h) (by kernel_rfl) (fun _ h=>by cases h) fnExactSliceThings_row_tie rfl ⟨rfl,rfl⟩ (by kernel_rfl) rfl
  (fun f fn hf hfn=>by
   obtain rfl : f = 3 := Option.some.inj ((show Tryz.prog.funcNamed "loop.example/g00036/laws.FnExactSliceThings" = some 3 by kernel_rfl).symm.trans hf) |>.symm
   obtain rfl : fn = Tryz.f3:=(Option.some.inj ((show Tryz.prog.funcs[3]? = some Tryz.f3 by kernel_rfl).symm.trans hfn)).symm
   exact ⟨by kernel_rfl,fun j t ht=>by
    have ht : (#[22,28,29] : Array Nat)[j]? = some t:=ht
    have hm : t ∈ [22,28,29]:=by simpa using Array.mem_of_getElem? ht
    have hall : ([22,28,29].all fun u=>!Tryz.prog.wantsStandIn u) = true:=by kernel_rfl
    exact (show Tryz.prog.wantsStandIn t = false by simpa using List.all_eq_true.1 hall t hm)⟩)
  (by kernel_rfl)
end Go.Proofs.YtgmdnickgijkoaaGreatDoor
