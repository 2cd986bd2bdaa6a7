/-
  'laws.FnExactSlicePolicies' returns true for all arguments, and its arguments read as they did, where the listed package variables hold what the program's text lays; and the row's card.
-/
import Derived.Test.YtgmdnickgijkoaaGreatDoorOkSliceP
import Derived.Test.YtgmdnickgijkoaaGreatDoorAb24
import Derived.Test.YtgmdnickgijkoaaGreatDoorTie
import Derived.Test.YtgmdnickgijkoaaGreatDoorCards
namespace Go.Ab
open Go.Proofs
theorem Qda (g0 : (List (List Int))) : ∀ x ∈ Yi g0, CtrOkG Tryz.prog (Ud [(0, Qq (.list .str) g0)]) x := (Qb Qwh.any (Qb Qub.any (Qb Quf.any (Qb QvZ.any (Qb QtV.any (Qb QtZ.any (Qb Qmb.any (Qb QtP.any (Qb QrP.any (Qb QrU.any (Qb (QkH g0) (Qb Quj.any (Qb Qwy.any (Qb Qur.any (Qb QpA.any (Qb Qn7.any (Qb Qof.any (Qb QpH.any (Qb (Qmq g0) Qi)))))))))))))))))))
theorem QuI : ownKnob Tryz.prog.godebug = none := by kernel_rfl
theorem QmA : laidOutB Tryz.prog = true := by kernel_rfl
def XN : List (String × DataW Unit) := [("loop.example/g00036/impl.yvars", YtgmdnickgijkoaaGreatDoor.Rows.laid_loop_example_g00036_impl_yvars)]
theorem Qsl (os : Os) (args : Array Value) : laidMetH Tryz.prog XN ((World.doorLaid Tryz.prog 400 os).forCall (fun _ _ => 0) ⟨#[], args, []⟩).memory :=
 laidMetH_of_parts3 (fuel := 8) (laidMet_of_run' 8 (by kernel_rfl) (by kernel_rfl)) (by kernel_rfl) (by kernel_rfl)
set_option maxRecDepth 100000 in
theorem QoH (os : Os) (started : os.Started) (H : Type) (enc : TypeId × Value → H) :
  ReturnsInHanded {} Tryz.checked os 4 .any (fun w args => (YtgmdnickgijkoaaGreatDoor.Rows.fnExactSlicePoliciesSpec.pre enc Tryz.prog Tryz.f4 [] false w args ∧ laidMetH Tryz.prog XN w) ∧ sizedMet enc Tryz.prog Tryz.f4 (OpenSpec.ofChange YtgmdnickgijkoaaGreatDoor.Rows.fnExactSlicePoliciesSpec) false w args)
   (YtgmdnickgijkoaaGreatDoor.Rows.fnExactSlicePoliciesSpec.post enc Tryz.prog Tryz.f4 false true false false) := by
 refine Qw3 (C := Tryz.checked) (f := 4) (fn := Tryz.f4) (laid := XN) QuI started (by kernel_rfl) (by kernel_rfl)
  (ChangeSpec.witness_shaped (enc := enc) (C := Tryz.checked) (os := os) (X := fun w _ => laidMetH Tryz.prog XN w) false (World.doorLaid Tryz.prog 400 os) #[.slice none 0 0, .agg #[.int .i64 0, .int .i64 0, .string .empty, .string .empty, .int .i64 0, .int .i64 0, .string .empty, .string .empty, .int .i64 0, .int .i64 0, .string .empty, .string .empty, .slice none 0 0, .slice none 0 0], .slice none 0 0] 12 rfl (World.shaped_of_RefB (by kernel_rfl) (by kernel_rfl)) (by kernel_rfl) (by kernel_rfl) (by kernel_rfl) (Qsl os _))
  QmA (by kernel_rfl) ?_ rfl (tb := 4) (by kernel_rfl) ?_ (tys := [(.list Qf), Qr, (.list Qc)]) (by kernel_rfl) (c := Tryz.f4.body.getD .skip) (by kernel_rfl) (by kernel_rfl) (A := VM) (I := Vz) ?_
 ·intro n hn g t hg ht
  have hn : n ∈ ["loop.example/g00036/impl.yvars"] := hn
  simp only [List.mem_cons, List.not_mem_nil, or_false] at hn
  subst hn
  obtain rfl := Option.some.inj ((show Tryz.prog.globalNamed "loop.example/g00036/impl.yvars" = some 0 by kernel_rfl).symm.trans hg)
  obtain rfl := Option.some.inj ((show (Tryz.prog.globals[0]?).map (·.type) = some 25 by kernel_rfl).symm.trans ht)
  exact ⟨by kernel_rfl, of_decide_eq_true (by kernel_rfl)⟩
 ·intro ds gs hd hg
  have hd : ds.length = 3 := hd
  have hg : gs.length = 1 := hg
  match ds, gs, hd, hg with
  | [a0, a1, a2], [y0], _, _ => rfl
 ·intro W hl
  rw [MakeChecks.laidMetH_plain _ _ _ (by kernel_rfl)] at hl
  obtain ⟨ps, ⟨b0, t0, cs0, f0, p0, q0, hg0, ht0, hv0, hd0, _, _⟩, _, _⟩ := hl
  obtain rfl := Option.some.inj ((show Tryz.prog.globalNamed "loop.example/g00036/impl.yvars" = some 0 by kernel_rfl).symm.trans hg0)
  obtain rfl := Option.some.inj ((show (Tryz.prog.globals[0]?).map (·.type) = some 25 by kernel_rfl).symm.trans ht0)
  obtain ⟨g0, hr0, hk0⟩ := Qyn (P := Tryz.prog) (W := W) (e := 9) (by kernel_rfl) (by kernel_rfl) hd0
  refine ⟨(Ud [(0, Qq (.list .str) g0)]), QCE hg0 hv0 hr0 (QDE _), Qn (Yi g0), QsI (Qda g0), ?_⟩
  rintro ⟨a0, a1, a2, u⟩ hw
  exact (QeU a0 a1 a2 (QuH g0 hk0 a0 a1 a2 hw.1 hw.2.1 hw.2.2.1)).get
end Go.Ab
namespace Go.Proofs.YtgmdnickgijkoaaGreatDoor
open Go.Ab
theorem QjD : (Rows.fnExactSlicePoliciesRow.wf (OpenSpec.ofChange Rows.fnExactSlicePoliciesSpec) : Bool) = true := by kernel_rfl
theorem QjE : (laidOutB Tryz.pinned.checked.prog : Bool) = true := by kernel_rfl
theorem QjF : (mapsRowed Tryz.pinned.checked.prog : Bool) = true := by kernel_rfl
theorem QjG : (Tryz.f4.params.all (Tryz.pinned.checked.prog.readableRec ·) : Bool) = true := by kernel_rfl
theorem QjH : (namedTie Tryz.pinned.checked.prog Rows.fnExactSlicePoliciesRow.named Rows.fnExactSlicePoliciesSpec.vars : Bool) = true := by kernel_rfl
theorem QjI : ((Rows.fnExactSlicePoliciesRow.stops == []) : Bool) = true := by kernel_rfl
theorem QjJ : ((Tryz.pinned.checked.prog.stops == []) : Bool) = true := by kernel_rfl
theorem QjK : ((Rows.fnExactSlicePoliciesRow.knobs == []) : Bool) = true := by kernel_rfl
theorem QjL : ((Tryz.pinned.checked.prog.stopKnobs == []) : Bool) = true := by kernel_rfl
theorem QjM : ((Rows.fnExactSlicePoliciesRow.inPlace == Tryz.pinned.checked.prog.inPlace 4) : Bool) = true := by kernel_rfl
theorem QhC : ((Rows.fnExactSlicePoliciesRow.unfollowed == Tryz.pinned.checked.prog.unfollowed 4) : Bool) = true := by kernel_rfl
theorem QhD : ((Rows.fnExactSlicePoliciesRow.recurses == Tryz.pinned.checked.prog.recurses 4) : Bool) = true := by kernel_rfl
theorem QhE : ((Rows.fnExactSlicePoliciesRow.named == Tryz.pinned.checked.prog.varsNamed 4) : Bool) = true := by kernel_rfl
theorem QhF : ((Rows.fnExactSlicePoliciesRow.maps == (Tryz.f4.params.toList ++ Rows.fnExactSlicePoliciesSpec.plain.varTypes Tryz.pinned.checked.prog).any (Tryz.pinned.checked.prog.mapsRec ·)) : Bool) = true := by kernel_rfl
theorem QhG : ((Rows.fnExactSlicePoliciesRow.ifaces == (Tryz.f4.params.toList ++ Rows.fnExactSlicePoliciesSpec.plain.varTypes Tryz.pinned.checked.prog).any (Tryz.pinned.checked.prog.ifacesRec ·)) : Bool) = true := by kernel_rfl
theorem QhH : ((Rows.fnExactSlicePoliciesRow.mapsOut == Tryz.pinned.checked.prog.mapsAmong Tryz.f4.resultTypes.toList) : Bool) = true := by kernel_rfl
theorem QhI : ((Rows.fnExactSlicePoliciesRow.loops == (Tryz.f4.params.toList ++ Rows.fnExactSlicePoliciesSpec.plain.varTypes Tryz.pinned.checked.prog).any (Tryz.pinned.checked.prog.loopsFrom ·)) : Bool) = true := by kernel_rfl
theorem QhJ : ((Rows.fnExactSlicePoliciesRow.wideKeys == (Tryz.f4.params.toList ++ Rows.fnExactSlicePoliciesSpec.plain.varTypes Tryz.pinned.checked.prog ++ Tryz.f4.resultTypes.toList).any (Tryz.pinned.checked.prog.wideKeysFrom ·)) : Bool) = true := by kernel_rfl
theorem QhK : (Rows.fnExactSlicePoliciesSpec.vars.all (Tryz.pinned.checked.prog.varReadable ·) : Bool) = true := by kernel_rfl
theorem QhL : (Tryz.f4.resultTypes.all (fun t => Tryz.pinned.checked.prog.readableRec t && decide (t < Tryz.pinned.checked.prog.types.size)) : Bool) = true := by kernel_rfl
theorem QhM : ((Rows.fnExactSlicePoliciesRow.ifacesOut == Tryz.f4.resultTypes.toList.any (Tryz.pinned.checked.prog.ifacesRec ·)) : Bool) = true := by kernel_rfl
theorem QhN : ((Rows.fnExactSlicePoliciesRow.loopsOut == Tryz.f4.resultTypes.toList.any (Tryz.pinned.checked.prog.loopsFrom ·)) : Bool) = true := by kernel_rfl
theorem QhO : ((Rows.fnExactSlicePoliciesRow.plainKeys == Tryz.pinned.checked.prog.plainKeys) : Bool) = true := by kernel_rfl
theorem QhP : (Rows.fnExactSlicePoliciesRow.shortTexts.isNone : Bool) = true := by kernel_rfl
theorem QhQ : (Tryz.pinned.checked.prog.stopsHeard : Bool) = true := by kernel_rfl
theorem QhR : (Tryz.pinned.checked.prog.mayEnter : Bool) = true := by kernel_rfl
theorem QhS : ((Rows.fnExactSlicePoliciesRow.lifted == Tryz.pinned.checked.prog.liftsFinal) : Bool) = true := by kernel_rfl
theorem QhT : ((Tryz.pinned.checked.prog.make == some Rows.fnExactSlicePoliciesRow.make) : Bool) = true := by kernel_rfl
theorem QhU : ((Rows.fnExactSlicePoliciesRow.pinned == Rows.fnExactSlicePoliciesRow.pinnedBy) : Bool) = true := by kernel_rfl
theorem QhV : ((Rows.fnExactSlicePoliciesRow.veiled == (Tryz.f4.params.toList ++ Rows.fnExactSlicePoliciesSpec.plain.varTypes Tryz.pinned.checked.prog ++ Tryz.f4.resultTypes.toList).any (Tryz.pinned.checked.prog.veiledRec ·)) : Bool) = true := by kernel_rfl
theorem QhW : (Rows.fnExactSlicePoliciesRow.veiledFits Tryz.pinned.checked.prog Tryz.f4.params.toList (Tryz.f4.params.toList ++ Rows.fnExactSlicePoliciesSpec.plain.varTypes Tryz.pinned.checked.prog ++ Tryz.f4.resultTypes.toList) : Bool) = true := by kernel_rfl
theorem Ed {a b : Bool} (ha : a = true) (hb : b = true) : (a && b) = true := by rw [ha, hb]; rfl
theorem QeV : joinedFacts Tryz.pinned.checked.prog 4 Tryz.f4 Rows.fnExactSlicePoliciesSpec Rows.fnExactSlicePoliciesRow = true := by
 unfold joinedFacts
 refine (Ed (Ed (Ed (Ed (Ed (Ed (Ed (Ed (Ed (Ed (Ed (Ed (Ed (Ed (Ed (Ed (Ed (Ed (Ed (Ed (Ed (Ed (Ed (Ed (Ed (Ed (Ed (Ed (Ed (Ed (Ed QjD QjE) QjF) QjG) QjH) QjI) QjJ) QjK) QjL) QjM) QhC) QhD) QhE) QhF) QhG) QhH) QhI) QhJ) QhK) QhL) QhM) QhN) QhO) QhP) QhQ) QhR) QhS) QhT) ?_) QhU) QhV) QhW)
 kernel_rfl
theorem fnExactSlicePolicies_row_holds : Rows.FnExactSlicePoliciesSaid :=
 OpenClaim.holds_of_wide 4 Tryz.f4 rfl rfl rfl rfl rfl rfl rfl ⟨rfl, rfl, rfl, rfl, rfl⟩ rfl rfl rfl rfl rfl (by kernel_rfl) (by kernel_rfl : Tryz.prog.funcs[4]? = some Tryz.f4) QeV
  (of_decide_eq_true (by kernel_rfl)) (by unfold Func.isWrapper; first | (rw [if_pos (by decide +kernel)]; kernel_rfl) | (rw [if_neg (by decide +kernel)]; exact ⟨rfl, rfl⟩))
  (fun os started H enc _ => QoH os started H enc)
theorem fnExactSlicePolicies_holds : Rows.FnExactSlicePoliciesCardSaid :=
 Claim7.holds_tied_plain_at .later [] [.widerDeep] true (true, "e16a0e38c4df1b98649ac34566928d1d3618b5f59b33e550d05d03c4081f4af3") false
  fnExactSlicePolicies_row_holds (fun _ h => by cases h) (by kernel_rfl) (fun _ h => by cases h) fnExactSlicePolicies_row_tie rfl ⟨rfl, rfl⟩ (by kernel_rfl) rfl
  (fun f fn hf hfn => by
   obtain rfl : f = 4 := Option.some.inj ((show Tryz.prog.funcNamed "loop.example/g00036/laws.FnExactSlicePolicies" = some 4 by kernel_rfl).symm.trans hf) |>.symm
   obtain rfl : fn = Tryz.f4 := (Option.some.inj ((show Tryz.prog.funcs[4]? = some Tryz.f4 by kernel_rfl).symm.trans hfn)).symm
   exact ⟨by kernel_rfl, fun j t ht => by
    have ht : (#[22, 28, 29] : Array Nat)[j]? = some t := ht
    have hm : t ∈ [22, 28, 29] := by simpa using Array.mem_of_getElem? ht
    have hall : ([22, 28, 29].all fun u => !Tryz.prog.wantsStandIn u) = true := by kernel_rfl
    exact (show Tryz.prog.wantsStandIn t = false by simpa using List.all_eq_true.1 hall t hm)⟩)
  (by kernel_rfl)
end Go.Proofs.YtgmdnickgijkoaaGreatDoor
