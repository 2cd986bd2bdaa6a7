/-
  'laws.FnExactGoodPolSchema' returns true for all arguments, and its arguments read as they did, where the listed package variables hold what the program's text lays; and the row's card.
-/
import Derived.Test.YthnejijnpepgjaaDoorOkPols
import Derived.Test.YthnejijnpepgjaaDoorAb24
import Derived.Test.YthnejijnpepgjaaDoorTie
import Derived.Test.YthnejijnpepgjaaDoorCards
namespace Go.Ab
open Go.Proofs

theorem hcs_laws_FnExactGoodPolSchema (g0 : (List ((List Int) × Int))) : ∀ x ∈ cs_laws_FnExactGoodPolSchema g0, CtrOkG Tryd.prog (glOf [(0, explode (.map .str I64) g0)]) x := (conOf_cons ok_laws_szPolSchema.any (conOf_cons ok_laws_toPolSchema.any (conOf_cons ok_spec_GoodPolSchema.any (conOf_cons (ok_impl_GoodPolSchema g0) (conOf_cons ok_laws_eqPolSchema.any conOf_nil)))))
theorem own_GoodPolSchema : ownKnob Tryd.prog.godebug = none := by kernel_rfl
theorem laidOut_GoodPolSchema : laidOutB Tryd.prog = true := by kernel_rfl
def laid_GoodPolSchema : List (String × DataW Unit) := [("loop.example/g00036/impl.yplainKinds", YthnejijnpepgjaaDoor.Rows.laid_loop_example_g00036_impl_yplainKinds)]
theorem door_GoodPolSchema (os : Os) (args : Array Value) : laidMetH Tryd.prog laid_GoodPolSchema ((World.doorLaid Tryd.prog 400 os).forCall (fun _ _ => 0) ⟨#[], args, []⟩).memory :=
  laidMetH_of_parts3 (fuel := 8) (laidMet_of_run' 8 (by kernel_rfl) (by kernel_rfl)) (by kernel_rfl) (by kernel_rfl)

set_option maxRecDepth 100000 in
theorem lifted_GoodPolSchema (os : Os) (started : os.Started) (H : Type) (enc : TypeId × Value → H) :
    ReturnsInHanded {} Tryd.checked os 4 .any (fun w args => (YthnejijnpepgjaaDoor.Rows.fnExactGoodPolSchemaSpec.pre enc Tryd.prog Tryd.f4 [] false w args ∧ laidMetH Tryd.prog laid_GoodPolSchema w) ∧ sizedMet enc Tryd.prog Tryd.f4 (OpenSpec.ofChange YthnejijnpepgjaaDoor.Rows.fnExactGoodPolSchemaSpec) false w args)
      (YthnejijnpepgjaaDoor.Rows.fnExactGoodPolSchemaSpec.post enc Tryd.prog Tryd.f4 false true false false) := by
  refine law_lifted_laid (C := Tryd.checked) (f := 4) (fn := Tryd.f4) (laid := laid_GoodPolSchema) own_GoodPolSchema started (by kernel_rfl) (by kernel_rfl)
    (ChangeSpec.witness_shaped (enc := enc) (C := Tryd.checked) (os := os) (X := fun w _ => laidMetH Tryd.prog laid_GoodPolSchema w) false (World.doorLaid Tryd.prog 400 os) #[.agg #[.slice none 0 0, .slice none 0 0]] 12 rfl (World.shaped_of_RefB (by kernel_rfl) (by kernel_rfl)) (by kernel_rfl) (by kernel_rfl) (by kernel_rfl) (door_GoodPolSchema os _))
    laidOut_GoodPolSchema (by kernel_rfl) ?_ rfl (tb := 4) (by kernel_rfl) ?_ (tys := [TyPolSchema]) (by kernel_rfl) (c := Tryd.f4.body.getD .skip) (by kernel_rfl) (by kernel_rfl) (A := A_laws_FnExactGoodPolSchema) (I := In_laws_FnExactGoodPolSchema) ?_
  · intro n hn g t hg ht
    have hn : n ∈ ["loop.example/g00036/impl.yplainKinds"] := hn
    simp only [List.mem_cons, List.not_mem_nil, or_false] at hn
    subst hn
    obtain rfl := Option.some.inj ((show Tryd.prog.globalNamed "loop.example/g00036/impl.yplainKinds" = some 0 by kernel_rfl).symm.trans hg)
    obtain rfl := Option.some.inj ((show (Tryd.prog.globals[0]?).map (·.type) = some 78 by kernel_rfl).symm.trans ht)
    exact ⟨by kernel_rfl, of_decide_eq_true (by kernel_rfl)⟩
  · intro ds gs hd hg
    have hd : ds.length = 1 := hd
    have hg : gs.length = 1 := hg
    match ds, gs, hd, hg with
    | [a0], [y0], _, _ => rfl
  · intro W hl
    rw [MakeChecks.laidMetH_plain _ _ _ (by kernel_rfl)] at hl
    obtain ⟨ps, ⟨b0, t0, cs0, f0, p0, q0, hg0, ht0, hv0, hd0, _, _⟩, _, _⟩ := hl
    obtain rfl := Option.some.inj ((show Tryd.prog.globalNamed "loop.example/g00036/impl.yplainKinds" = some 0 by kernel_rfl).symm.trans hg0)
    obtain rfl := Option.some.inj ((show (Tryd.prog.globals[0]?).map (·.type) = some 78 by kernel_rfl).symm.trans ht0)
    obtain ⟨g0, hr0, hk0⟩ := laid_impl_yplainKinds (P := Tryd.prog) (W := W) (k := 9) (e := 3) (by kernel_rfl) (by kernel_rfl) (by kernel_rfl) hd0
    refine ⟨(glOf [(0, explode (.map .str I64) g0)]), globOk_cons hg0 hv0 hr0 (globOk_nil _), conOf (cs_laws_FnExactGoodPolSchema g0), conOf_ok (hcs_laws_FnExactGoodPolSchema g0), ?_⟩
    rintro ⟨a0, u⟩ hw
    exact (S_laws_FnExactGoodPolSchema a0 (law_GoodPolSchema g0 hk0 a0 hw.1)).get

end Go.Ab
namespace Go.Proofs.YthnejijnpepgjaaDoor
open Go.Ab
theorem fnExactGoodPolSchema_row_holds : Rows.FnExactGoodPolSchemaSaid :=
  OpenClaim.holds_of_wide 4 Tryd.f4 rfl rfl rfl rfl rfl rfl rfl ⟨rfl, rfl, rfl, rfl, rfl⟩ rfl rfl rfl rfl rfl (by kernel_rfl) (by kernel_rfl : Tryd.prog.funcs[4]? = some Tryd.f4) (by kernel_rfl)
    (of_decide_eq_true (by kernel_rfl)) (by unfold Func.isWrapper; first | (rw [if_pos (by decide +kernel)]; kernel_rfl) | (rw [if_neg (by decide +kernel)]; exact ⟨rfl, rfl⟩))
    (fun os started H enc _ => lifted_GoodPolSchema os started H enc)
theorem fnExactGoodPolSchema_holds : Rows.FnExactGoodPolSchemaCardSaid :=
  Claim7.holds_tied_plain_at .later [] [.mapped] true (true, "50545f335bc3cc7383c1d81d687c1d5228b270a978d7998591113ecaa71cf5f8") false
    fnExactGoodPolSchema_row_holds (fun _ h => by cases h) (by kernel_rfl) (fun _ h => by cases h) fnExactGoodPolSchema_row_tie rfl ⟨rfl, rfl⟩ (by kernel_rfl) rfl
    (fun f fn hf hfn => by
      obtain rfl : f = 4 := Option.some.inj ((show Tryd.prog.funcNamed "loop.example/g00036/laws.FnExactGoodPolSchema" = some 4 by kernel_rfl).symm.trans hf) |>.symm
      obtain rfl : fn = Tryd.f4 := (Option.some.inj ((show Tryd.prog.funcs[4]? = some Tryd.f4 by kernel_rfl).symm.trans hfn)).symm
      exact ⟨by kernel_rfl, fun j t ht => by
        have ht : (#[40] : Array Nat)[j]? = some t := ht
        have hm : t ∈ [40] := by simpa using Array.mem_of_getElem? ht
        have hall : ([40].all fun u => !Tryd.prog.wantsStandIn u) = true := by kernel_rfl
        exact (show Tryd.prog.wantsStandIn t = false by simpa using List.all_eq_true.1 hall t hm)⟩)
    (by kernel_rfl)
end Go.Proofs.YthnejijnpepgjaaDoor
