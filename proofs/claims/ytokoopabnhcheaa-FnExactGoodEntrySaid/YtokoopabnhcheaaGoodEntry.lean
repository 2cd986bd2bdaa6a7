/-
  'laws.FnExactGoodEntry' returns true for all arguments, and its argument reads as it did; no condition.
-/
import Derived.Test.YtokoopabnhcheaaGenEntry
import Derived.Test.YtokoopabnhcheaaRows
namespace Go.Ab
open Go.Proofs

theorem hcs92 : ∀ x ∈ cs92, CtrOk Try.prog x := conOf_cons ok93 (conOf_cons ok95 conOf_nil)
theorem ok92 : CtrOk Try.prog c92 := mk92 hcs92 fun p most hw => by
  have hw1 : wfD .str p.1 ∧ wfD .str p.2 := hw.1
  refine Ev.get (Ev.of_eq ?_ (fun n => F92_eq n p most))
  refine Ev.need ⟨hw1.1, trivial⟩ ?_
  unfold goodPart
  cases goodName p.1 with
  | false => exact .const rfl
  | true => exact Ev.pos rfl (Ev.need ⟨hw1.2, rfl, hw.2.1, trivial⟩ (.const rfl))

theorem hcs60 : ∀ x ∈ cs60, CtrOk Try.prog x := conOf_cons ok61 (conOf_cons ok64 conOf_nil)
theorem part_bounds (s : List Int) (m : Nat) : printedIn s 1 m = ((!decide ((s.length : Int) < 1)) && (!decide ((m : Int) < (s.length : Int))) && printed s) := rfl

theorem ok60 : CtrOk Try.prog c60 := mk60 hcs60 fun l hw => by
  obtain ⟨hl, hx⟩ := wfD_list (t := .pair .str .str) hw.1
  refine Ev.get (Ev.of_eq ?_ (fun n => F60_eq n l))
  refine all_ev (d := Ty.dflt TyPart) (fin := fun _ => some (decide ((l.length : Int) ≤ 8))) (b := decide (l.length ≤ 8)) (p := fun p => goodPart p 60) (L := fun n i => L60_0_2 n l l (l.length : Int) i) hl
    (body := fun _ p _ K => Option.bind (need (wfA [.str] (p.1, ())) (goodName p.1)) fun (y1 : Bool) => bif !(y1) then some false else bif decide ((p.2.length : Int) < 1) then some false else bif decide ((60 : Int) < (p.2.length : Int)) then some false else
      Option.bind (need (wfA [.str] (p.2, ())) (printed p.2)) fun (y2 : Bool) => bif !(y2) then some false else K)
    (fun n i => L60_0_2_eq n l l _ i) (.const (decide_eq_decide.2 (by omega))) ?_
  intro k p hk hp K r hK
  have hw1 : wfD .str p.1 ∧ wfD .str p.2 := hx p (List.mem_of_getElem? hp)
  refine Ev.need ⟨hw1.1, trivial⟩ ?_
  unfold goodPart
  rw [show (60 : Int) = ((60 : Nat) : Int) from rfl, part_bounds]
  cases goodName p.1 with
  | false => exact .const rfl
  | true =>
    cases decide ((p.2.length : Int) < 1) with
    | true => exact .const rfl
    | false =>
      cases decide (((60 : Nat) : Int) < (p.2.length : Int)) with
      | true => exact .const rfl
      | false =>
        refine Ev.neg rfl (Ev.neg rfl (Ev.neg rfl (Ev.need ⟨hw1.2, trivial⟩ ?_)))
        cases printed p.2 with
        | true => exact hK
        | false => exact .const rfl

theorem hcs67 : ∀ x ∈ cs67, CtrOk Try.prog x := conOf_cons ok92 conOf_nil
theorem ok67 : CtrOk Try.prog c67 := mk67 hcs67 fun l hw => by
  obtain ⟨hl, hx⟩ := wfD_list (t := .pair .str .str) hw.1
  refine Ev.get (Ev.of_eq ?_ (fun n => F67_eq n l))
  have hloop := all_ev (d := Ty.dflt TyPart) (xs := l) (fin := fun _ => some true) (b := true) (p := fun p => goodPart p 60) (L := fun n i => L67_0_2_1002_1005 n true l (l.length : Int) i) hl
    (body := fun _ p i K => Option.bind (need (wfA [TyPart, I64] (p, 60, ())) (goodPart p 60)) fun (y1 : Bool) => bif !(y1) then (bif true then some (!decide ((0 : Int) ≤ i)) else some false) else K)
    (fun n i => L67_0_2_1002_1005_eq n true l _ i) (.const rfl) (by
    intro k p hk hp K r hK
    refine Ev.need ⟨hx p (List.mem_of_getElem? hp), rfl, trivial⟩ ?_
    cases goodPart p 60 with
    | true => exact hK
    | false => exact Ev.pos rfl (Ev.pos rfl (.const (by simp))))
  unfold goodDirName
  rw [show decide ((l.length : Int) ≤ 8) = decide (l.length ≤ 8) from decide_eq_decide.2 (by omega)]
  cases decide (l.length ≤ 8) with
  | false => exact .const (by simp)
  | true => exact hloop

/-- The name of the attribute ahead. -/
def ahead (l : List (List Int × List (List Int))) (k : Nat) : Option (List Int) := if k = 0 then none else (l[k - 1]?).map (·.1)

theorem hcs68 : ∀ x ∈ cs68, CtrOk Try.prog x := conOf_cons ok93 (conOf_cons ok94 (conOf_cons ok95 conOf_nil))
theorem ok68 : CtrOk Try.prog c68 := mk68 hcs68 fun l hw => by
  obtain ⟨hl, hx⟩ := wfD_list (t := .pair .str (.list .str)) hw.1
  refine Ev.get (Ev.of_eq ?_ (fun n => F68_eq n l))
  have gen : ∀ (m k : Nat), k + m = l.length → Ev (fun n => L68_0_2 n l l (l.length : Int) (k : Int)) (goodAttrsFrom (ahead l k) (l.drop k)) := by
    intro m
    induction m with
    | zero =>
      intro k hk
      refine Ev.succ (Ev.of_eq ?_ (fun n => L68_0_2_eq n l l _ k))
      refine Ev.neg (decide_eq_false (by omega)) (.const ?_)
      rw [List.drop_eq_nil_of_le (by omega)]
      cases ahead l k <;> rfl
    | succ m ih =>
      intro k hk
      have hkl : k < l.length := by omega
      have e := List.getElem?_eq_getElem hkl
      have hi := ih (k + 1) (by omega)
      have ha : ahead l (k + 1) = some l[k].1 := by unfold ahead; rw [if_neg (by omega), Nat.add_sub_cancel, e]; rfl
      rw [ha] at hi
      have hwa : wfD .str l[k].1 ∧ wfD (.list .str) l[k].2 := hx _ (List.getElem_mem hkl)
      obtain ⟨hvl, hvx⟩ := wfD_list (t := .str) hwa.2
      -- the values
      have hin : Ev (fun n => L68_0_7 n l l (l.length : Int) (k : Int) l[k].2 (l[k].2.length : Int) 0) (l[k].2.all (fun v => printedIn v 1 200) && goodAttrsFrom (some l[k].1) (l.drop (k + 1))) := by
        refine all_ev (d := Ty.dflt .str) (L := fun n i => L68_0_7 n l l (l.length : Int) (k : Int) l[k].2 (l[k].2.length : Int) i) (fin := fun n => L68_0_2 n l l (l.length : Int) (IntKind.wrap .i64 ((k : Int) + 1))) hvl
          (body := fun _ v _ K => Option.bind (need (wfA [.str, I64, I64] (v, 1, 200, ())) (printedIn v 1 200)) fun (y : Bool) => bif !(y) then some false else K)
          (fun n i => L68_0_7_eq n l l _ _ _ _ i) ?_ ?_
        · rw [wrap_succ hl hkl]; exact hi
        · intro j v hj hv K r hK
          refine Ev.need ⟨hvx v (List.mem_of_getElem? hv), rfl, rfl, trivial⟩ ?_
          cases printedIn v 1 200 with
          | true => exact hK
          | false => exact .const rfl
      refine Ev.succ (Ev.of_eq ?_ (fun n => L68_0_2_eq n l l _ k))
      refine Ev.pos (decide_eq_true (by omega)) (Ev.pos (inB_nat hkl) ?_)
      rw [rd_nat e, List.drop_eq_getElem_cons hkl]
      refine Ev.need ⟨hwa.1, trivial⟩ ?_
      show Ev _ (goodAttr (ahead l k) l[k] && goodAttrsFrom (some l[k].1) (l.drop (k + 1)))
      unfold goodAttr
      rw [decide_lt_one, show (30 : Int) = ((30 : Nat) : Int) from rfl, decide_big]
      cases goodName l[k].1 with
      | false => exact .const rfl
      | true =>
        refine Ev.neg rfl ?_
        have tail : Ev (fun n => bif !decide (1 ≤ l[k].2.length) then some false else bif !decide (l[k].2.length ≤ 30) then some false else Option.bind (need (wfA [.list .str] (l[k].2, ())) (rising l[k].2)) fun (y : Bool) => bif !(y) then some false else L68_0_7 n l l (l.length : Int) (k : Int) l[k].2 (l[k].2.length : Int) 0)
            (decide (1 ≤ l[k].2.length) && decide (l[k].2.length ≤ 30) && rising l[k].2 && l[k].2.all (fun v => printedIn v 1 200) && goodAttrsFrom (some l[k].1) (l.drop (k + 1))) := by
          cases decide (1 ≤ l[k].2.length) with
          | false => exact .const rfl
          | true =>
            cases decide (l[k].2.length ≤ 30) with
            | false => exact .const rfl
            | true =>
              refine Ev.neg rfl (Ev.neg rfl (Ev.need ⟨hwa.2, trivial⟩ ?_))
              cases rising l[k].2 with
              | false => exact .const rfl
              | true => exact Ev.neg rfl hin
        cases k with
        | zero =>
          refine Ev.neg (decide_eq_false (by omega)) ?_
          simpa [ahead, Bool.and_assoc] using tail
        | succ k =>
          have e' := List.getElem?_eq_getElem (show k < l.length by omega)
          have hah : ahead l (k + 1) = some l[k].1 := by unfold ahead; rw [if_neg (by omega), Nat.add_sub_cancel, e']; rfl
          refine Ev.pos (decide_eq_true (by omega)) ?_
          rw [wrap_pred hl (show k < l.length by omega), rd_nat e', hah]
          refine Ev.pos (inB_nat (by omega)) ?_
          cases hls : lessI l[k].1 l[k + 1].1 with
          | false => exact Ev.pos rfl (.const (by simp [hls]))
          | true =>
            refine Ev.neg rfl ?_
            simpa [hls, Bool.and_assoc] using tail
  exact gen l.length 0 (by omega)

theorem hcs39 : ∀ x ∈ cs39, CtrOk Try.prog x := conOf_cons ok67 (conOf_cons ok68 conOf_nil)
theorem ok39 : CtrOk Try.prog c39 := mk39 hcs39 fun e hw => by
  have hw2 : wfD (.list TyPart) e.1 ∧ wfD (.list TyAttr) e.2 := hw.1
  refine Ev.get (Ev.of_eq ?_ (fun n => F39_eq n e))
  refine Ev.need ⟨hw2.1, trivial⟩ ?_
  unfold goodEntry
  rw [show decide ((0 : Int) < (e.1.length : Int)) = decide (1 ≤ e.1.length) from decide_eq_decide.2 (by omega), show decide ((1 : Int) ≤ (e.2.length : Int)) = decide (1 ≤ e.2.length) from decide_eq_decide.2 (by omega),
    show decide ((e.2.length : Int) ≤ 30) = decide (e.2.length ≤ 30) from decide_eq_decide.2 (by omega)]
  cases goodDirName e.1 with
  | false => exact .const rfl
  | true =>
    cases decide (1 ≤ e.1.length) with
    | false => exact .const rfl
    | true =>
      cases decide (1 ≤ e.2.length) with
      | false => exact .const rfl
      | true =>
        cases decide (e.2.length ≤ 30) with
        | false => exact .const rfl
        | true => exact Ev.pos rfl (Ev.pos rfl (Ev.pos rfl (Ev.pos rfl (Ev.need ⟨hw2.2, trivial⟩ (.const rfl)))))

theorem hcs37 : ∀ x ∈ cs37, CtrOk Try.prog x := conOf_cons ok60 (conOf_cons ok61 (conOf_cons ok62 (conOf_cons ok63 (conOf_cons ok64 conOf_nil))))
theorem ok37 : CtrOk Try.prog c37 := mk37 hcs37 fun en hw => by
  have hw2 : wfD (.list TyPart) en.1 ∧ wfD (.list TyAttr) en.2 := hw.1
  obtain ⟨hl, hx⟩ := wfD_list (t := TyAttr) hw2.2
  obtain ⟨ps, l⟩ := en
  have hl : l.length ≤ maxLen := hl
  have gen : ∀ (m k : Nat), k + m = l.length → Ev (fun n => L37_0_4 n l (l.length : Int) (k : Int) (ps, l)) (goodAttrsFrom (ahead l k) (l.drop k)) := by
    intro m
    induction m with
    | zero =>
      intro k hk
      refine Ev.succ (Ev.of_eq ?_ (fun n => L37_0_4_eq n l _ k (ps, l)))
      refine Ev.neg (decide_eq_false (by omega)) (.const ?_)
      rw [List.drop_eq_nil_of_le (by omega)]
      cases ahead l k <;> rfl
    | succ m ih =>
      intro k hk
      have hkl : k < l.length := by omega
      have e := List.getElem?_eq_getElem hkl
      have hi := ih (k + 1) (by omega)
      have ha : ahead l (k + 1) = some l[k].1 := by unfold ahead; rw [if_neg (by omega), Nat.add_sub_cancel, e]; rfl
      rw [ha] at hi
      have hwa : wfD .str l[k].1 ∧ wfD (.list .str) l[k].2 := hx _ (List.getElem_mem hkl)
      obtain ⟨hvl, hvx⟩ := wfD_list (t := .str) hwa.2
      have hin : Ev (fun n => L37_0_9 n l (l.length : Int) (k : Int) l[k].2 (l[k].2.length : Int) 0 (ps, l)) (l[k].2.all (fun v => printedIn v 1 200) && goodAttrsFrom (some l[k].1) (l.drop (k + 1))) := by
        refine all_ev (d := Ty.dflt .str) (L := fun n i => L37_0_9 n l (l.length : Int) (k : Int) l[k].2 (l[k].2.length : Int) i (ps, l)) (fin := fun n => L37_0_4 n l (l.length : Int) (IntKind.wrap .i64 ((k : Int) + 1)) (ps, l)) hvl
          (body := fun _ v _ K => bif decide ((v.length : Int) < 1) then some false else bif decide ((200 : Int) < (v.length : Int)) then some false else Option.bind (need (wfA [.str] (v, ())) (printed v)) fun (y : Bool) => bif !(y) then some false else K)
          (fun n i => L37_0_9_eq n l _ _ _ _ i (ps, l)) ?_ ?_
        · rw [wrap_succ hl hkl]; exact hi
        · intro j v hj hv K r hK
          rw [show (200 : Int) = ((200 : Nat) : Int) from rfl, part_bounds]
          cases decide ((v.length : Int) < 1) with
          | true => exact .const rfl
          | false =>
            cases decide (((200 : Nat) : Int) < (v.length : Int)) with
            | true => exact .const rfl
            | false =>
              refine Ev.neg rfl (Ev.neg rfl (Ev.need ⟨hvx v (List.mem_of_getElem? hv), trivial⟩ ?_))
              cases printed v with
              | true => exact hK
              | false => exact .const rfl
      refine Ev.succ (Ev.of_eq ?_ (fun n => L37_0_4_eq n l _ k (ps, l)))
      refine Ev.pos (decide_eq_true (by omega)) (Ev.pos (inB_nat hkl) ?_)
      rw [rd_nat e, List.drop_eq_getElem_cons hkl]
      refine Ev.need ⟨hwa.1, trivial⟩ ?_
      show Ev _ (goodAttr (ahead l k) l[k] && goodAttrsFrom (some l[k].1) (l.drop (k + 1)))
      unfold goodAttr
      rw [decide_lt_one, show (30 : Int) = ((30 : Nat) : Int) from rfl, decide_big]
      cases goodName l[k].1 with
      | false => exact .const rfl
      | true =>
        refine Ev.neg rfl ?_
        have tail : Ev (fun n => bif !decide (1 ≤ l[k].2.length) then some false else bif !decide (l[k].2.length ≤ 30) then some false else Option.bind (need (wfA [.list .str] (l[k].2, ())) (rising l[k].2)) fun (y : Bool) => bif !(y) then some false else L37_0_9 n l (l.length : Int) (k : Int) l[k].2 (l[k].2.length : Int) 0 (ps, l))
            (decide (1 ≤ l[k].2.length) && decide (l[k].2.length ≤ 30) && rising l[k].2 && l[k].2.all (fun v => printedIn v 1 200) && goodAttrsFrom (some l[k].1) (l.drop (k + 1))) := by
          cases decide (1 ≤ l[k].2.length) with
          | false => exact .const rfl
          | true =>
            cases decide (l[k].2.length ≤ 30) with
            | false => exact .const rfl
            | true =>
              refine Ev.neg rfl (Ev.neg rfl (Ev.need ⟨hwa.2, trivial⟩ ?_))
              cases rising l[k].2 with
              | false => exact .const rfl
              | true => exact Ev.neg rfl hin
        cases k with
        | zero =>
          refine Ev.neg (decide_eq_false (by omega)) ?_
          simpa [ahead, Bool.and_assoc] using tail
        | succ k =>
          have e' := List.getElem?_eq_getElem (show k < l.length by omega)
          have hah : ahead l (k + 1) = some l[k].1 := by unfold ahead; rw [if_neg (by omega), Nat.add_sub_cancel, e']; rfl
          have hwb : wfD .str l[k].1 ∧ wfD (.list .str) l[k].2 := hx _ (List.getElem_mem (show k < l.length by omega))
          refine Ev.pos (decide_eq_true (by omega)) ?_
          simp only
          rw [wrap_pred hl (show k < l.length by omega), rd_nat e', hah]
          refine Ev.pos (inB_nat (by omega)) (Ev.need ⟨hwb.1, hwa.1, trivial⟩ ?_)
          rw [cmpText_less]
          cases hls : lessI l[k].1 l[k + 1].1 with
          | false => exact Ev.pos rfl (.const (by simp [hls]))
          | true =>
            refine Ev.neg rfl ?_
            simpa [hls, Bool.and_assoc] using tail
  refine Ev.get (Ev.of_eq ?_ (fun n => F37_eq n (ps, l)))
  refine Ev.need ⟨hw2.1, trivial⟩ ?_
  unfold goodEntry
  simp only
  rw [decide_lt_one, show (30 : Int) = ((30 : Nat) : Int) from rfl, decide_big, show decide ((ps.length : Int) = 0) = !decide (1 ≤ ps.length) by
    by_cases h : 1 ≤ ps.length
    · rw [decide_eq_true h, decide_eq_false (by omega)]; rfl
    · rw [decide_eq_false h, decide_eq_true (by omega)]; rfl]
  cases goodDirName ps with
  | false => exact .const rfl
  | true =>
    cases decide (1 ≤ ps.length) with
    | false => exact .const rfl
    | true =>
      cases decide (1 ≤ l.length) with
      | false => exact .const rfl
      | true =>
        cases decide (l.length ≤ 30) with
        | false => exact .const rfl
        | true =>
          refine Ev.neg rfl (Ev.neg rfl (Ev.neg rfl (Ev.neg rfl ?_)))
          exact gen l.length 0 (by omega)

theorem hcs8 : ∀ x ∈ cs8, CtrOk Try.prog x := conOf_cons ok36 (conOf_cons ok38 (conOf_cons ok37 (conOf_cons ok39 (conOf_cons ok40 conOf_nil))))

theorem own8 : ownKnob Try.prog.godebug = none := by kernel_rfl
theorem laidOut8 : laidOutB Try.prog = true := by kernel_rfl

theorem law8 (e : DEntry) (hw : wfD TyEntry e) : F8 0 e = some true := by
  rw [F8_eq, szC_some hw (by omega) (by omega)]
  simp only [Option.bind_some]
  cases hd : decide (lessZ 1048576 (Ty.size TyEntry e) < 0) with
  | true => rfl
  | false =>
    have hs : Ty.size TyEntry e ≤ 1099511627776 := by
      have hd := of_decide_eq_false hd
      unfold lessZ at hd
      split at hd <;> omega
    rw [toC_some hw hs]
    simp only [Option.bind_some, cond_false]
    rw [need_pos (show wfA [TyEntry] (e, ()) from ⟨hw, trivial⟩)]
    simp only [Option.bind_some]
    rw [eqC_some hw]
    simp

set_option maxRecDepth 100000 in
theorem goodEntry_lifted (os : Os) (started : os.Started) (H : Type) (enc : TypeId × Value → H) :
    ReturnsInHanded {} Try.checked os 8 .any (Ytokoopabnhcheaa.Rows.fnExactGoodEntrySpec.pre6 enc Try.prog Try.f8 Ytokoopabnhcheaa.Rows.fnExactGoodEntryRow.domain false) (Ytokoopabnhcheaa.Rows.fnExactGoodEntrySpec.post enc Try.prog Try.f8 false true false false) := by
  refine law_lifted (C := Try.checked) (f := 8) (fn := Try.f8) own8 started (by kernel_rfl) (by kernel_rfl)
    (ChangeSpec.witness6 (enc := enc) (C := Try.checked) false ⟨#[], #[.agg #[.slice none 0 0, .slice none 0 0]], []⟩ 8 (by kernel_rfl) (by kernel_rfl) (by kernel_rfl) (by kernel_rfl))
    laidOut8 (by kernel_rfl) rfl (tb := 4) (by kernel_rfl) (by kernel_rfl) ?_ (tys := [TyEntry]) (by kernel_rfl) (c := Try.f8.body.getD .skip) (by kernel_rfl) (by kernel_rfl) (A := A8) (I := In8) (conOf_ok hcs8) ?_
  · intro ds hd
    have hd : ds.length = 1 := hd
    match ds, hd with
    | [a], _ => rfl
  · rintro ⟨e, u⟩ hw
    exact ⟨0, law8 e hw.1⟩

end Go.Ab
namespace Go.Proofs.Ytokoopabnhcheaa
open Go.Ab
theorem fnExactGoodEntry_holds : Rows.FnExactGoodEntrySaid :=
  OpenClaim.holds_of_wide 8 Try.f8 rfl rfl rfl rfl rfl rfl rfl ⟨rfl, rfl, rfl, rfl, rfl⟩ rfl rfl rfl rfl rfl (by kernel_rfl) (by kernel_rfl : Try.prog.funcs[8]? = some Try.f8) (by kernel_rfl)
    (of_decide_eq_true (by kernel_rfl)) (by unfold Func.isWrapper; first | (rw [if_pos (by decide +kernel)]; kernel_rfl) | (rw [if_neg (by decide +kernel)]; exact ⟨rfl, rfl⟩))
    (fun os started H enc _ => goodEntry_lifted os started H enc)
end Go.Proofs.Ytokoopabnhcheaa
