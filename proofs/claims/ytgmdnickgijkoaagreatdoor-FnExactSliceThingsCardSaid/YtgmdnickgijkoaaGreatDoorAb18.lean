import Derived.Test.YtgmdnickgijkoaaGreatDoorAb17
import Derived.SizedLaws
namespace Go.Ab
open Go.ChangeShapes Go.WideShapes Go.ChangeAt Go.RowKit
@[reducible] def Qny : List Ty → Type
 | []=>Unit
 | t :: ts=>t.den × Qny ts
def Qt : (ts : List Ty) → Qny ts → List V
 | [],_=>[]
 | t :: ts,x=>X2 t x.1 :: Qt ts x.2
def wfA : (ts : List Ty) → Qny ts → Prop
 | [],_=>True
 | t :: ts,x=>wfD t x.1 ∧ wfA ts x.2
def QEI (P : Program) : List TypeId → Option (List Ty)
 | []=>some []
 | t :: ts=>match GE P JB t,QEI P ts with
  | some a,some r=>bif a.pos then some (a :: r) else none
  | _,_=>none
theorem Qje (n : Nat) : ∀ (ts : List Ty) (xs : Qny ts),V.le.leL n (Qt ts xs) = true
 | [],_=>rfl
 | t :: ts,x=>by
  simp only [Qt,V.le.leL,Bool.and_eq_true]
  exact ⟨QaJ n t x.1,Qje n ts x.2⟩
section
variable {H : Type} {enc : TypeId × Value → H} {P : Program} {w : World}
theorem QIA {n : Nat} {t : TypeId} {ty : Ty} (hp : ty.pos = true) (hty : GE P n t = some ty) {base : Nat} {v : Value} (hv : Value.okWide P w .any base t v) {F : Snap} {x : ty.den} (h : RelD F ty x v.cells.toList) : RelU F ty x v:=by
 obtain ⟨m,_,hat,_,_⟩:=Jq hty
 cases hat with
 | bool hu=>obtain ⟨b,rfl⟩:=okWide_bool hu hv; exact h
 | int k hu=>obtain ⟨b,rfl⟩:=okWide_int hu hv; exact h
 | str hu=>obtain ⟨b,rfl⟩:=okWide_string hu hv; exact h
 | list e ty' hu he=>obtain ⟨a,l,c,rfl⟩:=okWide_slice hu hv; exact h
 | map k e a b hu _ _=>cases hp
 | tree fs f a _ _ _ _ _=>cases hp
 | one fs f ty' hu hfs h0 he =>
  obtain ⟨cs,rfl,_⟩:=okWide_struct hu hv
  exact ⟨cs,rfl,h⟩
 | st fs ty' hu hne he =>
  obtain ⟨cs,rfl,_⟩:=okWide_struct hu hv
  have hs : ty.scalar = false:=by
   have:=Qoo (P:=P) (rec:=GE P m) (t:=t) (.st fs ty hu hne he)
   unfold Qew at this
   rw [hu] at this
   simpa using this
  unfold RelU
  rw [hs]
  exact ⟨cs,rfl,h⟩
theorem QyJ {spare : Nat → Bool} {held : Bool} {base : Nat} : ∀ {ts : List TypeId} {vs : List Value} {ds : List (DataW H)} {ps : List MemPlace} {tys : List Ty},DataW.TrodAll enc P w 0 spare held ts vs ds ps →
  (∀ (j : Nat) t v,ts[j]? = some t → vs[j]? = some v → Value.okWide P w .any base t v) → QEI P ts = some tys → (DataW.weightsEach P ts ds).all (· ≤ reachBytes) = true →
  ∃ xs : Qny tys,wfA tys xs ∧ (Qt tys xs).length = vs.length ∧ ∀ (i : Nat) c u,(Qt tys xs)[i]? = some c → vs[i]? = some u → ∀ M : Me,M.F = Qgq w → RelV M c u
 | [],vs,ds,ps,tys,h,hv,ht,hw=>by
  obtain ⟨rfl,_,_⟩:=trodAll_nil h
  simp only [QEI,Option.some.injEq] at ht
  subst ht
  exact ⟨(),trivial,rfl,fun i c u hc=>by simp [Qt] at hc⟩
 | t :: ts,vs,ds,ps,tys,h,hv,ht,hw=>by
  obtain ⟨v,vs',d,ds',p,q,rfl,rfl,_,⟨fuel,h1⟩,h2⟩:=trodAll_cons h
  simp only [QEI] at ht
  split at ht
  case h_2=>cases ht
  rename_i a r ha hr
  obtain ⟨hp,ht⟩:=Qm ht
  simp only [Option.some.injEq] at ht
  subst ht
  obtain ⟨w1,w2⟩:=all_append hw
  obtain ⟨x,hx,hwf⟩:=QuA fuel h1 ha hp w1
  obtain ⟨xs,k1,k2,k3⟩:=QyJ h2 (fun j t v hj hv'=>hv (j + 1) t v hj hv') hr w2
  have hU:=QIA hp ha (hv 0 t v rfl rfl) hx
  refine ⟨(x,xs),⟨hwf,k1⟩,by simp [Qt,k2],fun i c u hc hu M hM=>?_⟩
  cases i with
  | zero =>
   simp only [Qt,List.getElem?_cons_zero,Option.some.injEq] at hc hu
   subst hc; subst hu
   exact E3 (by rw [hM]; exact hU)
  | succ i=>exact k3 i c u (by simpa [Qt] using hc) (by simpa using hu) M hM
theorem QiK (hl : laidOutB P = true) {W W' : World} (hb : Below W.heap.size W W') (sp : Nat → Bool) : ∀ {ts : List TypeId} {vs : List Value} {ds : List (DataW H)} {ps : List MemPlace},(ts.all fun t=>P.readableRec t && decide (t < P.types.size)) = true →
  DataW.TrodAll enc P W 0 (fun _=>true) true ts vs ds ps → (∀ x ∈ ps,x.block < W.heap.size ∧ sp x.block = true) → DataW.TrodAll enc P W' 0 sp true ts vs ds ps
 | [],vs,ds,ps,_,h,_=>by
  obtain ⟨rfl,rfl,rfl⟩:=trodAll_nil h
  rfl
 | t :: ts,vs,ds,ps,hr,h,hlt=>by
  obtain ⟨v,vs',d,ds',p,q,rfl,rfl,rfl,h1,h2⟩:=trodAll_cons h
  rw [List.all_cons,Bool.and_eq_true,Bool.and_eq_true] at hr
  refine ⟨p,q,WideElems.Trod_stays hl hr.1.1 (of_decide_eq_true hr.1.2) h1 (fun x hx=>hb.same (hlt x (List.mem_append_left _ hx)).1) (fun x hx=>(hlt x (List.mem_append_left _ hx)).2),QiK hl hb sp hr.2 h2 (fun x hx=>hlt x (List.mem_append_right _ hx)),rfl⟩
end
end Go.Ab
