import Derived.Test.YtedpigpcdllpaaaGreatAb17
import Derived.SizedLaws
namespace Go.Ab
open Go.ChangeShapes Go.WideShapes Go.ChangeAt Go.RowKit
@[reducible] def QcW : List Ty → Type
 | []=>Unit
 | t :: ts=>t.den × QcW ts
def QE : (ts : List Ty) → QcW ts → List V
 | [],_=>[]
 | t :: ts,x=>Yt t x.1 :: QE ts x.2
def wfA : (ts : List Ty) → QcW ts → Prop
 | [],_=>True
 | t :: ts,x=>wfD t x.1 ∧ wfA ts x.2
def QCI (P : Program) : List TypeId → Option (List Ty)
 | []=>some []
 | t :: ts=>match GY P J6 t,QCI P ts with
  | some a,some r=>bif a.pos then some (a :: r) else none
  | _,_=>none
theorem Qi6 (n : Nat) : ∀ (ts : List Ty) (xs : QcW ts),V.le.leL n (QE ts xs) = true
 | [],_=>rfl
 | t :: ts,x=>by
  simp only [QE,V.le.leL,Bool.and_eq_true]
  exact ⟨Eb n t x.1,Qi6 n ts x.2⟩
section
variable {H : Type} {enc : TypeId × Value → H} {P : Program} {w : World}
theorem QGh {n : Nat} {t : TypeId} {ty : Ty} (hp : ty.pos = true) (hty : GY P n t = some ty) {base : Nat} {v : Value} (hv : Value.okWide P w .any base t v) {F : Snap} {x : ty.den} (h : RelD F ty x v.cells.toList) : RelU F ty x v:=by
 obtain ⟨m,_,hat,_,_⟩:=Yi hty
 cases hat with
 | bool hu=>obtain ⟨b,rfl⟩:=okWide_bool hu hv; exact h
 | int k hu=>obtain ⟨b,rfl⟩:=okWide_int hu hv; exact h
 | str hu=>obtain ⟨b,rfl⟩:=okWide_string hu hv; exact h
 | list e ty' hu he=>obtain ⟨a,l,c,rfl⟩:=okWide_slice hu hv; exact h
 | map k e a b hu _ _=>cases hp
 | tree fs f a _ _ _ _ _=>cases hp
 | one fs f ty' hu hfs h0 he =>
  obtain ⟨cs,rfl,_⟩:=okWide_struct hu hv
  exact ⟨cs,rfl,h⟩
 | st fs ty' hu hne he =>
  obtain ⟨cs,rfl,_⟩:=okWide_struct hu hv
  have hs : ty.scalar = false:=by
   have:=QsJ (P:=P) (rec:=GY P m) (t:=t) (.st fs ty hu hne he)
   unfold Qet at this
   rw [hu] at this
   simpa using this
  unfold RelU
  rw [hs]
  exact ⟨cs,rfl,h⟩
theorem QwC {spare : Nat → Bool} {held : Bool} {base : Nat} : ∀ {ts : List TypeId} {vs : List Value} {ds : List (DataW H)} {ps : List MemPlace} {tys : List Ty},DataW.TrodAll enc P w 0 spare held ts vs ds ps →
  (∀ (j : Nat) t v,ts[j]? = some t → vs[j]? = some v → Value.okWide P w .any base t v) → QCI P ts = some tys → (DataW.weightsEach P ts ds).all (· ≤ reachBytes) = true →
  ∃ xs : QcW tys,wfA tys xs ∧ (QE tys xs).length = vs.length ∧ ∀ (i : Nat) c u,(QE tys xs)[i]? = some c → vs[i]? = some u → ∀ M : Me,M.F = QkA w → RelV M c u
 | [],vs,ds,ps,tys,h,hv,ht,hw=>by
  obtain ⟨rfl,_,_⟩:=trodAll_nil h
  simp only [QCI,Option.some.injEq] at ht
  subst ht
  exact ⟨(),trivial,rfl,fun i c u hc=>by simp [QE] at hc⟩
 | t :: ts,vs,ds,ps,tys,h,hv,ht,hw=>by
  obtain ⟨v,vs',d,ds',p,q,rfl,rfl,_,⟨fuel,h1⟩,h2⟩:=trodAll_cons h
  simp only [QCI] at ht
  split at ht
  case h_2=>cases ht
  rename_i a r ha hr
  obtain ⟨hp,ht⟩:=Qs ht
  simp only [Option.some.injEq] at ht
  subst ht
  obtain ⟨w1,w2⟩:=all_append hw
  obtain ⟨x,hx,hwf⟩:=Qs2 fuel h1 ha hp w1
  obtain ⟨xs,k1,k2,k3⟩:=QwC h2 (fun j t v hj hv'=>hv (j + 1) t v hj hv') hr w2
  have hU:=QGh hp ha (hv 0 t v rfl rfl) hx
  refine ⟨(x,xs),⟨hwf,k1⟩,by simp [QE,k2],fun i c u hc hu M hM=>?_⟩
  cases i with
  | zero =>
   simp only [QE,List.getElem?_cons_zero,Option.some.injEq] at hc hu
   subst hc; subst hu
   exact HX (by rw [hM]; exact hU)
  | succ i=>exact k3 i c u (by simpa [QE] using hc) (by simpa using hu) M hM
theorem Qij (hl : laidOutB P = true) {W W' : World} (hb : Below W.heap.size W W') (sp : Nat → Bool) : ∀ {ts : List TypeId} {vs : List Value} {ds : List (DataW H)} {ps : List MemPlace},(ts.all fun t=>P.readableRec t && decide (t < P.types.size)) = true →
  DataW.TrodAll enc P W 0 (fun _=>true) true ts vs ds ps → (∀ x ∈ ps,x.block < W.heap.size ∧ sp x.block = true) → DataW.TrodAll enc P W' 0 sp true ts vs ds ps
 | [],vs,ds,ps,_,h,_=>by
  obtain ⟨rfl,rfl,rfl⟩:=trodAll_nil h
  rfl
 | t :: ts,vs,ds,ps,hr,h,hlt=>by
  obtain ⟨v,vs',d,ds',p,q,rfl,rfl,rfl,h1,h2⟩:=trodAll_cons h
  rw [List.all_cons,Bool.and_eq_true,Bool.and_eq_true] at hr
  refine ⟨p,q,WideElems.Trod_stays hl hr.1.1 (of_decide_eq_true hr.1.2) h1 (fun x hx=>hb.same (hlt x (List.mem_append_left _ hx)).1) (fun x hx=>(hlt x (List.mem_append_left _ hx)).2),Qij hl hb sp hr.2 h2 (fun x hx=>hlt x (List.mem_append_right _ hx)),rfl⟩
theorem QAe {f : Func} {s : ChangeSpec} {apart fresh handsOn again : Bool} {W W' : World} {args : Array Value} {ds gs : List (DataW H)} {Z7 : List MemPlace} {tb : TypeId}
  (hl : laidOutB P = true) (hread : (f.params.toList.all fun t=>P.readableRec t && decide (t < P.types.size)) = true) (hvars : s.vars = []) (hrt : f.resultTypes = #[tb]) (htb : P.underlying tb = some .bool)
  (hW : DataW.Whole enc P f.params.toList s.vars apart W args.toList ds gs Z7) (hb : Below W.heap.size W W')
  (hs : ∀ ds' : List (DataW H),ds'.length = f.params.size → s.fn H ds' = { results:=[.lit (.bool true)],args:=ds' }) :
  s.post enc P f apart fresh handsOn again W args (.bool true) W':=by
 have hlt:=hW.lt
 obtain ⟨p,q,hA,hV,hpq,hfz,hnd⟩:=id hW
 rw [hvars] at hV
 obtain ⟨hg,hq⟩:=trodVars_none hV
 subst hg; subst hq
 rw [List.append_nil] at hpq
 subst hpq
 have hlen : ∀ {ts : List TypeId} {vs : List Value} {ds : List (DataW H)} {ps : List MemPlace},DataW.TrodAll enc P W 0 (fun _=>true) true ts vs ds ps → ds.length = ts.length:=by
  intro ts
  induction ts with
  | nil=>intro vs ds ps h; obtain ⟨_,rfl,_⟩:=trodAll_nil h; rfl
  | cons t ts ih=>intro vs ds ps h; obtain ⟨v,vs',d,ds',p,q,rfl,rfl,rfl,h1,h2⟩:=trodAll_cons h; simp [ih h2]
 have hfn:=hs ds (by rw [hlen hA,Array.length_toList])
 have hres : ∀ (b : Nat) (sp : Nat → Bool) (hd : Bool),DataW.TrodAll enc P W' b sp hd f.resultTypes.toList ((Value.bool true).resultList f.resultTypes.size) [.lit (.bool true)] []:=by
  intro b sp hd
  rw [hrt]
  exact trodAll_mk1 ⟨1,by simp [DataW.trod,htb,Value.cells]⟩
 have hcell : ∀ b off,MemPlace.cell b off ∈ Z7 → W'.frozen? ⟨b,off,none⟩ = false:=by
  intro b off hp
  have hb' : b < W.heap.size:=hlt _ hp
  rw [hb.frozen (p:=⟨b,off,none⟩) hb']
  exact hfz b off hp
 refine ⟨ds,[],Z7,[],Z7,[],hW,?_,?_,?_,hb.frame _,?_⟩
 ·rw [List.append_nil,hfn]; exact hres _ _ _
 ·rw [List.append_nil,hfn]; exact Qij hl hb _ hread hA (fun x hx=>⟨hlt x hx,by simpa using hlt x hx⟩)
 ·rw [List.append_nil,hfn,hvars]; rfl
 ·intro _
  refine ⟨?_,[.lit (.bool true)] ++ ds,[],Z7,⟨[] ++ Z7,[],?_,?_,by simp,hcell,?_⟩,fun x hx _=>hx⟩
  ·intro j t r hj hr
   rw [hrt] at hj hr
   match j,hj,hr with
   | 0,hj,hr =>
    simp [Value.resultList] at hj hr
    subst hj; subst hr
    exact okWide_bool_mk htb _
  ·exact trodAll_append (Qij hl hb _ hread hA (fun x hx=>⟨hlt x hx,rfl⟩)) (hres _ _ _)
  ·rw [hvars]; rfl
  ·intro ha
   exact hnd ha
theorem QDy {a : Assume} {C : Checked} {os : Os} {f : FuncId} {fn : Func} {s : ChangeSpec} {conds : List PathCond} {apart fresh handsOn again : Bool} (own : ownKnob C.prog.godebug = none) (started : os.Started) (noInit : C.prog.inits.idxOf? f = none) (hfn : C.prog.funcs[f]? = some fn)
  (witness : ∃ (w : World) (tape : Tape) (i : Input),w.os = os ∧ (w.forCall tape i).Shaped C.prog ∧ i.vars = [] ∧ Input.okWide C.prog (w.forCall tape i) .any w.heap.size f i ∧
   s.pre6 enc C.prog fn conds apart (w.forCall tape i).memory i.args ∧ a.holds C.prog (lone (Frame.enter C.prog f i.args .normal) [] (w.forCall tape i)))
  (hl : laidOutB C.prog = true) (hread : (fn.params.toList.all fun t=>C.prog.readableRec t && decide (t < C.prog.types.size)) = true) (hvars : s.vars = []) {tb : TypeId} (hrt : fn.resultTypes = #[tb]) (htb : C.prog.underlying tb = some .bool)
  (hs : ∀ ds' : List (DataW H),ds'.length = fn.params.size → s.fn H ds' = { results:=[.lit (.bool true)],args:=ds' })
  {tys : List Ty} (htys : QCI C.prog fn.params.toList = some tys) {c : Code} (hb : fn.body = some c) (hr1 : fn.results.size = 1) {A : List (List Nat × Ann)} {I : List (List Nat × Nat)} {con : Nat → List V → (V → Option Bool) → Option Bool} (hcon : Qqi C.prog noG con)
  (hrun : ∀ xs : QcW tys,wfA tys xs → ∃ n,run C.prog A I con fn c (Qy [.bool]) n (QE tys xs) = some true) :
  ReturnsInHanded a C os f .any (s.pre6 enc C.prog fn conds apart) (s.post enc C.prog fn apart fresh handsOn again):=by
 refine returnsInHanded_of_change_sized own started noInit hfn witness ?_
 intro W base args ds gs Z7 hval hW _ hwt _
 obtain ⟨p,q,hA,hV,hpq,hfz,hnd⟩:=id hW
 rw [hvars] at hV
 obtain ⟨hg,hq⟩:=trodVars_none hV
 subst hg; subst hq
 have hwt' : (DataW.weightsEach C.prog fn.params.toList ds).all (· ≤ reachBytes) = true:=by
  have e : s.plain.varTypes C.prog = []:=by
   have : s.plain.vars = []:=hvars
   simp [DataSpec.varTypes,this]
  rw [e,List.append_nil,List.append_nil] at hwt
  exact hwt
 obtain ⟨xs,hwf,hlen,hrel⟩:=QwC hA (base:=base) (fun j t v hj hv=>hval j t v (by rw [← Array.getElem?_toList]; exact hj) (by rw [← Array.getElem?_toList]; exact hv)) htys hwt'
 obtain ⟨n,hn⟩:=hrun xs hwf
 have hcall:=QAZ hfn hb hcon (tys:=[.bool]) (by rw [hr1]; rfl) hn (GlobOk.none _) (QEH W) (vals:=args.toList) hlen hrel (Qi6 0 tys xs)
 rw [Array.toArray_toList] at hcall
 refine hcall.mono fun e W' ⟨u,F',he,_,_,hbel,hu⟩=>⟨u,he,?_⟩
 have h0:=hu ⟨F',fun _ _=>none,fun _=>none,0,.no⟩ (Snap.le.refl _)
 cases h0 with
 | d _ _ _ hd =>
  cases hd
  exact QAe hl hread hvars hrt htb hW hbel.toB hs
end
end Go.Ab
