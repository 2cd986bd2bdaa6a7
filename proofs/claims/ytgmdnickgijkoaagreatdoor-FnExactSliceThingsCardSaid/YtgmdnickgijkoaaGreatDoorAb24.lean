import Derived.Test.YtgmdnickgijkoaaGreatDoorAb23
import Derived.LaidMore
import Derived.OpenShut
import Derived.ChangeMaps3
import Derived.Stop.Joined
namespace Go.Ab
noncomputable section
open Go.ChangeShapes Go.WideShapes Go.ChangeAt Go.RowKit
def Qf3 (w : World) : Snap:=fun a=>see? w a
theorem QFO (w : World) : ∀ a u,Qf3 w a = some u → Sees w a u:=fun _ _ h=>see?_iff.1 h
theorem QFP (w : World) : (Qgq w).le (Qf3 w):=fun a u h=>see?_iff.2 (QG1 w a u h)
section
variable {H : Type} {enc : TypeId × Value → H} {P : Program}
theorem QG7 {W W' : World} (hb : Below W.heap.size W W') {n : String} {cs : Array Value} (h : W.var? P n = some cs) : W'.var? P n = some cs:=by
 unfold World.var? at h ⊢
 cases hg : P.globalNamed n with
 | none=>rw [hg] at h; cases h
 | some g =>
  rw [hg] at h
  simp only [Option.bind_some] at h ⊢
  cases ho : W.heap[g]? with
  | none=>rw [ho] at h; cases h
  | some o =>
   have hlt : g < W.heap.size:=(Array.getElem?_eq_some_iff.1 ho).1
   rw [hb.block g hlt,ho]
   rw [ho] at h
   exact h
theorem Qgs (hl : laidOutB P = true) {W W' : World} (hb : Below W.heap.size W W') (sp : Nat → Bool) : ∀ {ns : List String} {ds : List (DataW H)} {ps : List MemPlace},
  (∀ n ∈ ns,∀ g t,P.globalNamed n = some g → (P.globals[g]?).map (·.type) = some t → P.readableRec t = true ∧ t < P.types.size) →
  DataW.TrodVars enc P W (fun _=>true) ns ds ps → (∀ x ∈ ps,x.block < W.heap.size ∧ sp x.block = true) → DataW.TrodVars enc P W' sp ns ds ps
 | [],[],_,_,h,_=>h
 | n :: ns,d :: ds,ps,hr,⟨g,t,cs,fuel,p,q,h1,h2,h3,h4,hs,e⟩,hlt=>by
  subst e
  obtain ⟨r1,r2⟩:=hr n (by simp) g t h1 h2
  refine ⟨g,t,cs,fuel,p,q,h1,h2,QG7 hb h3,?_,Qgs hl hb sp (fun m hm=>hr m (by simp [hm])) hs (fun x hx=>hlt x (by simp [hx])),rfl⟩
  exact DataW.trod_stays (kids_book hl r1) (book_sized r1) (fun h=>by cases h) ⟨r2,book_self t⟩ h4 (fun x hx=>hb.same (hlt x (by simp [hx])).1) (fun x hx=>(hlt x (by simp [hx])).2)
 | [],_ :: _,_,_,h,_=>h.elim
 | _ :: _,[],_,_,h,_=>h.elim
theorem QuE {W : World} {sp : Nat → Bool} : ∀ {ns : List String} {ds : List (DataW H)} {ps : List MemPlace},DataW.TrodVars enc P W sp ns ds ps → ds.length = ns.length
 | [],[],_,_=>rfl
 | n :: ns,d :: ds,ps,⟨g,t,cs,fuel,p,q,h1,h2,h3,h4,hs,e⟩=>by rw [List.length_cons,List.length_cons,QuE hs]
 | [],_ :: _,_,h=>h.elim
 | _ :: _,[],_,h=>h.elim
theorem QsF {f : Func} {s : ChangeSpec} {apart fresh handsOn again : Bool} {W W' : World} {args : Array Value} {ds gs : List (DataW H)} {J2 : List MemPlace} {tb : TypeId}
  (hl : laidOutB P = true) (hread : (f.params.toList.all fun t=>P.readableRec t && decide (t < P.types.size)) = true)
  (hvr : ∀ n ∈ s.vars,∀ g t,P.globalNamed n = some g → (P.globals[g]?).map (·.type) = some t → P.readableRec t = true ∧ t < P.types.size) (hrt : f.resultTypes = #[tb]) (htb : P.underlying tb = some .bool)
  (hW : DataW.Whole enc P f.params.toList s.vars apart W args.toList ds gs J2) (hb : Below W.heap.size W W')
  (hs : ∀ ds' gs' : List (DataW H),ds'.length = f.params.size → gs'.length = s.vars.length → s.fn H (ds' ++ gs') = { results:=[.lit (.bool true)],args:=ds',vars:=gs' }) :
  s.post enc P f apart fresh handsOn again W args (.bool true) W':=by
 have hlt:=hW.lt
 obtain ⟨p,q,hA,hV,hpq,hfz,hnd⟩:=id hW
 subst hpq
 have hlen : ∀ {ts : List TypeId} {vs : List Value} {ds : List (DataW H)} {ps : List MemPlace},DataW.TrodAll enc P W 0 (fun _=>true) true ts vs ds ps → ds.length = ts.length:=by
  intro ts
  induction ts with
  | nil=>intro vs ds ps h; obtain ⟨_,rfl,_⟩:=trodAll_nil h; rfl
  | cons t ts ih=>intro vs ds ps h; obtain ⟨v,vs',d,ds',p,q,rfl,rfl,rfl,h1,h2⟩:=trodAll_cons h; simp [ih h2]
 have hfn:=hs ds gs (by rw [hlen hA,Array.length_toList]) (QuE hV)
 have hres : ∀ (b : Nat) (sp : Nat → Bool) (hd : Bool),DataW.TrodAll enc P W' b sp hd f.resultTypes.toList ((Value.bool true).resultList f.resultTypes.size) [.lit (.bool true)] []:=by
  intro b sp hd
  rw [hrt]
  exact trodAll_mk1 ⟨1,by simp [DataW.trod,htb,Value.cells]⟩
 have hcell : ∀ b off,MemPlace.cell b off ∈ p ++ q → W'.frozen? ⟨b,off,none⟩ = false:=by
  intro b off hp
  have hb' : b < W.heap.size:=hlt _ hp
  rw [hb.frozen (p:=⟨b,off,none⟩) hb']
  exact hfz b off hp
 have hltp : ∀ x ∈ p,x.block < W.heap.size:=fun x hx=>hlt x (List.mem_append_left _ hx)
 have hltq : ∀ x ∈ q,x.block < W.heap.size:=fun x hx=>hlt x (List.mem_append_right _ hx)
 refine ⟨ds,gs,p ++ q,[],p,q,hW,?_,?_,?_,hb.frame _,?_⟩
 ·rw [hfn]; exact hres _ _ _
 ·rw [hfn]; exact QiK hl hb _ hread hA (fun x hx=>⟨hltp x hx,by simpa using hltp x hx⟩)
 ·rw [hfn]; exact Qgs hl hb _ hvr hV (fun x hx=>⟨hltq x hx,by simpa using hltq x hx⟩)
 ·intro _
  refine ⟨?_,[.lit (.bool true)] ++ ds,gs,p ++ q,⟨[] ++ p,q,?_,?_,by simp,hcell,?_⟩,fun x hx _=>hx⟩
  ·intro j t r hj hr
   rw [hrt] at hj hr
   match j,hj,hr with
   | 0,hj,hr =>
    simp [Value.resultList] at hj hr
    subst hj; subst hr
    exact okWide_bool_mk htb _
  ·exact trodAll_append (QiK hl hb _ hread hA (fun x hx=>⟨hltp x hx,rfl⟩)) (hres _ _ _)
  ·exact Qgs hl hb _ hvr hV (fun x hx=>⟨hltq x hx,rfl⟩)
  ·intro ha
   exact hnd ha
theorem QyM : ∀ {ts us : List TypeId} {ds gs : List (DataW H)},ds.length = ts.length → (DataW.weightsEach P (ts ++ us) (ds ++ gs)).all (· ≤ reachBytes) = true → (DataW.weightsEach P ts ds).all (· ≤ reachBytes) = true
 | [],_,[],_,_,_=>rfl
 | t :: ts,us,d :: ds,gs,h,hw=>by
  simp only [List.cons_append,DataW.weightsEach,List.all_append,Bool.and_eq_true] at hw ⊢
  exact ⟨hw.1,QyM (by simpa using h) hw.2⟩
 | [],_,_ :: _,_,h,_=>by cases h
 | _ :: _,_,[],_,h,_=>by cases h
theorem Qy4 {a : Assume} {C : Checked} {os : Os} {f : FuncId} {fn : Func} {s : ChangeSpec} {conds : List PathCond} {apart fresh handsOn again : Bool} {laid : List (String × DataW Unit)} (own : ownKnob C.prog.godebug = none) (started : os.Started) (noInit : C.prog.inits.idxOf? f = none) (hfn : C.prog.funcs[f]? = some fn)
  (witness : ∃ (w : World) (tape : Tape) (i : Input),w.os = os ∧ (w.forCall tape i).Shaped C.prog ∧ i.vars = [] ∧ Input.okWide C.prog (w.forCall tape i) .any w.heap.size f i ∧
   ((s.pre enc C.prog fn conds apart (w.forCall tape i).memory i.args ∧ laidMetH C.prog laid (w.forCall tape i).memory) ∧ sizedMet enc C.prog fn (OpenSpec.ofChange s) apart (w.forCall tape i).memory i.args) ∧ a.holds C.prog (lone (Frame.enter C.prog f i.args .normal) [] (w.forCall tape i)))
  (hl : laidOutB C.prog = true) (hread : (fn.params.toList.all fun t=>C.prog.readableRec t && decide (t < C.prog.types.size)) = true)
  (hvr : ∀ n ∈ s.vars,∀ g t,C.prog.globalNamed n = some g → (C.prog.globals[g]?).map (·.type) = some t → C.prog.readableRec t = true ∧ t < C.prog.types.size) {tb : TypeId} (hrt : fn.resultTypes = #[tb]) (htb : C.prog.underlying tb = some .bool)
  (hs : ∀ ds' gs' : List (DataW H),ds'.length = fn.params.size → gs'.length = s.vars.length → s.fn H (ds' ++ gs') = { results:=[.lit (.bool true)],args:=ds',vars:=gs' })
  {tys : List Ty} (htys : QEI C.prog fn.params.toList = some tys) {c : Code} (hb : fn.body = some c) (hr1 : fn.results.size = 1) {A : List (List Nat × Ann)} {I : List (List Nat × Nat)}
  (hlaid : ∀ W,laidMetH C.prog laid W → ∃ gl,GlobOk gl (Qf3 W) ∧ ∃ con : Nat → List V → (V → Option Bool) → Option Bool,QyH C.prog gl con ∧ ∀ xs : Qny tys,wfA tys xs → ∃ n,WV C.prog gl A I con fn c (QfX C.prog fn (Qp [.bool])) n (Qt tys xs) = some true) :
  ReturnsInHanded a C os f .any (fun w args=>(s.pre enc C.prog fn conds apart w args ∧ laidMetH C.prog laid w) ∧ sizedMet enc C.prog fn (OpenSpec.ofChange s) apart w args) (s.post enc C.prog fn apart fresh handsOn again):=by
 refine returnsInHanded_of_change_and (X:=fun w _=>laidMetH C.prog laid w) (fun _ _ _ hh h=>h.of_heap hh) own started noInit hfn witness ?_
 intro W base args ds gs J2 hval hW _ hwt hlm _
 obtain ⟨p,q,hA,hV,hpq,hfz,hnd⟩:=id hW
 have hlenA : ∀ {ts : List TypeId} {vs : List Value} {ds : List (DataW H)} {ps : List MemPlace},DataW.TrodAll enc C.prog W 0 (fun _=>true) true ts vs ds ps → ds.length = ts.length:=by
  intro ts
  induction ts with
  | nil=>intro vs ds ps h; obtain ⟨_,rfl,_⟩:=trodAll_nil h; rfl
  | cons t ts ih=>intro vs ds ps h; obtain ⟨v,vs',d,ds',p,q,rfl,rfl,rfl,h1,h2⟩:=trodAll_cons h; simp [ih h2]
 have hwt':=QyM (hlenA hA) hwt
 obtain ⟨xs,hwf,hlen,hrel⟩:=QyJ hA (base:=base) (fun j t v hj hv=>hval j t v (by rw [← Array.getElem?_toList]; exact hj) (by rw [← Array.getElem?_toList]; exact hv)) htys hwt'
 obtain ⟨gl,hG,con,hcon,hrun⟩:=hlaid W hlm
 obtain ⟨n,hn⟩:=hrun xs hwf
 have hcall:=QC6 hfn hb hcon (tys:=[.bool]) (by rw [hr1]; rfl) hn hG (QFO W) (vals:=args.toList) hlen (fun i c u hc hu M hM=>by
  have h0:=hrel i c u hc hu ⟨Qgq W,fun _ _=>none,fun _=>none,0,.no⟩ rfl
  exact h0.mono (n:=0) (M':=M) ⟨by rw [hM]; exact QFP W,fun _ _ _ _ h=>(by cases h),Nat.zero_le _,fun _ _ h=>absurd h (Nat.not_lt_zero _),Nat.zero_le _,fun _ _ _ h=>absurd h (Nat.not_lt_zero _)⟩ (V4 (Qje 0 tys xs) hc)) (Qje 0 tys xs)
 rw [Array.toArray_toList] at hcall
 refine hcall.mono fun e W' ⟨u,F',he,_,_,hbel,hu⟩=>⟨u,he,?_⟩
 have h0:=hu ⟨F',fun _ _=>none,fun _=>none,0,.no⟩ (Snap.le.refl _)
 cases h0 with
 | d _ _ _ hd =>
  cases hd
  exact QsF hl hread hvr hrt htb hW hbel hs
def QDR {H : Type} (ws : List (List UInt8)) : DataW H:=.slice (ws.map fun w=>.lit (.string w)) []
def QDS (ws : List (List UInt8)) : List (List Int):=ws.map fun w=>w.map fun b=>(b.toNat : Int)
theorem QG8 {W : World} {t e : TypeId} (hu : P.underlying t = some (.slice e)) (he : GE P JB e = some .str) {sp : Nat → Bool} {held : Bool} {fuel : Nat} {cs : List Value} {ws : List (List UInt8)} {ps : List MemPlace}
  (htab : ∀ w ∈ ws,w.length ≤ 1000) (h : DataW.trod enc P W 0 sp held fuel t cs = some (QDR ws,ps)) : RelD (Qf3 W) (.list .str) (QDS ws) cs:=by
 cases fuel with
 | zero=>simp [DataW.trod] at h
 | succ fuel =>
 obtain ⟨_,_,hat,hce,_⟩:=Jq he
 have hse : P.underlying e = some .string:=by
  cases hat with
  | str h=>exact h
  | st fs ty h hne hf =>
   exfalso
   cases hl : fs.toList with
   | nil=>rw [hl] at hf; simp [Jn] at hf
   | cons f r =>
    cases r with
    | nil=>exact hne f hl
    | cons g r =>
     rw [hl] at hf
     simp only [Jn] at hf
     split at hf
     ·simp only [Option.bind_eq_some_iff,Option.map_eq_some_iff] at hf
      obtain ⟨_,_,_,_,h⟩:=hf
      cases h
     ·cases hf
 rcases DataW.trod_slice hu h with ⟨rfl,hd⟩ | ⟨a,len,cap,elems,rest,f',hf,rfl,hd,_,hlc,hcm,hel,hat,_⟩
 ·simp [QDR] at hd
 ·cases hf
  simp only [QDR,Prod.mk.injEq,DataW.slice.injEq] at hd
  have hlen : ws.length = len:=by
   have:=congrArg List.length hd.1.1
   simp at this
   omega
  have each : ∀ i,i < len → ∃ (x : List UInt8) (s : ByteArray),ws[i]? = some x ∧ s.data.toList = x ∧ s.size ≤ 1000 ∧ W.cell? (a.add (i * 1)) = some (.string s):=by
   intro i hi
   have h1:=hat i hi
   have hlt : i < elems.length:=by omega
   have hlw : i < ws.length:=by omega
   rw [List.getElem?_eq_getElem hlt] at h1
   obtain ⟨es,hes,htr⟩:=Option.bind_eq_some_iff.1 h1
   have hd1 : elems[i].1 = .lit (.string ws[i]):=by
    have:=congrArg (fun l=>l[i]?) hd.1.1
    simp only [List.getElem?_map,List.getElem?_eq_getElem hlt,List.getElem?_eq_getElem hlw,Option.map_some,Option.some.injEq] at this
    exact this.symm
   obtain ⟨hl,hc⟩:=cells?_at hes
   have htr' : DataW.trod enc P W 0 sp held fuel e es = some (elems[i].1,elems[i].2):=htr
   cases fuel with
   | zero=>simp [DataW.trod] at htr'
   | succ fuel =>
   obtain ⟨s,rfl,hd2⟩:=DataW.trod_string hse htr'
   rw [hd1] at hd2
   simp only [Prod.mk.injEq,DataW.lit.injEq,Lit.string.injEq] at hd2
   have hd2 : ws[i] = s.data.toList:=by first | exact hd2 | exact hd2.1 | exact hd2.1.1
   refine ⟨ws[i],s,List.getElem?_eq_getElem hlw,hd2.symm,?_,?_⟩
   ·have:=htab _ (List.getElem_mem hlw)
    rw [hd2] at this
    have e : s.data.toList.length = s.size:=by rw [Array.length_toList]; rfl
    omega
   ·have:=hc 0 (.string s) rfl
    rw [QIN,hce,Nat.add_zero] at this
    exact this
  have hl2 : (QDS ws).length = len:=by simp [QDS,hlen]
  refine ⟨some a,cap,by rw [hl2],by rw [hl2]; exact hlc,hcm,fun e=>(by cases e),fun b hb i x hx=>?_⟩
  cases hb
  have hi : i < len:=by rw [← hl2]; exact (List.getElem?_eq_some_iff.1 hx).1
  obtain ⟨w,s,h1,h2,h3,h4⟩:=each i hi
  rw [QDS,List.getElem?_map,h1] at hx
  simp only [Option.map_some,Option.some.injEq] at hx
  subst hx
  have hs : a.spot = none:=by
   obtain ⟨_,s0,_,_,_,h40⟩:=each 0 (by omega)
   obtain ⟨g,o,sp⟩:=a
   exact Quz h40
  refine ⟨hs,[.string s],⟨s,rfl,by rw [← h2]; rfl,by omega⟩,fun j u hu=>?_⟩
  have hj : j = 0:=by
   have:=(List.getElem?_eq_some_iff.1 hu).1
   simp at this; omega
  subst hj
  simp at hu
  subst hu
  obtain ⟨g,o,sp⟩:=a
  cases hs
  rw [Addr.add_lit] at h4
  refine see?_iff.2 (.inl ⟨rfl,?_⟩)
  exact h4
theorem QFQ (F : Snap) : GlobOk (Xt []) F:=fun g cs h=>by cases h
theorem QEL {W : World} {l : List (Nat × List V)} {g : Nat} {T : Ty} {x : T.den} {n : String} {cs : Array Value} (hg : P.globalNamed n = some g) (hv : W.var? P n = some cs) (hr : RelD (Qf3 W) T x cs.toList) (h : GlobOk (Xt l) (Qf3 W)) :
  GlobOk (Xt ((g,Qq T x) :: l)) (Qf3 W):=by
 intro g' cs' hc
 rw [Xt] at hc
 cases hb : Nat.beq g g' with
 | false=>rw [hb] at hc; exact h g' cs' hc
 | true =>
  rw [hb] at hc
  cases hc
  have hb:=Nat.eq_of_beq_eq_true hb
  subst hb
  refine ⟨fun n=>GT n T x,cs.toList,VA (M:=⟨Qf3 W,fun _ _=>none,fun _=>none,0,.no⟩) hr,fun j u hu=>see?_iff.2 (.of rfl ?_)⟩
  rw [World.var?_cell hg hv]
  simpa using hu
end
end
end Go.Ab
