import Derived.Test.YtkabjoifaffddaaGreatAb11
import Derived.Test.YtkabjoifaffddaaGreatAb10v
namespace Go.Ab
variable {R:Type}
section
variable {P:Program} {base:Base} {w0:Orig} {dp nn:Nat} {st:St} {θ:Nat→Nat→Value} {M:Me} {a:Act} {w:World}
def Qy0 (P:Program) (base:Base) (w0:Orig) (dp nn:Nat) (θ:Nat→Nat→Value) (K:Z9 R) (r:R) (a:Act) (w:World):Prop:=∃ st M,RelA P base w0 dp nn st θ M a w∧K st=some r
theorem YQ {o:Oper} (h:QfD nn o=true):∀ t,o.dst=some t→t<nn:=by
 intro t ht
 unfold QfD at h
 rw [ht] at h
 exact Nat.le_of_ble_eq_true h
theorem QmD (h:RelA P base w0 dp nn st θ M a w) {o:Oper} (hd:QfD nn o=true) {K:Z9 R} {r:R} {v:V} {u:Value} (hk:K (st.put dp o.dst v)=some r) (hv:RelV M v u) (hle:v.le dp=true) (Q:Exit→Act→World→Prop)
  (hrun:(execOp a.eval o).run P w=.ok (.value u) w):o.wp P a w (Qy0 P base w0 dp nn θ K r) Q:=by
 unfold Oper.wp
 rw [hrun,Oper.upon_value]
 exact ⟨_,_,h.put (YQ hd) hv hle,hk⟩
def Qz1 (P:Program) (dp:Nat) (a:Act) (o:Oper) (w:World) (M:Me) (st:St) (K:Z9 R) (r:R):Prop:=∃ v u,K (st.put dp o.dst v)=some r∧RelV M v u∧v.le dp=true∧∀ w',BelowN w.heap.size w w'→(execOp a.eval o).run P w'=.ok (.value u) w'
theorem Uc {o:Oper} {K:Z9 R} {r:R} {v:V} {u:Value} (hk:K (st.put dp o.dst v)=some r) (hv:RelV M v u) (hle:v.le dp=true) (hrun:∀ w,(execOp a.eval o).run P w=.ok (.value u) w):Qz1 P dp a o w M st K r:=⟨v,u,hk,hv,hle,fun w' _=>hrun w'⟩
theorem Jg {o:Oper} {K:Z9 R} {r:R} {s:Sem Value} (hg:Eh P M w dp (fun v=>K (st.put dp o.dst v)) r s)
  (hrun:execOp a.eval o=(do pure (.value (← s)))):Qz1 P dp a o w M st K r:=by
 obtain ⟨v,u,h1,h2,h3,h4⟩:=hg
 refine ⟨v,u,h1,h3,h4,fun w' hw'=>?_⟩
 rw [hrun,Sem.run_bind,h2 w' hw']
 rfl
theorem GQ (h:RelA P base w0 dp nn st θ M a w) {o:Oper} (hd:QfD nn o=true) {K:Z9 R} {r:R} {s:Sem Value} (hg:Turns P base w0 dp (thA θ dp a) w (fun v st=>K (st.put dp o.dst v)) r s) (Q:Exit→Act→World→Prop)
  (hrun:execOp a.eval o=(do pure (.value (← s)))):o.wp P a w (Qy0 P base w0 dp nn θ K r) Q:=by
 obtain ⟨v,st',u,w',M',h1,h2,h3,h4,h5⟩:=hg
 unfold Oper.wp
 have:(execOp a.eval o).run P w=.ok (.value u) w':=by rw [hrun,Sem.run_bind,h2];rfl
 rw [this,Oper.upon_value]
 exact ⟨_,_,(RelA.mk h3 h.size h.defers).put (YQ hd) h4 h5,h1⟩
theorem Qss {α:Type} {xs:Array α} {x:α} (h:xs.toList=[x]):xs=#[x]:=by
 have:=congrArg List.toArray h;simpa using this
theorem QhM {α:Type} {xs:Array α} {x y:α} (h:xs.toList=[x,y]):xs=#[x,y]:=by
 have:=congrArg List.toArray h;simpa using this
theorem Qxv {α:Type} {xs:Array α} (h:xs.toList=[]):xs=#[]:=by
 have:=congrArg List.toArray h;simpa using this
theorem QkZ (h:RelA P base w0 dp nn st θ M a w) (ps:Array (Nat × Operand)):∀ (j:Nat) (p:Nat × V) (q:Nat × Value),(ps.toList.map fun p=>(p.1,st.ev dp p.2))[j]? = some p→(ps.map fun (i,x)=>(i,a.eval x)).toList[j]? = some q →
  p.1=q.1∧RelV M p.2 q.2∧p.2.le dp=true:=by
 intro j p q hp hq
 rw [List.getElem?_map] at hp
 rw [Array.toList_map,List.getElem?_map] at hq
 cases hx:ps.toList[j]? with
 | none=>rw [hx] at hp;cases hp
 | some x =>
  rw [hx] at hp hq
  simp only [Option.map_some,Option.some.injEq] at hp hq
  subst hp;subst hq
  exact ⟨rfl,(h.ev x.2).1,(h.ev x.2).2⟩
theorem Qxw {x y:V} {vx vy:Value} {K:V→Option R} {r:R} {ts:Array TypeId} {ty:TypeId} (h:QyP x y K=some r) (hx:RelV M x vx) (hy:RelV M y vy):GivesFlat P M w K r (Builtin.min_ ts ty #[vx,vy]):=by
 unfold QyP at h
 split at h
 case h_2=>cases h
 rename_i k a k' b
 split at h
 case isFalse=>cases h
 rename_i hk
 subst hk
 obtain ⟨rfl,ha⟩:=hx.int_inv
 obtain ⟨rfl,hb⟩:=hy.int_inv
 have ha:inK k a=true:=ha
 have hb:inK k b=true:=hb
 by_cases hab:(b:Int)<a
 ·refine .int h ?_ ?_
  ·simp [Builtin.min_,Builtin.min2,hab]
  ·simp [hab,hb]
 ·refine .int h ?_ ?_
  ·simp [Builtin.min_,Builtin.min2,hab]
  ·simp [hab,ha]
theorem Qxx {x y:V} {vx vy:Value} {K:V→Option R} {r:R} {ts:Array TypeId} {ty:TypeId} (h:QyQ x y K=some r) (hx:RelV M x vx) (hy:RelV M y vy):GivesFlat P M w K r (Builtin.max_ ts ty #[vx,vy]):=by
 unfold QyQ at h
 split at h
 case h_2=>cases h
 rename_i k a k' b
 split at h
 case isFalse=>cases h
 rename_i hk
 subst hk
 obtain ⟨rfl,ha⟩:=hx.int_inv
 obtain ⟨rfl,hb⟩:=hy.int_inv
 have ha:inK k a=true:=ha
 have hb:inK k b=true:=hb
 by_cases hab:(a:Int)<b
 ·refine .int h ?_ ?_
  ·simp [Builtin.max_,Builtin.max2,hab]
  ·simp [hab,hb]
 ·refine .int h ?_ ?_
  ·simp [Builtin.max_,Builtin.max2,hab]
  ·simp [hab,ha]
theorem Qwt (C:Ctx R) (hP:C.P=P) (h:RelA P base w0 dp nn st θ M a w) {path:List Nat} {here:Nat} {o:Oper} (hl:Vh P o=true) {K:Z9 R} {r:R} (hs:Jw C dp path here o st K=some r) :
  Qz1 P dp a o w M st K r:=by
 subst hP
 cases hop:o.op<;>simp only [Jw,hop] at hs<;>(try (cases hs;done))<;>(try (simp [Vh,hop] at hl;done))
 case move x=>exact Uc hs (h.ev x).1 (h.ev x).2 (by simp [execOp,hop])
 case assign x=>exact Uc hs (h.evA _ x _).1 (h.evA _ x _).2 (by simp [execOp,hop])
 case pick c x y =>
  split at hs
  case h_2=>cases hs
  rename_i t hc0
  have hcv:=(h.ev c).1
  rw [hc0] at hcv
  have hcv:=hcv.bool_inv
  cases t with
  | true=>exact Uc hs (h.ev x).1 (h.ev x).2 (by simp [execOp,hop,hcv,asBool])
  | false=>exact Uc hs (h.ev y).1 (h.ev y).2 (by simp [execOp,hop,hcv,asBool])
 case binOp op t x y t' =>
  have hn:Qqs y=false:=by simpa [Vh,hop] using hl
  rw [hn] at hs
  simp only [cond_false] at hs
  exact Jg ((Qmt (X:=x) (Y:=y) (w:=w) hs (h.ev x).1 (h.ev y).1).l dp) (by simp [execOp,hop])
 case unOp op t x=>exact Jg ((Quj (P:=C.P) (w:=w) hs (h.ev x).1).l dp) (by simp [execOp,hop])
 case load t x =>
  have hn:Qpd x=none:=by simpa [Vh,hop] using hl
  rw [hn] at hs
  simp only at hs
  exact Jg (QcF hs h.rel (h.ev x).1 (h.ev x).2) (by simp [execOp,hop])
 case nilCheck x =>
  have hx:=h.ev x
  split at hs
  ·rename_i d s off he
   rw [he] at hx
   obtain ⟨b,n,e,_⟩:=hx.1.ptr_inv
   exact Uc hs hx.1 hx.2 (by simp [execOp,hop,e])
  ·rename_i cs he
   rw [he] at hx
   obtain ⟨b,o',us,e,_⟩:=hx.1.eptr_inv
   exact Uc hs hx.1 hx.2 (by simp [execOp,hop,e])
  ·rename_i d s sz i off he
   rw [he] at hx
   obtain ⟨b,n,e,_⟩:=hx.1.rptr_inv
   exact Uc hs hx.1 hx.2 (by simp [execOp,hop,e])
  ·cases hs
 case fieldAddr t x f=>exact Jg (Qpk hs (h.ev x).1 (h.ev x).2) (by simp [execOp,hop])
 case field t x f=>exact Jg (Qvl hs (h.ev x).1 (h.ev x).2) (by simp [execOp,hop])
 case indexAddr t x i=>exact Jg (Qpl hs h.rel (h.ev x).1 (h.ev x).2 (h.ev i).1) (by simp [execOp,hop])
 case lookup t x i ok=>exact Jg (QtR h.rel hs (h.ev x).1 (h.ev i).1) (by simp [execOp,hop])
 case index t x i=>exact Jg (Qvm hs (h.ev x).1 (h.ev x).2 (h.ev i).1) (by simp [execOp,hop])
 case slice t x lo hi mx =>
  cases mx with
  | some m =>
   simp only at hs
   refine Jg ((QtM (vlo:=lo.map a.eval) (vhi:=hi.map a.eval) (vm:=a.eval m) hs (h.ev x).1 ?_ ?_ ?_ ?_).l dp) (by simp [execOp,hop])
   ·intro y hy
    cases lo with
    | none=>cases hy
    | some l=>simp only [Option.map_some,Option.some.injEq] at hy;subst hy;exact ⟨_,rfl,(h.ev l).1⟩
   ·intro hy;cases lo with
    | none=>rfl
    | some l=>cases hy
   ·intro y hy
    cases hi with
    | none=>cases hy
    | some l=>simp only [Option.map_some,Option.some.injEq] at hy;subst hy;exact ⟨_,rfl,(h.ev l).1⟩
   ·intro y hy;simp only [Option.some.injEq] at hy;subst hy;exact (h.ev m).1
  | none =>
   simp only at hs
   refine Jg ((Qvx h.rel (vlo:=lo.map a.eval) (vhi:=hi.map a.eval) hs (h.ev x).1 ?_ ?_ ?_ ?_).l dp) (by simp [execOp,hop])
   ·intro y hy
    cases lo with
    | none=>cases hy
    | some l=>simp only [Option.map_some,Option.some.injEq] at hy;subst hy;exact ⟨_,rfl,(h.ev l).1⟩
   ·intro hy;cases lo with
    | none=>rfl
    | some l=>cases hy
   ·intro y hy
    cases hi with
    | none=>cases hy
    | some l=>simp only [Option.map_some,Option.some.injEq] at hy;subst hy;exact ⟨_,rfl,(h.ev l).1⟩
   ·intro hy;cases hi with
    | none=>rfl
    | some l=>cases hy
 case convert s t x =>
  refine Jg (Qwh hs ?_ h.rel (h.ev x).1) (by simp [execOp,hop])
  rintro ⟨h1,e,h2⟩
  simp [Vh,hop,h1,h2] at hl
 case extract x i =>
  split at hs
  case h_2=>cases hs
  rename_i vs he
  split at hs
  case h_2=>cases hs
  rename_i v hv
  have hx:=h.ev x
  rw [he] at hx
  obtain ⟨u,k1,k2,k3⟩:=QlQ (P:=C.P) hx.1 hx.2 hv
  exact Jg ⟨v,u,hs,fun w _=>k1 w,k2,k3⟩ (by simp [execOp,hop])
 case build t ps =>
  exact Jg (Qvp hs (by simp) (QkZ h ps)) (by simp [execOp,hop])
 case makeFunc f first caps =>
  cases f with
  | func g =>
   simp only at hs
   split at hs
   case h_2=>cases hs
   rename_i hfirst
   have h0:=Qxv hfirst
   subst h0
   refine Uc hs (u:=.func (.func g) #[] (caps.map a.eval)) (.fn g _ _ (by simp) ?_) ?_ (by simp [execOp,hop,Instr.makeFunc])
   ·intro i c u hc hu
    rw [List.getElem?_map] at hc
    rw [Array.getElem?_map] at hu
    cases hx:caps[i]? with
    | none=>rw [hx] at hu;cases hu
    | some x =>
     have hx':caps.toList[i]? = some x:=by simpa using hx
     rw [hx'] at hc
     rw [hx] at hu
     simp only [Option.map_some,Option.some.injEq] at hc hu
     subst hc;subst hu
     exact (h.ev x).1
   ·refine Ug fun c hc=>?_
    obtain ⟨x,_,rfl⟩:=List.mem_map.1 hc
    exact (h.ev x).2
  | _=>simp only at hs;cases hs
 case call c =>
  obtain ⟨callee,args,argTypes⟩:=c
  cases callee with
  | value f=>simp [Vh,hop] at hl
  | invoke r m=>simp only at hs;cases hs
  | builtin b =>
   cases b<;>simp only at hs<;>(try (cases hs;done))<;>(try (simp [Vh,hop] at hl;done))
   case len =>
    split at hs
    case h_2=>cases hs
    rename_i x t hargs htypes
    have e1:=Qss hargs
    have e2:=Qss htypes
    subst e1;subst e2
    exact Jg ((Qxq (ty:=o.type) hs h.rel (h.ev x).1).l dp) (by simp [execOp,hop,resolve,invoke,builtin])
   case min =>
    split at hs
    case h_2=>cases hs
    rename_i x y hargs
    have e1:=QhM hargs
    subst e1
    exact Jg ((Qxw (w:=w) (ts:=argTypes) (ty:=o.type) hs (h.ev x).1 (h.ev y).1).l dp) (by simp [execOp,hop,resolve,invoke,builtin])
   case max =>
    split at hs
    case h_2=>cases hs
    rename_i x y hargs
    have e1:=QhM hargs
    subst e1
    exact Jg ((Qxx (w:=w) (ts:=argTypes) (ty:=o.type) hs (h.ev x).1 (h.ev y).1).l dp) (by simp [execOp,hop,resolve,invoke,builtin])
theorem QmE (C:Ctx R) (hP:C.P=P) (h:RelA P base w0 dp nn st θ M a w) {path:List Nat} {here:Nat} {o:Oper} (hd:QfD nn o=true) (hc:Ef o=false) {K:Z9 R} {r:R} (hs:Jw C dp path here o st K=some r) (Q:Exit→Act→World→Prop) :
  o.wp P a w (Qy0 P base w0 dp nn θ K r) Q:=by
 cases hl:Vh P o with
 | true =>
  obtain ⟨v,u,h1,h2,h3,h4⟩:=Qwt C hP h hl hs
  exact QmD h hd h1 h2 h3 Q (h4 w (.refl _ _))
 | false =>
  subst hP
  cases hop:o.op<;>simp only [Jw,hop] at hs<;>(try (cases hs;done))<;>(try (simp [Vh,hop] at hl;done))
  case binOp op t x y t' =>
   have hn:Qqs y=true:=by simpa [Vh,hop] using hl
   rw [hn] at hs
   simp only [cond_true] at hs
   have hy:y=.const (.slice none 0 0):=by
    unfold Qqs at hn
    split at hn
    ·rfl
    ·cases hn
   subst hy
   obtain ⟨v,u,h1,h2,h3,h4⟩:=Jg (a:=a) ((Qxo (X:=x) (Y:=.const (.slice none 0 0)) (w:=w) hs (h.ev x).1).l dp) (by simp [execOp,hop,Act.eval])
   exact QmD h hd h1 h2 h3 Q (h4 w (.refl _ _))
  case load t x =>
   have hn:(Qpd x).isNone=false:=by simpa [Vh,hop] using hl
   split at hs
   case h_2 hx=>rw [hx] at hn;cases hn
   rename_i g hx
   split at hs
   case h_2=>cases hs
   rename_i cs hg
   rw [h.rel.gl] at hg
   obtain ⟨k1,us,k2,k3⟩:=(w0.ok.mono h.rel.F0) g cs hg
   have hxe:x=.global g:=by
    unfold Qpd at hx
    split at hx
    ·cases hx;rfl
    ·cases hx
   subst hxe
   have hr:RelL M cs us:=RelL.mono (M:=⟨M.F,fun _ _=>none,fun _=>none,0,.no⟩) (M':=M) (n:=0) ⟨.refl _,fun _ _ _ _ h=>(by cases h),Nat.zero_le _,fun _ _ h=>absurd h (Nat.not_lt_zero _),Nat.zero_le _,fun _ _ _ h=>absurd h (Nat.not_lt_zero _)⟩ k2 (k1 0)
   have hp:RelV M (.eptr cs) (a.eval (.global g)):=.eptr cs g 0 us hr.len hr.at_ (fun j u hu=>by rw [Nat.zero_add];exact k3 j u hu) hr.one
   obtain ⟨v,u,h1,h2,h3,h4⟩:=Jg (a:=a) (o:=o) (QcF (st:=st) (p:=.eptr cs) hs h.rel hp (k1 dp)) (by simp [execOp,hop])
   exact QmD h hd h1 h2 h3 Q (h4 w (.refl _ _))
  case store t x y =>
   obtain ⟨st',w',M',h1,h2,h3⟩:=Qvu h.rel hs (h.ev x).1 (h.ev x).2 (h.ev y).1
   unfold Oper.wp
   have:(execOp a.eval o).run C.P w=.ok .skip w':=by simp [execOp,hop,h2]
   rw [this,Oper.upon_skip]
   exact ⟨_,_,(RelA.mk h3 h.size h.defers).put (YQ hd) (.any _) rfl,h1⟩
  case mapUpdate t m x y =>
   obtain ⟨st',w',h1,h2,h3⟩:=QgC h.rel hs (h.ev m).1 (h.ev x).1 (h.ev y).1
   unfold Oper.wp
   have:(execOp a.eval o).run C.P w=.ok .skip w':=by simp [execOp,hop,h2]
   rw [this,Oper.upon_skip]
   exact ⟨_,_,(RelA.mk h3 h.size h.defers).put (YQ hd) (.any _) rfl,h1⟩
  case insert t m x y =>
   obtain ⟨st',w',h1,h2,h3⟩:=QgC h.rel hs (h.ev m).1 (h.ev x).1 (h.ev y).1
   unfold Oper.wp
   have:(execOp a.eval o).run C.P w=.ok .skip w':=by simp [execOp,hop,h2]
   rw [this,Oper.upon_skip]
   exact ⟨_,_,(RelA.mk h3 h.size h.defers).put (YQ hd) (.any _) rfl,h1⟩
  case makeMap t rs =>
   cases rs with
   | some rs=>simp only at hs;cases hs
   | none =>
    simp only at hs
    cases hdst:o.dst with
    | none =>
     rw [hdst] at hs
     unfold Qnz at hs
     split at hs<;>first | (cases hs;done) | (rename_i h2;cases h2)
    | some s =>
     refine GQ h hd (TurnsB.turns <| Qsk (t:=t) h.rel (s:=s) (K:=fun v st=>K (st.put dp o.dst v)) ?_) Q (by simp [execOp,hop])
     rw [hdst] at hs ⊢
     exact hs
  case alloc e =>
   split at hs
   case h_2=>cases hs
   rename_i s z hdst hz
   split at hs
   case h_2=>cases hs
   rename_i hb
   exact GQ h hd (TurnsB.turns <| Qwj h.rel hz hb (K:=fun v st=>K (st.put dp o.dst v)) (by rw [hdst];exact hs)) Q (by simp [execOp,hop])
  case box e x =>
   split at hs
   case h_2=>cases hs
   rename_i s hdst
   split at hs
   case h_2=>cases hs
   rename_i hb
   obtain ⟨hp,hs⟩:=Qn hs
   exact GQ h hd (TurnsB.turns <| QyU (e:=e) h.rel (h.ev x).1 (h.ev x).2 hp hb (K:=fun v st=>K (st.put dp o.dst v)) (by rw [hdst];exact hs)) Q (by simp [execOp,hop])
  case convert s t x =>
   by_cases hsb:C.P.underlying s=some .string∧∃ e,C.P.underlying t=some (.slice e)
   ·obtain ⟨h1,e,h2⟩:=hsb
    have hx:=h.ev x
    simp only [QrZ,h1,h2] at hs
    cases hv:st.ev dp x with
    | d ty s0 =>
     cases ty with
     | str =>
      rw [hv] at hs hx
      simp only at hs
      split at hs
      case h_2=>cases hs
      rename_i he
      obtain ⟨bs,e1,rfl,hsz⟩:=hx.1.str_inv
      obtain ⟨u,w',M',k1,k2,k3,_⟩:=Qvr h.rel h1 h2 he hsz
      refine GQ h hd ⟨_,_,u,w',M',hs,?_,k2,k3,rfl⟩ Q (s:=convert s t (a.eval x)) (by simp [execOp,hop])
      rw [e1];exact k1
     | _=>rw [hv] at hs;simp only at hs;cases hs
    | _=>rw [hv] at hs;simp only at hs;cases hs
   ·exfalso
    revert hl
    simp only [Vh,hop]
    split
    ·rename_i h1 h2;exact absurd ⟨h1,_,h2⟩ hsb
    ·simp
  case buildSlice t n ps =>
   split at hs
   ·exact GQ h hd (TurnsB.turns <| Qsm h.rel (K:=fun v st=>K (st.put dp o.dst v)) hs (by simp) (fun j p q hp hq=>let ⟨h1,h2,_⟩:=QkZ h ps j p q hp hq;⟨h1,h2⟩)) Q (by simp [execOp,hop])
   ·exact GQ h hd (TurnsB.turns <| Qq8 h.rel (K:=fun v st=>K (st.put dp o.dst v)) hs (by simp) (fun j p q hp hq=>let ⟨h1,h2,_⟩:=QkZ h ps j p q hp hq;⟨h1,h2⟩)) Q (by simp [execOp,hop])
   exact GQ h hd (TurnsB.turns <| QnH h.rel (K:=fun v st=>K (st.put dp o.dst v)) hs (by simp) (fun j p q hp hq=>let ⟨h1,h2,_⟩:=QkZ h ps j p q hp hq;⟨h1,h2⟩)) Q (by simp [execOp,hop])
  case makeSlice t l c =>
   split at hs
   ·exact GQ h hd (TurnsB.turns <| QtU (t:=t) h.rel (K:=fun v st=>K (st.put dp o.dst v)) hs (h.ev l).1 (h.ev c).1) Q (by simp [execOp,hop])
   cases hdst:o.dst with
   | none=>rw [hdst] at hs;simp only [QbJ] at hs;split at hs<;>first | (cases hs;done) | (rename_i h2;cases h2)
   | some s =>
    refine GQ h hd (TurnsB.turns <| Qpq (t:=t) h.rel (s:=s) (K:=fun v st=>K (st.put dp o.dst v)) ?_ (h.ev l).1 (h.ev c).1) Q (by simp [execOp,hop])
    rw [hdst] at hs ⊢
    exact hs
  case call c =>
   obtain ⟨callee,args,argTypes⟩:=c
   cases callee with
   | value f=>simp [Ef,hop] at hc
   | invoke r m=>simp only at hs;cases hs
   | builtin b =>
    cases b<;>simp only at hs<;>(try (cases hs;done))<;>(try (simp [Vh,hop] at hl;done))
    case clear =>
     split at hs
     case h_2=>cases hs
     rename_i x t hargs htypes
     have e1:args=#[x]:=Array.toList_inj.1 hargs
     have e2:argTypes=#[t]:=Array.toList_inj.1 htypes
     subst e1;subst e2
     obtain ⟨st',w',M',k1,k2,k3⟩:=Qvy (ty0:=o.type) h.rel hs (h.ev x).1
     exact GQ h hd ⟨.any,st',.tuple #[],w',M',k1,k2,k3,.any _,rfl⟩ Q (by simp [execOp,hop,resolve,invoke,builtin])
    case append =>
     split at hs
     case h_2=>cases hs
     rename_i s x t t' hargs htypes
     obtain ⟨ht,hs2⟩:=Qn hs
     clear hs
     have ht:=Nat.eq_of_beq_eq_true ht
     subst ht
     have e1:=QhM hargs
     have e2:=QhM htypes
     subst e1;subst e2
     split at hs2
     ·exact GQ h hd (Qq9 (t:=t) (ty0:=o.type) h.rel (K:=fun v st=>K (st.put dp o.dst v)) hs2 (h.ev s).1 (h.ev x).1) Q (by simp [execOp,hop,resolve,invoke,builtin])
     exact GQ h hd (QtP (t:=t) (ty:=o.type) h.rel (K:=fun v st=>K (st.put dp o.dst v)) hs2 (h.ev s).1 (h.ev x).1) Q (by simp [execOp,hop,resolve,invoke,builtin])
end
end Go.Ab
