import Derived.Test.YtkabjoifaffddaaGreatAb10k
import Derived.MapKept
namespace Go.Ab
open Go.MapKept
variable {R:Type}
theorem castE?_eq {k v k' v':Ty} {es:List (k.den × v.den)} {es':List (k'.den × v'.den)} (h:castE? k v k' v' es=some es'):∃ (e:k=k') (e':v=v'),es'=e ▸ e' ▸ es:=by
 unfold castE? at h
 cases h1:Ty.eq? k k' with
 | none=>rw [h1] at h;cases h
 | some p =>
  cases h2:Ty.eq? v v' with
  | none=>rw [h1,h2] at h;cases h
  | some q =>
   obtain ⟨e⟩:=p
   obtain ⟨e'⟩:=q
   rw [h1,h2] at h
   simp only [Option.some.injEq] at h
   exact ⟨e,e',h.symm⟩
theorem QrO {F:Snap} {t:Ty} {x:t.den} {v:Value} (h:RelD F t x v.cells.toList) (hs:Qmq t v):RelU F t x v:=by
 unfold RelU
 cases ht:t.scalar with
 | true =>
  have h1:=hs.1 ht
  rw [Qpn h1] at h
  exact h
 | false =>
  obtain ⟨arr,rfl⟩:=hs.2 ht
  exact ⟨arr,rfl,h⟩
theorem QyV {F:Snap} {t:Ty} {x:t.den} {v:Value} (h:RelU F t x v):Qmq t v:=by
 unfold RelU at h
 constructor
 ·intro ht
  rw [ht] at h
  exact RelD.one h v (by simp)
 ·intro ht
  rw [ht] at h
  obtain ⟨arr,e,_⟩:=h
  exact ⟨arr,e⟩
theorem QzW {P:Program} {n:Nat} {kt:TypeId} {k:Ty} (hk:QrX P kt=true) (hns:∀ fs,P.underlying kt≠some (.struct fs)) (hty:Xz P n kt=some k):∃ d,P.underlying kt=some d ∧
  ∀ (F:Snap) (x:k.den) (u:Value),RelU F k x u→IsKey d u∧∀ (y:k.den) (v:Value),RelU F k y v→(u=v↔x=y):=by
 obtain ⟨_,_,hat,_⟩:=JP hty
 cases hat with
 | bool hu =>
  refine ⟨_,hu,fun F x u h=>?_⟩
  have h:[u]=[.bool x]:=h
  simp only [List.cons.injEq,and_true] at h
  subst h
  refine ⟨trivial,fun y v h'=>?_⟩
  have h':[v]=[.bool y]:=h'
  simp only [List.cons.injEq,and_true] at h'
  subst h'
  simp
 | int ki hu =>
  refine ⟨_,hu,fun F x u h=>?_⟩
  have h:[u]=[.int ki x]∧_:=h
  obtain ⟨h,_⟩:=h
  simp only [List.cons.injEq,and_true] at h
  subst h
  refine ⟨rfl,fun y v h'=>?_⟩
  have h':[v]=[.int ki y]∧_:=h'
  obtain ⟨h',_⟩:=h'
  simp only [List.cons.injEq,and_true] at h'
  subst h'
  simp
 | str hu =>
  refine ⟨_,hu,fun F x u h=>?_⟩
  obtain ⟨s,h,hs,_⟩:∃ s:ByteArray,[u]=[.string s]∧ZE s=x∧s.size≤140737488355328:=h
  simp only [List.cons.injEq,and_true] at h
  subst h
  refine ⟨trivial,fun y v h'=>?_⟩
  obtain ⟨s',h',hs',_⟩:∃ s:ByteArray,[v]=[.string s]∧ZE s=y∧s.size≤140737488355328:=h'
  simp only [List.cons.injEq,and_true] at h'
  subst h'
  rw [← hs,← hs']
  simp only [Value.string.injEq]
  exact ⟨fun e=>by rw [e],Qsb⟩
 | list e ty hu _=>simp [QrX,hu] at hk
 | map a b _ _ hu _ _=>simp [QrX,hu] at hk
 | tree fs _ _ hu _ _ _ _=>exact absurd hu (hns fs)
 | one fs f ty hu _ _ _=>exact absurd hu (hns fs)
 | st fs ty hu _ _=>exact absurd hu (hns fs)
theorem Qvt {d:TypeDesc} {u:Value} (h:IsKey d u):Instr.sameBits 10000 u u=true:=by
 cases d<;>cases u<;>simp_all [IsKey,Instr.sameBits,bytes_beq]
theorem Qwk {F:Snap} {k v:Ty} {d:TypeDesc} (hkk:∀ (F:Snap) (x:k.den) (u:Value),RelU F k x u→IsKey d u∧∀ (y:k.den) (v:Value),RelU F k y v→(u=v↔x=y)) {x:k.den} {u:Value} (hx:RelU F k x u) :
  ∀ (l:List MapEntry) (es:List (k.den × v.den)) (i:Nat),l.length=es.length→(∀ (j:Nat) (e:k.den × v.den) (m:MapEntry),es[j]? = some e→l[j]? = some m→RelU F k e.1 m.key) →
   (∃ j m e,Instr.findNow d u l i=some (some (i+j,m.val))∧l[j]? = some m∧es[j]? = some e∧m.key=u∧(∀ z,JW k es x z=e.2)∧∀ y,H9 k es x y=es.set j (x,y)) ∨
   (Instr.findNow d u l i=some none∧(∀ z,JW k es x z=z)∧∀ y,H9 k es x y=es++[(x,y)])
 | [],es,i,hl,_=>by
  have:es=[]:=List.eq_nil_of_length_eq_zero hl.symm
  subst this
  exact .inr ⟨rfl,fun _=>rfl,fun _=>rfl⟩
 | m::l,[],i,hl,_=>by simp at hl
 | m::l,e::es,i,hl,h=>by
  have h0:=h 0 e m rfl rfl
  obtain ⟨q1,q2⟩:=hkk F x u hx
  obtain ⟨q3,_⟩:=hkk F e.1 m.key h0
  obtain ⟨r,hr,hiff⟩:=sameNow_of_keys q1 q3
  have hxe:=q2 e.1 m.key h0
  by_cases hxy:x=e.1
  ·have hum:u=m.key:=hxe.2 hxy
   have:r=true:=hiff.2 hum
   subst this
   have hd:@decide (x=e.1) (k.decEq x e.1)=true:=by simp [hxy]
   refine .inl ⟨0,m,e,by simp [Instr.findNow,hr],rfl,rfl,hum.symm,fun z=>?_,fun y=>?_⟩
   ·simp only [JW,hd,cond_true]
   ·simp only [H9,hd,cond_true,List.set_cons_zero]
  ·have hr0:r=false:=by
    cases r with
    | false=>rfl
    | true=>exact absurd (hxe.1 (hiff.1 rfl)) hxy
   subst hr0
   have hd:@decide (x=e.1) (k.decEq x e.1)=false:=by simp [hxy]
   rcases Qwk hkk hx l es (i+1) (by simpa using hl) (fun j e' m' he hm=>h (j+1) e' m' (by simpa using he) (by simpa using hm)) with ⟨j,m',e',k1,k2,k3,k4,k5,k6⟩ | ⟨k1,k2,k3⟩
   ·refine .inl ⟨j+1,m',e',by simp [Instr.findNow,hr,k1];omega,by simpa using k2,by simpa using k3,k4,fun z=>?_,fun y=>?_⟩
    ·simp only [JW,hd,cond_false];exact k5 z
    ·simp only [H9,hd,cond_false,List.set_cons_succ];rw [k6 y]
   ·refine .inr ⟨by simp [Instr.findNow,hr,k1],fun z=>?_,fun y=>?_⟩
    ·simp only [JW,hd,cond_false];exact k2 z
    ·simp only [H9,hd,cond_false,List.cons_append];rw [k3 y]
structure KeyFacts (P:Program) (kt:TypeId) (k:Ty):Prop where
 check:∀ (F:Snap) (x:k.den) (u:Value),RelU F k x u→∀ w em,(Instr.checkKey em 10000 kt u).run P w=.ok () w
 stays:∀ (F:Snap) (x:k.den) (u:Value),RelU F k x u→Instr.sameBits 10000 u u=true
 find:∀ (F:Snap) (x:k.den) (u:Value),RelU F k x u→∀ {v:Ty} (l:List MapEntry) (es:List (k.den × v.den)),l.length=es.length→(∀ (j:Nat) (e:k.den × v.den) (m:MapEntry),es[j]? = some e→l[j]? = some m→RelU F k e.1 m.key) →
   (∃ j m e,(∀ w,(Instr.findKey kt u l).run P w=.ok (some (j,m.val)) w)∧l[j]? = some m∧es[j]? = some e∧m.key=u∧(∀ z,JW k es x z=e.2)∧∀ y,H9 k es x y=es.set j (x,y)) ∨
   ((∀ w,(Instr.findKey kt u l).run P w=.ok none w)∧(∀ z,JW k es x z=z)∧∀ y,H9 k es x y=es++[(x,y)])
theorem Qyq {P:Program} {F:Snap} {kt:TypeId} {k v:Ty} (hinj:∀ (x y:k.den) (u w:Value),RelU F k x u→RelU F k y w→(u=w↔x=y)) (heq:∀ (x y:k.den) (u v:Value),RelU F k x u→RelU F k y v→∀ w,∃ r,(Op.equal kt u v).run P w=.ok r w∧(r=true↔x=y)) {x:k.den} {u:Value} (hx:RelU F k x u) :
  ∀ (l:List MapEntry) (es:List (k.den × v.den)) (i:Nat),l.length=es.length→(∀ (j:Nat) (e:k.den × v.den) (m:MapEntry),es[j]? = some e→l[j]? = some m→RelU F k e.1 m.key) →
   (∃ j m e,(∀ w,(Instr.findAsking kt u l i).run P w=.ok (some (i+j,m.val)) w)∧l[j]? = some m∧es[j]? = some e∧m.key=u∧(∀ z,JW k es x z=e.2)∧∀ y,H9 k es x y=es.set j (x,y)) ∨
   ((∀ w,(Instr.findAsking kt u l i).run P w=.ok none w)∧(∀ z,JW k es x z=z)∧∀ y,H9 k es x y=es++[(x,y)])
 | [],es,i,hl,_=>by
  have:es=[]:=List.eq_nil_of_length_eq_zero hl.symm
  subst this
  exact .inr ⟨fun _=>rfl,fun _=>rfl,fun _=>rfl⟩
 | m::l,[],i,hl,_=>by simp at hl
 | m::l,e::es,i,hl,h=>by
  have h0:=h 0 e m rfl rfl
  have hxe:=hinj x e.1 u m.key hx h0
  by_cases hxy:x=e.1
  ·have hum:u=m.key:=hxe.2 hxy
   have hd:@decide (x=e.1) (k.decEq x e.1)=true:=by simp [hxy]
   refine .inl ⟨0,m,e,fun w=>?_,rfl,rfl,hum.symm,fun z=>?_,fun y=>?_⟩
   ·obtain ⟨r,hr,hiff⟩:=heq x e.1 u m.key hx h0 w
    have:r=true:=hiff.2 hxy
    subst this
    simp [Instr.findAsking,Sem.run_bind,hr,Result.andThen_ok]
   ·simp only [JW,hd,cond_true]
   ·simp only [H9,hd,cond_true,List.set_cons_zero]
  ·have hd:@decide (x=e.1) (k.decEq x e.1)=false:=by simp [hxy]
   have step:∀ w,(Instr.findAsking kt u (m::l) i).run P w=(Instr.findAsking kt u l (i+1)).run P w:=by
    intro w
    obtain ⟨r,hr,hiff⟩:=heq x e.1 u m.key hx h0 w
    have hr0:r=false:=by
     cases r with
     | false=>rfl
     | true=>exact absurd (hiff.1 rfl) hxy
    subst hr0
    simp [Instr.findAsking,Sem.run_bind,hr,Result.andThen_ok]
   rcases Qyq hinj heq hx l es (i+1) (by simpa using hl) (fun j e' m' he hm=>h (j+1) e' m' (by simpa using he) (by simpa using hm)) with ⟨j,m',e',k1,k2,k3,k4,k5,k6⟩ | ⟨k1,k2,k3⟩
   ·refine .inl ⟨j+1,m',e',fun w=>by rw [step,k1,Nat.add_assoc,Nat.add_comm 1 j],by simpa using k2,by simpa using k3,k4,fun z=>?_,fun y=>?_⟩
    ·simp only [JW,hd,cond_false];exact k5 z
    ·simp only [H9,hd,cond_false,List.set_cons_succ];rw [k6 y]
   ·refine .inr ⟨fun w=>by rw [step,k1],fun z=>?_,fun y=>?_⟩
    ·simp only [JW,hd,cond_false];exact k2 z
    ·simp only [H9,hd,cond_false,List.cons_append];rw [k3 y]
theorem Qel {F:Snap} (n:Nat):∀ {t:Ty},t.keyFlat=true→∀ {x:t.den} {cs:List Value},RelD F t x cs→∀ c∈cs,Instr.sameBits n c c=true
 | .int k,_,x,cs,h,c,hc=>by
  obtain ⟨h,_⟩:cs=[.int k x]∧_:=h
  subst h
  rw [List.mem_singleton.1 hc]
  cases n<;>simp [Instr.sameBits]
 | .bool,_,x,cs,h,c,hc=>by
  have h:cs=[.bool x]:=h
  subst h
  rw [List.mem_singleton.1 hc]
  cases n<;>simp [Instr.sameBits]
 | .str,_,x,cs,h,c,hc=>by
  obtain ⟨s,h,_⟩:∃ s:ByteArray,cs=[.string s]∧ZE s=x∧s.size≤140737488355328:=h
  subst h
  rw [List.mem_singleton.1 hc]
  cases n<;>simp [Instr.sameBits,bytes_beq]
 | .unit,_,x,cs,h,c,hc=>by
  have h:cs=[]:=h
  subst h;cases hc
 | .pair a b,hf,x,cs,⟨c1,c2,e,h1,h2⟩,c,hc=>by
  simp only [Ty.keyFlat,Bool.and_eq_true] at hf
  subst e
  rcases List.mem_append.1 hc with hc | hc
  ·exact Qel n hf.1 h1 c hc
  ·exact Qel n hf.2 h2 c hc
 | .list _,hf,_,_,_,_,_=>by cases hf
 | .map _ _,hf,_,_,_,_,_=>by cases hf
 | .tree _,hf,_,_,_,_,_=>by cases hf
theorem Qwl {α:Type}:∀ (l:List α) (p:α × α),p∈l.zip l→p.1=p.2∧p.1∈l
 | [],p,h=>by simp at h
 | a::l,p,h=>by
  rw [List.zip_cons_cons] at h
  rcases List.mem_cons.1 h with rfl | h
  ·exact ⟨rfl,by simp⟩
  ·obtain ⟨h1,h2⟩:=Qwl l p h;exact ⟨h1,by simp [h2]⟩
theorem Quo {P:Program} {kt:TypeId} {k:Ty} (hk:QrX P kt=true) (hkt:Xz P JS kt=some k):KeyFacts P kt k:=by
 by_cases hst:∃ fs,P.underlying kt=some (.struct fs)
 ·obtain ⟨fs,hfs⟩:=hst
  have hk2:=hk
  unfold QrX at hk2
  rw [hfs] at hk2
  simp only [hkt,Bool.and_eq_true] at hk2
  obtain ⟨⟨heq,hkey⟩,hflat⟩:=hk2
  have hagg:∀ (F:Snap) (x:k.den) (u:Value),RelU F k x u→∃ arr,u=.agg arr∧RelD F k x arr.toList:=by
   intro F x u h
   obtain ⟨_,_,hat,_⟩:=JP hkt
   have hs:=Qjr hat
   unfold Qc6 at hs
   rw [hfs] at hs
   have hs:k.scalar=false:=by simpa using hs
   unfold RelU at h
   rw [hs] at h
   exact h
  have hinj:∀ (F:Snap) (x y:k.den) (u w:Value),RelU F k x u→RelU F k y w→(u=w↔x=y):=by
   intro F x y u w h h'
   obtain ⟨a1,rfl,h1⟩:=hagg F x u h
   obtain ⟨a2,rfl,h2⟩:=hagg F y w h'
   rw [← Qsi hflat h1 h2]
   simp only [Value.agg.injEq]
   exact ⟨fun e=>by rw [e],fun e=>Array.ext' e⟩
  have heq':∀ (F:Snap) (x y:k.den) (u v:Value),RelU F k x u→RelU F k y v→∀ w,∃ r,(Op.equal kt u v).run P w=.ok r w∧(r=true↔x=y) :=
   fun F x y u v h h' w=>Qjt JS kt k hkt heq 9988 F w x y u v h h'
  refine ⟨?_,?_,?_⟩
  ·intro F x u h w em
   obtain ⟨arr,rfl,hr⟩:=hagg F x u h
   obtain ⟨la,hla⟩:=Qvs JS JS kt k hkt hkey x _ hr
   refine run_checkKey_deep em 9988 JS kt hkey w JS (.agg arr) la ?_ hla
   obtain ⟨_,_,_,hc,_⟩:=JP hkt
   have:=hr.len
   simp only [Value.formed,hfs,beq_iff_eq]
   rw [hc,← this,Array.length_toList]
  ·intro F x u h
   obtain ⟨arr,rfl,hr⟩:=hagg F x u h
   simp only [Instr.sameBits,beq_self_eq_true,Bool.true_and,List.all_eq_true]
   intro p hp
   obtain ⟨h1,h2⟩:=Qwl _ p hp
   rw [← h1]
   exact Qel _ hflat hr _ h2
  ·intro F x u h v l es hl hal
   have hfn:∀ l,(Instr.findKey kt u l).run P=(match l with | []=>fun w=>.ok none w | m::l=>(Instr.findAsking kt u (m::l)).run P):=by
    intro l
    funext w
    cases l with
    | nil=>simp [Instr.findKey,Instr.findNow,run_underlying hfs,Result.andThen]
    | cons m l=>simp [Instr.findKey,Instr.findNow,Instr.sameNow,run_underlying hfs,Result.andThen]
   cases l with
   | nil =>
    have:es=[]:=List.eq_nil_of_length_eq_zero hl.symm
    subst this
    exact .inr ⟨fun w=>by rw [hfn],fun _=>rfl,fun _=>rfl⟩
   | cons m l =>
    rcases Qyq (hinj F) (heq' F) h (m::l) es 0 hl hal with ⟨j,m',e',k1,k2⟩ | ⟨k1,k2⟩
    ·exact .inl ⟨j,m',e',fun w=>by rw [hfn];have:=k1 w;rwa [Nat.zero_add] at this,k2⟩
    ·exact .inr ⟨fun w=>by rw [hfn];exact k1 w,k2⟩
 ·have hns:∀ fs,P.underlying kt≠some (.struct fs):=fun fs e=>hst ⟨fs,e⟩
  obtain ⟨d,hd,hkk⟩:=QzW hk hns hkt
  refine ⟨fun F x u h w em=>run_checkKey hd (hkk F x u h).1 em 9999,fun F x u h=>Qvt (hkk F x u h).1,fun F x u h v l es hl hal=>?_⟩
  rcases Qwk hkk h l es 0 hl hal with ⟨j,m',e',k1,k2⟩ | ⟨k1,k2⟩
  ·exact .inl ⟨j,m',e',fun w=>run_findKey hd (by rw [k1,Nat.zero_add]),k2⟩
  ·exact .inr ⟨fun w=>run_findKey hd k1,k2⟩
theorem QzX {ms ms':Array MapEntry} {c c':Nat} (h:Qxm ms c=Qxm ms' c'):ms=ms'∧c=c':=by
 unfold Qxm at h
 have h:=congrArg (fun v=>match v with | Value.tuple a=>a.toList | _=>[]) h
 simp only [Array.toList_append,List.cons_append,List.nil_append,List.cons.injEq,Value.int.injEq,Array.toList_map] at h
 obtain ⟨⟨_,h1⟩,h2⟩:=h
 refine ⟨?_,by omega⟩
 apply Array.ext'
 have inj:∀ (a b:List MapEntry),(a.map fun m=>Value.tuple #[m.key,m.val,.int .i64 m.born])=(b.map fun m=>Value.tuple #[m.key,m.val,.int .i64 m.born])→a=b:=by
  intro a
  induction a with
  | nil=>intro b h;cases b with
   | nil=>rfl
   | cons _ _=>simp at h
  | cons x a ih =>
   intro b h
   cases b with
   | nil=>simp at h
   | cons y b =>
    simp only [List.map_cons,List.cons.injEq,Value.tuple.injEq] at h
    obtain ⟨h3,h4⟩:=h
    rw [ih b h4]
    congr 1
    have h3:=congrArg Array.toList h3
    simp only [List.cons.injEq,Value.int.injEq,true_and,and_true] at h3
    obtain ⟨a1,a2,a3⟩:=h3
    cases x;cases y
    simp only at a1 a2 a3
    subst a1;subst a2
    congr 1
    omega
 exact inj _ _ h2
theorem QrP {F:Snap} {t:Ty} {x:t.den} {v:Value} (h:RelU F t x v):RelD F t x v.cells.toList∧Qmq t v:=⟨h.cells,QyV h⟩
theorem MapRel.set {F:Snap} {k v:Ty} {es:List (k.den × v.den)} {ms:Array MapEntry} {c j:Nat} (h:MapRel F k v es ms c) {x:k.den} {y:v.den} {u z:Value} (hx:RelU F k x u) (hy:RelU F v y z):MapRel F k v (es.set j (x,y)) (ms.modify j fun e=>{ e with key:=u,val:=z }) c:=by
 have hget:∀ i:Nat,(ms.modify j fun e=>{ e with key:=u,val:=z })[i]? = if j=i then ms[i]?.map (fun e=>{ e with key:=u,val:=z }) else ms[i]?:=fun i=>Array.getElem?_modify
 refine ⟨by simp [h.size],?_,?_,?_⟩
 ·intro m hm
  obtain ⟨i,hi⟩:=Array.mem_iff_getElem?.1 hm
  rw [hget] at hi
  split at hi
  ·obtain ⟨m0,h0,rfl⟩:=Option.map_eq_some_iff.1 hi
   exact h.born m0 (Array.mem_of_getElem? h0)
  ·exact h.born m (Array.mem_of_getElem? hi)
 ·have:(ms.modify j fun e=>{ e with key:=u,val:=z }).toList.map (·.born)=ms.toList.map (·.born):=by
   apply List.ext_getElem?
   intro i
   rw [List.getElem?_map,List.getElem?_map,Array.getElem?_toList,Array.getElem?_toList,hget]
   split
   ·cases ms[i]?<;>rfl
   ·rfl
  rw [this];exact h.nodup
 ·intro i e m he hm
  rw [hget] at hm
  rw [List.getElem?_set] at he
  split at hm
  ·rename_i e1
   subst e1
   obtain ⟨m0,h0,rfl⟩:=Option.map_eq_some_iff.1 hm
   rw [if_pos rfl] at he
   split at he
   ·cases he
    obtain ⟨q1,q2⟩:=QrP hx
    obtain ⟨q3,q4⟩:=QrP hy
    exact ⟨q1,q2,q3,q4⟩
   ·cases he
  ·rename_i e1
   rw [if_neg e1] at he
   exact h.at_ i e m he hm
theorem MapRel.push {F:Snap} {k v:Ty} {es:List (k.den × v.den)} {ms:Array MapEntry} {c:Nat} (h:MapRel F k v es ms c) {x:k.den} {y:v.den} {u z:Value} (hx:RelU F k x u) (hy:RelU F v y z):MapRel F k v (es++[(x,y)]) (ms.push { key:=u,val:=z,born:=c }) (c+1):=by
 refine ⟨by simp [h.size],?_,?_,?_⟩
 ·intro m hm
  rcases Array.mem_push.1 hm with hm | rfl
  ·have:=h.born m hm;omega
  ·simp
 ·rw [Array.toList_push,List.map_append,List.nodup_append]
  refine ⟨h.nodup,by simp,?_⟩
  intro a ha b hb e
  obtain ⟨m,hm,rfl⟩:=List.mem_map.1 ha
  have:=h.born m (by simpa using hm)
  simp only [List.map_cons,List.map_nil,List.mem_singleton] at hb
  omega
 ·intro i e m he hm
  rw [Array.getElem?_push] at hm
  have hsz:=h.size
  split at hm
  ·rename_i e1
   cases hm
   rw [e1,hsz,List.getElem?_append_right (Nat.le_refl _)] at he
   simp only [Nat.sub_self,List.getElem?_cons_zero,Option.some.injEq] at he
   subst he
   obtain ⟨q1,q2⟩:=QrP hx
   obtain ⟨q3,q4⟩:=QrP hy
   exact ⟨q1,q2,q3,q4⟩
  ·have hlt:i<ms.size:=(Array.getElem?_eq_some_iff.1 hm).1
   rw [List.getElem?_append_left (by omega)] at he
   exact h.at_ i e m he hm
section
variable {P:Program} {base:Base} {w0:Orig} {dp nn:Nat} {st:St} {θ:Nat→Nat→Value} {M:Me} {a:Act} {w:World}
theorem Qsj {t kt vt:TypeId} {k v:Ty} (h:Qr0 P t=some (kt,vt,k,v)):P.underlying t=some (.map kt vt)∧QrX P kt=true∧Xz P JS kt=some k∧Xz P JS vt=some v:=by
 unfold Qr0 at h
 split at h
 case h_2=>cases h
 rename_i kt' vt' ht
 obtain ⟨h0,h⟩:=Qn h
 split at h
 case h_2=>cases h
 rename_i k' v' h1 h2
 simp only [Option.some.injEq,Prod.mk.injEq] at h
 obtain ⟨rfl,rfl,rfl,rfl⟩:=h
 exact ⟨ht,h0,h1,h2⟩
theorem QtQ (h:Rel P base w0 dp st θ M w) {k v:Ty} {m:V} {vm:Value} {es:List (k.den × v.den)} (he:Qd9 st k v m=some es) (hm:RelV M m vm) :
  (vm=.map none∧es=[])∨∃ r ms c,vm=.map (some r)∧w.heap[r]? = some (.map ms c)∧MapRel M.F k v es ms c:=by
 unfold Qd9 at he
 split at he
 ·rename_i k' v' es'
  obtain ⟨e1,e2,e3⟩:=castE?_eq he
  subst e1;subst e2
  obtain rfl:=show es=es' from e3
  cases hm with
  | d _ _ _ hd =>
   obtain ⟨r,rfl,h1,h2⟩:=QzL hd
   cases r with
   | none=>exact .inl ⟨rfl,h1 rfl⟩
   | some r =>
    obtain ⟨ms,c,k1,k2⟩:=h2 r rfl
    rcases h.F _ _ k1 with ⟨q,_⟩ | ⟨_,ms',c',q1,q2⟩
    ·cases q
    ·obtain ⟨rfl,rfl⟩:=QzX q2
     exact .inr ⟨r,ms,c,rfl,q1,k2⟩
 ·rename_i d s
  split at he
  case h_2=>cases he
  rename_i k' v' es' hb
  obtain ⟨e1,e2,e3⟩:=castE?_eq he
  subst e1;subst e2
  obtain rfl:=show es=es' from e3
  obtain ⟨b,n,rfl,hμ⟩:=hm.mp_inv
  obtain ⟨b',ms,c,h1,_,h3,h4⟩:=h.maps (h.deep_le hμ) hb
  rw [hμ] at h1
  cases h1
  exact .inr ⟨b,ms,c,rfl,h3,h4⟩
 ·cases he
theorem QtR (h:Rel P base w0 dp st θ M w) {t:TypeId} {m x:V} {vm vx:Value} {ok:Bool} {K:V→Option R} {r:R} (hs:QdP P st t m x ok K=some r) (hm:RelV M m vm) (hx:RelV M x vx):Eh P M w dp K r (Instr.lookup t vm vx ok):=by
 unfold QdP at hs
 split at hs
 case h_2=>cases hs
 rename_i kt vt k v hmt
 obtain ⟨ht,hk,hkt,hvt⟩:=Qsj hmt
 split at hs
 case h_2=>cases hs
 rename_i es kx z hes hkx hz
 revert hs
 cases hok:(ok||!(Qny P vt v)) with
 | true=>intro hs;cases hs
 | false =>
  intro hs
  simp only [cond_false] at hs
  simp only [Bool.or_eq_false_iff,Bool.not_eq_false'] at hok
  obtain ⟨rfl,hzf⟩:=hok
  have hkf:=Quo hk hkt
  have hX:=UJ hkx hx
  have hkey:=hkf.check M.F kx vx hX
  obtain ⟨i,z0,hi,hz0,hzr,hzs⟩:=Qej (M:=M) hz
  have hzU:RelU M.F v z z0:=by
   refine QrO hzr ⟨fun hsc=>?_,fun hsc=>?_⟩
   ·unfold Qny at hzf
    rw [hi] at hzf
    simp only [Option.bind_some,hz0,hsc,cond_true] at hzf
    exact hzf
   ·unfold Qny at hzf
    rw [hi] at hzf
    simp only [Option.bind_some,hz0,hsc,cond_false] at hzf
    split at hzf
    ·exact ⟨_,rfl⟩
    ·cases hzf
  have hzero:∀ w',(zeroValue vt).run P w'=.ok z0 w':=fun w'=>QcH hi hz0
  rcases QtQ h hes hm with ⟨rfl,rfl⟩ | ⟨r',ms,c,rfl,hh,hmr⟩
  ·refine ⟨_,z0,hs,fun w' _=>?_,Uh hzU,WR _ _ _⟩
   have hf:(Instr.findKey kt vx []).run P w'=.ok none w':=by
    rcases hkf.find M.F kx vx hX (v:=v) [] [] rfl (fun j e m h=>by simp at h) with ⟨j,m,e,_,k2,_⟩ | ⟨k1,_⟩
    ·simp at k2
    ·exact k1 w'
   simp [Instr.lookup,run_underlying ht,hkey,hf,hzero,Sem.run_bind,Result.andThen_ok]
  ·have hlen:ms.toList.length=es.length:=by simpa using hmr.size
   have hlt:r'<w.heap.size:=(Array.getElem?_eq_some_iff.1 hh).1
   rcases hkf.find M.F kx vx hX ms.toList es hlen (fun j e m' he hm'=>by
    obtain ⟨q1,q2,_⟩:=hmr.at_ j e m' he (by simpa using hm')
    exact QrO q1 q2) with ⟨j,m',e,k1,k2,k3,k4,k5,k6⟩ | ⟨k1,k2,k3⟩
   ·obtain ⟨_,_,q3,q4⟩:=hmr.at_ j e m' k3 (by simpa using k2)
    refine ⟨_,m'.val,hs,fun w' hw'=>?_,by rw [k5 z];exact Uh (QrO q3 q4),WR _ _ _⟩
    have hh':w'.heap[r']? = some (.map ms c):=by rw [hw'.block r' hlt];exact hh
    simp [Instr.lookup,run_underlying ht,MapKept.run_getObj_map hh',hkey,k1,Sem.run_bind,Result.andThen_ok]
   ·refine ⟨_,z0,hs,fun w' hw'=>?_,by rw [k2 z];exact Uh hzU,WR _ _ _⟩
    have hh':w'.heap[r']? = some (.map ms c):=by rw [hw'.block r' hlt];exact hh
    simp [Instr.lookup,run_underlying ht,MapKept.run_getObj_map hh',hkey,k1,hzero,Sem.run_bind,Result.andThen_ok]
theorem Qsk (h:Rel P base w0 dp st θ M w) {t:TypeId} {s:Nat} {K:V→Z9 R} {r:R} (hs:Qnz P st dp (some s) t K=some r):TurnsB P base w0 dp θ w K r (Instr.makeMap t none):=by
 unfold Qnz at hs
 split at hs
 case h_2=>cases hs
 rename_i k v s' hmt hse
 cases hse
 split at hs
 case h_2=>cases hs
 rename_i hb
 refine ⟨_,_,.map (some w.heap.size),w.alloc (.map #[] 0),_,hs,?_,h.newBoxG hb (n:=0) (o:=.map #[] 0) ⟨rfl,#[],0,rfl,.nil _ _ _⟩,?_,?_,(BelowN.refl _ _).alloc (Nat.le_refl _) _⟩
 ·simp [Instr.makeMap,newObj,Sem.run]
 ·exact .mp _ _ _ 0 (by simp [Me.box])
 ·simp [V.le]
theorem QgC (h:Rel P base w0 dp st θ M w) {t:TypeId} {m x y:V} {vm vx vy:Value} {K:Z9 R} {r:R} (hs:QhD P st t m x y K=some r) (hm:RelV M m vm) (hx:RelV M x vx) (hy:RelV M y vy) :
  ∃ st' w',K st'=some r∧(Instr.mapUpdate t vm vx vy).run P w=.ok () w'∧Rel P base w0 dp st' θ M w':=by
 unfold QhD at hs
 split at hs
 case h_2=>cases hs
 rename_i kt vt k v hmt
 obtain ⟨ht,hk,hkt,hvt⟩:=Qsj hmt
 split at hs
 case h_2=>cases hs
 rename_i d s
 split at hs
 case h_2=>cases hs
 rename_i k' v' es' hb
 split at hs
 case h_2=>cases hs
 rename_i es kx ky hes hkx hky
 obtain ⟨e1,e2,e3⟩:=castE?_eq hes
 subst e1;subst e2
 obtain rfl:=show es=es' from e3
 obtain ⟨b,n,rfl,hμ⟩:=hm.mp_inv
 obtain ⟨b',ms,c,h1,hbb,hh,hmr⟩:=h.maps (h.deep_le hμ) hb
 rw [hμ] at h1
 simp only [Option.some.injEq,Prod.mk.injEq] at h1
 obtain ⟨rfl,rfl⟩:=h1
 have hkf:=Quo hk hkt
 have hX:=UJ hkx hx
 have hY:=UJ hky hy
 have hkey:=hkf.check M.F kx vx hX
 have hlen:ms.toList.length=es.length:=by simpa using hmr.size
 have fin:∀ (ms':Array MapEntry) (c':Nat),MapRel M.F k' v' (H9 k' es kx ky) ms' c'→Rel P base w0 dp (st.setB d s (.map k' v' (H9 k' es kx ky))) θ M { w with heap:=w.heap.setIfInBounds b (.map ms' c') }:=by
  intro ms' c' hmr'
  have hset:=heap_set (o':=.map ms' c') hh
  refine h.setBoxG hμ hbb (o:=.map ms' c') ⟨rfl,ms',c',rfl,hmr'⟩ (fun q=>?_) (by simp) ?_
  ·split
   ·rename_i e;subst e;exact hset.1
   ·rename_i e;exact hset.2 q e
  ·exact h.below.trans ⟨rfl,rfl,rfl,by simp,fun q hq=>hset.2 q (fun e=>hq (by rw [e];exact hbb)),Nat.le_refl _⟩
 rcases hkf.find M.F kx vx hX ms.toList es hlen (fun j e m' he hm'=>by
  obtain ⟨q1,q2,_⟩:=hmr.at_ j e m' he (by simpa using hm')
  exact QrO q1 q2) with ⟨j,m',e,k1,k2,k3,k4,k5,k6⟩ | ⟨k1,k2,k3⟩
 ·have hj:ms[j]? = some m':=by simpa using k2
  have hjl:j<ms.size:=(Array.getElem?_eq_some_iff.1 hj).1
  refine ⟨_,_,hs,?_,fin (ms.modify j fun e=>{ e with key:=vx,val:=vy }) c ?_⟩
  ·have hsb:Instr.sameBits 10000 m'.key vx=true:=by rw [k4];exact hkf.stays M.F kx vx hX
   simp [Instr.mapUpdate,run_underlying ht,MapKept.run_getObj_map hh,hkey,k1,hj,Instr.keyThatStays,hsb,MapKept.run_setObj_map _ hh,Sem.run_bind,Result.andThen_ok]
  ·rw [k6];exact hmr.set hX hY
 ·refine ⟨_,_,hs,?_,fin (ms.push { key:=vx,val:=vy,born:=c }) (c+1) ?_⟩
  ·simp [Instr.mapUpdate,run_underlying ht,MapKept.run_getObj_map hh,hkey,k1,MapKept.run_setObj_map _ hh,Sem.run_bind,Result.andThen_ok]
  ·rw [k3];exact hmr.push hX hY
end
end Go.Ab
