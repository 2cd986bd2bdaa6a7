import Derived.Test.YtkabjoifaffddaaGreatAb10
import Derived.DeepKeys3
namespace Go.Ab
theorem Qsi {F F':Snap}:∀ {t:Ty},t.keyFlat=true→∀ {x y:t.den} {cs ds:List Value},RelD F t x cs→RelD F' t y ds→(cs=ds↔x=y)
 | .int k,_,x,y,cs,ds,h,h'=>by
  obtain ⟨h,_⟩:cs=[.int k x]∧_:=h
  obtain ⟨h',_⟩:ds=[.int k y]∧_:=h'
  subst h;subst h';simp
 | .bool,_,x,y,cs,ds,h,h'=>by
  have h:cs=[.bool x]:=h
  have h':ds=[.bool y]:=h'
  subst h;subst h';simp
 | .str,_,x,y,cs,ds,h,h'=>by
  obtain ⟨s,h,hs,_⟩:∃ s:ByteArray,cs=[.string s]∧ZE s=x∧s.size≤140737488355328:=h
  obtain ⟨s',h',hs',_⟩:∃ s:ByteArray,ds=[.string s]∧ZE s=y∧s.size≤140737488355328:=h'
  subst h;subst h'
  rw [← hs,← hs']
  simp only [List.cons.injEq,Value.string.injEq,and_true]
  exact ⟨fun e=>by rw [e],Qsb⟩
 | .unit,_,x,y,cs,ds,h,h'=>by
  have h:cs=[]:=h
  have h':ds=[]:=h'
  subst h;subst h';simp
 | .pair a b,hf,x,y,cs,ds,⟨c1,c2,e,h1,h2⟩,⟨d1,d2,e',h1',h2'⟩=>by
  simp only [Ty.keyFlat,Bool.and_eq_true] at hf
  subst e;subst e'
  have q1:=Qsi hf.1 h1 h1'
  have q2:=Qsi hf.2 h2 h2'
  have hl:c1.length=d1.length:=by rw [h1.len,h1'.len]
  constructor
  ·intro e
   obtain ⟨e1,e2⟩:=List.append_inj e hl
   exact Prod.ext (q1.1 e1) (q2.1 e2)
  ·intro e
   subst e
   rw [q1.2 rfl,q2.2 rfl]
 | .list _,hf,_,_,_,_,_,_=>by cases hf
 | .map _ _,hf,_,_,_,_,_,_=>by cases hf
 | .tree _,hf,_,_,_,_,_,_=>by cases hf
section
variable {P:Program} {F:Snap}
theorem Qmz {D m:Nat} (IH:∀ (t:TypeId) (ty:Ty),Xz P m t=some ty→P.keyTypeAt D t=true→∀ (x:ty.den) (cs:List Value),RelD F ty x cs→∃ la,P.keyLits D t cs=some la) (cs:List Value) :
  ∀ (fs:List Field) (off:Nat) (ty:Ty) (x:ty.den),J2 (Xz P m) off fs=some ty→(∀ f∈fs,P.keyTypeAt D f.type=true)→RelD F ty x (cs.drop off) →
   ∃ las,fs.mapM (fun f=>P.keyLits D f.type ((cs.drop f.offset).take (P.cellsOf f.type)))=some las
 | [],off,ty,x,_,_,_=>⟨[],rfl⟩
 | [f],off,ty,x,hf,hk,hr=>by
  simp only [J2] at hf
  split at hf
  case isFalse=>cases hf
  rename_i h0
  obtain ⟨_,_,_,hc,_⟩:=JP hf
  have hl:=hr.len
  obtain ⟨la,hla⟩:=IH f.type ty hf (hk f (by simp)) x _ hr
  refine ⟨[la],?_⟩
  rw [List.mapM_cons,h0,hc,← hl,List.take_length,hla]
  rfl
 | f::g::fs,off,ty,x,hf,hk,hr=>by
  simp only [J2] at hf
  split at hf
  case isFalse=>cases hf
  rename_i h0
  obtain ⟨a,ha,hf⟩:=Option.bind_eq_some_iff.1 hf
  obtain ⟨b,hb,rfl⟩:=Option.map_eq_some_iff.1 hf
  obtain ⟨_,_,_,hc,_⟩:=JP ha
  obtain ⟨c1,c2,he,h1,h2⟩:=hr
  have hl:=h1.len
  obtain ⟨la,hla⟩:=IH f.type a ha (hk f (by simp)) x.1 _ h1
  have hd:cs.drop (off+a.cells)=c2:=by
   rw [← List.drop_drop,he,← hl,List.drop_left]
  obtain ⟨las,hlas⟩:=Qmz IH cs (g::fs) (off+a.cells) b x.2 hb (fun f' hf'=>hk f' (by simp [List.mem_cons.1 hf'])) (by rw [hd];exact h2)
  refine ⟨la::las,?_⟩
  rw [List.mapM_cons,h0,hc,he,← hl,List.take_left,hla,hlas]
  rfl
theorem Qvs:∀ (D:Nat) (n:Nat) (t:TypeId) (ty:Ty),Xz P n t=some ty→P.keyTypeAt D t=true→∀ (x:ty.den) (cs:List Value),RelD F ty x cs→∃ la,P.keyLits D t cs=some la
 | 0,_,_,_,_,h,_,_,_=>by simp [Program.keyTypeAt] at h
 | D+1,n,t,ty,hty,hk,x,cs,hr=>by
  obtain ⟨m,hm,hat,hc,_⟩:=JP hty
  have hlen:=hr.len
  simp only [Program.keyTypeAt] at hk
  cases hat with
  | bool hu =>
   have hr:cs=[.bool x]:=hr
   subst hr
   exact ⟨[.bool x],by simp [Program.keyLits,hu]⟩
  | int k hu =>
   obtain ⟨hr,hin⟩:cs=[.int k x]∧inK k x=true:=hr
   subst hr
   refine ⟨[.int k x],?_⟩
   have hw:(Lit.int k x).wf=true:=by simpa [Lit.wf,inK] using hin
   simp [Program.keyLits,hu,hw]
  | str hu =>
   obtain ⟨s,hr,_,hs⟩:∃ s:ByteArray,cs=[.string s]∧ZE s=x∧s.size≤140737488355328:=hr
   subst hr
   refine ⟨[.string s.data.toList],?_⟩
   have hs':s.size≤maxLen:=by unfold maxLen;omega
   simp [Program.keyLits,hu,hs']
  | list e ty' hu _=>rw [hu] at hk;cases hk
  | map a b _ _ hu _ _=>rw [hu] at hk;cases hk
  | tree fs f a hu h2 h3 _ _ =>
   exfalso
   rw [hu] at hk
   simp only [Bool.and_eq_true] at hk
   have:=hk.1.1
   rw [Array.all_eq_true'] at this
   have:=this f (by simpa using List.mem_of_getLast? h2)
   simp only [Bool.and_eq_true] at this
   have h4:=this.2
   cases D with
   | zero=>simp [Program.keyTypeAt] at h4
   | succ D=>simp [Program.keyTypeAt,h3] at h4
  | one fs f ty' hu hfs h0 he =>
   rw [hu] at hk
   simp only [Bool.and_eq_true] at hk
   obtain ⟨c1,c2,hce,h1,h2⟩:=hr
   have h2:c2=[]:=h2
   subst h2
   rw [List.append_nil] at hce
   subst hce
   have hall : ∀ f' ∈ fs.toList, f'.name ≠ "_" ∧ P.keyTypeAt D f'.type = true := by
    intro f' hf'
    have:=hk.1.1
    rw [Array.all_eq_true'] at this
    have:=this f' (by simpa using hf')
    simpa using this
   obtain ⟨las,hlas⟩:=Qmz (D:=D) (m:=m) (fun t ty h1 h2 x cs hr=>Qvs D m t ty h1 h2 x cs hr) cs [f] 0 ty' x.1 (by simp only [J2,h0,if_true];exact he) (fun f' hf'=>(hall f' (by rw [hfs];exact hf')).2) h1
   refine ⟨las.flatten,?_⟩
   have hall2 : fs.all (·.name != "_") = true := by
    rw [Array.all_eq_true']
    intro f' hf'
    have:=(hall f' (by simpa using hf')).1
    simpa using this
   have hlen':cs.length=P.cellsOf t:=by rw [hlen,hc]
   simp only [Program.keyLits,hu]
   rw [if_pos ⟨hlen',hall2⟩,hfs,hlas]
   rfl
  | st fs ty' hu hne he =>
   rw [hu] at hk
   simp only [Bool.and_eq_true] at hk
   have hall : ∀ f' ∈ fs.toList, f'.name ≠ "_" ∧ P.keyTypeAt D f'.type = true := by
    intro f' hf'
    have:=hk.1.1
    rw [Array.all_eq_true'] at this
    have:=this f' (by simpa using hf')
    simpa using this
   obtain ⟨las,hlas⟩:=Qmz (D:=D) (m:=m) (fun t ty h1 h2 x cs hr=>Qvs D m t ty h1 h2 x cs hr) cs fs.toList 0 ty x he (fun f' hf'=>(hall f' hf').2) hr
   refine ⟨las.flatten,?_⟩
   have hall2 : fs.all (·.name != "_") = true := by
    rw [Array.all_eq_true']
    intro f' hf'
    have:=(hall f' (by simpa using hf')).1
    simpa using this
   have hlen':cs.length=P.cellsOf t:=by rw [hlen,hc]
   simp only [Program.keyLits,hu]
   rw [if_pos ⟨hlen',hall2⟩,hlas]
   rfl
end
end Go.Ab
