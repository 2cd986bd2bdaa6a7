import Derived.Test.YtkabjoifaffddaaGreatAb2
import Derived.Laws.Cover3
namespace Go.Ab
variable {R:Type}
theorem RelV.int_inv {M:Me} {k:IntKind} {x:Int} {v:Value} (h:RelV M (.d (.int k) x) v):v=.int k x∧inK k x=true:=by
 cases h with
 | d _ _ _ hd =>
  obtain ⟨h1,h2⟩:=hd
  simp only [List.cons.injEq,and_true] at h1
  exact ⟨h1,h2⟩
theorem RelV.bool_inv {M:Me} {x:Bool} {v:Value} (h:RelV M (.d .bool x) v):v=.bool x:=by
 cases h with
 | d _ _ _ hd =>
  have h1:[v]=[.bool x]:=hd
  simpa using h1
theorem RelV.str_inv {M:Me} {x:List Int} {v:Value} (h:RelV M (.d .str x) v):∃ s:ByteArray,v=.string s∧ZE s=x∧s.size≤140737488355328:=by
 cases h with
 | d _ _ _ hd =>
  obtain ⟨s,h1,h2⟩:=hd
  simp only [List.cons.injEq,and_true] at h1
  exact ⟨s,h1,h2⟩
theorem RelV.mkInt {M:Me} {k:IntKind} {x:Int} (h:inK k x=true):RelV M (.d (.int k) x) (.int k x):=.d (.int k) x _ ⟨rfl,h⟩
theorem RelV.mkBool {M:Me} (x:Bool):RelV M (.d .bool x) (.bool x):=.d .bool x _ rfl
theorem RelV.mkStr {M:Me} (s:ByteArray) (h:s.size≤140737488355328):RelV M (.d .str (ZE s)) (.string s):=.d .str _ _ ⟨s,rfl,rfl,h⟩
def GivesFlat (P:Program) (M:Me) (_w:World) (K:V→Option R) (r:R) (s:Sem Value):Prop:=∃ v u,K v=some r∧(∀ w,s.run P w=.ok u w)∧RelV M v u∧∀ n,v.le n=true
theorem GivesFlat.int {P:Program} {M:Me} {w:World} {K:V→Option R} {r:R} {s:Sem Value} {k:IntKind} {x:Int} (h:K (.d (.int k) x)=some r) (hs:∀ w,s.run P w=.ok (.int k x) w) (hx:inK k x=true):GivesFlat P M w K r s:=⟨_,_,h,hs,.mkInt hx,fun _=>rfl⟩
theorem GivesFlat.bool {P:Program} {M:Me} {w:World} {K:V→Option R} {r:R} {s:Sem Value} {x:Bool} (h:K (.d .bool x)=some r) (hs:∀ w,s.run P w=.ok (.bool x) w):GivesFlat P M w K r s:=⟨_,_,h,hs,.mkBool x,fun _=>rfl⟩
theorem Qjp (a b:Int):(a == b)=decide (a=b):=by
 rw [Bool.eq_iff_iff];simp
theorem QtK {P:Program} {op:BinOp} {t:TypeId} {X Y:Operand} {k:IntKind} {a:Int} {v:Value} {w:World} {s:Sem Value} :
  (do eqGuard op t X Y (.int k a) v;s).run P w=s.run P w:=by rw [eqGuard_at_int];rfl
theorem Qsc {P:Program} {op:BinOp} {t:TypeId} {X Y:Operand} {a:Bool} {v:Value} {w:World} {s:Sem Value} :
  (do eqGuard op t X Y (.bool a) v;s).run P w=s.run P w:=by rw [eqGuard_at_bool];rfl
theorem Qpg {P:Program} {op:BinOp} {t:TypeId} {X Y:Operand} {a:ByteArray} {v:Value} {w:World} {s:Sem Value} :
  (do eqGuard op t X Y (.string a) v;s).run P w=s.run P w:=by rw [eqGuard_at_string];rfl
theorem Qn {c:Bool} {a:Option R} {r:R} (h:(bif c then a else none)=some r):c=true∧a=some r:=by
 cases c
 ·cases h
 ·exact ⟨rfl,h⟩
theorem Qjq {c:Bool} {a:Option R} {r:R} (h:(bif c then none else a)=some r):c=false∧a=some r:=by
 cases c
 ·exact ⟨rfl,h⟩
 ·cases h
theorem Qvh {P:Program} {op:BinOp} {t:TypeId} {k k':IntKind} {a b:Int} {K:V→Option R} {r:R} {M:Me} {w:World} (h:Qeg P op t (.d (.int k) a) (.d (.int k') b) K=some r)
  (ha:inK k a=true) (hb:inK k' b=true):GivesFlat P M w K r (binOp op t (.int k a) (.int k' b)):=by
 cases op
 case shl =>
  obtain ⟨h0,h⟩:=Qn h
  have h0:0≤b:=by simpa using h0
  refine .int h ?_ (Wk _ _)
  intro w
  rw [binOp_shl,Op.shift,if_neg (by omega)]
  rfl
 case shr =>
  obtain ⟨h0,h⟩:=Qn h
  have h0:0≤b:=by simpa using h0
  refine .int h ?_ (QzQ ha)
  intro w
  rw [binOp_shr,Op.shift,if_neg (by omega)]
  rfl
 all_goals
  simp only [Qeg] at h
  split at h
  case isFalse=>cases h
  rename_i hk
  subst hk
 case add=>exact .int h (by simp [binOp,Op.intArith]) (Wk _ _)
 case sub=>exact .int h (by simp [binOp,Op.intArith]) (Wk _ _)
 case mul=>exact .int h (by simp [binOp,Op.intArith]) (Wk _ _)
 case quo =>
  obtain ⟨h0,h⟩:=Qjq h
  have h0:b≠0:=by simpa using h0
  refine .int h ?_ (Wk _ _)
  intro w
  rw [binOp_quo,Op.intDiv,if_neg h0]
  rfl
 case rem =>
  obtain ⟨h0,h⟩:=Qjq h
  have h0:b≠0:=by simpa using h0
  refine .int h ?_ (Qwd ha)
  intro w
  rw [binOp_rem,Op.intDiv,if_neg h0]
  rfl
 case and=>exact .int h (by simp [binOp,Op.intBits]) (Wk _ _)
 case or=>exact .int h (by simp [binOp,Op.intBits]) (Wk _ _)
 case xor=>exact .int h (by simp [binOp,Op.intBits]) (Wk _ _)
 case eql=>exact .bool h (fun w=>by rw [binOp_eql,Qjp];rfl)
 case neq=>exact .bool h (fun w=>by rw [binOp_neq];simp [bne,Qjp,QzC])
 case lss=>exact .bool h (fun w=>by rw [binOp_lss];rfl)
 case leq=>exact .bool h (fun w=>by rw [binOp_leq];rfl)
 case gtr=>exact .bool h (fun w=>by rw [binOp_gtr];rfl)
 case geq=>exact .bool h (fun w=>by rw [binOp_geq];rfl)
 all_goals cases h
theorem Qvi {P:Program} {op:BinOp} {t:TypeId} {s s':ByteArray} {K:V→Option R} {r:R} {M:Me} {w:World} (h:Qeg P op t (.d .str (ZE s)) (.d .str (ZE s')) K=some r) :
  GivesFlat P M w K r (binOp op t (.string s) (.string s')):=by
 have hlt:=QBj s s'
 have hgt:=QBj s' s
 have heq:=eqB s s'
 have hor:=Qwe (ZE s) (ZE s')
 cases op<;>simp only [Qeg] at h
 case add =>
  obtain ⟨h0,h⟩:=Qn h
  rw [Uj,Uj,Xf] at h0
  have h0:(s.size:Int)+(s'.size:Int)≤140737488355328:=by simpa using h0
  rw [← QtJ] at h
  refine ⟨_,_,h,?_,.mkStr (s++s') (by rw [ByteArray.size_append];omega),fun _=>rfl⟩
  intro w
  rw [binOp_string_add,run_string_add_sum _ _ _ (by omega)]
 case eql=>exact .bool h (fun w=>by simp only [binOp,Op.stringOp,heq,Qxg];rfl)
 case neq=>exact .bool h (fun w=>by simp only [binOp,Op.stringOp,heq,Qxg];rfl)
 case lss=>exact .bool h (fun w=>by simp only [binOp,Op.stringOp,hlt,Qxg];rfl)
 case leq=>exact .bool h (fun w=>by simp only [binOp,Op.stringOp,hlt,heq,Qxg,hor];rfl)
 case gtr=>exact .bool h (fun w=>by simp only [binOp,Op.stringOp,hlt,heq,Qxg,hor,Bool.not_not];rfl)
 case geq=>exact .bool h (fun w=>by simp only [binOp,Op.stringOp,hlt,Qxg];rfl)
 all_goals cases h
theorem QtL {P:Program} {op:BinOp} {t:TypeId} {a b:Bool} {K:V→Option R} {r:R} {M:Me} {w:World} (h:Qeg P op t (.d .bool a) (.d .bool b) K=some r) :
  GivesFlat P M w K r (binOp op t (.bool a) (.bool b)):=by
 simp only [Qeg] at h
 split at h
 case h_2=>cases h
 rename_i ht
 cases op<;>simp only at h
 case eql=>exact .bool h (fun w=>run_eql_bool w t a b ht)
 case neq=>exact .bool h (fun w=>run_neq_bool w t a b ht)
 all_goals cases h
inductive TyAt (P:Program) (rec:TypeId→Option Ty) (t:TypeId):Ty→Prop
 | bool:P.underlying t=some .bool→TyAt P rec t .bool
 | int (k:IntKind):P.underlying t=some (.int k)→TyAt P rec t (.int k)
 | str:P.underlying t=some .string→TyAt P rec t .str
 | list (e:TypeId) (ty:Ty):P.underlying t=some (.slice e)→rec e=some ty→TyAt P rec t (.list ty)
 | map (k e:TypeId) (a b:Ty):P.underlying t=some (.map k e)→rec k=some a→rec e=some b→TyAt P rec t (.map a b)
 | tree (fs:Array Field) (f:Field) (a:Ty):P.underlying t=some (.struct fs)→fs.toList.getLast? = some f→P.underlying f.type=some (.slice t)→J2 rec 0 fs.toList.dropLast=some a→f.offset=a.cells→TyAt P rec t (.tree a)
 | one (fs:Array Field) (f:Field) (ty:Ty):P.underlying t=some (.struct fs)→fs.toList=[f]→f.offset=0→rec f.type=some ty→TyAt P rec t (.pair ty .unit)
 | st (fs:Array Field) (ty:Ty):P.underlying t=some (.struct fs)→(∀ f,fs.toList≠[f])→J2 rec 0 fs.toList=some ty→TyAt P rec t ty
theorem QyT {P:Program} {rec:TypeId→Option Ty} {t:TypeId} {ty:Ty} (h:QzB P rec t=some ty):TyAt P rec t ty:=by
 simp only [QzB] at h
 split at h
 ·simp only [Option.some.injEq] at h;subst h;exact .bool ‹_›
 ·simp only [Option.some.injEq] at h;subst h;exact .int _ ‹_›
 ·simp only [Option.some.injEq] at h;subst h;exact .str ‹_›
 ·rename_i e he
  cases h1:rec e with
  | none=>rw [h1] at h;cases h
  | some a=>rw [h1] at h;simp only [Option.map_some,Option.some.injEq] at h;subst h;exact .list e a he h1
 ·rename_i k e he
  split at h
  ·rename_i a b h1 h2
   simp only [Option.some.injEq] at h;subst h;exact .map k e a b he h1 h2
  ·cases h
 ·rename_i fs hfs
  split at h
  ·rename_i ty0 htr
   simp only [Option.some.injEq] at h
   subst h
   unfold QzA at htr
   split at htr
   case h_2=>cases htr
   rename_i f hf
   split at htr
   case h_2=>cases htr
   rename_i e he
   obtain ⟨h0,htr2⟩:=Qn htr
   clear htr
   have h0:=Nat.eq_of_beq_eq_true h0
   subst h0
   split at htr2
   case h_2=>cases htr2
   rename_i a ha
   obtain ⟨h1,htr3⟩:=Qn htr2
   simp only [Option.some.injEq] at htr3
   subst htr3
   exact .tree fs f a hfs hf he ha (Nat.eq_of_beq_eq_true h1)
  split at h
  ·rename_i f hf
   split at h
   ·rename_i h0
    cases h1:rec f.type with
    | none=>rw [h1] at h;cases h
    | some a=>rw [h1] at h;simp only [Option.map_some,Option.some.injEq] at h;subst h;exact .one fs f a hfs hf h0 h1
   ·cases h
  ·rename_i hne
   exact .st fs ty hfs (fun f hf=>hne f hf) h
 ·cases h
theorem JP {P:Program} {n:Nat} {t:TypeId} {ty:Ty} (h:Xz P n t=some ty):∃ m,n=m+1∧TyAt P (Xz P m) t ty∧P.cellsOf t=ty.cells∧∃ i,P.info? t=some i∧i.size=ty.cells:=by
 cases n with
 | zero=>simp [Xz] at h
 | succ n =>
  simp only [Xz] at h
  split at h
  ·rename_i ty' h1
   obtain ⟨h2,h3⟩:=Qn h
   simp only [Option.some.injEq] at h3
   subst h3
   simp only [Bool.and_eq_true] at h2
   have h4:P.cellsOf t=ty'.cells:=Nat.eq_of_beq_eq_true h2.1
   obtain ⟨i,hi⟩:=Option.isSome_iff_exists.1 h2.2
   exact ⟨n,rfl,QyT h1,h4,i,hi,by have:=h4;simp only [Program.cellsOf,hi,Option.map_some,Option.getD_some] at this;exact this⟩
  ·cases h
theorem Qjr {P:Program} {rec:TypeId→Option Ty} {t:TypeId} {ty:Ty} (h:TyAt P rec t ty):Qc6 P t=!ty.scalar:=by
 unfold Qc6
 cases h with
 | bool h=>rw [h];rfl
 | int k h=>rw [h];rfl
 | str h=>rw [h];rfl
 | list e ty h _=>rw [h];rfl
 | map k e a b h _ _=>rw [h];rfl
 | one fs f ty h _ _ _=>rw [h];rfl
 | tree fs f a h _ _ _ _=>rw [h];rfl
 | st fs ty h hne hf =>
  rw [h]
  cases hl:fs.toList with
  | nil=>rw [hl] at hf;simp only [J2,Option.some.injEq] at hf;subst hf;rfl
  | cons f r =>
   cases r with
   | nil=>exact absurd hl (hne f)
   | cons g r =>
    rw [hl] at hf
    simp only [J2] at hf
    split at hf
    ·cases h1:rec f.type with
     | none=>rw [h1] at hf;cases hf
     | some a =>
      rw [h1] at hf
      simp only [Option.bind_some,Option.map_eq_some_iff] at hf
      obtain ⟨b,_,rfl⟩:=hf
      rfl
    ·cases hf
theorem QbM {P:Program} {t:TypeId} {w:World} {d:TypeDesc} (h:P.underlying t=some d):(isAgg t).run P w=.ok (Qc6 P t) w:=by
 unfold isAgg Qc6
 rw [Sem.run_bind,run_underlying h,h]
 cases d<;>rfl
theorem TyAt.und {P:Program} {rec:TypeId→Option Ty} {t:TypeId} {ty:Ty} (h:TyAt P rec t ty):∃ d,P.underlying t=some d:=by
 cases h<;>exact ⟨_,‹_›⟩
theorem Zy {P:Program} {t:TypeId} {w:World} {i:TypeInfo} (h:P.info? t=some i):(sizeOf t).run P w=.ok i.size w:=by
 simp [sizeOf,typeInfo,h]
theorem QnC {P:Program} {F:Snap} {n:Nat} {t:TypeId} {ty:Ty} (h:Xz P n t=some ty) {x:ty.den} {xs:Array Value} {off:Nat} {w:World} (hr:RelD F ty x ((xs.toList.drop off).take ty.cells)) :
  ∃ u,(part t xs off).run P w=.ok u w∧RelU F ty x u:=by
 obtain ⟨m,rfl,hat,hc,i,hi,hs⟩:=JP h
 obtain ⟨d,hd⟩:=hat.und
 have hg:=Qjr hat
 unfold part
 rw [Sem.run_bind,QbM hd,hg,Result.andThen_ok]
 cases hsc:ty.scalar with
 | false =>
  refine ⟨.agg (xs.extract off (off+ty.cells)),?_,?_⟩
  ·simp [Zy hi,hs]
  ·unfold RelU
   rw [hsc]
   refine ⟨_,rfl,?_⟩
   have:(xs.extract off (off+ty.cells)).toList=(xs.toList.drop off).take ty.cells:=by
    rw [Array.toList_extract];simp [List.extract]
   rw [this]
   exact hr
 | true =>
  have h1:ty.cells=1:=by cases ty<;>first | rfl | (simp [Ty.scalar] at hsc)
  have hl:=hr.len
  rw [h1] at hl hr
  obtain ⟨u,hu⟩:=List.length_eq_one_iff.1 hl
  have hx:xs[off]? = some u:=by
   have:((xs.toList.drop off).take 1)[0]? = some u:=by rw [hu];rfl
   rw [List.getElem?_take,if_pos (by omega),List.getElem?_drop] at this
   simpa using this
  refine ⟨u,by simp [hx],?_⟩
  unfold RelU
  rw [hsc]
  rw [hu] at hr
  exact hr
def EqD (P:Program) (d:Nat) (t:TypeId) (ty:Ty):Prop:=∀ (F:Snap) (w:World) (x y:ty.den) (u v:Value),RelU F ty x u→RelU F ty y v→∃ r,(Op.equalIn d t u v).run P w=.ok r w∧(r=true↔x=y)
theorem Qjs {P:Program} {n d:Nat} (IH:∀ t ty,Xz P n t=some ty→Qq5 P n t=true→EqD P d t ty) {F:Snap} {w:World} (xs ys:Array Value) :
  ∀ (fs : List Field) (off : Nat) (ty : Ty), J2 (Xz P n) off fs = some ty → (fs.all fun f => f.name != "_" && Qq5 P n f.type) = true →
   ∀ (x y:ty.den),RelD F ty x (xs.toList.drop off)→RelD F ty y (ys.toList.drop off)→∃ r,(Op.eqFields d xs ys fs).run P w=.ok r w∧(r=true↔x=y)
 | [],off,ty,h,_,x,y,_,_=>by
  simp only [J2,Option.some.injEq] at h
  subst h
  exact ⟨true,rfl,by simp⟩
 | [f],off,ty,h,ha,x,y,hx,hy=>by
  simp only [J2] at h
  split at h
  ·rename_i h0
   simp only [List.all_cons,List.all_nil,Bool.and_true,Bool.and_eq_true,bne_iff_ne] at ha
   have lx:=hx.len
   have ly:=hy.len
   have hx':RelD F ty x ((xs.toList.drop off).take ty.cells):=by rw [← lx,List.take_length];exact hx
   have hy':RelD F ty y ((ys.toList.drop off).take ty.cells):=by rw [← ly,List.take_length];exact hy
   obtain ⟨u,pu,ru⟩:=QnC (w:=w) h hx'
   obtain ⟨v,pv,rv⟩:=QnC (w:=w) h hy'
   obtain ⟨r,hr,hiff⟩:=IH _ _ h ha.2 F w x y u v ru rv
   refine ⟨r,?_,hiff⟩
   simp only [Op.eqFields,ha.1,ne_eq,not_false_eq_true,if_true,Sem.run_bind,h0,pu,pv,hr,Result.andThen_ok]
   cases r<;>rfl
  ·cases h
 | f::g::fs,off,ty,h,ha,x,y,hx,hy=>by
  simp only [J2] at h
  split at h
  ·rename_i h0
   cases h1:Xz P n f.type with
   | none=>rw [h1] at h;cases h
   | some a =>
    rw [h1] at h
    simp only [Option.bind_some,Option.map_eq_some_iff] at h
    obtain ⟨b,h2,rfl⟩:=h
    rw [List.all_cons] at ha
    simp only [Bool.and_eq_true,bne_iff_ne] at ha
    obtain ⟨ha1,ha2⟩:=ha
    obtain ⟨c1,c2,hc,hx1,hx2⟩:=hx
    obtain ⟨e1,e2,he,hy1,hy2⟩:=hy
    have l1:=hx1.len
    have l2:=hy1.len
    have hx1':RelD F a x.1 ((xs.toList.drop off).take a.cells):=by rw [hc,← l1,List.take_left];exact hx1
    have hy1':RelD F a y.1 ((ys.toList.drop off).take a.cells):=by rw [he,← l2,List.take_left];exact hy1
    have hx2':RelD F b x.2 (xs.toList.drop (off+a.cells)):=by rw [← List.drop_drop,hc,← l1,List.drop_left];exact hx2
    have hy2':RelD F b y.2 (ys.toList.drop (off+a.cells)):=by rw [← List.drop_drop,he,← l2,List.drop_left];exact hy2
    obtain ⟨u,pu,ru⟩:=QnC (w:=w) h1 hx1'
    obtain ⟨v,pv,rv⟩:=QnC (w:=w) h1 hy1'
    obtain ⟨r,hr,hiff⟩:=IH _ _ h1 ha1.2 F w x.1 y.1 u v ru rv
    obtain ⟨r',hr',hiff'⟩:=Qjs IH (F:=F) (w:=w) xs ys (g::fs) (off+a.cells) b h2 ha2 x.2 y.2 hx2' hy2'
    have hxy:x=y↔x.1=y.1∧x.2=y.2:=Prod.ext_iff
    simp only [Op.eqFields,ha1.1,ne_eq,not_false_eq_true,if_true,Sem.run_bind,h0,pu,pv,hr,Result.andThen_ok]
    cases r with
    | false =>
     refine ⟨false,rfl,?_⟩
     rw [hxy,← hiff]
     simp
    | true =>
     refine ⟨r',?_,?_⟩
     ·have:(Op.eqFields d xs ys (g::fs)).run P w=.ok r' w:=hr'
      simp only [Bool.not_true,Bool.false_eq_true,if_false]
      exact this
     ·rw [hxy,hiff',← hiff]
      simp
  ·cases h
theorem Qvj {rec:TypeId→Option Ty} {f:Field} {ty:Ty} (h0:f.offset=0) (h:rec f.type=some ty):J2 rec 0 [f]=some ty:=by
 simp only [J2]
 rw [if_pos h0,h]
theorem Qxn {P:Program} {t e:TypeId} (h:P.underlying t=some (.slice e)):∀ n,Qq5 P n t=false
 | 0=>rfl
 | n+1=>by simp [Qq5,h]
theorem Qjt {P:Program}:∀ (n:Nat) (t:TypeId) (ty:Ty),Xz P n t=some ty→Qq5 P n t=true→∀ d,EqD P (d+n) t ty
 | 0,t,ty,h,_,_=>by simp [Xz] at h
 | n+1,t,ty,h,ho,d=>by
  intro F w x y u v hu hv
  obtain ⟨m,hm,hat,hc,i,hi,hs⟩:=JP h
  obtain rfl:n=m:=by omega
  have struct:∀ fs:Array Field,P.underlying t=some (.struct fs)→∀ (ty':Ty) (x y:ty'.den) (us vs:Array Value),J2 (Xz P n) 0 fs.toList=some ty'→RelD F ty' x us.toList→RelD F ty' y vs.toList →
    ∃ r,(Op.equalIn (d+(n+1)) t (.agg us) (.agg vs)).run P w=.ok r w∧(r=true↔x=y):=by
   intro fs hfs ty' x y us vs hf hx hy
   simp only [Qq5,hfs,Bool.and_eq_true,Bool.not_eq_true'] at ho
   have hfe:P.fieldsOf t=fs:=by simp [Program.fieldsOf,hfs]
   have:=run_equalIn_struct w (d+n) t us vs (by rw [hfe];exact hfs) ho.1
   rw [hfe] at this
   show ∃ r,(Op.equalIn (d+n+1) t (.agg us) (.agg vs)).run P w=.ok r w∧(r=true↔x=y)
   rw [this]
   exact Qjs (fun t ty h1 h2=>Qjt n t ty h1 h2 d) us vs fs.toList 0 ty' hf ho.2 x y (by simpa using hx) (by simpa using hy)
  cases hat with
  | bool h1 =>
   have hx:RelD F .bool x [u]:=hu
   have hy:RelD F .bool y [v]:=hv
   have hx:[u]=[.bool x]:=hx
   have hy:[v]=[.bool y]:=hy
   simp only [List.cons.injEq,and_true] at hx hy
   subst hx;subst hy
   exact ⟨_,run_equalIn_bool' w (d+n) t x y h1,by simp⟩
  | int k h1 =>
   have hx:RelD F (.int k) x [u]:=hu
   have hy:RelD F (.int k) y [v]:=hv
   obtain ⟨hx,_⟩:=hx
   obtain ⟨hy,_⟩:=hy
   simp only [List.cons.injEq,and_true] at hx hy
   subst hx;subst hy
   exact ⟨_,run_equalIn_int w (d+n) t k k x y h1,by simp⟩
  | str h1 =>
   have hx:RelD F .str x [u]:=hu
   have hy:RelD F .str y [v]:=hv
   obtain ⟨s,hx,hs1,_⟩:=hx
   obtain ⟨s',hy,hs2,_⟩:=hy
   simp only [List.cons.injEq,and_true] at hx hy
   subst hx;subst hy
   refine ⟨_,run_equalIn_string w (d+n) t s s' h1,?_⟩
   rw [eqB,decide_eq_true_eq,hs1,hs2]
  | list e ty' h1 _=>simp [Qq5,h1] at ho
  | map k e a b h1 _ _=>simp [Qq5,h1] at ho
  | tree fs f a h1 h2 h3 _ _ =>
   exfalso
   simp only [Qq5,h1,Bool.and_eq_true,List.all_eq_true] at ho
   have:=(ho.2 f (List.mem_of_getLast? h2)).2
   rw [Qxn h3] at this
   cases this
  | one fs f ty' h1 h2 h3 h4 =>
   obtain ⟨us,rfl,c1,c2,hc1,hx1,hx2⟩:=hu
   obtain ⟨vs,rfl,e1,e2,he1,hy1,hy2⟩:=hv
   have hc2:c2=[]:=hx2
   have he2:e2=[]:=hy2
   subst hc2;subst he2
   rw [List.append_nil] at hc1 he1
   subst hc1;subst he1
   obtain ⟨r,hr,hiff⟩:=struct fs h1 ty' x.1 y.1 us vs (by rw [h2];exact Qvj h3 h4) hx1 hy1
   refine ⟨r,hr,?_⟩
   rw [hiff]
   exact ⟨fun e=>Prod.ext e rfl,fun e=>by rw [e]⟩
  | st fs ty' h1 h2 h3 =>
   have hsc:ty.scalar=false:=by
    have:=Qjr (.st (P:=P) (rec:=Xz P n) (t:=t) fs ty h1 h2 h3)
    unfold Qc6 at this
    rw [h1] at this
    simpa using this
   unfold RelU at hu hv
   rw [hsc] at hu hv
   obtain ⟨us,rfl,hx⟩:=hu
   obtain ⟨vs,rfl,hy⟩:=hv
   exact struct fs h1 ty x y us vs h3 hx hy
theorem Qvk {P:Program} {op:BinOp} {t:TypeId} {a b:List V} {us vs:Array Value} {X Y:Operand} {K:V→Option R} {r:R} {M:Me} {w:World} (h:Qeg P op t (.agg a) (.agg b) K=some r)
  (ha:RelV M (.agg a) (.agg us)) (hb:RelV M (.agg b) (.agg vs)):GivesFlat P M w K r (do eqGuard op t X Y (.agg us) (.agg vs);binOp op t (.agg us) (.agg vs)):=by
 simp only [Qeg] at h
 split at h
 case h_2=>cases h
 rename_i ty hty
 obtain ⟨h0,h⟩:=Qn h
 simp only [Bool.and_eq_true,Bool.not_eq_true'] at h0
 split at h
 case h_2=>cases h
 rename_i u v hu hv
 obtain ⟨_,e1,ra⟩:=ha.aggL
 obtain ⟨_,e2,rb⟩:=hb.aggL
 cases e1;cases e2
 have hru:RelU M.F ty u (.agg us):=by
  unfold RelU
  rw [h0.1.1]
  exact ⟨us,rfl,V5 hu ra⟩
 have hrv:RelU M.F ty v (.agg vs):=by
  unfold RelU
  rw [h0.1.1]
  exact ⟨vs,rfl,V5 hv rb⟩
 have hq':∀ w,(Op.equalIn 10000 t (.agg us) (.agg vs)).run P w=.ok (@decide (u=v) (ty.decEq u v)) w:=by
  intro w
  obtain ⟨q,hq,hiff⟩:=Qjt JS t ty hty h0.1.2 9988 M.F w u v _ _ hru hrv
  have hdec:q=@decide (u=v) (ty.decEq u v):=by
   rw [Bool.eq_iff_iff,hiff,@decide_eq_true_eq _ (ty.decEq u v)]
  rw [← hdec]
  exact hq
 have hg:=fun w=>run_eqGuard_agg (P:=P) w op t X Y us vs h0.2
 cases op
 case eql=>exact .bool h (fun w=>by rw [Sem.run_bind,hg,Result.andThen_ok,run_eql_struct,hq',Result.andThen_ok])
 case neq=>exact .bool h (fun w=>by rw [Sem.run_bind,hg,Result.andThen_ok,run_neq_struct,hq',Result.andThen_ok])
 all_goals (simp at h)
theorem Qmt {P:Program} {op:BinOp} {t:TypeId} {x y:V} {vx vy:Value} {X Y:Operand} {K:V→Option R} {r:R} {M:Me} {w:World} (h:Qeg P op t x y K=some r)
  (hx:RelV M x vx) (hy:RelV M y vy):GivesFlat P M w K r (do eqGuard op t X Y vx vy;binOp op t vx vy):=by
 have lift:∀ s s':Sem Value,(∀ w,s.run P w=s'.run P w)→GivesFlat P M w K r s'→GivesFlat P M w K r s:=by
  rintro s s' e ⟨v,u,h1,h2,h3⟩
  exact ⟨v,u,h1,fun w=>by rw [e];exact h2 w,h3⟩
 unfold Qeg at h
 split at h
 ·obtain ⟨rfl,h1⟩:=hx.int_inv
  obtain ⟨rfl,h2⟩:=hy.int_inv
  exact lift _ _ (fun w=>QtK) (Qvh (t:=t) h h1 h2)
 ·obtain ⟨s,rfl,rfl,_⟩:=hx.str_inv
  obtain ⟨s',rfl,rfl,_⟩:=hy.str_inv
  exact lift _ _ (fun w=>Qpg) (Qvi (P:=P) (t:=t) h)
 ·obtain rfl:=hx.bool_inv
  obtain rfl:=hy.bool_inv
  exact lift _ _ (fun w=>Qsc) (QtL h)
 ·obtain ⟨us,rfl,_⟩:=hx.aggL
  obtain ⟨vs,rfl,_⟩:=hy.aggL
  exact Qvk h hx hy
 ·cases h
theorem Qph {a b:Option R} {r:R} (h:QF a b=some r):a=some r∧b=some r:=by
 unfold QF at h
 split at h
 ·rename_i e;exact ⟨h,e ▸ h⟩
 ·cases h
theorem QfF {P:Program} {op:BinOp} {t e:TypeId} {X Y:Operand} {a:Option Addr} {l c:Nat} {w:World} (ht:P.underlying t=some (.slice e)) (ho:op=.eql∨op=.neq) :
  (do eqGuard op t X Y (.slice a l c) (.slice none 0 0);binOp op t (.slice a l c) (.slice none 0 0)).run P w=.ok (.bool (if op=.eql then a.isNone else !a.isNone)) w:=by
 rw [eqGuard_at_slice]
 rcases ho with rfl | rfl<;>simp [binOp,run_equal_slice_nil w t e a l c ht]
theorem Qxo {P:Program} {op:BinOp} {t:TypeId} {x:V} {vx:Value} {X Y:Operand} {K:V→Option R} {r:R} {M:Me} {w:World} (h:QBo P op t x K=some r)
  (hx:RelV M x vx):GivesFlat P M w K r (do eqGuard op t X Y vx (.slice none 0 0);binOp op t vx (.slice none 0 0)):=by
 have dat:∀ (t':Ty) (xs:List t'.den) (e:TypeId),P.underlying t=some (.slice e)→RelD M.F (.list t') xs [vx]→QAK op xs.length K=some r→GivesFlat P M w K r (do eqGuard op t X Y vx (.slice none 0 0);binOp op t vx (.slice none 0 0)):=by
  intro t' xs e ht hd h
  obtain ⟨a,cap,hv,h1,_,h3,_⟩:=hd
  simp only [List.cons.injEq,and_true] at hv
  subst hv
  have key:∀ b:Bool,(b=true→K (.d .bool a.isNone)=some r)∧(b=false→K (.d .bool !a.isNone)=some r)→(op=.eql∧b=true∨op=.neq∧b=false)→GivesFlat P M w K r (do eqGuard op t X Y (.slice a xs.length cap) (.slice none 0 0);binOp op t (.slice a xs.length cap) (.slice none 0 0)):=by
   rintro b ⟨k1,k2⟩ (⟨rfl,rfl⟩ | ⟨rfl,rfl⟩)
   ·exact .bool (k1 rfl) fun w=>QfF ht (.inl rfl)
   ·exact .bool (k2 rfl) fun w=>by rw [QfF ht (.inr rfl)];rfl
  have hn:0<xs.length→a.isNone=false:=by
   intro hp
   cases a with
   | none=>have:=h3 rfl;omega
   | some _=>rfl
  unfold QAK at h
  split at h
  ·refine key true ⟨fun _=>?_,fun h=>by cases h⟩ (.inl ⟨rfl,rfl⟩)
   cases hd:decide (0<xs.length) with
   | true=>rw [hd] at h;rw [hn (of_decide_eq_true hd)];exact h
   | false =>
    rw [hd] at h
    obtain ⟨q1,q2⟩:=Qph h
    cases a.isNone
    ·exact q2
    ·exact q1
  ·refine key false ⟨fun h=>(by cases h),fun _=>?_⟩ (.inr ⟨rfl,rfl⟩)
   cases hd:decide (0<xs.length) with
   | true=>rw [hd] at h;rw [hn (of_decide_eq_true hd)];exact h
   | false =>
    rw [hd] at h
    obtain ⟨q1,q2⟩:=Qph h
    cases a.isNone
    ·exact q2
    ·exact q1
  ·cases h
 unfold QBo at h
 split at h
 case h_2=>cases h
 rename_i e ht
 split at h
 ·cases hx with
  | d _ _ _ hd=>exact dat _ _ e ht hd h
 ·cases hx with
  | own _ _ _ _ hd _ _=>exact dat _ _ e ht hd h
 ·cases hx with
  | nils =>
   split at h
   ·exact .bool h fun w=>QfF ht (.inl rfl)
   ·exact .bool h fun w=>by rw [QfF ht (.inr rfl)];rfl
   ·cases h
 ·cases h
theorem Quj {P:Program} {op:UnOp} {x:V} {vx:Value} {K:V→Option R} {r:R} {M:Me} {w:World} (h:unC op x K=some r) (hx:RelV M x vx):GivesFlat P M w K r (Op.unary op vx):=by
 unfold unC at h
 split at h
 ·obtain rfl:=hx.bool_inv
  exact .bool h fun _=>rfl
 ·obtain ⟨rfl,h1⟩:=hx.int_inv
  exact .int h (by simp [Op.unary,Op.intArith]) (Wk _ _)
 ·cases h
end Go.Ab
