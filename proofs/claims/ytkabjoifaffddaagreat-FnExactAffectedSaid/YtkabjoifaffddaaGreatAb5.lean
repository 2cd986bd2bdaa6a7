import Derived.Test.YtkabjoifaffddaaGreatAb4
import Derived.Laws.BytesArg
namespace Go.Ab
variable {R:Type}
section
variable {P:Program} {base:Base} {w0:Orig} {dp nn:Nat} {st:St} {θ:Nat→Nat→Value} {M:Me} {a:Act} {w:World}
theorem QhJ {t:TypeId} {f off:Nat} {ft:TypeId} (h:Qjl P t f=some (off,ft)):∃ fs fd,P.underlying t=some (.struct fs)∧fs[f]? = some fd∧fd.offset=off∧fd.type=ft:=by
 unfold Qjl at h
 split at h
 ·rename_i fs hfs
  cases hf:fs[f]? with
  | none=>rw [hf] at h;cases h
  | some fd =>
   rw [hf] at h
   simp only [Option.map_some,Option.some.injEq,Prod.mk.injEq] at h
   exact ⟨fs,fd,hfs,hf,h.1,h.2⟩
 ·cases h
theorem QlP {t:TypeId} (h:P.cellsOf t≠0):∃ i,P.info? t=some i∧i.size=P.cellsOf t:=by
 cases hi:P.info? t with
 | none=>simp [Program.cellsOf,hi] at h
 | some i=>exact ⟨i,rfl,by simp [Program.cellsOf,hi]⟩
theorem QzR {n k:Nat} {cs:List V} (h:V.le.leL n cs=true):V.le.leL n (cs.drop k)=true:=by
 refine Ug fun c hc=>?_
 obtain ⟨j,hj⟩:=List.getElem?_of_mem (List.mem_of_mem_drop hc)
 exact VT h hj
theorem Qio {t:TypeId} {x:V} {vx:Value} {f:Nat} {K:V→Option R} {r:R} (h:EY P t x f K=some r) (hx:RelV M x vx) (hle:x.le dp=true):∃ v u,K v=some r∧(∀ w',(Instr.fieldAt t vx f).run P w'=.ok u w')∧RelV M v u∧v.le dp=true:=by
 unfold EY at h
 split at h
 case h_2=>cases h
 rename_i off ft hf
 obtain ⟨fs,fd,h1,h2,h3,h4⟩:=QhJ hf
 obtain ⟨h0,h⟩:=Qjq h
 have hc:P.cellsOf ft≠0:=fun e=>by rw [e] at h0;cases h0
 obtain ⟨i,hi,hs⟩:=QlP hc
 have run:∀ (w:World) b o,(Instr.fieldAt t (.pointer (some ⟨b,o,none⟩)) f).run P w=.ok (.pointer (some ⟨b,o+off,none⟩)) w:=by
  intro w b o
  subst h3;subst h4
  simp [Instr.fieldAt,run_underlying h1,h2,Instr.sureAddr,fieldPlace,Zy hi,hs,hc,Addr.add_lit]
 split at h
 ·obtain ⟨b,n,rfl,hm⟩:=hx.ptr_inv
  exact ⟨_,_,h,fun w=>run w _ _,.ptr _ _ _ b n hm,hle⟩
 ·obtain ⟨b,o,us,rfl,hl,hF⟩:=hx.eptr_inv
  refine ⟨_,_,h,fun w=>run w _ _,?_,?_⟩
  ·have:=hl.drop off
   exact .eptr _ b (o+off) (us.drop off) this.len this.at_ (fun j u hu=>by
    rw [List.getElem?_drop] at hu
    rw [Nat.add_assoc];exact hF _ _ hu) this.one
  ·exact QzR hle
 ·obtain ⟨b,n,rfl,hm⟩:=hx.rptr_inv
  refine ⟨_,_,h,fun w=>run w _ _,?_,hle⟩
  rw [Nat.add_assoc]
  exact .rptr _ _ _ _ _ b n hm
 ·obtain ⟨b,o,rfl⟩:=hx.dq_ptr
  obtain ⟨hN,hq⟩:=hx.dq_inv
  refine ⟨_,_,h,fun w=>run w _ _,.dq _ _ _ _ _ hN ⟨_,_,rfl⟩ (fun b' o' n' c' bs' hr=>?_),hle⟩
  have:=hq b' o' n' c' bs' hr
  simp only [Value.pointer.injEq,Option.some.injEq,Addr.mk.injEq,and_true] at this ⊢
  omega
 ·cases h
theorem Qpk {t:TypeId} {x:V} {vx:Value} {f:Nat} {K:V→Option R} {r:R} (h:EY P t x f K=some r) (hx:RelV M x vx) (hle:x.le dp=true):Eh P M w dp K r (Instr.fieldAt t vx f) :=
 let ⟨v,u,h1,h2,h3,h4⟩:=Qio h hx hle
 ⟨v,u,h1,fun w' _=>h2 w',h3,h4⟩
theorem QnE {t:TypeId} {cs:List V} {arr:Array Value} {off:Nat} {K:V→Option R} {r:R} (h:EX P t cs off K=some r) (hr:RelL M cs arr.toList) (hle:V.le.leL dp cs=true) :
  Eh P M w dp K r (part t arr off):=by
 unfold EX at h
 split at h
 case h_2=>cases h
 rename_i d hd
 obtain ⟨i,hi⟩:=info_of_underlying hd
 split at h
 ·rename_i ha
  obtain ⟨h0,h⟩:=Qn h
  have hl:((cs.drop off).take (P.cellsOf t)).length=P.cellsOf t:=Nat.eq_of_beq_eq_true h0
  have hr':=(hr.drop off).take (P.cellsOf t)
  have hsz:i.size=P.cellsOf t:=by simp [Program.cellsOf,hi]
  have hex:(arr.extract off (off+P.cellsOf t)).toList=(arr.toList.drop off).take (P.cellsOf t):=by
   rw [Array.toList_extract];simp [List.extract]
  refine ⟨_,.agg (arr.extract off (off+P.cellsOf t)),h,?_,.agg _ _ (by rw [← Array.length_toList,hex];exact hr'.len) (fun i c u hc hu=>hr'.at_ i c u hc (by rw [← hex,Array.getElem?_toList];exact hu)) (fun u hu=>hr'.one u (by rw [← hex];exact Array.mem_toList_iff.2 hu)),?_⟩
  ·intro w' _
   unfold part
   rw [Sem.run_bind,QbM hd,ha,Result.andThen_ok]
   simp only [if_true,Sem.run_bind,Zy hi,Result.andThen_ok,hsz,Sem.run_pure]
  ·refine Ug fun c hc=>?_
   obtain ⟨j,hj⟩:=List.getElem?_of_mem (List.mem_of_mem_drop (List.mem_of_mem_take hc))
   exact VT hle hj
 ·rename_i ha
  split at h
  ·rename_i c rest hdr
   have hc0:cs[off]? = some c:=by
    have:(cs.drop off)[0]? = some c:=by rw [hdr];rfl
    rwa [List.getElem?_drop,Nat.add_zero] at this
   have hlt:off<arr.toList.length:=by
    rw [← hr.len]
    exact (List.getElem?_eq_some_iff.1 hc0).1
   obtain ⟨u,hu⟩:∃ u,arr.toList[off]? = some u:=⟨_,List.getElem?_eq_getElem hlt⟩
   have hu':arr[off]? = some u:=by simpa using hu
   refine ⟨c,u,h,?_,hr.at_ off c u hc0 hu,VT hle hc0⟩
   intro w' _
   unfold part
   rw [Sem.run_bind,QbM hd,ha,Result.andThen_ok]
   simp only [Bool.false_eq_true,if_false,hu',Sem.run_pure]
  ·cases h
theorem Qvl {t:TypeId} {x:V} {vx:Value} {f:Nat} {K:V→Option R} {r:R} (h:Qo8 P t x f K=some r) (hx:RelV M x vx) (hle:x.le dp=true):Eh P M w dp K r (Instr.field t vx f):=by
 unfold Qo8 at h
 split at h
 case h_2=>cases h
 rename_i off ft cs hf
 obtain ⟨fs,fd,h1,h2,h3,h4⟩:=QhJ hf
 obtain ⟨arr,rfl,hl⟩:=hx.aggL
 obtain ⟨v,u,k1,k2,k3⟩:=QnE (w:=w) h hl hle
 refine ⟨v,u,k1,fun w' hw'=>?_,k3⟩
 subst h3;subst h4
 simp [Instr.field,run_underlying h1,h2,asAgg,k2 w' hw']
theorem Gm {t e:TypeId} (h:XA P t=some e):P.underlying t=some (.slice e):=by
 unfold XA at h
 split at h
 ·simp only [Option.some.injEq] at h;subst h;assumption
 ·cases h
theorem QcG {t:TypeId} {n:Nat} {ty:Ty} (h:(XA P t).bind (Xz P n)=some ty):∃ e,P.underlying t=some (.slice e)∧Xz P n e=some ty:=by
 cases he:XA P t with
 | none=>rw [he] at h;cases h
 | some e=>rw [he] at h;exact ⟨e,Gm he,h⟩
theorem XV {t e:TypeId} (h:P.underlying t=some (.slice e)):P.elem t=e:=by simp [Program.elem,h]
theorem RelV.list_inv {t:Ty} {xs:List t.den} {v:Value} (h:RelV M (.d (.list t) xs) v):RelD M.F (.list t) xs [v]:=by
 cases h with
 | d _ _ _ hd=>exact hd
theorem RelV.own_inv {tok:Nat} {t:Ty} {xs:List t.den} {v:Value} (h:RelV M (.own tok t xs) v):RelD M.F (.list t) xs [v]∧tok<M.N∧∀ reg,M.τ tok=some reg→Eg reg v xs.length t.cells:=by
 cases h with
 | own _ _ _ _ hd h1 h2=>exact ⟨hd,h1,h2⟩
theorem QzS {t e:TypeId} {ty:Ty} {n:Nat} (ht:P.underlying t=some (.slice e)) (hty:Xz P n e=some ty) {xs:List ty.den} {v:Value} (hd:RelD M.F (.list ty) xs [v]) {k:IntKind} {i:Int} (hi:inB i xs.length=true) :
  ∃ u,(∀ w,(Instr.indexAt t v (.int k i)).run P w=.ok u w)∧RelV M (.eptr (Qm ty (rd xs i ty.dflt))) u:=by
 obtain ⟨ad,cap,hv,h1,h2,h3,h4⟩:=hd
 simp only [List.cons.injEq,and_true] at hv
 subst hv
 have hix:=Vr.1 hi
 cases ad with
 | none=>have:=h3 rfl;omega
 | some ad =>
  obtain ⟨hsp,es,he,hc⟩:=h4 ad rfl _ _ (Qqy (d:=ty.dflt) hi)
  obtain ⟨b,o,sp⟩:=ad
  simp only at hsp hc
  subst hsp
  obtain ⟨m,_,_,hcells,inf,hinf,hsz⟩:=JP hty
  refine ⟨.pointer (some ⟨b,o+i.toNat*ty.cells,none⟩),?_,?_⟩
  ·intro w
   rw [run_indexAt_slice (P:=P) w t _ _ _ k i (by rw [XV ht];exact ht),if_pos hix,XV ht,Zy hinf,Result.andThen_ok,hsz,Addr.add_lit]
  ·have hL:=Yf (M:=M) he
   exact .eptr _ b _ es hL.len hL.at_ (fun j u hu=>hc j u hu) hL.one
theorem Qpl {t:TypeId} {x i:V} {vx vi:Value} {K:V→Option R} {r:R} (h:Ue P st t x i K=some r) (hrel:Rel P base w0 dp st θ M w) (hx:RelV M x vx) (hle:x.le dp=true) (hi:RelV M i vi) :
  Eh P M w dp K r (Instr.indexAt t vx vi):=by
 unfold Ue at h
 split at h
 case h_7=>cases h
 all_goals
  obtain ⟨rfl,hk⟩:=hi.int_inv
 ·rename_i ty _ _ _ _ hty
  obtain ⟨e,ht,hty⟩:=QcG hty
  split at h
  case h_2=>cases h
  rename_i xs hxs
  obtain ⟨h0,h⟩:=Qn h
  have hd:=castL?_rel hxs hx.list_inv
  obtain ⟨u,hu,hr⟩:=QzS ht hty hd h0
  exact ⟨_,u,h,fun w _=>hu w,hr,GP dp ty _⟩
 ·rename_i ty _ _ _ _ _ hty
  obtain ⟨e,ht,hty⟩:=QcG hty
  split at h
  case h_2=>cases h
  rename_i xs hxs
  obtain ⟨h0,h⟩:=Qn h
  have hd:=castL?_rel hxs hx.own_inv.1
  obtain ⟨u,hu,hr⟩:=QzS ht hty hd h0
  exact ⟨_,u,h,fun w _=>hu w,hr,GP dp ty _⟩
 ·rename_i ty d s k n hty
  obtain ⟨e,ht,hty⟩:=QcG hty
  split at h
  case h_2=>cases h
  rename_i ty' xs' hb
  split at h
  case h_2=>cases h
  rename_i xs hxs
  obtain ⟨h0,h2⟩:=Qn h
  have hlen:=castL?_len hxs
  rw [hlen] at h0
  have e1:ty'=ty:=(castL?_eq hxs).1
  clear hxs h
  subst e1
  cases hx with
  | msl _ _ b n' hm hn =>
   have hd:=hrel.deep_le hm
   obtain ⟨b',T,arr,hm',_,hh,hsize,_,hx⟩:=hrel.rows hd hb
   rw [hm] at hm'
   simp only [Option.some.injEq,Prod.mk.injEq] at hm'
   obtain ⟨rfl,rfl⟩:=hm'
   have hix:=Vr.1 h0
   obtain ⟨m,_,_,hcells,inf,hinf,hsz⟩:=JP hty
   have hp:=RelV.rptr (M:=M) d s ty'.cells n 0 b _ hm
   rw [Nat.add_zero] at hp
   refine ⟨_,_,h2,?_,hp,hle⟩
   intro w _
   rw [run_indexAt_slice (P:=P) w t _ _ _ k n (by rw [XV ht];exact ht),if_pos hix,XV ht,Zy hinf,Result.andThen_ok,hsz,Addr.add_lit,Nat.zero_add]
 ·rename_i ty tok k n hty
  obtain ⟨e,ht,hty⟩:=QcG hty
  split at h
  case h_2=>cases h
  rename_i ty' xs' hb
  split at h
  case h_2=>cases h
  rename_i xs hxs
  obtain ⟨h0,h2⟩:=Qn h
  have hlen:=castL?_len hxs
  rw [hlen] at h0
  have e1:ty'=ty:=(castL?_eq hxs).1
  clear hxs h
  subst e1
  have hix:=Vr.1 h0
  obtain ⟨reg,cur,ce,hτ,hn,hs,_,_,_,_,hh,_,_⟩:=hrel.raw_at hb (by show 0<xs'.length;omega)
  obtain ⟨hN,hv⟩:=hx.raw_inv
  have hv:=hv _ hτ
  unfold Qr7 at hv
  simp only at hv
  subst hv
  obtain ⟨m,_,_,hcells,inf,hinf,hsz⟩:=JP hty
  have hn:reg.n=xs'.length:=hn
  refine ⟨_,.pointer (some ⟨reg.g,n.toNat*ty'.cells+0,none⟩),h2,?_,.qptr _ _ _ _ _ hN (fun reg' hr=>?_),rfl⟩
  ·intro w _
   rw [run_indexAt_slice (P:=P) w t _ _ _ k n (by rw [XV ht];exact ht),if_pos (by rw [hn];exact hix),XV ht,Zy hinf,Result.andThen_ok,hsz,Addr.add_lit,Nat.zero_add,Nat.add_zero]
  ·rw [hτ] at hr
   cases hr
   rfl
 ·rename_i ty q k n hty
  obtain ⟨e,ht,hty⟩:=QcG hty
  split at h
  case h_2=>cases h
  rename_i ty' xs' hb
  split at h
  case h_2=>cases h
  rename_i xs hxs
  obtain ⟨h0,h2⟩:=Qn h
  have hlen:=castL?_len hxs
  rw [hlen] at h0
  have e1:ty'=ty:=(castL?_eq hxs).1
  clear hxs h
  subst e1
  have hix:=Vr.1 h0
  obtain ⟨hN,hv⟩:=hx.dr_inv
  obtain ⟨u,bs,hδ,a0,cap,hu,hlc,_,_,hcell⟩:=hrel.dpi.has q _ hb
  have hv:=hv _ _ hδ
  simp only [List.cons.injEq,and_true] at hu
  rcases hcell with ⟨h1,_⟩ | ⟨b,o,arr,T,bss,rfl,_,_,_,_,_⟩
  ·simp only at hlc
   exact absurd hix (by omega)
  obtain ⟨m,_,_,hcells,inf,hinf,hsz⟩:=JP hty
  rw [hu] at hv
  subst hv
  refine ⟨_,.pointer (some ⟨b,o+n.toNat*ty'.cells,none⟩),h2,?_,.dq _ _ _ _ _ hN ⟨_,_,rfl⟩ (fun b' o' n' c' bs' hr=>?_),rfl⟩
  ·intro w _
   rw [run_indexAt_slice (P:=P) w t _ _ _ k n (by rw [XV ht];exact ht),if_pos hix,XV ht,Zy hinf,Result.andThen_ok,hsz,Addr.add_lit]
  ·rw [hδ,hu] at hr
   cases hr
   rfl
 ·rename_i d s off k n hty
  split at h
  case h_2=>cases h
  rename_i len e ht
  obtain ⟨h0,hq⟩:=Qn h
  obtain ⟨h1,hq2⟩:=Qn hq
  clear hq h
  simp only [Bool.and_eq_true] at h0
  obtain ⟨inf,hinf⟩:=Option.isSome_iff_exists.1 h0.2
  have hsz:inf.size=1:=by have:=Nat.eq_of_beq_eq_true h0.1;simpa [Program.cellsOf,hinf] using this
  obtain ⟨b,n',rfl,hm⟩:=hx.ptr_inv
  have hix:=Vr.1 h1
  have hel:P.elem t=e:=by simp [Program.elem,ht]
  have hln:P.arrayLen t=len:=by simp [Program.arrayLen,ht]
  refine ⟨_,_,hq2,?_,.rptr _ _ _ _ _ b n' hm,hle⟩
  intro w _
  rw [run_indexAt_array (P:=P) w t _ k n (by rw [hel,hln];exact ht),hln,if_pos hix,hel,Zy hinf,Result.andThen_ok,hsz,Addr.add_lit,Nat.add_comm]
theorem Qpm {s:ByteArray} {i:Nat} (h:i<s.size):(ZE s)[i]? = some (s[i].toNat:Int):=by
 unfold ZE
 rw [List.getElem?_map,List.getElem?_eq_getElem (by simpa using h)]
 rfl
theorem Qvm {t:TypeId} {x i:V} {vx vi:Value} {K:V→Option R} {r:R} (h:Qo9 P t x i K=some r) (hx:RelV M x vx) (hle:x.le dp=true) (hi:RelV M i vi):Eh P M w dp K r (Instr.index t vx vi):=by
 unfold Qo9 at h
 split at h
 case h_3=>cases h
 case h_2 =>
  rename_i len e cs k n ht
  split at h
  case h_2=>cases h
  rename_i ty hty
  split at h
  case h_2=>cases h
  rename_i xs hxs
  obtain ⟨h0,hq⟩:=Qn h
  obtain ⟨h1,hq2⟩:=Qn hq
  clear hq h
  simp only [Bool.and_eq_true] at h0
  obtain ⟨⟨⟨⟨⟨k0,k1⟩,k2⟩,k3⟩,k4⟩,k5⟩:=h0
  obtain ⟨inf,hinf⟩:=Option.isSome_iff_exists.1 k3
  have hsz:inf.size=1:=by have:=Nat.eq_of_beq_eq_true k2;simpa [Program.cellsOf,hinf] using this
  have hln:=Nat.eq_of_beq_eq_true k0
  obtain ⟨rfl,_⟩:=hi.int_inv
  obtain ⟨arr,rfl,hl⟩:=hx.aggL
  have hix:=Vr.1 h1
  rw [hln] at hix
  obtain ⟨v,u,q1,q2,q3⟩:=QnE (w:=w) (Qwg k1 hxs k4 k5 h1 hq2) hl hle
  refine ⟨v,u,q1,fun w' hw'=>?_,q3⟩
  rw [← q2 w' hw']
  simp [Instr.index,run_underlying ht,asIntOf,hix.1,hix.2,Zy hinf,hsz]
 rename_i _ s k n ht
 obtain ⟨h0,h⟩:=Qn h
 obtain ⟨bs,rfl,rfl,_⟩:=hx.str_inv
 obtain ⟨rfl,_⟩:=hi.int_inv
 have h1:=Vr.1 h0
 rw [Uj] at h1
 have hlt:n.toNat<bs.size:=by omega
 have hr:=Qqy (d:=(0:Int)) h0
 rw [Qpm hlt] at hr
 simp only [Option.some.injEq] at hr
 rw [← hr] at h
 refine GivesFlat.l (GivesFlat.int h ?_ (Qwf _)) dp
 intro w
 rw [run_index_string w t bs k n ht,dif_pos h1]
theorem QrL {a:Int} {b c:Nat} (h:a≤(b:Int)) (h':b≤c):a≤(c:Int):=by omega
theorem QnF {a b:Int} (_:0≤a) (h':a≤b):a≤(b.toNat:Int):=by omega
theorem Qmv {n:Nat} {lo hi:Option V} {vlo vhi:Option Value} {K:Int→Int→Option R} {r:R} (h:Qgz n lo hi K=some r) (hl:∀ x,lo=some x→∃ v,vlo=some v∧RelV M x v) (hl0:lo=none→vlo=none)
  (hh:∀ x,hi=some x→∃ v,vhi=some v∧RelV M x v) (hh0:hi=none→vhi=none):∃ l h':Int,K l h'=some r∧0≤l∧l≤h'∧h'≤(n:Int)∧∀ (isSlice:Bool) (cap:Nat),n≤cap→∀ w,
   (Instr.sliceBounds isSlice n cap vlo vhi none).run P w=.ok (l.toNat,h'.toNat,cap) w:=by
 unfold Qgz at h
 split at h
 ·obtain rfl:=hl0 rfl
  obtain rfl:=hh0 rfl
  refine ⟨0,n,h,by omega,by omega,by omega,fun _ cap hc=>?_⟩
  simp [Instr.sliceBounds]
 ·obtain ⟨v,rfl,hv⟩:=hl _ rfl
  obtain rfl:=hh0 rfl
  obtain ⟨rfl,_⟩:=hv.int_inv
  obtain ⟨h0,h⟩:=Qn h
  simp only [Bool.and_eq_true,decide_eq_true_eq] at h0
  refine ⟨_,n,h,h0.1,h0.2,by omega,fun _ cap hc=>?_⟩
  simp [Instr.sliceBounds,run_sliceBound,h0.1,h0.2]
 ·obtain rfl:=hl0 rfl
  obtain ⟨v,rfl,hv⟩:=hh _ rfl
  obtain ⟨rfl,_⟩:=hv.int_inv
  obtain ⟨h0,h⟩:=Qn h
  simp only [Bool.and_eq_true,decide_eq_true_eq] at h0
  refine ⟨0,_,h,by omega,h0.1,h0.2,fun b cap hc w=>?_⟩
  simp only [Instr.sliceBounds,Sem.run_bind,Sem.run_pure,Result.andThen_ok]
  rw [run_sliceBound _ _ _ _ _ h0.1 (QrL h0.2 hc)]
  rfl
 ·obtain ⟨v,rfl,hv⟩:=hl _ rfl
  obtain ⟨rfl,_⟩:=hv.int_inv
  obtain ⟨v',rfl,hv'⟩:=hh _ rfl
  obtain ⟨rfl,_⟩:=hv'.int_inv
  obtain ⟨h0,h⟩:=Qn h
  obtain ⟨h1,h⟩:=Qn h
  simp only [Bool.and_eq_true,decide_eq_true_eq] at h0 h1
  refine ⟨_,_,h,h1.1,h1.2,h0.2,fun b cap hc w=>?_⟩
  simp only [Instr.sliceBounds,Sem.run_bind,Sem.run_pure,Result.andThen_ok]
  rw [run_sliceBound _ _ _ _ _ h0.1 (QrL h0.2 hc),Result.andThen_ok,run_sliceBound _ _ _ _ _ h1.1 (QnF h1.1 h1.2)]
  rfl
 ·cases h
theorem QrM {α:Type} {xs:List α} {l h:Int} (_:0≤l) (h1:l≤h) (h2:h≤(xs.length:Int)):(cut xs l h).length=h.toNat - l.toNat:=by
 simp [cut];omega
theorem QzT {α:Type} {xs:List α} {l h:Int} {i:Nat} {x:α} (hx:(cut xs l h)[i]? = some x):xs[l.toNat+i]? = some x:=by
 unfold cut at hx
 rw [List.getElem?_drop,List.getElem?_take] at hx
 split at hx
 ·exact hx
 ·cases hx
theorem Qsf {s:ByteArray} (l h:Int):ZE (s.extract l.toNat h.toNat)=cut (ZE s) l h:=by
 unfold ZE cut
 rw [← List.map_take,← List.map_drop]
 congr 1
 have:(s.extract l.toNat h.toNat).data.toList=(s.data.toList.drop l.toNat).take (h.toNat - l.toNat):=by
  have e:s=ByteArray.mk s.data.toList.toArray:=by cases s;simp
  rw [e,ByteArray.extract_mk]
 rw [this,List.drop_take]
theorem QnG {t e:TypeId} {ty:Ty} (ht:P.underlying t=some (.slice e)) (hsz:P.cellsOf e=ty.cells) (hinf:(P.info? e).isSome=true) {xs:List ty.den} {v:Value} (hd:RelD M.F (.list ty) xs [v]) {lo hi:Option V} {vlo vhi:Option Value}
  {G:Int→Int→Option R} {r:R} (h:Qgz xs.length lo hi G=some r) (hl:∀ x,lo=some x→∃ v,vlo=some v∧RelV M x v) (hl0:lo=none→vlo=none)
  (hh:∀ x,hi=some x→∃ v,vhi=some v∧RelV M x v) (hh0:hi=none→vhi=none):∃ l h' ad cap,G l h'=some r∧0≤l∧l≤h'∧h'≤(xs.length:Int)∧v=.slice ad xs.length cap∧xs.length≤cap ∧
   (∀ w,(Instr.sliceAt t v vlo vhi none).run P w=.ok (.slice (if cap=l.toNat then ad else ad.map (·.add (l.toNat*ty.cells))) (h'.toNat - l.toNat) (cap - l.toNat)) w) ∧
   RelD M.F (.list ty) (cut xs l h') [.slice (if cap=l.toNat then ad else ad.map (·.add (l.toNat*ty.cells))) (h'.toNat - l.toNat) (cap - l.toNat)]:=by
 obtain ⟨l,h',hk,k0,k1,k2,kb⟩:=Qmv (P:=P) h hl hl0 hh hh0
 obtain ⟨ad,cap,hv,h1,h2,h3,h4⟩:=hd
 simp only [List.cons.injEq,and_true] at hv
 subst hv
 obtain ⟨i,hi'⟩:=Option.isSome_iff_exists.1 hinf
 have hs:i.size=ty.cells:=by rw [← hsz];simp [Program.cellsOf,hi']
 have hb:=kb true cap h1
 refine ⟨l,h',ad,cap,hk,k0,k1,k2,rfl,h1,?_,?_⟩
 ·simp [Instr.sliceAt,Instr.slice,run_underlying ht,hb,Zy hi',hs]
 ·have hlen:(cut xs l h').length=h'.toNat - l.toNat:=QrM k0 k1 k2
  refine ⟨_,cap - l.toNat,by rw [hlen],by rw [hlen];omega,by omega,?_,?_⟩
  ·intro hn
   split at hn
   ·omega
   ·cases ad with
    | none=>have:=h3 rfl;omega
    | some ad=>cases hn
  ·intro b hb
   split at hb
   ·rename_i hcl
    subst hb
    intro i x hx
    have hlt:i<(cut xs l h').length:=(List.getElem?_eq_some_iff.1 hx).1
    omega
   ·cases ad with
    | none=>cases hb
    | some ad =>
     obtain ⟨g,o,sp⟩:=ad
     intro i x hx
     obtain ⟨hsp,es,he,hc⟩:=h4 _ rfl _ _ (QzT hx)
     simp only at hsp
     subst hsp
     simp only [Option.map_some,Addr.add_lit,Option.some.injEq] at hb
     subst hb
     refine ⟨rfl,es,he,fun j u hu=>?_⟩
     have:=hc j u hu
     simp only at this ⊢
     rw [show o+l.toNat*ty.cells+i*ty.cells+j=o+(l.toNat+i)*ty.cells+j by rw [Nat.add_mul];omega]
     exact this
theorem QqA {t e:TypeId} {ty:Ty} (ht:P.underlying t=some (.slice e)) (hsz:P.cellsOf e=ty.cells) (hinf:(P.info? e).isSome=true) {xs:List ty.den} {v:Value} (hd:RelD M.F (.list ty) xs [v]) {lo hi:Option V} {vlo vhi:Option Value}
  {K:V→Option R} {r:R} (h:Qgz xs.length lo hi (fun l h=>K (.d (.list ty) (cut xs l h)))=some r) (hl:∀ x,lo=some x→∃ v,vlo=some v∧RelV M x v) (hl0:lo=none→vlo=none)
  (hh:∀ x,hi=some x→∃ v,vhi=some v∧RelV M x v) (hh0:hi=none→vhi=none):GivesFlat P M w K r (Instr.sliceAt t v vlo vhi none):=by
 obtain ⟨l,h',ad,cap,hk,_,_,_,_,_,hrun,hr⟩:=QnG ht hsz hinf hd h hl hl0 hh hh0
 exact ⟨_,_,hk,hrun,.d _ _ _ hr,fun _=>rfl⟩
theorem Qxp {t e:TypeId} {ty:Ty} {tok:Nat} (ht:P.underlying t=some (.slice e)) (hsz:P.cellsOf e=ty.cells) (hinf:(P.info? e).isSome=true) {xs:List ty.den} {v:Value} (hd:RelV M (.own tok ty xs) v) {lo:Option V} {vlo vhi:Option Value}
  {K:V→Option R} {r:R} (h:Qgz xs.length lo none (fun l h=>K (.own tok ty (cut xs l h)))=some r) (hl:∀ x,lo=some x→∃ v,vlo=some v∧RelV M x v) (hl0:lo=none→vlo=none) (hh0:vhi=none):GivesFlat P M w K r (Instr.sliceAt t v vlo vhi none):=by
 have hG:Qgz xs.length lo none (fun l h=>if h=(xs.length:Int) then K (.own tok ty (cut xs l h)) else none)=some r:=by
  unfold Qgz at h ⊢
  split at h<;>first | (cases h;done) | simpa using h | contradiction
 obtain ⟨hdat,hN,hgrow⟩:=hd.own_inv
 obtain ⟨l,h',ad,cap,hk,k0,k1,k2,rfl,hcap,hrun,hr⟩:=QnG (vhi:=vhi) ht hsz hinf hdat hG hl hl0 (fun x hx=>by cases hx) (fun _=>hh0)
 split at hk
 case isFalse=>cases hk
 rename_i hn
 subst hn
 refine ⟨_,_,hk,hrun,.own _ _ _ _ hr hN fun o ho=>?_,fun _=>rfl⟩
 have hlen:(cut xs l (xs.length:Int)).length=xs.length - l.toNat:=by rw [QrM k0 k1 k2];simp
 have hg:=hgrow o ho
 have hln:l.toNat≤xs.length:=by omega
 cases o with
 | none =>
  obtain ⟨hv,h0⟩:=hg
  simp only [Value.slice.injEq] at hv
  obtain ⟨rfl,_,rfl⟩:=hv
  refine ⟨?_,by rw [hlen];omega⟩
  simp only [Int.toNat_natCast,Option.map_none,ite_self,Nat.zero_sub]
  rw [show xs.length - l.toNat=0 by omega]
 | some reg =>
  obtain ⟨z0,a0,hv,had,h1,h2,h3⟩:=hg
  simp only [Value.slice.injEq] at hv
  obtain ⟨rfl,_,rfl⟩:=hv
  rw [hlen]
  refine ⟨z0+l.toNat,if reg.cap - z0=l.toNat then a0 else a0.add (l.toNat*ty.cells),?_,fun hlt=>?_,by omega,by omega,h3⟩
  ·simp only [Int.toNat_natCast,Option.map_some,Nat.sub_sub]
   split<;>rfl
  ·rw [if_neg (by omega),had (by omega),Addr.add_lit,Nat.add_mul]
theorem Qvn {t:TypeId} {x:V} {vx:Value} {lo hi:Option V} {vlo vhi:Option Value} {K:V→Option R} {r:R} (h:QrY P t x lo hi K=some r) (hx:RelV M x vx)
  (hl:∀ x,lo=some x→∃ v,vlo=some v∧RelV M x v) (hl0:lo=none→vlo=none) (hh:∀ x,hi=some x→∃ v,vhi=some v∧RelV M x v) (hh0:hi=none→vhi=none) :
  GivesFlat P M w K r (Instr.sliceAt t vx vlo vhi none):=by
 unfold QrY at h
 split at h
 ·rename_i _ s ht
  obtain ⟨bs,rfl,rfl,hsz⟩:=hx.str_inv
  rw [Uj] at h
  obtain ⟨l,h',hk,k0,k1,k2,kb⟩:=Qmv (P:=P) h hl hl0 hh hh0
  have hb:=kb false bs.size (Nat.le_refl _)
  rw [← Qsf] at hk
  refine ⟨_,_,hk,?_,.mkStr _ ?_,fun _=>rfl⟩
  ·simp [Instr.sliceAt,Instr.slice,run_underlying ht,hb]
  ·have:(bs.extract l.toNat h'.toNat).size≤bs.size:=by
    have:=Uj (bs.extract l.toNat h'.toNat)
    rw [Qsf,QrM k0 k1 (by rw [Uj];exact k2)] at this
    omega
   omega
 ·rename_i _ e t' xs ht
  obtain ⟨h0,h⟩:=Qn h
  simp only [Bool.and_eq_true] at h0
  exact QqA ht (Nat.eq_of_beq_eq_true h0.1) h0.2 hx.list_inv h hl hl0 hh hh0
 ·rename_i _ e tok t' xs ht
  obtain ⟨h0,h⟩:=Qn h
  simp only [Bool.and_eq_true] at h0
  split at h
  ·exact Qxp ht (Nat.eq_of_beq_eq_true h0.1) h0.2 hx h hl hl0 (hh0 rfl)
  ·exact QqA ht (Nat.eq_of_beq_eq_true h0.1) h0.2 hx.own_inv.1 h hl hl0 hh hh0
 ·cases h
theorem QtM {t:TypeId} {x:V} {vx:Value} {lo hi mx:Option V} {vlo vhi:Option Value} {vm:Value} {K:V→Option R} {r:R} (h:QkU P t x lo hi mx K=some r) (hx:RelV M x vx)
  (hl:∀ x,lo=some x→∃ v,vlo=some v∧RelV M x v) (hl0:lo=none→vlo=none) (hh:∀ x,hi=some x→∃ v,vhi=some v∧RelV M x v) (hm:∀ x,mx=some x→RelV M x vm) :
  GivesFlat P M w K r (Instr.sliceAt t vx vlo vhi (some vm)):=by
 unfold QkU at h
 split at h
 case h_2=>cases h
 rename_i e ty xs kh h' km m ht
 obtain ⟨h0,hc⟩:=Qn h
 clear h
 simp only [Bool.and_eq_true,decide_eq_true_eq] at h0
 obtain ⟨⟨hsz,hinf⟩,hmh⟩:=h0
 have hsz:=Nat.eq_of_beq_eq_true hsz
 have hmr:=hm _ rfl
 obtain ⟨vh,rfl,hhr⟩:=hh _ rfl
 obtain ⟨rfl,_⟩:=hhr.int_inv
 obtain ⟨rfl,_⟩:=hmr.int_inv
 have hd:=hx.list_inv
 obtain ⟨ad,cap,hv,h1,h2,h3,h4⟩:=hd
 simp only [List.cons.injEq,and_true] at hv
 subst hv
 obtain ⟨l,q,hk,k0,k1,k2,hb⟩:∃ l q:Int,K (.d (.list ty) (cut xs l q))=some r∧0≤l∧l≤q∧q≤(xs.length:Int)∧∀ w,
   (Instr.sliceBounds true xs.length cap vlo (some (.int kh h')) (some (.int km m))).run P w=.ok (l.toNat,q.toNat,q.toNat) w:=by
  obtain rfl:=show h'=m from hmh
  unfold Qgz at hc
  split at hc
  ·rename_i e1;cases e1
  ·rename_i e1;cases e1
  ·rename_i k1 h1' e1
   cases e1
   obtain rfl:=hl0 rfl
   obtain ⟨h0,hc⟩:=Qn hc
   simp only [Bool.and_eq_true,decide_eq_true_eq] at h0
   refine ⟨0,_,hc,by omega,h0.1,h0.2,fun w=>?_⟩
   simp only [Instr.sliceBounds,Sem.run_bind,Sem.run_pure,Result.andThen_ok]
   rw [run_sliceBound _ _ _ _ _ h0.1 (QrL h0.2 h1),Result.andThen_ok,run_sliceBound _ _ _ _ _ h0.1 (QnF h0.1 (Int.le_refl _))]
   rfl
  ·rename_i k0' l k1 h1' e1
   cases e1
   obtain ⟨v,rfl,hv⟩:=hl _ rfl
   obtain ⟨rfl,_⟩:=hv.int_inv
   obtain ⟨h0,hc⟩:=Qn hc
   obtain ⟨h5,hc⟩:=Qn hc
   simp only [Bool.and_eq_true,decide_eq_true_eq] at h0 h5
   refine ⟨_,_,hc,h5.1,h5.2,h0.2,fun w=>?_⟩
   simp only [Instr.sliceBounds,Sem.run_bind,Sem.run_pure,Result.andThen_ok]
   rw [run_sliceBound _ _ _ _ _ h0.1 (QrL h0.2 h1),Result.andThen_ok,run_sliceBound _ _ _ _ _ h0.1 (QnF h0.1 (Int.le_refl _)),Result.andThen_ok,run_sliceBound _ _ _ _ _ h5.1 (QnF h5.1 h5.2)]
   rfl
  ·cases hc
 obtain ⟨i,hi'⟩:=Option.isSome_iff_exists.1 hinf
 have hs:i.size=ty.cells:=by rw [← hsz];simp [Program.cellsOf,hi']
 refine ⟨_,.slice (if q.toNat=l.toNat then ad else ad.map (·.add (l.toNat*ty.cells))) (q.toNat - l.toNat) (q.toNat - l.toNat),hk,?_,.d _ _ _ ?_,fun _=>rfl⟩
 ·simp [Instr.sliceAt,Instr.slice,run_underlying ht,hb,Zy hi',hs]
 ·have hlen:(cut xs l q).length=q.toNat - l.toNat:=QrM k0 k1 k2
  refine ⟨_,q.toNat - l.toNat,by rw [hlen],by rw [hlen];omega,by omega,?_,?_⟩
  ·intro hn
   split at hn
   ·omega
   ·cases ad with
    | none=>have:=h3 rfl;omega
    | some ad=>cases hn
  ·intro b hb
   split at hb
   ·rename_i hcl
    subst hb
    intro i x hx
    have hlt:i<(cut xs l q).length:=(List.getElem?_eq_some_iff.1 hx).1
    omega
   ·cases ad with
    | none=>cases hb
    | some ad =>
     obtain ⟨g,o,sp⟩:=ad
     intro i x hx
     obtain ⟨hsp,es,he,hc⟩:=h4 _ rfl _ _ (QzT hx)
     simp only at hsp
     subst hsp
     simp only [Option.map_some,Addr.add_lit,Option.some.injEq] at hb
     subst hb
     refine ⟨rfl,es,he,fun j u hu=>?_⟩
     have:=hc j u hu
     simp only at this ⊢
     rw [show o+l.toNat*ty.cells+i*ty.cells+j=o+(l.toNat+i)*ty.cells+j by rw [Nat.add_mul];omega]
     exact this
theorem Qxq {t ty:TypeId} {x:V} {vx:Value} {K:V→Option R} {r:R} (h:Qu6 P st t x K=some r) (hrel:Rel P base w0 dp st θ M w) (hx:RelV M x vx):GivesFlat P M w K r (Builtin.len_ #[t] ty #[vx]):=by
 have big:∀ n:Nat,n≤maxLen→inK .i64 (n:Int)=true:=by
  intro n hn
  rw [VZ,WS,Ui]
  unfold maxLen at hn
  omega
 have lst:∀ (e:TypeId) (ty':Ty) (xs:List ty'.den),P.underlying t=some (.slice e)→RelD M.F (.list ty') xs [vx]→K (.d (.int .i64) (xs.length:Int))=some r→GivesFlat P M w K r (Builtin.len_ #[t] ty #[vx]):=by
  intro e ty' xs ht hd h
  obtain ⟨ad,cap,hv,h1,h2,_,_⟩:=hd
  simp only [List.cons.injEq,and_true] at hv
  subst hv
  exact .int h (fun w=>run_len_slice w t ty _ _ _ (by rw [XV ht];exact ht)) (big _ (Nat.le_trans h1 h2))
 unfold Qu6 at h
 split at h
 ·obtain ⟨bs,rfl,rfl,hsz⟩:=hx.str_inv
  split at h
  case h_2=>cases h
  rename_i ht
  rw [Uj] at h
  exact .int h (fun w=>run_len_string w t ty bs ht) (big _ (by unfold maxLen;omega))
 ·split at h
  case h_2=>cases h
  rename_i ht
  exact lst _ _ _ ht hx.list_inv h
 ·split at h
  case h_2=>cases h
  rename_i ht
  exact lst _ _ _ ht hx.own_inv.1 h
 ·split at h
  case h_2=>cases h
  rename_i e ht
  cases hx with
  | nils=>exact .int (x:=0) h (fun w=>run_len_slice w t ty _ _ _ (by rw [XV ht];exact ht)) (by decide)
 ·split at h
  case h_2=>cases h
  rename_i e ty' xs ht hb
  cases hx with
  | msl d s b n hm hn =>
   have hd:=hrel.deep_le hm
   obtain ⟨b',T,arr,hm',_⟩:=hrel.rows hd hb
   rw [hm] at hm'
   simp only [Option.some.injEq,Prod.mk.injEq] at hm'
   obtain ⟨rfl,rfl⟩:=hm'
   exact .int h (fun w=>run_len_slice w t ty _ _ _ (by rw [XV ht];exact ht)) (big _ hn)
 ·split at h
  case h_2=>cases h
  rename_i e ty' xs ht hb
  obtain ⟨h1,h2,h3⟩:=hrel.rw _ _ hb
  obtain ⟨o,ho⟩:=hrel.live _ h1
  obtain ⟨_,hv⟩:=hx.raw_inv
  have hv:=hv o ho
  cases o with
  | none =>
   obtain rfl:=show xs=[] from h2 ho
   obtain rfl:=show vx=_ from hv
   exact .int (x:=0) h (fun w=>run_len_slice w t ty _ _ _ (by rw [XV ht];exact ht)) (by decide)
  | some reg =>
   obtain ⟨k1,_⟩:=h3 reg ho
   obtain ⟨_,_,h6⟩:=hrel.tok _ _ ho
   obtain ⟨_,q2,q3,_⟩:=h6 reg rfl
   obtain rfl:=show vx=_ from hv
   have k1:reg.n=xs.length:=k1
   rw [k1] at q2 ⊢
   exact .int h (fun w=>run_len_slice w t ty _ _ _ (by rw [XV ht];exact ht)) (big _ (Nat.le_trans q2 q3))
 ·rename_i q
  split at h
  case h_2=>cases h
  rename_i e ty' xs ht hb
  obtain ⟨hN,hv⟩:=hx.dr_inv
  obtain ⟨u,bs,hδ,a0,cap,hu,hlc,hcm,_,hcell⟩:=hrel.dpi.has q _ hb
  have hv:=hv _ _ hδ
  simp only [List.cons.injEq,and_true] at hu
  rw [hu] at hv
  subst hv
  exact .int h (fun w=>run_len_slice w t ty _ _ _ (by rw [XV ht];exact ht)) (big _ (Nat.le_trans hlc hcm))
 ·cases h
theorem QlQ {vs:List V} {vx:Value} {i:Nat} {v:V} (hx:RelV M (.tup vs) vx) (hle:V.le.leL dp vs=true) (hv:vs[i]? = some v):∃ u,(∀ w,(Instr.extract vx i).run P w=.ok u w)∧RelV M v u∧v.le dp=true:=by
 cases hx with
 | tup cs arr hl ha =>
  have hlt:i<arr.size:=by rw [← hl];exact (List.getElem?_eq_some_iff.1 hv).1
  obtain ⟨u,hu⟩:∃ u,arr[i]? = some u:=⟨_,Array.getElem?_eq_getElem hlt⟩
  refine ⟨u,?_,ha i v u hv hu,VT hle hv⟩
  simp [Instr.extract,hu]
end
end Go.Ab
