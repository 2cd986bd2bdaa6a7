import Derived.Test.YtkabjoifaffddaaGreatGenAff
import Derived.Test.YtkabjoifaffddaaGreatPlain1
namespace Go.Ab
open Go.Proofs
noncomputable section
theorem Qnn (s:List Int):Gu s=some (QhY s):=by
 induction s with
 | nil=>rfl
 | cons e r ih =>
  simp only [Gu,ih,QhY,List.all_cons,QrU]
  grind
theorem Qp7 {s:List Int} (h:s.length≤maxLen):Gb s=some (QhY s):=by
 rw [Gb,Qw h,Qnn]
theorem QoC (s:List Int):Xb s=some (QhY s):=by
 induction s with
 | nil=>rfl
 | cons e r ih =>
  simp only [Xb,ih,QhY,List.all_cons,QrU]
  grind
theorem QrA {s:List Int} (lo hi:Int) (h:s.length≤maxLen):GV s lo hi=some (QgQ s lo hi):=by
 rw [GV,Qw h,QoC,QgQ,QhY]
 grind
theorem Qfc (x:Int):Vu x=QhW x:=by unfold Vu QhW;grind
theorem Ql2 (x:Int):HD x=QhW x:=by unfold HD QhW;grind
theorem QiO (x:Int):GS x=QgP x:=by unfold GS QgP;grind
theorem Qs8 (x:Int):WA x=QgP x:=by unfold WA QgP;grind
theorem Qhr (x:Int):Ge x=QhX x:=by unfold Ge QhX;rw [Qs8,Ql2];grind
theorem QoD (s:List Int):Yw s=some (s.all QhX):=by
 induction s with
 | nil=>rfl
 | cons e r ih =>
  simp only [Yw,ih,List.all_cons,QhX,QiO,Qfc]
  grind
theorem G1 {s:List Int} (h:s.length≤maxLen):Zc s=some (Jj s):=by
 rw [Zc,Qw h,QoD,Jj]
 simp only [Qfc,inB]
 grind
theorem QoE (s:List Int):Xa s=some (s.all QhX):=by
 induction s with
 | nil=>rfl
 | cons e r ih =>
  simp only [Xa,ih,List.all_cons,Qhr]
  grind
theorem G2 {s:List Int} (h:s.length≤maxLen):Zd s=some (Jj s):=by
 rw [Zd,Qw h,QoE,Jj]
 simp only [Ql2,inB]
 cases s with
 | nil=>rfl
 | cons x s=>grind
theorem QrB (x:Int) (hx:x≤62):∀ (m:Nat) (k:Int),0≤k→k≤x→x - k<m→GJ x m (2 ^ k.toNat) k=some (2 ^ x.toNat):=by
 intro m
 induction m with
 | zero=>intro k _ _ h;omega
 | succ m ih =>
  intro k h0 hk hm
  rw [GJ]
  by_cases h:k<x
  ·have e:(2:Int) ^ k.toNat*2=2 ^ (k+1).toNat:=by
    rw [show (k+1).toNat=k.toNat+1 by omega,Int.pow_succ]
   have hb:(2:Int) ^ (k+1).toNat≤2 ^ 62:=by
    have:=Nat.pow_le_pow_right (n:=2) (by omega) (show (k+1).toNat≤62 by omega)
    exact_mod_cast this
   have hp:(0:Int)<2 ^ (k+1).toNat:=Int.pow_pos (by omega)
   rw [decide_eq_true h,e,QjL (by omega),QjL (by omega)]
   exact ih _ (by omega) (by omega) (by omega)
  ·have:k=x:=by omega
   subst this
   rw [decide_eq_false h];rfl
theorem Ql3 {x:Int} (h0:0≤x) (hx:x≤62):UO x=some (Qzo x):=by
 refine XD ⟨x.toNat+1,fun m hm=>?_⟩
 have:=QrB x hx m 0 (by omega) h0 (by omega)
 exact this
theorem Qs9 {a:Atm} (h0:0≤a.2.1) (h1:a.2.1≤9223372036854775807) (h:a.2.1.tmod 64≤32):Ws a=some (a.2.1.tdiv 64,Qzo (32 - a.2.1.tmod 64)):=by
 have hm:=Int.tmod_nonneg 64 h0
 have hd:a.2.1.tdiv 64=a.2.1 / 64:=Int.tdiv_eq_ediv_of_nonneg h0
 rw [Ws,QjL (by omega),Ql3 (by omega) (by omega),QjL (by omega)]
 rfl
theorem Qdq {a:Atm} (hw:wfD QN a):YY a=some (Hi a):=by
 have hw2:inK .i64 a.1=true∧inK .i64 a.2.1=true∧wfD .str a.2.2.1∧wfD .str a.2.2.2:=hw
 have h1:=QaJ hw2.2.2.1
 have h2:=QaJ hw2.2.2.2
 have hn:=hw2.2.1
 rw [VZ,WS,Ui] at hn
 have hp:UO 32=some 4294967296:=Ql3 (x:=32) (by omega) (by omega)
 have hb:=Qs9 (a:=a)
 have hd:0≤a.2.1→a.2.1.tdiv 64=a.2.1 / 64:=fun h=>Int.tdiv_eq_ediv_of_nonneg h
 have hw1:IntKind.wrap .i64 (4294967296 - 1)=4294967295:=QjL (by omega)
 have hpos:Qzo (32 - a.2.1.tmod 64)≠0:=by unfold Qzo;exact Int.ne_of_gt (Int.pow_pos (by omega))
 have hwr:0≤a.2.1→IntKind.wrap .i64 (a.2.1.tdiv 64)=a.2.1.tdiv 64:=fun h=>QjL (by have:=hd h;omega)
 simp only [YY,JV,HK,Qp7 h1,G1 h2,hp,Option.bind_some,hw1]
 unfold Hi QgQ QhY
 by_cases k6:a.1=6
 ·simp only [k6]
  by_cases h0:a.2.1<0
  ·have:¬ 0≤a.2.1:=by omega
   grind
  ·have h0':0≤a.2.1:=by omega
   rw [hwr h0']
   by_cases h32:a.2.1.tmod 64≤32
   ·rw [hb h0' hn.2 h32]
    simp only [Option.bind_some]
    grind
   ·grind
 ·clear hb hd hpos hwr hp hw hw2
  simp only [k6,decide_false,cond_false,Qn0,QvQ,WV,QaK]
  grind (splits:=30)
theorem EV {a:Atm} (hw:wfD QN a):JQ a=some (Hi a):=by
 have hw2:inK .i64 a.1=true∧inK .i64 a.2.1=true∧wfD .str a.2.2.1∧wfD .str a.2.2.2:=hw
 have h1:=QaJ hw2.2.2.1
 have h2:=QaJ hw2.2.2.2
 have hn:=hw2.2.1
 rw [VZ,WS,Ui] at hn
 have hd:0≤a.2.1→a.2.1.tdiv 64=a.2.1 / 64:=fun h=>Int.tdiv_eq_ediv_of_nonneg h
 have hwr:0≤a.2.1→IntKind.wrap .i64 (a.2.1.tdiv 64)=a.2.1.tdiv 64:=fun h=>QjL (by have:=hd h;omega)
 have hmm:0≤a.2.1→0≤a.2.1.tmod 64:=fun h=>Int.tmod_nonneg 64 h
 simp only [JQ,HP,HO,QrA _ _ h1,G2 h2,Option.bind_some]
 unfold Hi
 by_cases k6:a.1=6
 ·simp only [k6]
  by_cases h0:a.2.1<0
  ·have:¬ 0≤a.2.1:=by omega
   grind
  ·have h0':0≤a.2.1:=by omega
   have hm0:=hmm h0'
   rw [hwr h0']
   by_cases h32:a.2.1.tmod 64≤32
   ·have hws:IntKind.wrap .i64 (32 - a.2.1.tmod 64)=32 - a.2.1.tmod 64:=QjL (by omega)
    have hmn:min (32 - a.2.1.tmod 64).toNat 64=(32 - a.2.1.tmod 64).toNat:=by omega
    have hb:(2:Int) ^ (32 - a.2.1.tmod 64).toNat≤2 ^ 32:=by
     have:=Nat.pow_le_pow_right (n:=2) (by omega) (show (32 - a.2.1.tmod 64).toNat≤32 by omega)
     exact_mod_cast this
    have hp:(0:Int)<2 ^ (32 - a.2.1.tmod 64).toNat:=Int.pow_pos (by omega)
    rw [hws,hmn,Int.one_mul,QjL (by omega)]
    unfold Qzo
    have hp2:(2:Int) ^ (32 - a.2.1.tmod 64).toNat≠0:=by omega
    generalize (2:Int) ^ (32 - a.2.1.tmod 64).toNat=q at *
    grind
   ·grind
 ·grind
theorem EW (a b:Int):Z3 a b=HB a b:=by unfold Z3 HB;rfl
theorem Qno (a b:List Int) (ha:bytesL a) (hb:bytesL b):∀ (r:List Int) (k:Nat),r=a.drop k→k≤a.length→k≤b.length→Va a b r k=some (QdX r (b.drop k)):=by
 intro r
 induction r with
 | nil =>
  intro k hr hk hkb
  have h1:=Qes hr
  rw [Va,EW,QwS,List.length_drop]
  unfold HB
  grind
 | cons e r ih =>
  intro k hr hk hkb
  obtain ⟨h1,_,h2⟩:=Qaq (d:=0) hr
  have h3:(e::r).length=a.length - k:=by rw [hr,List.length_drop]
  rw [Va]
  by_cases h:k<b.length
  ·have hg:=List.getElem?_eq_getElem h
   have he:=ha e (List.mem_of_mem_drop (hr ▸ List.mem_cons_self))
   have hbk:=hb b[k] (List.getElem_mem h)
   rw [QsT hg,YS h,decide_eq_true (by omega),List.drop_eq_getElem_cons h,QjL (by omega),QjL (by omega),EW,ih (k+1) h2 (by omega) (by omega)]
   simp only [QdX,cond_true]
   by_cases hc:e=b[k]
   ·simp [hc]
   ·simp [hc]
  ·rw [decide_eq_false (by omega),List.drop_eq_nil_of_le (by omega),QvP,h3]
   simp only [cond_false,EW,HB]
   grind
theorem Js {a b:List Int} (ha:wfD .str a) (hb:wfD .str b):QW a b=some (Ga a b):=by
 rw [QW,Qw (QaJ ha),Qno a b (Qk6 ha) (Qk6 hb) a 0 rfl (by omega) (by omega),List.drop_zero,QqK]
theorem QvV {a b:Atm} (ha:wfD QN a) (hb:wfD QN b):QaY a b=some (Qk7 a b):=by
 have ha2:inK .i64 a.1=true∧inK .i64 a.2.1=true∧wfD .str a.2.2.1∧wfD .str a.2.2.2:=ha
 have hb2:inK .i64 b.1=true∧inK .i64 b.2.1=true∧wfD .str b.2.2.1∧wfD .str b.2.2.2:=hb
 rw [QaY,Js ha2.2.2.1 hb2.2.2.1,Js ha2.2.2.2 hb2.2.2.2]
 simp only [EW,Qk7,Option.bind_some]
 grind
theorem QoF (a b:Int):YE a b=HB a b:=by
 unfold YE YZ HB
 simp
theorem QkA (a b:List Int):ZK a b=Ga a b:=by
 unfold ZK JL Ga
 simp
theorem QrC (a b:Atm):UH a b=some (Qk7 a b):=by
 rw [UH,Qa5,Qw (by simp [maxLen])]
 simp only [H2,QoF,QkA,Qk7]
 have h:=QqN a.2.2.1 b.2.2.1
 grind
theorem Qfd:∀ (l:List (List Int)) (k:Nat),(∀ s∈l,s.length≤maxLen)→Jq l k=some (l.all Jj)
 | [],k,_=>rfl
 | s::l,k,h=>by
  rw [Jq,G2 (h s (by simp)),Qfd l (k+1) (fun x hx=>h x (by simp [hx])),List.all_cons]
  simp only [Option.bind_some,QBE]
  grind
theorem Qp8 {l:List (List Int)} (h:wfD (.list .str) l):H4 l=some (l.all Jj):=by
 rw [H4,Qw h.1,Qfd l 0 fun s hs=>QaJ (h.2 s hs)]
theorem Qhs (xs:List (List Int)) (hl:xs.length≤maxLen):∀ (r:List (List Int)) (k:Nat),r=xs.drop k→Gg xs r k=some (QM Zn (Zp xs k) r)
 | [],k,_=>by rw [ZD];rfl
 | e::r,k,h=>by
  obtain ⟨h1,h2,h3,h4,h5⟩:=VL (d:=Ty.dflt .str) hl h
  rw [Gg,Qhs xs hl r (k+1) h1,h2,Hb]
  rcases h5 with rfl | ⟨h5,h6,h7,_⟩
  ·simp [Zp]
  ·rw [h6,h7];grind
theorem Qta {l:List (List Int)} (h:l.length≤maxLen):WC l=some (Q9 Zn l):=by
 rw [WC,Qw h,Qhs l h l 0 rfl];rfl
theorem Qcl (a:Atm):Jl a=decide (a=(0,0,[],[])):=by unfold Jl;exact decide_eq_decide.2 Iff.rfl
theorem QbG (xs:List Atm) (hw:wfD (.list QN) xs):∀ (r:List Atm) (k:Nat),r=xs.drop k→Yb xs r k=some (r.all Hi&&QM QgR (Zp xs k) r)
 | [],k,_=>by rw [ZD];rfl
 | e::r,k,h=>by
  obtain ⟨h1,h2,h3,h4,h5⟩:=VL (d:=Ty.dflt QN) hw.1 h
  rw [Yb,EV (hw.2 e h4),QbG xs hw r (k+1) h1,h2,Hb]
  simp only [Option.bind_some,QrC,QsZ,List.all_cons]
  rcases h5 with rfl | ⟨h5,h6,h7,_⟩
  ·simp [Zp];grind
  ·rw [h6,h7];grind
theorem QlK {l:List Atm} (h:wfD (.list QN) l):Xc l=some (l.all Hi&&Q9 QgR l):=by
 rw [Xc,Qw h.1,QbG l h l 0 rfl];rfl
theorem Qfe:∀ (l:List Atm) (k:Nat),(∀ a∈l,wfD QN a)→Jr l k=some (l.all Hi)
 | [],k,_=>rfl
 | s::l,k,h=>by
  rw [Jr,EV (h s (by simp)),Qfe l (k+1) (fun x hx=>h x (by simp [hx])),List.all_cons]
  simp only [Option.bind_some,QBE]
  grind
theorem Qp9 {v:Val} (hw:wfD Vi v):W2 v=some (Qed v):=by
 have hw2:inK .i64 v.1=true∧wfD QN v.2.1∧wfD (.list QN) v.2.2.1∧wfD (.list .str) v.2.2.2:=hw
 rw [W2,EV hw2.2.1,QlK hw2.2.2.1,Qp8 hw2.2.2.2,Qta hw2.2.2.2.1,Qw hw2.2.2.1.1,Qfe _ _ hw2.2.2.1.2]
 simp only [Qcl,Option.bind_some,Qed,Qn0,QvQ,WV,QaK]
 clear hw hw2
 grind (splits:=30)
theorem Qff (v:Val) (hw:wfD (.list .str) v.2.2.2):∀ (r:List (List Int)) (k:Nat),r=v.2.2.2.drop k→YJ v r k=some (r.all Jj&&QM Zn (Zp v.2.2.2 k) r)
 | [],k,_=>by rw [ZD];rfl
 | e::r,k,h=>by
  obtain ⟨h1,h2,h3,h4,h5⟩:=VL (d:=Ty.dflt .str) hw.1 h
  rw [YJ,G1 (QaJ (hw.2 e h4)),Qff v hw r (k+1) h1,h2,Hb]
  simp only [Option.bind_some,List.all_cons]
  rcases h5 with rfl | ⟨h5,h6,h7,h8⟩
  ·simp [Zp];grind
  ·rw [h6,h7,Js (hw.2 _ h8) (hw.2 _ h4)]
   simp only [Option.bind_some,Qar]
   grind
theorem Qfg (v:Val) (hw:wfD (.list QN) v.2.2.1) (hn:wfD (.list .str) v.2.2.2):∀ (r:List Atm) (k:Nat),r=v.2.2.1.drop k→Jz v r k =
  some (r.all Hi&&(bif decide (v.1=2) then QM QgR (Zp v.2.2.1 k) r&&decide (v.2.2.2.length=0) else decide (v.2.2.2.length=v.2.2.1.length)&&v.2.2.2.all Jj&&Q9 Zn v.2.2.2))
 | [],k,_=>by
  rw [Jz,ZD,Qw hn.1,Qff v hn v.2.2.2 0 rfl,Q9,ZI]
  simp only [List.all_nil,Qn0,QvQ,WV,QaK]
  grind (splits:=30)
 | e::r,k,h=>by
  obtain ⟨h1,h2,h3,h4,h5⟩:=VL (d:=Ty.dflt QN) hw.1 h
  rw [Jz,Qdq (hw.2 e h4),Qfg v hw hn r (k+1) h1,h2,Hb]
  simp only [Option.bind_some,List.all_cons]
  rcases h5 with rfl | ⟨h5,h6,h7,h8⟩
  ·simp [Zp];grind
  ·rw [h6,h7,QvV (hw.2 _ h8) (hw.2 _ h4)]
   simp only [Option.bind_some,QsZ]
   grind
theorem Qqa {v:Val} (hw:wfD Vi v):WZ v=some (Qed v):=by
 have hw2:inK .i64 v.1=true∧wfD QN v.2.1∧wfD (.list QN) v.2.2.1∧wfD (.list .str) v.2.2.2:=hw
 rw [WZ]
 simp only [Hq]
 rw [Qdq hw2.2.1,Qw hw2.2.2.1.1,Qfg v hw2.2.2.1 hw2.2.2.2 v.2.2.1 0 rfl,ZI]
 have e:(@decide (v.2.1=(0,0,([]:List Int),([]:List Int))) (Ty.decEq QN v.2.1 (0,0,([]:List Int),([]:List Int))))=decide (v.2.1=(0,0,[],[])):=decide_eq_decide.2 Iff.rfl
 simp only [e,Option.bind_some,Qed,Q9,Qn0,QvQ,WV,QaK]
 clear hw hw2 e
 grind (splits:=30)
theorem QB3 {k:Int} (h0:0≤k) (h1:k≤2199023255552):IntKind.wrap .i64 k=k:=Qgk (by omega)
theorem Qzt {k:Int} (h0:0≤k) (h1:k≤1099511627776):G0 k=some (QgN k):=Qs7 k h0 (by unfold ZT;omega)
theorem Qzu (b:Bool):(b != b)=false:=by cases b<;>rfl
theorem QuM {α:Type} (f:α→Int→Int × α):∀ (l:List α) (k:Int),(QaG f l k).2.length=l.length
 | [],_=>rfl
 | x::l,k=>by rw [QaG];simp [QuM f l]
end
end Go.Ab
namespace Go.Ab
section
variable {α:Type} [DecidableEq α]
abbrev Xq (α:Type):=α × α × Bool
def wt (b:Bool):Nat:=if b then 1 else 0
def XT (E:List (Xq α)) (L:α→Nat):Prop:=∀ e∈E,L e.2.1+wt e.2.2≤L e.1
def QrD (f:α→Nat) (i:α) (v:Nat):α→Nat:=fun x=>if x=i then v else f x
theorem H7 (f:α→Nat) (i:α) (v:Nat):QrD f i v i=v:=if_pos rfl
theorem Uz (f:α→Nat) {i x:α} (v:Nat) (h:x≠i):QrD f i v x=f x:=if_neg h
def Vo (n:Nat):List (Xq α)→(α→Nat)→Bool→Option ((α→Nat) × Bool) | [],lv,t=>some (lv,t) | e::r,lv,t=>if n<lv e.2.1+wt e.2.2 then none else if lv e.1<lv e.2.1+wt e.2.2 then Vo n r (QrD lv e.1 (lv e.2.1+wt e.2.2)) true else Vo n r lv t
theorem Qc1 {n:Nat}:∀ {E:List (Xq α)} {lv lv':α→Nat} {t t':Bool},Vo n E lv t=some (lv',t')→∀ x,lv x≤lv' x
 | [],lv,lv',t,t',h,x=>by
  simp only [Vo,Option.some.injEq,Prod.mk.injEq] at h
  rw [h.1];exact Nat.le_refl _
 | e::r,lv,lv',t,t',h,x=>by
  simp only [Vo] at h
  split at h
  ·cases h
  ·split at h
   ·rename_i h2
    refine Nat.le_trans ?_ (Qc1 h x)
    by_cases hx:x=e.1
    ·subst hx;rw [H7];exact Nat.le_of_lt h2
    ·rw [Uz _ _ hx];exact Nat.le_refl _
   ·exact Qc1 h x
theorem Qaj {n:Nat}:∀ {E:List (Xq α)} {lv lv':α→Nat} {t:Bool},Vo n E lv t=some (lv',false)→t=false∧lv'=lv∧XT E lv
 | [],lv,lv',t,h=>by
  simp only [Vo,Option.some.injEq,Prod.mk.injEq] at h
  exact ⟨h.2,h.1.symm,fun e he=>by cases he⟩
 | e::r,lv,lv',t,h=>by
  simp only [Vo] at h
  split at h
  ·cases h
  ·split at h
   ·have:=(Qaj h).1
    cases this
   ·rename_i h1 h2
    obtain ⟨k1,k2,k3⟩:=Qaj h
    refine ⟨k1,k2,fun e' he'=>?_⟩
    rcases List.mem_cons.1 he' with rfl | he'
    ·omega
    ·exact k3 e' he'
theorem Qau {n:Nat} {L:α→Nat}:∀ {E:List (Xq α)} {lv:α→Nat} {t:Bool},XT E L→(∀ e∈E,L e.1≤n)→(∀ x,lv x≤L x)→∃ lv' t',Vo n E lv t=some (lv',t')∧∀ x,lv' x≤L x
 | [],lv,t,_,_,h=>⟨lv,t,rfl,h⟩
 | e::r,lv,t,hs,hn,h=>by
  have h1:=hs e List.mem_cons_self
  have h2:=hn e List.mem_cons_self
  have h3:=h e.2.1
  have hs':XT r L:=fun e he=>hs e (List.mem_cons_of_mem _ he)
  have hn':∀ e∈r,L e.1≤n:=fun e he=>hn e (List.mem_cons_of_mem _ he)
  simp only [Vo]
  rw [if_neg (by omega)]
  split
  ·refine Qau hs' hn' fun x=>?_
   by_cases hx:x=e.1
   ·subst hx;rw [H7];omega
   ·rw [Uz _ _ hx];exact h x
  ·exact Qau hs' hn' h
theorem Qnp {n:Nat}:∀ {E:List (Xq α)} {lv lv':α→Nat} {t t':Bool},Vo n E lv t=some (lv',t')→∀ e∈E,lv e.2.1+wt e.2.2≤lv' e.1
 | e0::r,lv,lv',t,t',h,e,he=>by
  simp only [Vo] at h
  split at h
  ·cases h
  ·split at h
   ·rename_i h2
    rcases List.mem_cons.1 he with rfl | he
    ·have:=Qc1 h e.1
     rw [H7] at this
     exact this
    ·refine Nat.le_trans (Nat.add_le_add_right ?_ _) (Qnp h e he)
     by_cases hx:e.2.1=e0.1
     ·rw [hx,H7];exact Nat.le_of_lt h2
     ·rw [Uz _ _ hx];exact Nat.le_refl _
   ·rename_i h2
    rcases List.mem_cons.1 he with rfl | he
    ·have:=Qc1 h e.1
     omega
    ·exact Qnp h e he
theorem Qie {n:Nat}:∀ {E:List (Xq α)} {lv lv':α→Nat},Vo n E lv false=some (lv',true)→∃ e∈E,lv e.1<lv' e.1
 | [],lv,lv',h=>by simp [Vo] at h
 | e::r,lv,lv',h=>by
  simp only [Vo] at h
  split at h
  ·cases h
  ·split at h
   ·rename_i h2
    have:=Qc1 h e.1
    rw [H7] at this
    exact ⟨e,List.mem_cons_self,Nat.lt_of_lt_of_le h2 this⟩
   ·obtain ⟨e',h1,h2⟩:=Qie h
    exact ⟨e',List.mem_cons_of_mem _ h1,h2⟩
theorem Xw {n:Nat}:∀ {E:List (Xq α)} {lv lv':α→Nat} {t t':Bool},Vo n E lv t=some (lv',t')→(∀ x,lv x≤n)→∀ x,lv' x≤n
 | [],lv,lv',t,t',h,hb,x=>by
  simp only [Vo,Option.some.injEq,Prod.mk.injEq] at h
  rw [← h.1];exact hb x
 | e::r,lv,lv',t,t',h,hb,x=>by
  simp only [Vo] at h
  split at h
  ·cases h
  ·rename_i h1
   split at h
   ·refine Xw h (fun x=>?_) x
    by_cases hx:x=e.1
    ·subst hx;rw [H7];omega
    ·rw [Uz _ _ hx];exact hb x
   ·exact Xw h hb x
def Wh (N:List α) (f:α→Nat):Nat:=(N.map f).sum
omit [DecidableEq α] in
theorem QyG {f g:α→Nat}:∀ {N:List α},(∀ x∈N,f x≤g x)→Wh N f≤Wh N g
 | [],_=>Nat.le_refl _
 | a::N,h=>by
  simp only [Wh,List.map_cons,List.sum_cons]
  have:=QyG (N:=N) (f:=f) (g:=g) fun x hx=>h x (List.mem_cons_of_mem _ hx)
  simp only [Wh] at this
  have:=h a List.mem_cons_self
  omega
omit [DecidableEq α] in
theorem QoG {f g:α→Nat} {a:α}:∀ {N:List α},(∀ x∈N,f x≤g x)→a∈N→f a<g a→Wh N f<Wh N g
 | b::N,h,ha,hlt=>by
  simp only [Wh,List.map_cons,List.sum_cons]
  have hb:=h b List.mem_cons_self
  rcases List.mem_cons.1 ha with rfl | ha
  ·have:=QyG (N:=N) (f:=f) (g:=g) fun x hx=>h x (List.mem_cons_of_mem _ hx)
   simp only [Wh] at this
   omega
  ·have:=QoG (N:=N) (fun x hx=>h x (List.mem_cons_of_mem _ hx)) ha hlt
   simp only [Wh] at this
   omega
omit [DecidableEq α] in
theorem Qtb {f:α→Nat} {n:Nat}:∀ {N:List α},(∀ x,f x≤n)→Wh N f≤N.length*n
 | [],_=>Nat.zero_le _
 | a::N,h=>by
  simp only [Wh,List.map_cons,List.sum_cons,List.length_cons]
  have:=Qtb (N:=N) h
  simp only [Wh] at this
  have:=h a
  rw [Nat.succ_mul]
  omega
omit [DecidableEq α] in
theorem Qqb {E:List (Xq α)} (N:List α) (h:∃ L,XT E L):∃ L,XT E L∧∀ L',XT E L'→Wh N L≤Wh N L':=by
 obtain ⟨L,hL⟩:=h
 generalize hs:Wh N L=s
 induction s using Nat.strongRecOn generalizing L with
 | ind s ih =>
  by_cases hm:∀ L',XT E L'→Wh N L≤Wh N L'
  ·exact ⟨L,hL,hm⟩
  ·have:∃ L',XT E L'∧Wh N L'<Wh N L:=by
    false_or_by_contra
    rename_i hc
    refine hm fun L' hL'=>?_
    rcases Nat.lt_or_ge (Wh N L') (Wh N L) with h1 | h1
    ·exact (hc ⟨L',hL',h1⟩).elim
    ·exact h1
   obtain ⟨L',h1,h2⟩:=this
   exact ih _ (by omega) L' h1 rfl
omit [DecidableEq α] in
theorem Qht {p q:α→Bool} {a:α}:∀ {N:List α},(∀ x∈N,p x=true→q x=true)→a∈N→p a=false→q a=true→(N.filter p).length<(N.filter q).length
 | b::N,h,ha,hp,hq=>by
  have hle:∀ {N:List α},(∀ x∈N,p x=true→q x=true)→(N.filter p).length≤(N.filter q).length:=by
   intro N
   induction N with
   | nil=>intro _;exact Nat.le_refl _
   | cons c N ih =>
    intro h
    have h1:=ih fun x hx=>h x (List.mem_cons_of_mem _ hx)
    have h2:=h c List.mem_cons_self
    simp only [List.filter_cons]
    cases hpc:p c with
    | true=>rw [h2 hpc];simp;omega
    | false =>
     cases q c with
     | true=>simp;omega
     | false=>simpa using h1
  rcases List.mem_cons.1 ha with rfl | ha
  ·have:=hle (N:=N) fun x hx=>h x (List.mem_cons_of_mem _ hx)
   simp only [List.filter_cons,hp,hq]
   simp
   omega
  ·have:=Qht (N:=N) (fun x hx=>h x (List.mem_cons_of_mem _ hx)) ha hp hq
   have h2:=h b List.mem_cons_self
   simp only [List.filter_cons]
   cases hpc:p b with
   | true=>rw [h2 hpc];simp;omega
   | false =>
    cases q b with
    | true=>simp;omega
    | false=>simpa using this
omit [DecidableEq α] in
theorem QvW {E:List (Xq α)} {N:List α} (hE:∀ e∈E,e.1∈N∧e.2.1∈N) {L:α→Nat} (hL:XT E L) (hm:∀ L',XT E L'→Wh N L≤Wh N L'):∀ x∈N,L x≤N.length:=by
 intro x hx
 false_or_by_contra
 rename_i hgt
 let R:α→Nat:=fun x=>(N.filter fun y=>decide (L y<L x)).length
 have hR:XT E R:=by
  intro e he
  have h1:=hL e he
  show R e.2.1+wt e.2.2≤R e.1
  unfold wt at h1 ⊢
  cases hb:e.2.2 with
  | true =>
   rw [hb] at h1
   simp only [if_true] at h1 ⊢
   exact Qht (fun y _ hy=>by simp only [decide_eq_true_eq] at hy ⊢;omega) (hE e he).2 (by simp) (by simp;omega)
  | false =>
   rw [hb] at h1
   simp only [Bool.false_eq_true,if_false,Nat.add_zero] at h1 ⊢
   rcases Nat.eq_or_lt_of_le h1 with h2 | h2
   ·show (N.filter fun y=>decide (L y<L e.2.1)).length≤(N.filter fun y=>decide (L y<L e.1)).length
    rw [h2];exact Nat.le_refl _
   ·exact Nat.le_of_lt (Qht (fun y _ hy=>by simp only [decide_eq_true_eq] at hy ⊢;omega) (hE e he).2 (by simp) (by simp;omega))
 have hmin:XT E fun x=>min (L x) (R x):=by
  intro e he
  have h1:=hL e he
  have h2:=hR e he
  show min (L e.2.1) (R e.2.1)+wt e.2.2≤min (L e.1) (R e.1)
  omega
 have h1:=hm _ hmin
 have hRx:R x≤N.length:=List.length_filter_le _ _
 have h2:Wh N (fun x=>min (L x) (R x))<Wh N L:=QoG (a:=x) (fun y _=>Nat.min_le_left _ _) hx (by show min (L x) (R x)<L x;omega)
 omega
def W4 (n:Nat) (E:List (Xq α)):Nat→(α→Nat)→Option (α→Nat)
 | 0,_=>none
 | k+1,lv=>match Vo n E lv false with
  | none=>none
  | some (lv',true)=>W4 n E k lv'
  | some (lv',false)=>some lv'
theorem QoH {n:Nat} {E:List (Xq α)}:∀ {k:Nat} {lv:α→Nat},(W4 n E k lv).isSome=true→∃ L,XT E L
 | 0,_,h=>by cases h
 | k+1,lv,h=>by
  simp only [W4] at h
  split at h
  ·cases h
  ·exact QoH h
  ·rename_i lv' hp
   exact ⟨lv,(Qaj hp).2.2⟩
theorem QoI {E:List (Xq α)} {N:List α} (hE:∀ e∈E,e.1∈N∧e.2.1∈N) {L:α→Nat} (hL:XT E L) (hm:∀ L',XT E L'→Wh N L≤Wh N L') :
  ∀ (k:Nat) (lv:α→Nat),(∀ x,lv x≤L x)→(N.filter fun x=>decide (lv x≠L x)).length<k→(W4 N.length E k lv).isSome=true
 | 0,_,_,h=>absurd h (Nat.not_lt_zero _)
 | k+1,lv,hlv,hk=>by
  obtain ⟨lv',t',hp,hb⟩:=Qau (n:=N.length) (t:=false) hL (fun e he=>QvW hE hL hm _ (hE e he).1) hlv
  simp only [W4,hp]
  cases t' with
  | false=>rfl
  | true =>
   have hle:=Qc1 hp
   obtain ⟨e0,he0,hlt0⟩:=Qie hp
   refine QoI hE hL hm k lv' hb ?_
   by_cases hnew:∃ x∈N,lv x≠L x∧lv' x=L x
   ·obtain ⟨x,hx,h1,h2⟩:=hnew
    have:=Qht (N:=N) (p:=fun x=>decide (lv' x≠L x)) (q:=fun x=>decide (lv x≠L x)) (a:=x) (fun y _ hy=>by
     simp only [decide_eq_true_eq] at hy ⊢
     have:=hle y;have:=hb y;have:=hlv y;omega) hx (by simp [h2]) (by simp [h1])
    omega
   ·exfalso
    have hsame:∀ x∈N,lv' x=L x→lv x=L x:=fun x hx h1=>by
     false_or_by_contra
     rename_i h2
     exact hnew ⟨x,hx,h2,h1⟩
    have hS:XT E fun x=>if lv' x=L x then L x else L x - 1:=by
     intro e he
     have h1:=hL e he
     have h2:=Qnp hp e he
     have h3:=hb e.1
     have h4:=hb e.2.1
     show (if lv' e.2.1=L e.2.1 then L e.2.1 else L e.2.1 - 1)+wt e.2.2≤(if lv' e.1=L e.1 then L e.1 else L e.1 - 1)
     by_cases ha:lv' e.1=L e.1
     ·rw [if_pos ha];split<;>omega
     ·rw [if_neg ha]
      by_cases hc:lv' e.2.1=L e.2.1
      ·rw [if_pos hc]
       have:=hsame _ (hE e he).2 hc
       omega
      ·rw [if_neg hc];omega
    have h1:=hm _ hS
    have h5:=hb e0.1
    have hx0:lv' e0.1≠L e0.1:=fun h=>by have:=hsame _ (hE e0 he0).1 h;omega
    have h2:Wh N (fun x=>if lv' x=L x then L x else L x - 1)<Wh N L:=QoG (a:=e0.1) (fun y _=>by split<;>omega) (hE e0 he0).1 (by
     show (if lv' e0.1=L e0.1 then L e0.1 else L e0.1 - 1)<L e0.1
     rw [if_neg hx0];omega)
    omega
theorem Qx5 {E:List (Xq α)} {N:List α} (hE:∀ e∈E,e.1∈N∧e.2.1∈N) {k:Nat} (hk:N.length<k):(W4 N.length E k (fun _=>0)).isSome=true↔∃ L,XT E L:=by
 refine ⟨QoH,fun h=>?_⟩
 obtain ⟨L,hL,hm⟩:=Qqb N h
 exact QoI hE hL hm k _ (fun _=>Nat.zero_le _) (Nat.lt_of_le_of_lt (List.length_filter_le _ _) hk)
def Qdr (n:Nat) (E:List (Xq α)):Nat→Bool→(α→Nat)→Option (Option (α→Nat))
 | 0,_,_=>none
 | k+1,t,lv=>if t then (match Vo n E lv false with
  | none=>some none
  | some (lv',t')=>Qdr n E k t' lv') else some (some lv)
theorem Qzv {E:List (Xq α)} {N:List α} (hE:∀ e∈E,e.1∈N∧e.2.1∈N):∀ (s:Nat) (lv:α→Nat),(∀ x,lv x≤N.length)→N.length*N.length≤Wh N lv+s→(∀ L,XT E L→(∀ L',XT E L'→Wh N L≤Wh N L')→∀ x,lv x≤L x) →
  ∃ b,(∀ k,s+2≤k→Qdr N.length E k true lv=some b)∧(b.isSome=true↔∃ L,XT E L):=by
 intro s
 induction s with
 | zero =>
  intro lv hb hs hinv
  cases hp:Vo N.length E lv false with
  | none =>
   refine ⟨none,fun k hk=>?_,⟨fun h=>(nomatch h),fun h=>?_⟩⟩
   ·obtain ⟨k,rfl⟩:∃ j,k=j+1:=⟨k - 1,by omega⟩
    simp [Qdr,hp]
   ·obtain ⟨L,hL,hm⟩:=Qqb N h
    obtain ⟨_,_,h1,_⟩:=Qau (n:=N.length) (t:=false) hL (fun e he=>QvW hE hL hm _ (hE e he).1) (hinv L hL hm)
    rw [hp] at h1;cases h1
  | some r =>
   obtain ⟨lv',t'⟩:=r
   cases t' with
   | false =>
    refine ⟨some lv',fun k hk=>?_,⟨fun _=>⟨lv,(Qaj hp).2.2⟩,fun _=>rfl⟩⟩
    obtain ⟨k,rfl⟩:∃ j,k=j+2:=⟨k - 2,by omega⟩
    simp [Qdr,hp]
   | true =>
    exfalso
    obtain ⟨e,he,hlt⟩:=Qie hp
    have h1:Wh N lv<Wh N lv':=QoG (fun x _=>Qc1 hp x) (hE e he).1 hlt
    have h2:=Qtb (N:=N) (Xw hp hb)
    omega
 | succ s ih =>
  intro lv hb hs hinv
  cases hp:Vo N.length E lv false with
  | none =>
   refine ⟨none,fun k hk=>?_,⟨fun h=>(nomatch h),fun h=>?_⟩⟩
   ·obtain ⟨k,rfl⟩:∃ j,k=j+1:=⟨k - 1,by omega⟩
    simp [Qdr,hp]
   ·obtain ⟨L,hL,hm⟩:=Qqb N h
    obtain ⟨_,_,h1,_⟩:=Qau (n:=N.length) (t:=false) hL (fun e he=>QvW hE hL hm _ (hE e he).1) (hinv L hL hm)
    rw [hp] at h1;cases h1
  | some r =>
   obtain ⟨lv',t'⟩:=r
   cases t' with
   | false =>
    refine ⟨some lv',fun k hk=>?_,⟨fun _=>⟨lv,(Qaj hp).2.2⟩,fun _=>rfl⟩⟩
    obtain ⟨k,rfl⟩:∃ j,k=j+2:=⟨k - 2,by omega⟩
    simp [Qdr,hp]
   | true =>
    obtain ⟨e,he,hlt⟩:=Qie hp
    have h1:Wh N lv<Wh N lv':=QoG (fun x _=>Qc1 hp x) (hE e he).1 hlt
    obtain ⟨b,h2,h3⟩:=ih lv' (Xw hp hb) (by omega) fun L hL hm=>by
     obtain ⟨lv2,t2,h4,h5⟩:=Qau (n:=N.length) (t:=false) hL (fun e he=>QvW hE hL hm _ (hE e he).1) (hinv L hL hm)
     rw [hp] at h4
     cases h4
     exact h5
    refine ⟨b,fun k hk=>?_,h3⟩
    obtain ⟨k,rfl⟩:∃ j,k=j+1:=⟨k - 1,by omega⟩
    simp only [Qdr,hp,if_true]
    exact h2 k (by omega)
theorem Qif {n:Nat}:∀ (E1 E2:List (Xq α)) (lv:α→Nat) (t:Bool),Vo n (E1++E2) lv t=match Vo n E1 lv t with
  | none=>none
  | some r=>Vo n E2 r.1 r.2
 | [],E2,lv,t=>rfl
 | e::E1,E2,lv,t=>by
  simp only [List.cons_append,Vo]
  split
  ·rfl
  ·split
   ·exact Qif E1 E2 _ _
   ·exact Qif E1 E2 _ _
omit [DecidableEq α] in
theorem Qx6 {E E':List (Xq α)} (h:∀ e,e∈E↔e∈E'):(∃ L,XT E L)↔∃ L,XT E' L :=
 ⟨fun ⟨L,hL⟩=>⟨L,fun e he=>hL e ((h e).2 he)⟩,fun ⟨L,hL⟩=>⟨L,fun e he=>hL e ((h e).1 he)⟩⟩
end
end Go.Ab
