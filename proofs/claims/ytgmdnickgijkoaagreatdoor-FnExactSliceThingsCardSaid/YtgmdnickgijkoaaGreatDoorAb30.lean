import Derived.Test.YtgmdnickgijkoaaGreatDoorAb29
namespace Go.Ab
noncomputable section
theorem QFT {w : World} {o : Obj} : (w.alloc o).heap.size = w.heap.size + 1:=by unfold World.alloc; exact Array.size_push _
def TS.s1 : TS:=⟨fun t=>match t with
 | 1=>.kk 0
 | 2=>.elp 0
 | _=>.any,0,0⟩
def QIP (s : TS) : Bool:=match s.tm 1 with
 | .kk j=>Nat.beq j s.ver
 | _=>false
def QH5 (nn : Nat) (r : List Oper) : Bool:=match r with
 | [o1,o2]=>match o1.dst with
  | some d=>Nat.blt d nn && QCB o1 d 1 && QCB o2 4 d
  | none=>false
 | _=>false
def QH6 (E : TEnv) (nn : Nat) : Code → TS → Option (TS × List Act1)
 | .seq (.region _ r false) .ret,s=>bif QH5 nn r.toList && QIP s then some (s,[]) else none
 | .seq x y,s=>match H7 E nn x s with
  | some (s1,a1)=>match QH6 E nn y s1 with
   | some (s2,a2)=>some (s2,a1 ++ a2)
   | none=>none
  | none=>none
 | _,_=>none
theorem QFU {P : Program} {L : Pl} {nn : Nat} {w0 : World} {arr0 : Array Value} {T0 : TypeId} {bs : List Nat} {E : TEnv} (hE : EnvOk E P L) (hnn : 4 < nn) : ∀ (c : Code) {Q : Exit → Act → World → Prop} {s s' : TS} {k k' : Int} {us : List Value} {a : Act} {w : World} {cs cs' : List V} {as : List Act1},
  SimV L nn s k us a → Mem L w0 arr0 T0 cs us bs w → cs.length = E.m → 0 ≤ k → k ≤ Zz → QH6 E nn c s = some (s',as) → Y0 as (cs,k) = some (cs',k') →
  (∀ a' w',Zh a' 4 = .int .i64 k' → a'.defers = [] → (∃ us',(s.mv ≤ s'.mv ∧ (s'.mv = s.mv → us' = us)) ∧ Mem L w0 arr0 T0 cs' us' bs w') → Q .ret a' w') → c.wp P Q a w:=by
 intro c
 induction c with
 | seq x y _ ihy =>
  intro Q s s' k k' us a w cs cs' as hs hm hc h0 h1 h hr hQ
  unfold QH6 at h
  split at h
  ·rename_i c' s0 i r e
   simp only [Code.seq.injEq] at e
   obtain ⟨rfl,rfl⟩:=e
   obtain ⟨hb,h2⟩:=Qm h
   clear h
   simp only [Option.some.injEq,Prod.mk.injEq] at h2
   obtain ⟨rfl,rfl⟩:=h2
   simp only [Bool.and_eq_true] at hb
   obtain ⟨ht,hk⟩:=hb
   simp only [Y0,Option.some.injEq,Prod.mk.injEq] at hr
   obtain ⟨rfl,rfl⟩:=hr
   unfold QH5 at ht
   split at ht
   case h_2=>cases ht
   rename_i o1 o2 er
   split at ht
   case h_2=>cases ht
   rename_i d hd
   simp only [Bool.and_eq_true] at ht
   obtain ⟨⟨hdn,z1⟩,z2⟩:=ht
   have hdn : d < nn:=Nat.le_of_ble_eq_true hdn
   have x1 : Zh a 1 = .int .i64 k:=by
    have:=hs.tm 1
    unfold QIP at hk
    split at hk
    ·rename_i j e; rw [e] at this; exact this (Nat.eq_of_beq_eq_true hk)
    ·cases hk
   refine wp_seq (wp_region_list ?_)
   rw [er]
   refine QEQ z1 (QEQ z2 ?_)
   show Code.wp _ _ _ _ _
   refine wp_ret (hQ _ _ ?_ hs.defers ⟨us,⟨Nat.le_refl _,fun _=>rfl⟩,hm⟩)
   have sz : (a.put (some d) (Zh a 1)).tmps.size = nn:=by rw [Xu]; exact hs.size
   rw [H8 (by rw [sz]; omega),if_pos rfl,H8 (by rw [hs.size]; omega),if_pos rfl,x1]
  ·rename_i c' s0 x0 y0 hne e
   simp only [Code.seq.injEq] at e
   obtain ⟨rfl,rfl⟩:=e
   split at h
   case h_2=>cases h
   rename_i s1 a1 e1
   split at h
   case h_2=>cases h
   rename_i s2 a2 e2
   cases h
   rw [QdZ] at hr
   obtain ⟨⟨cs1,k1⟩,r1,r2⟩:=Option.bind_eq_some_iff.1 hr
   refine wp_seq (Qf4 hE x hs hm hc h0 h1 e1 r1 fun a' w'=>?_)
   rintro ⟨us',p0,p1,p2,p3,p4,p5⟩
   exact ihy p1 p2 p3 p4 p5 e2 r2 fun a w z1 z2 ⟨us'',q0,q⟩=>hQ a w z1 z2 ⟨us'',⟨Nat.le_trans p0.1 q0.1,fun e=>(q0.2 (by have:=p0.1; have:=q0.1; omega)).trans (p0.2 (by have:=p0.1; have:=q0.1; omega))⟩,q⟩
  ·cases h
 | _=>intro Q s s' k k' us a w cs cs' as hs hm hc h0 h1 h; simp [QH6] at h
def isBox (o : Oper) : Bool:=match o.guard,o.dst,o.op with
 | none,some d,.box _ (.tmp x)=>Nat.beq d 2 && Nat.beq x 0
 | _,_,_=>false
def QJb (P : Program) (gt : Option Nat) (hs : List (Nat × Ty)) (t : Ty) (fn : Func) : Code → Bool
 | .seq (.region _ r0 false) c =>
  Nat.ble 12 (fn.ntmps + 6) && t.mok && (match fn.results.toList with
   | [.tmp 4]=>true
   | _=>false) && (match r0.toList with
   | [o1,o2]=>isBox o1 && QH1 o2 4
   | _=>false) && (match QH6 ⟨P,0,t.cells,gt,hs⟩ fn.ntmps c TS.s1 with
   | some (s',as)=>Nat.beq s'.mv 0 && (match QHY t 0 as with
    | some []=>true
    | _=>false)
   | none=>false)
 | _=>false
theorem QES {w : World} {t : Ty} {x : t.den} {u : Value} {bs : List Nat} (ht : t.mok = true) (h : Qja w t x u bs) : DeepD w t x u.cells.toList bs ∧ ∀ (w' : World) (x' : t.den),DeepD w' t x' u.cells.toList bs → Qja w' t x' u bs:=by
 unfold Qja at h
 cases hsc : t.scalar with
 | false =>
  rw [hsc] at h
  obtain ⟨arr,rfl,h⟩:=h
  refine ⟨h,fun w' x' h'=>?_⟩
  unfold Qja
  rw [hsc]
  exact ⟨arr,rfl,h'⟩
 | true =>
  rw [hsc] at h
  have : u.cells.toList = [u]:=by
   cases t with
   | int k=>obtain ⟨⟨e,_⟩,_⟩:=h; simp only [List.cons.injEq,and_true] at e; subst e; rfl
   | bool=>obtain ⟨e,_⟩:=h; simp only [List.cons.injEq,and_true] at e; subst e; rfl
   | str=>obtain ⟨⟨s,e,_⟩,_⟩:=h; simp only [List.cons.injEq,and_true] at e; subst e; rfl
   | list t=>obtain ⟨a,cap,e,_⟩:=h; simp only [List.cons.injEq,and_true] at e; subst e; rfl
   | unit=>cases hsc
   | pair a b=>cases hsc
   | _=>cases ht
  rw [this]
  refine ⟨h,fun w' x' h'=>?_⟩
  unfold Qja
  rw [hsc]
  exact h'
theorem QFV {P : Program} {g : Nat} {gt : Option Nat} {hs : List (Nat × Ty)} {t : Ty} {fn : Func} {c : Code} (hf : P.funcs[g]? = some fn) (hb : fn.body = some c) (he : Gg P g = true) (htext : ∀ g,QG9 gt g = true → QoH P g) (hhot : ∀ g t,Qli g t hs = true → Qee P g t)
  (hchk : QJb P gt hs t fn c = true) : Qee P g t:=by
 unfold QJb at hchk
 split at hchk
 case h_2=>cases hchk
 rename_i i0 r0 c
 simp only [Bool.and_eq_true] at hchk
 obtain ⟨⟨⟨⟨hnt,htk⟩,hres⟩,hr0⟩,hbody⟩:=hchk
 have hnt:=Nat.le_of_ble_eq_true hnt
 split at hres
 case h_2=>cases hres
 rename_i hres'
 split at hr0
 case h_2=>cases hr0
 rename_i o1 o2 e0
 simp only [Bool.and_eq_true] at hr0
 obtain ⟨hbox,hk0⟩:=hr0
 unfold isBox at hbox
 split at hbox
 case h_2=>cases hbox
 rename_i d T0 x0 hg hd hop
 simp only [Bool.and_eq_true] at hbox
 obtain rfl:=Nat.eq_of_beq_eq_true hbox.1
 obtain rfl:=Nat.eq_of_beq_eq_true hbox.2
 split at hbody
 case h_2=>cases hbody
 rename_i s' as ecode
 simp only [Bool.and_eq_true] at hbody
 obtain ⟨hmv,heat⟩:=hbody
 have hmv:=Nat.eq_of_beq_eq_true hmv
 split at heat
 case h_2=>cases heat
 rename_i heat'
 refine ⟨he,fun w u bs x k hD hnd h0 h1=>?_⟩
 obtain ⟨hDc,hback⟩:=QES htk hD
 refine calls_of_wp hf hb ?_
 let a0 : Act:={ tmps:=#[u,.int .i64 k] ++ Array.replicate (fn.ntmps - (#[u,Value.int .i64 k] : Array Value).size) undef,defers:=[] }
 have a0s : a0.tmps.size = fn.ntmps:=by simp [a0]; omega
 have t0 : Zh a0 0 = u:=by simp only [Zh,a0,Array.getD_eq_getD_getElem?]; rw [Array.getElem?_append_left (by simp)]; rfl
 have t1 : Zh a0 1 = .int .i64 k:=by simp only [Zh,a0,Array.getD_eq_getD_getElem?]; rw [Array.getElem?_append_left (by simp)]; rfl
 let w1:=w.alloc (.cells u.cells T0)
 let p : Value:=.pointer (some ⟨w.heap.size,0,none⟩)
 have hrunb : (execOp a0.eval o1).run P w = .ok (.value p) w1:=by
  have : (Instr.box T0 (a0.eval (.tmp 0))).run P w = .ok p w1:=by
   rw [show a0.eval (.tmp 0) = u from t0]
   unfold Instr.box
   simp only [Sem.run_bind,Result.andThen_ok,Qss,Sem.run_pure]
   rfl
  simp only [execOp,hop,Sem.run_bind,this]
  rfl
 refine wp_seq (wp_region_list ?_)
 rw [e0]
 refine wpList_plain hg fun K hK=>?_
 unfold Oper.wp
 show o1.upon P a0 K _ ((execOp a0.eval o1).run P w)
 rw [hrunb,Oper.upon_value,hd]
 refine hK _ _ (QI0 hk0 ?_)
 show Code.wp _ _ _ _ w1
 let a1:=a0.put (some 2) p
 let a2:=a1.put (some 4) (.int .i64 0)
 have s1 : a1.tmps.size = fn.ntmps:=by simp only [a1,Xu]; exact a0s
 have s2 : a2.tmps.size = fn.ntmps:=by simp only [a2,Xu]; exact s1
 have v1 : ∀ t,Zh a1 t = if t = 2 then p else Zh a0 t:=H8 (by omega) _
 have v2 : ∀ t,Zh a2 t = if t = 4 then .int .i64 0 else Zh a1 t:=H8 (by omega) _
 have hDc1 : DeepD w1 t x u.cells.toList bs:=hDc.stays fun c hc=>by
  exact RowKit.Below.heap_alloc w _ c (hDc.lt c hc)
 have hlen:=hDc.len
 have hhb : w1.heap[w.heap.size]? = some (.cells u.cells T0 (0,0)):=(MapKept.heap_alloc w _).1
 have hw1 : w1.heap.size = w.heap.size + 1:=QFT
 let L : Pl:=⟨.slice (some ⟨w.heap.size,0,none⟩) 1 1,1,0,w.heap.size,0⟩
 have hE : EnvOk ⟨P,0,t.cells,gt,hs⟩ P L:=⟨rfl,htext,hhot,⟨0,1,rfl,by simp [L]⟩,by simp only [L]; omega⟩
 have hsim : SimV L fn.ntmps TS.s1 k u.cells.toList a2:=by
  refine ⟨⟨fun t=>?_,s2,rfl⟩,fun t=>?_⟩
  ·show Qji _ _ _ _ (TS.s1.tm t) (Zh a2 t)
   unfold TS.s1
   simp only
   split
   ·intro _; rw [v2,if_neg (by decide),v1,if_neg (by decide),t1]
   ·show Zh a2 2 = _; rw [v2,if_neg (by decide),v1,if_pos rfl]
   ·trivial
  ·unfold TS.s1
   simp only
   split <;> first | trivial | exact Nat.le_refl _
 have hmem : Mem L w1 u.cells T0 (Qq t x) u.cells.toList bs w1:=by
  have hel:=Jp t x
  have hul : u.cells.toList.length = u.cells.size:=Array.length_toList
  refine ⟨⟨u.cells,hhb,rfl,fun _ _=>rfl,?_⟩,HA hDc1,?_,fun hm=>?_,hnd,rfl,rfl,rfl,Nat.le_refl _,⟨?_,fun c hc=>hDc1.lt c hc⟩,fun _ _ _ _=>rfl⟩
  ·rw [hel,← hlen]; show _ = List.take _ (u.cells.toList.drop 0); rw [List.drop_zero,List.take_length]
  ·rw [hel]; show 0 + t.cells ≤ _; omega
  ·exact Nat.lt_irrefl _ (hDc.lt _ hm)
  ·exact (Array.getElem?_eq_some_iff.1 hhb).1
 have hrun:=QBt t (EA htk) x [] [] k as [] heat' h0 h1
 simp only [List.nil_append,List.append_nil,Y0] at hrun
 refine QFU hE (by omega) c hsim hmem (Jp t x) h0 (by omega) ecode hrun fun a' w' z1 z2=>?_
 rintro ⟨us',q0,hm'⟩
 have hus:=q0.2 (by rw [hmv]; rfl)
 subst hus
 refine ⟨z2,_,Qml hres' _ _,by rw [z1],?_,?_⟩
 ·refine hback _ _ ?_
  exact H3 (EA htk) (QcT t _ (EA htk)) hm'.deep
 ·obtain ⟨_,_,_,_,_,m9,m10,m11,m12,⟨m13,m13'⟩,m14⟩:=hm'
  refine ⟨m9,m10,m11,Nat.le_trans ?_ m12,fun c c1 c2=>?_⟩
  ·rw [hw1]; exact Nat.le_succ _
  ·rw [m14 c (by rw [hw1]; omega) (Nat.ne_of_lt c1) c2]
   exact RowKit.Below.heap_alloc w _ c c1
open Classical in
def Qef (t : Ty) (x : t.den) (k : Int) : Option (Int × t.den):=if 0 ≤ k ∧ k + Xb t x ≤ Zz then some (JQ t x k) else none
theorem QDW {P : Program} {gl : Nat → Option (List V)} {g : Nat} {t : Ty} (ht : t.mok = true) (hp : (match t with | .pair _ _=>true | .list _=>true | _=>false) = true) (h : Qee P g t) : CtrOkG P gl (QEJ g t fun x=>Qef t x.1 x.2.1):=by
 intro xs y hy
 have hge : Wd ≤ g + Wd:=Nat.le_add_left _ _
 have hg : (QEJ g t fun x=>Qef t x.1 x.2.1).g = g + Wd:=rfl
 rw [hg]
 refine ⟨fun h1=>(Nat.lt_irrefl _ (Nat.lt_of_lt_of_le h1 (Nat.le_trans Qgr.2.1 hge))).elim,fun _ h1=>(Nat.lt_irrefl _ (Nat.lt_of_lt_of_le h1 (Nat.le_trans Qgr.2.2 hge))).elim,fun _ h1=>(Nat.lt_irrefl _ (Nat.lt_of_lt_of_le h1 hge)).elim,fun _=>?_⟩
 rw [Nat.add_sub_cancel]
 obtain ⟨x,k,⟨⟩⟩:=xs
 have hy : Qef t x k = some y:=hy
 unfold Qef at hy
 split at hy
 case isFalse=>cases hy
 rename_i hb
 cases hy
 intro x' k0 k' b ha hv
 have ha : [X2 t x,.d (.int .i64) k] = [x',.d (.int .i64) k0]:=ha
 have hv : V.tup [.d (.int .i64) (JQ t x k).1,X2 t (JQ t x k).2] = .tup [.d (.int .i64) k',b]:=hv
 simp only [List.cons.injEq,V.d.injEq,heq_eq_eq,true_and,and_true] at ha
 obtain ⟨rfl,rfl⟩:=ha
 simp only [V.tup.injEq,List.cons.injEq,V.d.injEq,heq_eq_eq,true_and,and_true] at hv
 obtain ⟨rfl,rfl⟩:=hv
 refine ⟨h.1,fun w u bs _ hD hnd hk=>?_⟩
 have hk' : inK .i64 (JQ t x k).1 = true:=by
  rw [VO]
  exact QoI (by omega) hb.2
 have hpk : ∀ (y : t.den),Xr t (X2 t y) = some y:=by
  intro y
  cases t with
  | pair a b=>exact QcT (.pair a b) y (EA ht)
  | list t=>exact QcT (.list t) y (EA (t:=.list t) ht)
  | _=>cases hp
 refine (h.2 w u bs x k (Qk7 (EA ht) (hpk x) hD) hnd hb.1 hb.2).mono fun e w'=>?_
 rintro ⟨rfl,q2,q3⟩
 refine ⟨rfl,hk',?_,q3⟩
 cases t with
 | pair a b =>
  obtain ⟨arr,rfl,q2⟩:=q2
  exact ⟨arr,rfl,HA q2⟩
 | list t=>exact q2
 | _=>cases hp
theorem QIG {P : Program} {g : Nat} {f : Qny [.int .i64] → Option (QhP [.str])} (hlt : Nat.blt g Jl = true) (h : Qh P ⟨g,[.int .i64],[.str],f⟩) (hf : ∀ k : Int,0 ≤ k → k ≤ Zz → f (k,()) = some (Qcx k)) : QoH P g:=by
 have key:=fun (k : Int) (h0 : 0 ≤ k) (h1 : k ≤ Zz)=>(h (k,()) (Qcx k) (hf k h0 h1)).1 (Qla hlt)
 refine ⟨(key 0 (by decide) (by decide)).1,fun w k h0 h1=>?_⟩
 obtain ⟨_,_,a3⟩:=key k h0 h1
 refine (a3 QIF w [.int .i64 k] ?_ (fun _ _ h=>by cases h) rfl ?_).mono fun e w'=>?_
 ·exact fun _ _ h=>by cases h
 ·intro i c u hc hu
  cases i with
  | zero =>
   cases hc; cases hu
   exact .mkInt (QoI h0 h1)
  | succ i=>simp at hu
 ·rintro ⟨u,F',rfl,_,_,q3,q4⟩
  have q4 : RelV _ (.d .str (Qcx k)) u:=q4
  obtain ⟨b,rfl,e,hsz⟩:=q4.str_inv
  exact ⟨b,rfl,e,hsz,q3⟩
theorem QHb {P : Program} : ∀ g,QG9 none g = true → QoH P g:=fun _ h=>by cases h
theorem Qgb {P : Program} {t : Nat} (h : QoH P t) : ∀ g,QG9 (some t) g = true → QoH P g:=fun g hg=>by
 obtain rfl:=Nat.eq_of_beq_eq_true hg
 exact h
theorem Qgt {P : Program} : ∀ g t,Qli g t [] = true → Qee P g t:=fun _ _ h=>by cases h
theorem QaN {P : Program} {g0 : Nat} {t0 : Ty} {l : List (Nat × Ty)} (h : Qee P g0 t0) (hl : ∀ g t,Qli g t l = true → Qee P g t) : ∀ g t,Qli g t ((g0,t0) :: l) = true → Qee P g t:=fun g t hg=>by
 simp only [Qli,Bool.or_eq_true,Bool.and_eq_true] at hg
 rcases hg with ⟨h1,h2⟩ | hg
 ·rw [Nat.eq_of_beq_eq_true h1,Ty.beq_eq h2]; exact h
 ·exact hl g t hg
end
end Go.Ab
