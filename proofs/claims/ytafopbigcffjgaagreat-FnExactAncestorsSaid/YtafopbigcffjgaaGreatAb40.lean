import Derived.Test.YtafopbigcffjgaaGreatAb39
namespace Go.Ab
open Go.Proofs Go.Sort
set_option maxHeartbeats 1600000 in
theorem QrD {P : Program} {gl : Nat → Option (List V)} {g : Nat} {tys : List Ty} {tk tv t : Ty} {f : ES tys → Option (List t.den)} (hlt : Nat.blt g QC = true) {fn : Func} {i0 i3 i4 i5 i6 i7 i8 i9 b0 b0' b1 : Nat} {r0 r3 r4 r5 r6 r7 r8 r9 : Array Oper} {s1 : Code}
  (hf : P.funcs[g]? = some fn) (hb : fn.body = some (.seq (.region i0 r0 false) (.seq s1 (.seq (.region i3 r3 false) (.seq (.seq (.region i4 r4 false) (.block b0 (.loop (.seq (.region i5 r5 false) (.seq (.cond (.tmp 20) .skip (.exit b0')) (.block b1 (.seq (.region i6 r6 false) (.region i7 r7 false)))))))) (.seq (.region i8 r8 false) (.seq (.region i9 r9 false) .ret)))))))
  (he : Z8 P g = true) {con : Nat → List V → (V → Option (List t.den)) → Option (List t.den)} (hcon : QhI P gl con)
  {α : Type} [Inhabited α] {k gs g0 ts te : Nat} {enc : α → List Value} {dec : Value → α} {srt : List α → List α} {out : α → t.den} (hk0 : 0 < k) (hk1 : k ≤ 1000) (hkt : t.cells = k) (hek : ∀ x,(enc x).length = k) (he1 : ∀ x,∀ v ∈ enc x,v.oneCell' = true) (hdec : ∀ x,dec (G8 enc x) = x)
  (hsp : ∀ d,(srt d).Perm d) (hsq : ∀ d d',d.Perm d' → srt d = srt d') (hsort : QpN P gs g0 enc k srt) (hout : ∀ z F,RelD F t (out z) (enc z))
  {ans : List tk.den → Option (List t.den)} (hans : ∀ ks y,ans ks = some y → ∃ kb : List α,kb.length = ks.length ∧ (kb.length + 1) * 64 ≤ 140737488355328 ∧ (∀ (i : Nat) x z (F : Snap) (v : Value),ks[i]? = some x → kb[i]? = some z → RelD F tk x v.cells.toList → W7 tk v → v = G8 enc z) ∧ y = (srt kb).map out)
  (hchk : Qq6 P k gs g0 ts te fn (.seq (.seq (.region i4 r4 false) (.block b0 (.loop (.seq (.region i5 r5 false) (.seq (.cond (.tmp 20) .skip (.exit b0')) (.block b1 (.seq (.region i6 r6 false) (.region i7 r7 false)))))))) (.seq (.region i8 r8 false) (.seq (.region i9 r9 false) .ret))) = true)
  (hr4 : Nat.beq r4.toList.length 4 = true)
  (hl0 : ∀ m K,Zg (Vj P gl con fn m) 0 fn.ntmps [] (.region i0 r0 false) K = []) (hl1 : ∀ m K,Zg (Vj P gl con fn m) 0 fn.ntmps [] s1 K = []) (hl3 : ∀ m K,Zg (Vj P gl con fn m) 0 fn.ntmps [] (.region i3 r3 false) K = []) (hl4 : ∀ m K,Qfg (Vj P gl con fn m) 0 fn.ntmps [] r4.toList (1000 * i4 + 0) (r4.toList.take 3) K = [])
  (hnt : ∀ xs,Nat.ble (Qp tys xs).length fn.ntmps = true)
  (hrun : ∀ xs y,f xs = some y → QpO P gl fn i0 r0 s1 i3 r3 i4 r4 tk tv t con ans 0 (Qp tys xs) = some y) : CtrOkG P gl (QhS g tys t f):=by
 intro xs y hy
 change List t.den at y
 have hn:=hrun xs y hy
 have hm:=(QaG (HK hlt)).1
 refine ⟨fun hlt=>absurd hlt (Nat.not_lt.2 (Nat.le_add_left _ _)),fun _ _ t' ys hv=>?_,fun h1=>(Nat.lt_irrefl _ (Nat.lt_of_lt_of_le hm h1)).elim,fun h1 _=>(Nat.lt_irrefl _ (Nat.lt_of_lt_of_le hm (Nat.le_trans XF.2.2 h1))).elim,fun h1=>(Nat.lt_irrefl _ (Nat.lt_of_lt_of_le hm (Nat.le_trans QhQ.2.1 h1))).elim⟩
 have hv : V.d (.list t) y = .d (.list t') ys:=hv
 cases hv
 refine ⟨by rw [show (QhS g tys t f).g - QC = g from Nat.add_sub_cancel _ _]; exact he,fun M w vals hG hF hl hr=>?_⟩
 rw [show (QhS g tys t f).g - QC = g from Nat.add_sub_cancel _ _]
 have hr' : ∀ (i : Nat) c u,(Qp tys xs)[i]? = some c → vals[i]? = some u → ∀ M' : Me,M'.F = M.F → RelV M' c u:=by
  intro i c' u hc hu M' hM'
  obtain ⟨t,x,rfl⟩:=WT _ _ c' (List.mem_of_getElem? hc)
  exact QmV hM' (hr i _ u hc hu)
 have hra:=QjE (P:=P) (fn:=fn) hG hF hl hr' (Qd0 0 _ _) (Nat.le_of_ble_eq_true (hnt xs))
 have hH:=fun j=>QoN (P:=P) (gl:=gl) (A:=[]) (I:=[]) (con:=con) (fn:=fn) (c:=.skip) (fin:=fun _ _=>none) hcon j
 have HI:=Qe9 (base:=⟨w.heap.size,[]⟩) (w0:=⟨w,M.F,gl,hG⟩) hH YX
 let RR : Ending → World → Prop:=fun e w'=>∃ u F' o,e = .returned u ∧ M.F.le F' ∧ (∀ a u,F' a = some u → M.F a = some u ∨ (Sees w' a u ∧ w.heap.size ≤ a.block)) ∧
   BelowN w.heap.size w w' ∧ RelD F' (.list t) y [u] ∧ Qan o u y.length t.cells ∧ ∀ reg,o = some reg → w.heap.size ≤ reg.g ∧ reg.n ≤ reg.cap ∧ reg.cap ≤ maxLen ∧
    ∃ cur e',w'.heap[reg.g]? = some (.cells cur e' (0,0)) ∧ cur.size = reg.cap * reg.sz ∧ ∀ ad,ad.block = reg.g → reg.n * reg.sz ≤ ad.off → F' ad = none
 show Calls P g vals.toArray w RR
 refine calls_of_wp hf hb ?_
 have fin : ∀ a w',Fam P ⟨w.heap.size,[]⟩ ⟨w,M.F,gl,hG⟩ 0 fn.ntmps (fun _ _=>undef) 0 (fun _=>QsO P fn t .ret) y a w' → a.defers = [] ∧ ∃ v,(results fn a.tmps).run P w' = .ok v w' ∧ ∃ u F' o,Ending.returned v = .returned u ∧ M.F.le F' ∧ (∀ a u,F' a = some u → M.F a = some u ∨ (Sees w' a u ∧ w.heap.size ≤ a.block)) ∧
   BelowN w.heap.size w w' ∧ RelD F' (.list t) y [u] ∧ Qan o u y.length t.cells ∧ ∀ reg,o = some reg → w.heap.size ≤ reg.g ∧ reg.n ≤ reg.cap ∧ reg.cap ≤ maxLen ∧
    ∃ cur e',w'.heap[reg.g]? = some (.cells cur e' (0,0)) ∧ cur.size = reg.cap * reg.sz ∧ ∀ ad,ad.block = reg.g → reg.n * reg.sz ≤ ad.off → F' ad = none:=by
  rintro a w' ⟨m',hm',st',M',h,hk⟩
  refine ⟨h.defers,?_⟩
  obtain ⟨v,u,hu,ho,hv⟩:=Qsl h hk
  obtain ⟨F',o,k1,k2,k3,k4,k5⟩:=Qqo h.rel ho hv
  refine ⟨u,hu,u,F',o,rfl,h.rel.F0.trans k1,?_,h.rel.below.toN,k3,k4,fun reg hreg=>⟨(k5 reg hreg).1.nil,(k5 reg hreg).2⟩⟩
  intro ad x hx
  rcases k2 ad x hx with h1 | h1
  ·rcases h.rel.Fnew ad x h1 with h5 | h5
   ·exact .inl h5
   ·exact .inr ⟨h.rel.F ad x h1,h5.nil⟩
  ·exact .inr ⟨h1.1,h1.2.nil⟩
 refine wp_seq (wp_mono (JC (hH YX) HI (.region i0 r0 false) (fun m=>Qdn (JG (Vj P gl con fn m) 0 fn.ntmps [] s1 (Qdn (JG (Vj P gl con fn m) 0 fn.ntmps [] (.region i3 r3 false) (Qdn (V3 (Vj P gl con fn m) 0 fn.ntmps [] r4.toList (1000 * i4 + 0) (r4.toList.take 3) (QaS tk tv ans)) (Qb9 P fn t))) (Qb9 P fn t))) (Qb9 P fn t)) y
  (fun m x hx=>by have:=hl0 m; unfold Vj at this; rw [this] at hx; cases hx) 0 _ _ _ w hn hra) ?_)
 intro e a1 w1 hp
 cases e with
 | exit i=>obtain ⟨m',_,st,M1,_,hk⟩:=hp; cases hk
 | goto l=>exact hp.elim
 | panic c=>exact hp.elim
 | outgrown=>exact hp.elim
 | ret=>exact fin a1 w1 hp
 | normal =>
 obtain ⟨m1,hm1,st1,M1,hR1,hkk1⟩:=hp
 refine wp_seq (wp_mono (JC (hH YX) HI s1 (fun m=>Qdn (JG (Vj P gl con fn m) 0 fn.ntmps [] (.region i3 r3 false) (Qdn (V3 (Vj P gl con fn m) 0 fn.ntmps [] r4.toList (1000 * i4 + 0) (r4.toList.take 3) (QaS tk tv ans)) (Qb9 P fn t))) (Qb9 P fn t)) y
  (fun m x hx=>by have:=hl1 m; unfold Vj at this; rw [this] at hx; cases hx) m1 _ _ _ w1 hkk1 hR1) ?_)
 intro e a2 w2 hp
 cases e with
 | exit i=>obtain ⟨m',_,st,M1,_,hk⟩:=hp; cases hk
 | goto l=>exact hp.elim
 | panic c=>exact hp.elim
 | outgrown=>exact hp.elim
 | ret=>exact fin a2 w2 (by obtain ⟨m',h1,h2⟩:=hp; exact ⟨m',Nat.le_trans h1 hm1,h2⟩)
 | normal =>
 obtain ⟨m2,hm2,st2,M2,hR2,hk2⟩:=hp
 refine wp_seq (wp_mono (JC (hH YX) HI (.region i3 r3 false) (fun m=>Qdn (V3 (Vj P gl con fn m) 0 fn.ntmps [] r4.toList (1000 * i4 + 0) (r4.toList.take 3) (QaS tk tv ans)) (Qb9 P fn t)) y
  (fun m x hx=>by have:=hl3 m; unfold Vj at this; rw [this] at hx; cases hx) m2 _ _ _ w2 hk2 hR2) ?_)
 intro e a3 w3 hp
 cases e with
 | exit i=>obtain ⟨m',_,st,M1,_,hk⟩:=hp; cases hk
 | goto l=>exact hp.elim
 | panic c=>exact hp.elim
 | outgrown=>exact hp.elim
 | ret=>exact fin a3 w3 (by obtain ⟨m',h1,h2⟩:=hp; exact ⟨m',Nat.le_trans h1 (Nat.le_trans hm2 hm1),h2⟩)
 | normal =>
 obtain ⟨m3,hm3,st3,M3,hR3,hk3⟩:=hp
 refine wp_seq (wp_seq (wp_region ?_))
 have h4:=Nat.eq_of_beq_eq_true hr4
 have hsz4 : r4.size = 4:=by rw [← Array.length_toList]; exact h4
 obtain ⟨o4,ho4⟩ : ∃ o4,r4.toList.drop 3 = [o4]:=List.length_eq_one_iff.1 (by rw [List.length_drop,h4])
 have hpre:=QfY (K:=fun _=>QaS tk tv ans) (ops:=r4) (r:=y) (N:=m3) (hH YX) HI (Q:=Exit.then (fun a w=>(Code.block b0 (.loop (.seq (.region i5 r5 false) (.seq (.cond (.tmp 20) .skip (.exit b0')) (.block b1 (.seq (.region i6 r6 false) (.region i7 r7 false))))))).wp P (Exit.then (fun a w=>(Code.seq (.region i8 r8 false) (.seq (.region i9 r9 false) .ret)).wp P (bodyPost P fn RR) a w) (bodyPost P fn RR)) a w)
   (Exit.then (fun a w=>(Code.seq (.region i8 r8 false) (.seq (.region i9 r9 false) .ret)).wp P (bodyPost P fn RR) a w) (bodyPost P fn RR))) [o4] ?_ (1000 * i4) (r4.toList.take 3) 0 (by rw [List.drop_zero,← ho4,List.take_append_drop]) (fun m x hx=>by have:=hl4 m; unfold Vj at this; rw [this] at hx; cases hx) m3 st3 M3 a3 w3 (Nat.le_refl _) hk3 hR3
 ·rw [List.range_eq_range',hsz4]
  rw [List.length_take,h4] at hpre
  exact hpre
 intro a w' hp
 rw [hsz4]
 obtain ⟨m4,hm4,st,M4,hRA,hk⟩:=hp
 simp only [QaS] at hk
 split at hk
 case h_2=>cases hk
 rename_i k' v' es0 h17 h05
 obtain ⟨es,hes,hk9⟩:=Option.bind_eq_some_iff.1 hk
 obtain ⟨ek,ev,hes⟩:=castE?_eq hes
 subst ek; subst ev
 subst hes
 obtain ⟨y',hk9,hy'⟩:=Option.bind_eq_some_iff.1 hk9
 cases hy'
 obtain ⟨kb,c1,c2,c3,c4⟩:=hans (es.map (·.1)) y hk9
 rw [List.length_map] at c1
 have t17 : RelV M4 (.d (.map k' v') es) (Qo a 17):=by
  have:=hRA.rel.tm 0 17 (Nat.le_refl _)
  rw [h17] at this
  have e : thA (fun _ _=>undef) 0 a 0 17 = Qo a 17:=by unfold thA; rw [if_pos rfl]; rfl
  rw [e] at this
  exact this
 have t05 : Qo a 5 = .slice none 0 0:=by
  have:=hRA.rel.tm 0 5 (Nat.le_refl _)
  rw [h05] at this
  have:=RelV.nils_inv this
  have e : thA (fun _ _=>undef) 0 a 0 5 = Qo a 5:=by unfold thA; rw [if_pos rfl]; rfl
  rw [e] at this
  exact this
 have d17 : RelD M4.F (.map k' v') es [Qo a 17]:=by cases t17 with | d _ _ _ h=>exact h
 obtain ⟨r,hur,hr0,hrb⟩:=Qpb d17
 obtain ⟨ms,clock,q1,q2,q3,q4,q5⟩ : ∃ (ms : Array MapEntry) (clock : Nat),(∀ b,r = some b → w'.heap[b]? = some (.map ms clock)) ∧ (r = none → ms = #[]) ∧ (∀ m ∈ ms,m.born < clock) ∧ (ms.toList.map (·.born)).Nodup ∧ ms.toList.map (·.key) = kb.map (G8 enc):=by
  cases r with
  | none =>
   have:=hr0 rfl
   subst this
   have : kb = []:=List.eq_nil_of_length_eq_zero c1
   subst this
   exact ⟨#[],0,by simp,by simp,by simp,by simp,by simp⟩
  | some b =>
   obtain ⟨ms,clock,z1,z2⟩:=hrb b rfl
   refine ⟨ms,clock,fun b' hb'=>?_,(fun h=>by cases h),z2.born,z2.nodup,?_⟩
   ·cases hb'
    rcases hRA.rel.F _ _ z1 with h | ⟨_,ms',c',h1,h2⟩
    ·cases h.1
    ·obtain ⟨e1,e2⟩:=Qpn h2
     rw [e1,e2]; exact h1
   ·have hsz:=z2.size
    apply List.ext_getElem?
    intro i
    simp only [List.getElem?_map]
    by_cases hi : i < es.length
    ·have hx : es[i]? = some es[i]:=List.getElem?_eq_getElem hi
     have hmm : ms[i]? = some ms[i]:=Array.getElem?_eq_getElem (by omega)
     have hz : kb[i]? = some kb[i]:=List.getElem?_eq_getElem (by omega)
     rw [Array.getElem?_toList,hmm,hz]
     simp only [Option.map_some]
     obtain ⟨p1,p2,_⟩:=z2.at_ i _ _ hx hmm
     rw [c3 i es[i].1 kb[i] M4.F ms[i].key (by rw [List.getElem?_map,hx]; rfl) hz p1 p2]
    ·rw [List.getElem?_eq_none (l:=ms.toList) (by rw [Array.length_toList]; omega),List.getElem?_eq_none (l:=kb) (by omega)]
     rfl
 rw [show ([o4] : List Oper).length = 1 from rfl,show 4 - 1 = 3 from rfl]
 have hwl:=wpOps_eq_wpList (P:=P) (ops:=r4) (Q:=Exit.then (fun a w=>(Code.block b0 (.loop (.seq (.region i5 r5 false) (.seq (.cond (.tmp 20) .skip (.exit b0')) (.block b1 (.seq (.region i6 r6 false) (.region i7 r7 false))))))).wp P (Exit.then (fun a w=>(Code.seq (.region i8 r8 false) (.seq (.region i9 r9 false) .ret)).wp P (bodyPost P fn RR) a w) (bodyPost P fn RR)) a w)
   (Exit.then (fun a w=>(Code.seq (.region i8 r8 false) (.seq (.region i9 r9 false) .ret)).wp P (bodyPost P fn RR) a w) (bodyPost P fn RR))) [o4] 3 (fun j=>by
  have : (r4.toList.drop 3)[j]? = r4[3 + j]?:=by rw [List.getElem?_drop]; simp
  rw [← this,ho4])
 rw [show ([o4] : List Oper).length = 1 from rfl] at hwl
 rw [hwl]
 refine QrC hk0 hk1 hek he1 hdec hsp hsq hsort ho4 hchk q1 q2 q3 q4 q5 c2 hRA.size hRA.defers hur t05 ?_
 intro v w'' hGr hB2
 have hB:=hRA.rel.below.toN.trans (hB2.mono hRA.rel.hb)
 generalize hL : srt kb = L at *
 have hFn : ∀ ad u,M4.F ad = some u → M.F ad = some u ∨ (Sees w'' ad u ∧ w.heap.size ≤ ad.block):=by
  intro ad u h
  rcases hRA.rel.Fnew ad u h with h1 | h1
  ·exact .inl h1
  ·refine .inr ⟨?_,h1.nil⟩
   have hs:=hRA.rel.F ad u h
   have hlt':=hs.lt
   exact Sees.block (hB2.block _ hlt') hs
 have hlen : y.length = L.length:=by rw [c4,List.length_map]
 rcases hGr with ⟨rfl,hnil⟩ | ⟨g',cap,cur,e',rfl,h1,h2,h3,h4',h5,h6,_⟩
 ·have : L = []:=by cases L with | nil=>rfl | cons x L=>simp at hnil
  have hy0 : y = []:=by rw [c4,this]; rfl
  subst hy0
  exact ⟨_,M4.F,none,rfl,hRA.rel.F0,hFn,hB,UK _ _,⟨rfl,rfl⟩,fun reg h=>by cases h⟩
 ·rw [List.length_map] at h2 h4'
  let C:=(L.map enc).flatten
  let F' : Snap:=fun ad=>if ad.block = g' then (if ad.spot = none then C[ad.off]? else none) else M4.F ad
  have hCl : C.length = L.length * k:=by
   show ((L.map enc).flatten).length = _
   rw [Qeb (k:=k) (fun x hx=>by obtain ⟨z,_,rfl⟩:=List.mem_map.1 hx; exact hek z),List.length_map]
  have hnF : ∀ ad,ad.block = g' → M4.F ad = none:=fun ad had=>by
   cases h : M4.F ad with
   | none=>rfl
   | some u=>have:=(hRA.rel.F ad u h).lt; omega
  have hge : w.heap.size ≤ g':=Nat.le_trans hRA.rel.hb h6
  have hle : M4.F.le F':=fun ad u h=>by
   show (if ad.block = g' then _ else M4.F ad) = some u
   rw [if_neg (fun e=>by rw [hnF ad e] at h; cases h)]; exact h
  refine ⟨_,F',some ⟨g',cap,L.length,k⟩,rfl,hRA.rel.F0.trans hle,fun ad u h=>?_,hB,⟨some ⟨g',0,none⟩,cap,by rw [hlen,List.length_map],by rw [hlen]; exact h4',h5,fun h=>(by cases h),fun b hb i x hx=>?_⟩,⟨0,⟨g',0,none⟩,by rw [hlen,List.length_map]; rfl,fun _=>by simp,by simp [hlen],Nat.zero_le _,by rw [hkt]⟩,fun reg hreg=>?_⟩
  ·simp only [F'] at h
   split at h
   ·rename_i hbk
    split at h
    case isFalse=>cases h
    rename_i hs
    refine .inr ⟨.inl ⟨hs,?_⟩,by rw [hbk]; exact hge⟩
    obtain ⟨ab,ao,sp⟩:=ad
    simp only at hbk hs h
    subst hbk; subst hs
    rw [ZT h1]
    have hlt' : ao < L.length * k:=by have:=(List.getElem?_eq_some_iff.1 h).1; rw [hCl] at this; exact this
    have : (cur.toList.take (L.length * k))[ao]? = C[ao]?:=by rw [h2]
    rw [List.getElem?_take_of_lt hlt',h] at this
    simpa using this
   ·exact hFn ad u h
  ·cases hb
   refine ⟨rfl,?_⟩
   have hx : y[i]? = some x:=hx
   rw [c4,List.getElem?_map] at hx
   obtain ⟨z,hz,rfl⟩:=Option.map_eq_some_iff.1 hx
   refine ⟨enc z,hout z F',fun j u hu=>?_⟩
   have hi : i < L.length:=(List.getElem?_eq_some_iff.1 hz).1
   have hj : j < k:=by have:=(List.getElem?_eq_some_iff.1 hu).1; rw [hek] at this; exact this
   show F' ⟨g',0 + i * t.cells + j,none⟩ = _
   simp only [F',if_true,hkt,Nat.zero_add]
   show ((L.map enc).flatten)[i * k + j]? = some u
   have gen : ∀ (L : List α) (i : Nat) (z : α),L[i]? = some z → ((L.map enc).flatten)[i * k + j]? = some u ∨ (enc z)[j]? ≠ some u:=by
    intro L
    induction L with
    | nil=>intro i z h; simp at h
    | cons x L ih =>
     intro i z h
     rw [List.map_cons,List.flatten_cons]
     cases i with
     | zero =>
      simp only [List.getElem?_cons_zero,Option.some.injEq] at h
      subst h
      rw [Nat.zero_mul,Nat.zero_add,List.getElem?_append_left (by rw [hek]; exact hj)]
      by_cases e : (enc x)[j]? = some u
      ·exact .inl e
      ·exact .inr e
     | succ i =>
      rw [List.getElem?_append_right (by rw [hek,Nat.add_mul,Nat.one_mul]; omega),hek,show (i + 1) * k + j - k = i * k + j by rw [Nat.add_mul,Nat.one_mul]; omega]
      exact ih i z (by simpa using h)
   rcases gen L i z hz with h | h
   ·exact h
   ·exact absurd hu h
  ·cases hreg
   refine ⟨hge,h4',h5,cur,e',h1,h3,fun ad had hoff=>?_⟩
   simp only [F',had,if_true]
   split
   ·exact List.getElem?_eq_none (by rw [hCl]; exact hoff)
   ·rfl
def QsB (P : Program) (k gs g0 ts te : Nat) (fn : Func) : Code → Bool
 | .seq (.region _ _ false) (.seq _ (.seq (.region _ _ false) (.seq (.seq (.region i4 r4 false) (.block b0 (.loop (.seq (.region i5 r5 false) (.seq (.cond (.tmp 20) .skip (.exit b0')) (.block b1 (.seq (.region i6 r6 false) (.region i7 r7 false)))))))) (.seq (.region i8 r8 false) (.seq (.region i9 r9 false) .ret))))) =>
  Nat.beq r4.toList.length 4 && Qq6 P k gs g0 ts te fn (.seq (.seq (.region i4 r4 false) (.block b0 (.loop (.seq (.region i5 r5 false) (.seq (.cond (.tmp 20) .skip (.exit b0')) (.block b1 (.seq (.region i6 r6 false) (.region i7 r7 false)))))))) (.seq (.region i8 r8 false) (.seq (.region i9 r9 false) .ret)))
 | _=>false
theorem QqC {P : Program} {gl : Nat → Option (List V)} {g : Nat} {tys : List Ty} {tk tv t : Ty} {f : ES tys → Option (List t.den)} (hlt : Nat.blt g QC = true) {fn : Func} {c : Code}
  (hf : P.funcs[g]? = some fn) (hb : fn.body = some c) (he : Z8 P g = true) {con : Nat → List V → (V → Option (List t.den)) → Option (List t.den)} (hcon : QhI P gl con)
  {α : Type} [Inhabited α] {k gs g0 ts te : Nat} {enc : α → List Value} {dec : Value → α} {srt : List α → List α} {out : α → t.den} (hk0 : 0 < k) (hk1 : k ≤ 1000) (hkt : t.cells = k) (hek : ∀ x,(enc x).length = k) (he1 : ∀ x,∀ v ∈ enc x,v.oneCell' = true) (hdec : ∀ x,dec (G8 enc x) = x)
  (hsp : ∀ d,(srt d).Perm d) (hsq : ∀ d d',d.Perm d' → srt d = srt d') (hsort : QpN P gs g0 enc k srt) (hout : ∀ z F,RelD F t (out z) (enc z))
  {ans : List tk.den → Option (List t.den)} (hans : ∀ ks y,ans ks = some y → ∃ kb : List α,kb.length = ks.length ∧ (kb.length + 1) * 64 ≤ 140737488355328 ∧ (∀ (i : Nat) x z (F : Snap) (v : Value),ks[i]? = some x → kb[i]? = some z → RelD F tk x v.cells.toList → W7 tk v → v = G8 enc z) ∧ y = (srt kb).map out)
  (hchk : QsB P k gs g0 ts te fn c = true) (hl : Qty (Vj P gl con fn) fn.ntmps c) (hnt : ∀ xs,Nat.ble (Qp tys xs).length fn.ntmps = true)
  (hrun : ∀ xs y,f xs = some y → ∃ n : Nat,(fun _=>Qob P gl fn tk tv t con ans 0 (Qp tys xs) c) n = some y) : CtrOkG P gl (QhS g tys t f):=by
 unfold QsB at hchk
 split at hchk
 case h_2=>cases hchk
 rw [Bool.and_eq_true] at hchk
 obtain ⟨l0,l1,l3,l4⟩:=hl
 exact QrD hlt hf hb he hcon hk0 hk1 hkt hek he1 hdec hsp hsq hsort hout hans hchk.2 hchk.1 l0 l1 l3 l4 hnt (fun xs y h=>let ⟨_,h⟩:=hrun xs y h; h)
end Go.Ab
