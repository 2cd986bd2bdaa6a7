import Derived.Test.YtafopbigcffjgaaGreatAb37
namespace Go.Ab
open Go.Proofs Go.Sort
def Qq6 (P : Program) (k gs g0 ts te : Nat) (fn : Func) : Code → Bool
 | .seq (.seq (.region _ r4 false) (.block b0 (.loop (.seq (.region _ r5 false) (.seq (.cond (.tmp 20) .skip (.exit b0')) (.block _ (.seq (.region _ r6 false) (.region _ r7 false)))))))) (.seq (.region _ r8 false) (.seq (.region _ r9 false) .ret)) =>
  Nat.beq b0' b0 && Nat.ble 30 fn.ntmps && (match fn.results.toList with
   | [.tmp 4]=>true
   | _=>false) && (match r4.toList.drop 3 with
   | [o]=>Ql5 P o 18 17
   | _=>false) && (match r5.toList with
   | [o1,o2]=>Qqx o1 19 18 && QoW o2 20 19
   | _=>false) && (match r6.toList with
   | [o1,o2,o3,o4]=>QoV o1 21 18 && QoW o2 22 21 && QoY o3 6 te && Qm4 o4 te 6 22
   | _=>false) && (match r7.toList with
   | [o1,o2,o3,o4,o5]=>QjK o1 23 5 && QoZ o2 24 te 6 && Qqy o3 25 24 ts && Qsw o4 26 23 25 ts && QjK o5 5 26
   | _=>false) && (match r8.toList with
   | [o1,o2]=>QjK o1 27 5 && Qo0 o2 28 gs 27 g0
   | _=>false) && (match r9.toList with
   | [o1,o2]=>QjK o1 29 5 && QjK o2 4 29
   | _=>false) && Xy P te && (match P.underlying te with
   | some _=>true
   | none=>false) && (match P.underlying ts with
   | some (.slice e)=>Nat.beq e te && (match P.info? e with
    | some i=>Nat.beq i.size k && Nat.ble i.bytes 64 && (match i.zero with
     | some z=>Nat.beq z.cells.size k
     | none=>false)
    | none=>false)
   | _=>false)
 | _=>false
def QpN (P : Program) (gs g0 : Nat) {α : Type} [Inhabited α] (enc : α → List Value) (k : Nat) (srt : List α → List α) : Prop :=
 Z8 P gs = true ∧ (∀ (blk off cap : Nat) (d : List α) (w : World),HoldsK enc k w blk off d.toArray → blk < w.heap.size → d.length < 4611686018427387904 →
  Calls P gs #[.slice (some ⟨blk,off,none⟩) d.length cap,.func (.func g0) #[] #[]] w fun e w'=>e = .returned (.tuple #[]) ∧ ∃ n os,w' = sortWorldK enc k w blk off n (srt d).toArray os) ∧
 ∀ (p : Option Addr) (cap : Nat) (w : World),Calls P gs #[.slice p 0 cap,.func (.func g0) #[] #[]] w fun e w'=>e = .returned (.tuple #[]) ∧ w' = w
def G8 {α : Type} (enc : α → List Value) (x : α) : Value:=.agg (enc x).toArray
theorem Qo3 {α : Type} {enc : α → List Value} {dec : Value → α} (hd : ∀ x,dec (G8 enc x) = x) {l l' : List α} (h : (l.map (G8 enc)).Perm (l'.map (G8 enc))) : l.Perm l':=by
 have h2:=h.map dec
 simpa [List.map_map,Function.comp_def,hd] using h2
section
variable {α : Type} [Inhabited α]
set_option maxHeartbeats 1600000 in
theorem QrC {P : Program} {k gs g0 ts te : Nat} {fn : Func} {enc : α → List Value} {dec : Value → α} {srt : List α → List α} (hk0 : 0 < k) (hk1 : k ≤ 1000) (hek : ∀ x,(enc x).length = k) (he1 : ∀ x,∀ v ∈ enc x,v.oneCell' = true) (hdec : ∀ x,dec (G8 enc x) = x)
  (hsp : ∀ d,(srt d).Perm d) (hsq : ∀ d d',d.Perm d' → srt d = srt d') (hsort : QpN P gs g0 enc k srt)
  {i4 i5 i6 i7 i8 i9 b0 b0' b1 : Nat} {r4 r5 r6 r7 r8 r9 : Array Oper} {o4 : Oper} (ho4 : r4.toList.drop 3 = [o4])
  (hchk : Qq6 P k gs g0 ts te fn (.seq (.seq (.region i4 r4 false) (.block b0 (.loop (.seq (.region i5 r5 false) (.seq (.cond (.tmp 20) .skip (.exit b0')) (.block b1 (.seq (.region i6 r6 false) (.region i7 r7 false)))))))) (.seq (.region i8 r8 false) (.seq (.region i9 r9 false) .ret))) = true)
  {w0 : World} {r : Option Nat} {ms : Array MapEntry} {clock : Nat} (hr : ∀ b,r = some b → w0.heap[b]? = some (.map ms clock)) (hr0 : r = none → ms = #[]) (hborn : ∀ m ∈ ms,m.born < clock) (hnd : (ms.toList.map (·.born)).Nodup) {kb : List α} (hkb : ms.toList.map (·.key) = kb.map (G8 enc)) (hlen : (kb.length + 1) * 64 ≤ 140737488355328)
  {a0 : Act} (a0s : a0.tmps.size = fn.ntmps) (a0d : a0.defers = []) (a017 : Qo a0 17 = .map r) (a05 : Qo a0 5 = .slice none 0 0) {R : Ending → World → Prop} (hR : ∀ v w',QgB k w0 w' [] v ((srt kb).map enc) → BelowN w0.heap.size w0 w' → R (.returned v) w') :
  wpList P r4 (Exit.then (fun a w=>(Code.block b0 (.loop (.seq (.region i5 r5 false) (.seq (.cond (.tmp 20) .skip (.exit b0')) (.block b1 (.seq (.region i6 r6 false) (.region i7 r7 false))))))).wp P (Exit.then (fun a w=>(Code.seq (.region i8 r8 false) (.seq (.region i9 r9 false) .ret)).wp P (bodyPost P fn R) a w) (bodyPost P fn R)) a w)
   (Exit.then (fun a w=>(Code.seq (.region i8 r8 false) (.seq (.region i9 r9 false) .ret)).wp P (bodyPost P fn R) a w) (bodyPost P fn R))) [o4] a0 w0:=by
 unfold Qq6 at hchk
 simp only [Bool.and_eq_true] at hchk
 obtain ⟨⟨⟨⟨⟨⟨⟨⟨⟨⟨⟨hb0,hnt⟩,hres⟩,h4⟩,h5⟩,h6⟩,h7⟩,h8⟩,h9⟩,hagg⟩,hte⟩,hty⟩:=hchk
 have hb0:=Nat.eq_of_beq_eq_true hb0
 subst hb0
 have hnt:=Nat.le_of_ble_eq_true hnt
 split at hres
 case h_2=>cases hres
 rename_i hres'
 rw [ho4] at h4
 have h4 : Ql5 P o4 18 17 = true:=h4
 split at h5
 case h_2=>cases h5
 rename_i q1 q2 e5
 simp only [Bool.and_eq_true] at h5
 split at h6
 case h_2=>cases h6
 rename_i s1 s2 s3 s4 e6
 simp only [Bool.and_eq_true] at h6
 split at h7
 case h_2=>cases h7
 rename_i t1 t2 t3 t4 t5 e7
 simp only [Bool.and_eq_true] at h7
 split at h8
 case h_2=>cases h8
 rename_i u1 u2 e8
 simp only [Bool.and_eq_true] at h8
 split at h9
 case h_2=>cases h9
 rename_i z1 z2 e9
 simp only [Bool.and_eq_true] at h9
 split at hte
 case h_2=>cases hte
 rename_i dte hdte
 split at hty
 case h_2=>cases hty
 rename_i el hel
 simp only [Bool.and_eq_true] at hty
 have hele:=Nat.eq_of_beq_eq_true hty.1
 subst hele
 have hty:=hty.2
 split at hty
 case h_2=>cases hty
 rename_i inf hinf
 simp only [Bool.and_eq_true] at hty
 obtain ⟨⟨hsz1,hby⟩,hzz⟩:=hty
 have hsz1:=Nat.eq_of_beq_eq_true hsz1
 have hby:=Nat.le_of_ble_eq_true hby
 split at hzz
 case h_2=>cases hzz
 rename_i zs hz
 have hzs:=Nat.eq_of_beq_eq_true hzz
 obtain ⟨hsb,hs1,hs2⟩:=hsort
 have hkl : ms.toList.length = kb.length:=by have:=congrArg List.length hkb; simpa using this
 have hcof : P.cellsOf el = k:=by simp [Program.cellsOf,hinf,hsz1]
 have hfl : ∀ ss : List α,∀ y ∈ ss.map enc,y.length = k:=by
  intro ss y hy
  obtain ⟨x,_,rfl⟩:=List.mem_map.1 hy
  exact hek x
 let ri:=w0.heap.size
 obtain ⟨it,hrun,hit⟩ : ∃ it : Obj,(∀ t k e,P.underlying t = some (.map k e) → (Instr.range t (.map r)).run P w0 = .ok (.pointer (some ⟨ri,0,none⟩)) (w0.alloc it)) ∧ ((r = none ∧ it = .mapIter none 0 #[] 0) ∨ ∃ b,r = some b ∧ it = .mapIter (some b) clock #[] clock):=by
  cases r with
  | none=>exact ⟨_,fun t k e ht=>run_range_nilMap w0 t k e ht,.inl ⟨rfl,rfl⟩⟩
  | some b=>exact ⟨_,fun t k e ht=>run_range_map w0 t k e b ms clock ht (hr b rfl),.inr ⟨b,rfl,rfl⟩⟩
 let I : Act → World → Prop:=fun a w=>∃ (ss : List α) (left : List MapEntry),a.tmps.size = fn.ntmps ∧ a.defers = [] ∧ Qo a 18 = .pointer (some ⟨ri,0,none⟩) ∧ QgB k w0 w [ri] (Qo a 5) (ss.map enc) ∧ BelowN w0.heap.size w0 w ∧ ri < w.heap.size ∧
  (ss.map (G8 enc) ++ left.map (·.key)).Perm (kb.map (G8 enc)) ∧ ((r = none ∧ left = [] ∧ w.heap[ri]? = some (.mapIter none 0 #[] 0)) ∨ ∃ (b : Nat) (seen : Array Nat) (c0 : Nat),r = some b ∧ w.heap[ri]? = some (.mapIter (some b) clock seen c0) ∧ clock ≤ c0 ∧ left = (Go.leftOf ms seen).toList)
 obtain ⟨a1,ha1,a1s,a1d,a1v⟩:=Jh a0s (show 18 < fn.ntmps by omega) (.pointer (some ⟨ri,0,none⟩))
 refine Qs6 (v:=.map r) (u:=.pointer (some ⟨ri,0,none⟩)) h4 a017 hrun ?_
 rw [ha1]
 show Code.wp _ _ _ a1 (w0.alloc it)
 refine wp_block ?_
 refine wp_loop I (fun _ w=>match w.heap[ri]? with
  | some (.mapIter (some _) _ seen _)=>(Go.leftOf ms seen).size
  | _=>0) ?_ ?_
 ·have hal:=(MapKept.heap_alloc w0 it).1
  refine ⟨[],ms.toList,a1s,by rw [a1d]; exact a0d,?_,.inl ⟨?_,rfl⟩,(BelowN.refl _ _).alloc (Nat.le_refl _) _,by rw [Qb6]; exact Nat.lt_succ_self _,by rw [← hkb]; exact List.Perm.refl _,?_⟩
  ·rw [a1v,if_pos rfl]
  ·rw [a1v,if_neg (by decide)]; exact a05
  ·rcases hit with ⟨e,e'⟩ | ⟨b,e,e'⟩
   ·exact .inl ⟨e,by rw [hr0 e],by rw [← e']; exact hal⟩
   ·refine .inr ⟨b,#[],clock,e,by rw [← e']; exact hal,Nat.le_refl _,?_⟩
    have : Go.leftOf ms #[] = ms:=Array.filter_eq_self.2 (fun x _=>by simp)
    rw [this]
 ·rintro a w ⟨ss,left,hsz,hdef,ht6,hG,hB,hri,hperm,hmem⟩
  have hssl : ss.length + left.length = kb.length:=by have:=hperm.length_eq; simpa using this
  refine wp_seq (wp_region_list ?_)
  rw [e5]
  have key : (left = [] ∧ (Instr.next (.pointer (some ⟨ri,0,none⟩)) false q1.type).run P w = .ok (.tuple #[.bool false]) w) ∨ ∃ (b : Nat) (seen : Array Nat) (c0 : Nat) (e : MapEntry) (w1 : World),r = some b ∧ w.heap[ri]? = some (.mapIter (some b) clock seen c0) ∧ left = (Go.leftOf ms seen).toList ∧ b < w0.heap.size ∧ w.heap[b]? = some (.map ms clock) ∧ e ∈ (Go.leftOf ms seen).toList ∧ (w1 = w ∨ w1 = w.drew) ∧ (Instr.next (.pointer (some ⟨ri,0,none⟩)) false q1.type).run P w = .ok (.tuple #[.bool true,e.key,e.val]) (Go.ChangeMaps.setBlock w1 ri (.mapIter (some b) clock (seen.push e.born) clock)):=by
   rcases hmem with ⟨hrn,hl,hit2⟩ | ⟨b,seen,c0,hrb,hit2,hc0,hl⟩
   ·refine .inl ⟨hl,?_⟩
    simp only [Instr.next,getObj,Sem.run_bind,Sem.run,hit2,Result.andThen]
    rfl
   ·have hblt : b < w0.heap.size:=(Array.getElem?_eq_some_iff.1 (hr b hrb)).1
    have hbm : w.heap[b]? = some (.map ms clock):=by rw [hB.block b hblt]; exact hr b hrb
    rcases run_next_at (P:=P) w q1.type ri b clock c0 seen ms clock hit2 hbm (fun x hx=>hborn x (by simpa using hx)) hc0 with ⟨hz0,hnx⟩ | ⟨e,he,w1,hw1,hnx⟩
    ·refine .inl ⟨?_,hnx⟩
     rw [hl]
     exact List.eq_nil_of_length_eq_zero (by simpa using hz0)
    ·exact .inr ⟨b,seen,c0,e,w1,hrb,hit2,hl,hblt,hbm,he,hw1,hnx⟩
  rcases key with ⟨hl,hnx⟩ | ⟨b,seen,c0,e,w1,hrb,hit2,hl,hblt,hbm,he,hw1,hnx⟩
  ·refine Qsx h5.1 ht6 hnx ?_
   obtain ⟨b1',hb1,y1s,d1,y1⟩:=Jh hsz (show 19 < fn.ntmps by omega) (.tuple #[.bool false])
   rw [hb1]
   refine Qqz (vs:=#[.bool false]) (u:=.bool false) h5.2 (by rw [y1,if_pos rfl]) rfl ?_
   obtain ⟨b2,hb2,y2s,d2,y2⟩:=Jh y1s (show 20 < fn.ntmps by omega) (.bool false)
   rw [hb2]
   show Code.wp _ _ _ b2 w
   refine wp_seq (wp_cond_false (by show Qo b2 20 = _; rw [y2,if_pos rfl]) (wp_exit ?_))
   show Exit.inBlock b0' _ (.exit b0') b2 w
   simp only [Exit.inBlock,if_true]
   show Code.wp _ _ _ b2 w
   refine wp_seq (wp_region_list ?_)
   rw [e8]
   have y25 : Qo b2 5 = Qo a 5:=by rw [y2,if_neg (by decide),y1,if_neg (by decide)]
   refine Qm0 h8.1 ?_
   obtain ⟨b3,hb3,y3s,d3,y3⟩:=Jh y2s (show 27 < fn.ntmps by omega) (Qo b2 5)
   rw [hb3]
   have y327 : Qo b3 27 = Qo a 5:=by rw [y3,if_pos rfl,y25]
   have y35 : Qo b3 5 = Qo a 5:=by rw [y3,if_neg (by decide),y25]
   have dd3 : b3.defers = []:=by rw [d3,d2,d1]; exact hdef
   have hperm2 : ss.Perm kb:=by
    rw [hl] at hperm
    simp only [List.map_nil,List.append_nil] at hperm
    exact Qo3 hdec hperm
   have hms : srt ss = srt kb:=hsq _ _ hperm2
   have fin : ∀ (w' : World),QgB k w0 w' [] (Qo a 5) ((srt kb).map enc) → BelowN w0.heap.size w0 w' → ∀ u : Value,wpList P r8 (Exit.then (fun a w=>((Code.region i9 r9 false).seq Code.ret).wp P (bodyPost P fn R) a w) (bodyPost P fn R)) [] (b3.put (some 28) u) w':=by
    intro w' hg' hb' u
    show Code.wp _ _ _ _ _
    refine wp_seq (wp_region_list ?_)
    rw [e9]
    obtain ⟨b4,hb4,y4s,d4,y4⟩:=Jh y3s (show 28 < fn.ntmps by omega) u
    rw [hb4]
    refine Qm0 h9.1 ?_
    obtain ⟨b5,hb5,y5s,d5,y5⟩:=Jh y4s (show 29 < fn.ntmps by omega) (Qo b4 5)
    rw [hb5]
    refine Qm0 h9.2 ?_
    obtain ⟨b6,hb6,y6s,d6,y6⟩:=Jh y5s (show 4 < fn.ntmps by omega) (Qo b5 29)
    rw [hb6]
    show Code.wp _ _ _ b6 w'
    refine wp_ret ⟨by rw [d6,d5,d4]; exact dd3,_,Qcy hres' _ _,?_⟩
    refine hR _ _ ?_ hb'
    rw [y6,if_pos rfl,y5,if_pos rfl,y4,if_neg (by decide),y35]
    exact hg'
   rcases hG with ⟨e3',hnil⟩ | ⟨g',cap,cur,e',e3',k1,k2,k3,k4,k5,k6,k7⟩
   ·refine Qq5 hsb h8.2 (v:=.slice none 0 0) (y327.trans e3') (hs2 none 0 w) ?_
    rintro e w' ⟨rfl,rfl⟩
    refine ⟨_,rfl,fin _ (.inl ⟨e3',?_⟩) hB _⟩
    have h0 : ss.length = 0:=by have:=congrArg List.length hnil; simpa using this
    have h1:=hperm2.length_eq
    have h2:=(hsp kb).length_eq
    have : srt kb = []:=List.eq_nil_of_length_eq_zero (by omega)
    rw [this]
    rfl
   ·have hg' : g' < w.heap.size:=(Array.getElem?_eq_some_iff.1 k1).1
    rw [List.length_map] at e3' k2 k4
    have hsl:=(hsp ss).length_eq
    refine Qq5 hsb h8.2 (v:=.slice (some ⟨g',0,none⟩) ss.length cap) (y327.trans e3') (hs1 g' 0 cap ss w (Qo1 hek k1 k2) hg' (by omega)) ?_
    rintro e w' ⟨rfl,n,os,rfl⟩
    have hFs : (flatK enc k (srt ss).toArray).size = ss.length * k:=by rw [size_flatK,List.size_toArray,hsl]
    have hle : ss.length * k ≤ cap * k:=Nat.mul_le_mul_right _ k4
    refine ⟨_,rfl,fin _ (.inr ⟨g',cap,_,e',?_,QqB _ k1,?_,?_,?_,k5,k6,by simp⟩) ?_ _⟩
    ·rw [e3',← hms,List.length_map,hsl]
    ·rw [← hms,List.length_map,hsl,← Qm5 enc hek]
     have:=QrB cur (flatK enc k (srt ss).toArray) (by rw [hFs,k3]; exact hle)
     rw [hFs] at this
     exact this
    ·simp [Sort.putCells,k3]
    ·rw [← hms,List.length_map,hsl]; exact k4
    ·exact Qo2 _ hB k6
  ·have hem:=Go.mem_left he
   obtain ⟨x,hx,hkx⟩ : ∃ x ∈ kb,G8 enc x = e.key:=by
    have : e.key ∈ kb.map (G8 enc):=by rw [← hkb]; exact List.mem_map_of_mem hem.1
    exact List.mem_map.1 this
   have hw1h : w1.heap = w.heap:=by rcases hw1 with rfl | rfl <;> rfl
   let w2:=Go.ChangeMaps.setBlock w1 ri (.mapIter (some b) clock (seen.push e.born) clock)
   have w2s : w2.heap.size = w.heap.size:=by show (w1.heap.setIfInBounds _ _).size = _; rw [Array.size_setIfInBounds,hw1h]
   have w2r : w2.heap[ri]? = some (.mapIter (some b) clock (seen.push e.born) clock):=by
    show (w1.heap.setIfInBounds _ _)[ri]? = _
    rw [Array.getElem?_setIfInBounds_self_of_lt (by rw [hw1h]; exact hri)]
   have w2o : ∀ q,q ≠ ri → w2.heap[q]? = w.heap[q]?:=fun q hq=>by
    show (w1.heap.setIfInBounds _ _)[q]? = _
    rw [Array.getElem?_setIfInBounds_ne (fun e=>hq e.symm),hw1h]
   have hB2 : BelowN w0.heap.size w0 w2:=by
    have : w1.os = w.os ∧ w1.tape = w.tape ∧ w1.output = w.output ∧ w.drawn ≤ w1.drawn:=by rcases hw1 with rfl | rfl <;> exact ⟨rfl,rfl,rfl,by first | exact Nat.le_refl _ | exact Nat.le_succ _⟩
    exact ⟨this.1.trans hB.os,this.2.1.trans hB.tape,this.2.2.1.trans hB.output,by rw [w2s]; exact hB.size,fun q hq=>(w2o q (Nat.ne_of_lt hq)).trans (hB.block q hq),Nat.le_trans hB.drawn this.2.2.2⟩
   have hG2 : QgB k w0 w2 [ri] (Qo a 5) (ss.map enc):=by
    rcases hG with h | ⟨g',cap,cur,e',k0,k1,q⟩
    ·exact .inl h
    ·refine .inr ⟨g',cap,cur,e',k0,?_,q⟩
     rw [w2o g' (fun e=>q.2.2.2.2.2 (by simp [e]))]; exact k1
   refine Qsx h5.1 ht6 hnx ?_
   obtain ⟨b1',hb1,y1s,d1,y1⟩:=Jh hsz (show 19 < fn.ntmps by omega) (.tuple #[.bool true,e.key,e.val])
   rw [hb1]
   refine Qqz (vs:=#[.bool true,e.key,e.val]) (u:=.bool true) h5.2 (by rw [y1,if_pos rfl]) rfl ?_
   obtain ⟨b2,hb2,y2s,d2,y2⟩:=Jh y1s (show 20 < fn.ntmps by omega) (.bool true)
   rw [hb2]
   show Code.wp _ _ _ b2 w2
   have y25 : Qo b2 5 = Qo a 5:=by rw [y2,if_neg (by decide),y1,if_neg (by decide)]
   have y218 : Qo b2 18 = .pointer (some ⟨ri,0,none⟩):=by rw [y2,if_neg (by decide),y1,if_neg (by decide),ht6]
   have y220 : Qo b2 20 = .bool true:=by rw [y2,if_pos rfl]
   refine wp_seq (wp_cond_true y220 (wp_skip ?_))
   show Code.wp _ _ _ b2 w2
   refine wp_block (wp_seq (wp_region_list ?_))
   rw [e6]
   have hbm2 : w2.heap[b]? = some (.map ms clock):=by rw [w2o b (Nat.ne_of_lt hblt)]; exact hbm
   have hent:=run_entry_at (P:=P) w2 ri b clock seen ms clock e w2r hbm2 hem.1 hnd
   refine Qs7 h6.1.1.1 y218 hent ?_
   obtain ⟨b3,hb3,y3s,d3,y3⟩:=Jh y2s (show 21 < fn.ntmps by omega) (.tuple #[e.key,e.val])
   rw [hb3]
   refine Qqz (vs:=#[e.key,e.val]) (u:=e.key) h6.1.1.2 (by rw [y3,if_pos rfl]) rfl ?_
   obtain ⟨b4,hb4,y4s,d4,y4⟩:=Jh y3s (show 22 < fn.ntmps by omega) e.key
   rw [hb4]
   refine Qs9 hinf hz h6.1.2 ?_
   obtain ⟨b5,hb5,y5s,d5,y5⟩:=Jh y4s (show 6 < fn.ntmps by omega) (.pointer (some ⟨w2.heap.size,0,none⟩))
   rw [hb5]
   have hn3 : (w2.alloc (.cells zs.cells el)).heap[w2.heap.size]? = some (.cells zs.cells el (0,0)):=(MapKept.heap_alloc w2 _).1
   have hek2 : (enc x).length = k:=hek x
   have hcl : (G8 enc x).cells = (enc x).toArray:=rfl
   have hstore:=Yx (P:=P) (w:=w2.alloc (.cells zs.cells el)) (t:=el) (u:=G8 enc x) (g:=w2.heap.size) (o:=0) hn3 (by rw [hinf]; rfl) (by rw [hcl,hcof,List.size_toArray,hek2]) (by rw [hcl,List.size_toArray,hek2,hzs]; omega) (fun v hv=>he1 x v (by rw [hcl] at hv; simpa using hv))
   have hrow : (zs.cells.toList.take 0 ++ (G8 enc x).cells.toList ++ zs.cells.toList.drop (0 + (G8 enc x).cells.size)).toArray = (enc x).toArray:=by
    rw [List.take_zero,List.nil_append,List.drop_of_length_le (by rw [Array.length_toList,hzs,hcl,List.size_toArray,hek2]; omega),List.append_nil,hcl]
   rw [hrow] at hstore
   refine QsA (vp:=.pointer (some ⟨w2.heap.size,0,none⟩)) (vu:=G8 enc x) h6.2 (by rw [y5,if_pos rfl]) (by rw [y5,if_neg (by decide),y4,if_pos rfl,hkx]) hstore ?_
   let w3:=(w2.alloc (.cells zs.cells el)).setRow w2.heap.size (enc x).toArray
   show Code.wp _ _ _ b5 w3
   have hblk3:=Yw (w:=w2.alloc (.cells zs.cells el)) (cs:=(enc x).toArray) hn3
   have w3s : w3.heap.size = w2.heap.size + 1:=by show ((w2.alloc (.cells zs.cells el)).setRow _ _).heap.size = _; rw [size_setRow]; exact Qb6
   have w3o : ∀ q,q < w2.heap.size → w3.heap[q]? = w2.heap[q]?:=fun q hq=>by
    show ((w2.alloc (.cells zs.cells el)).setRow _ _).heap[q]? = _
    rw [hblk3,if_neg (by omega)]
    exact RowKit.Below.heap_alloc w2 _ q hq
   have w3n : w3.heap[w2.heap.size]? = some (.cells (enc x).toArray el (0,0)):=by
    show ((w2.alloc (.cells zs.cells el)).setRow _ _).heap[w2.heap.size]? = _
    rw [hblk3,if_pos rfl]
   have hB3 : BelowN w0.heap.size w0 w3:=BelowN.setRow (hB2.alloc hB2.size _) hB2.size _
   have hG3 : QgB k w0 w3 [ri] (Qo a 5) (ss.map enc):=by
    rcases hG2 with h | ⟨g',cap,cur,e',k0,k1,q⟩
    ·exact .inl h
    ·refine .inr ⟨g',cap,cur,e',k0,?_,q⟩
     rw [w3o g' (Array.getElem?_eq_some_iff.1 k1).1]; exact k1
   have hri3 : ri < w3.heap.size:=by rw [w3s,w2s]; omega
   have hn2 : (ss.length + 1) * 64 ≤ 140737488355328:=by
    have : left.length ≠ 0:=by
     rw [hl]
     intro h0
     have:=List.eq_nil_of_length_eq_zero h0
     rw [this] at he
     simp at he
    omega
   refine wp_region_list ?_
   rw [e7]
   have y55 : Qo b5 5 = Qo a 5:=by rw [y5,if_neg (by decide),y4,if_neg (by decide),y3,if_neg (by decide),y25]
   have y56 : Qo b5 6 = .pointer (some ⟨w2.heap.size,0,none⟩):=by rw [y5,if_pos rfl]
   have y518 : Qo b5 18 = .pointer (some ⟨ri,0,none⟩):=by rw [y5,if_neg (by decide),y4,if_neg (by decide),y3,if_neg (by decide),y218]
   obtain ⟨v',w',hap,hG',hB',hsz',hbad'⟩:=QpM (P:=P) (w:=w3) (t:=ts) (ty:=t4.type) (x:=enc x) hk0 hel hinf hz hzs hsz1 hby hek2 (he1 x) (hfl ss) hG3 hB3 (by intro b hb; rw [List.mem_singleton.1 hb]; exact hri3) (by rw [List.length_map]; exact hn2)
   obtain ⟨c6,hc6,x6s,e6',x6⟩:=Jh y5s (show 23 < fn.ntmps by omega) (Qo b5 5)
   obtain ⟨c7,hc7,x7s,e7',x7⟩:=Jh x6s (show 24 < fn.ntmps by omega) (G8 enc x)
   obtain ⟨c8,hc8,x8s,e8',x8⟩:=Jh x7s (show 25 < fn.ntmps by omega) (.slice (some ⟨w3.heap.size,0,none⟩) 1 1)
   obtain ⟨c9,hc9,x9s,e9',x9⟩:=Jh x8s (show 26 < fn.ntmps by omega) v'
   obtain ⟨c10,hc10,x10s,e10',x10⟩:=Jh x9s (show 5 < fn.ntmps by omega) (Qo c9 26)
   have hload : (Instr.loadAt el (.pointer (some ⟨w2.heap.size,0,none⟩))).run P w3 = .ok (G8 enc x) w3:=by
    unfold Instr.loadAt Instr.sureAddr
    simp only [Sem.run_bind,Sem.run_pure,Result.andThen_ok]
    unfold loadVar
    rw [Sem.run_bind,V4 hdte,hagg,Result.andThen_ok]
    simp only [if_true,Sem.run_bind,Qy hinf,Result.andThen_ok,hsz1,← hek2]
    rw [run_loadCells_list w3 _ (enc x) fun j v hv=>by rw [Addr.add_lit,ZT w3n,Nat.zero_add]; simpa using hv]
    simp only [Result.andThen_ok,Sem.run_pure]
    rfl
   refine Qm0 h7.1.1.1.1 ?_
   rw [hc6]
   refine Qta (vp:=.pointer (some ⟨w2.heap.size,0,none⟩)) h7.1.1.1.2 (by rw [x6,if_neg (by decide),y56]) hload ?_
   rw [hc7]
   refine Qtx (u:=(enc x).toArray) hel hinf hz hsz1 hk0 hk1 (by rw [List.size_toArray,hek2]) h7.1.1.2 (by rw [x7,if_pos rfl]; rfl) ?_
   rw [hc8]
   refine QtO (v1:=Qo a 5) (v2:=.slice (some ⟨w3.heap.size,0,none⟩) 1 1) h7.1.2 (by rw [x8,if_neg (by decide),x7,if_neg (by decide),x6,if_pos rfl,y55]) (by rw [x8,if_pos rfl]) hap ?_
   rw [hc9]
   refine Qm0 h7.2 ?_
   rw [hc10]
   have f18 : Qo c10 18 = .pointer (some ⟨ri,0,none⟩):=by rw [x10,if_neg (by decide),x9,if_neg (by decide),x8,if_neg (by decide),x7,if_neg (by decide),x6,if_neg (by decide),y518]
   have f5 : Qo c10 5 = v':=by rw [x10,if_pos rfl,x9,if_pos rfl]
   have dd : c10.defers = []:=by rw [e10',e9',e8',e7',e6',d5,d4,d3,d2,d1]; exact hdef
   show I c10 w' ∧ (match w'.heap[ri]? with
    | some (.mapIter (some _) _ seen _)=>(Go.leftOf ms seen).size
    | _=>0) < (match w.heap[ri]? with
    | some (.mapIter (some _) _ seen _)=>(Go.leftOf ms seen).size
    | _=>0)
   have hri' : w'.heap[ri]? = some (.mapIter (some b) clock (seen.push e.born) clock):=by rw [hbad' ri (by simp),w3o ri (by rw [w2s]; exact hri)]; exact w2r
   have hlp : left.Perm (e :: (Go.leftOf ms (seen.push e.born)).toList):=by
    rw [hl]
    unfold Go.leftOf
    rw [Array.toList_filter,Array.toList_filter]
    have:=Qn9 (fun x=>!seen.contains x.born) e ms.toList hnd hem.1 (by rw [hem.2]; rfl)
    refine this.trans (List.Perm.cons e (List.Perm.of_eq (List.filter_congr fun y _=>?_)))
    rw [contains_push]
    simp
   refine ⟨⟨ss ++ [x],(Go.leftOf ms (seen.push e.born)).toList,x10s,dd,f18,by rw [f5,List.map_append]; exact hG',hB',?_,?_,.inr ⟨b,seen.push e.born,clock,hrb,hri',Nat.le_refl _,rfl⟩⟩,?_⟩
   ·exact Nat.lt_of_lt_of_le hri3 hsz'
   ·refine List.Perm.trans ?_ hperm
    have:=(hlp.map (·.key)).symm
    rw [List.map_append,List.append_assoc]
    refine List.Perm.append_left _ ?_
    simp only [List.map_cons,List.map_nil,List.singleton_append,hkx] at this ⊢
    exact this
   ·simp only [hri',hit2]
    exact left_shrinks ms seen e he
end
end Go.Ab
