import Derived.Test.YtafopbigcffjgaaGreatAb36
import Derived.Sort.KeysCollected
namespace Go.Ab
open Go.Proofs Go.Sort
def QoY (o : Oper) (d te : Nat) : Bool :=
 match o.guard,o.dst,o.op with
 | none,some d',.alloc t=>Nat.beq d d' && Nat.beq t te
 | _,_,_=>false
def Qm4 (o : Oper) (te x y : Nat) : Bool :=
 match o.guard,o.dst,o.op with
 | none,none,.store t (.tmp x') (.tmp y')=>Nat.beq t te && Nat.beq x x' && Nat.beq y y'
 | _,_,_=>false
def QoZ (o : Oper) (d te x : Nat) : Bool :=
 match o.guard,o.dst,o.op with
 | none,some d',.load t (.tmp x')=>Nat.beq d d' && Nat.beq t te && Nat.beq x x'
 | _,_,_=>false
def Qo0 (o : Oper) (d g x g0 : Nat) : Bool :=
 match o.guard,o.dst,o.op with
 | none,some d',.call { callee:=.value (.func g'),args,.. }=>match args.toList with
  | [.tmp x',.func g0']=>Nat.beq d d' && Nat.beq x x' && Nat.beq g g' && Nat.beq g0 g0'
  | _=>false
 | _,_,_=>false
section
variable {P : Program} {ops : Array Oper} {Q : Exit → Act → World → Prop} {a : Act} {w : World} {rest : List Oper} {o : Oper} {d x y : Nat}
theorem Qs9 {te : Nat} {i : TypeInfo} {z : Value} (hi : P.info? te = some i) (hz : i.zero = some z) (h : QoY o d te = true) (hr : wpList P ops Q rest (a.put (some d) (.pointer (some ⟨w.heap.size,0,none⟩))) (w.alloc (.cells z.cells te))) : wpList P ops Q (o :: rest) a w:=by
 unfold QoY at h
 split at h
 case h_2=>cases h
 rename_i d' t hg hd hop
 simp only [Bool.and_eq_true] at h
 obtain rfl:=Nat.eq_of_beq_eq_true h.1
 have e2:=Nat.eq_of_beq_eq_true h.2
 subst e2
 refine Qd7 hg hd ?_ hr
 have : (Instr.alloc t true (.tuple #[])).run P w = .ok (.pointer (some ⟨w.heap.size,0,none⟩)) (w.alloc (.cells z.cells t)):=by
  unfold Instr.alloc
  simp only [Sem.run_bind,XC hi hz,Result.andThen_ok,Qgo,Sem.run_pure]
 simp only [execOp,hop,Sem.run_bind,this]
 rfl
theorem QsA {te : Nat} {vp vu : Value} {w' : World} (h : Qm4 o te x y = true) (hx : Qo a x = vp) (hy : Qo a y = vu) (hrun : (Instr.storeAt te vp vu).run P w = .ok () w') (hr : wpList P ops Q rest a w') : wpList P ops Q (o :: rest) a w:=by
 unfold Qm4 at h
 split at h
 case h_2=>cases h
 rename_i t x' y' hg hd hop
 simp only [Bool.and_eq_true] at h
 have e0:=Nat.eq_of_beq_eq_true h.1.1
 obtain rfl:=Nat.eq_of_beq_eq_true h.1.2
 obtain rfl:=Nat.eq_of_beq_eq_true h.2
 subst e0
 have hx : a.eval (.tmp x) = vp:=hx
 have hy : a.eval (.tmp y) = vu:=hy
 refine wpList_plain hg fun K hK=>?_
 unfold Oper.wp
 have : (execOp a.eval o).run P w = .ok .skip w':=by simp [execOp,hop,hx,hy,Sem.run_bind,hrun]
 rw [this,Oper.upon_skip,hd]
 exact hK _ _ hr
theorem Qta {te : Nat} {vp u : Value} (h : QoZ o d te x = true) (hx : Qo a x = vp) (hrun : (Instr.loadAt te vp).run P w = .ok u w) (hr : wpList P ops Q rest (a.put (some d) u) w) : wpList P ops Q (o :: rest) a w:=by
 unfold QoZ at h
 split at h
 case h_2=>cases h
 rename_i d' t x' hg hd hop
 simp only [Bool.and_eq_true] at h
 obtain rfl:=Nat.eq_of_beq_eq_true h.1.1
 have e0:=Nat.eq_of_beq_eq_true h.1.2
 obtain rfl:=Nat.eq_of_beq_eq_true h.2
 subst e0
 have hx : a.eval (.tmp x) = vp:=hx
 refine Qd7 hg hd ?_ hr
 simp only [execOp,hop,hx,Sem.run_bind,hrun]
 rfl
theorem Qtx {k : Nat} {ts e : TypeId} {i : TypeInfo} {z : Value} {u : Array Value} (ht : P.underlying ts = some (.slice e)) (hi : P.info? e = some i) (hz : i.zero = some z) (hs : i.size = k) (hk : 0 < k) (hk2 : k ≤ 1000) (hu : u.size = k) (h : Qqy o d x ts = true) (hx : Qo a x = .agg u)
  (hr : wpList P ops Q rest (a.put (some d) (.slice (some ⟨w.heap.size,0,none⟩) 1 1)) (w.alloc (.cells u e))) : wpList P ops Q (o :: rest) a w:=by
 unfold Qqy at h
 split at h
 case h_2=>cases h
 rename_i d' t ps hg hd hop
 split at h
 case h_2=>cases h
 rename_i x' hps
 simp only [Bool.and_eq_true] at h
 obtain rfl:=Nat.eq_of_beq_eq_true h.1.1
 obtain rfl:=Nat.eq_of_beq_eq_true h.1.2
 obtain rfl:=Nat.eq_of_beq_eq_true h.2
 have hx : a.eval (.tmp x) = .agg u:=hx
 have hps' : ps = #[(0,.tmp x)]:=by rw [← Array.toArray_toList (xs:=ps),hps]
 refine Qd7 hg hd ?_ hr
 have:=Qsz (P:=P) (w:=w) ht hi hz hs hk hk2 u hu
 simp only [execOp,hop,hps']
 simp [hx,Sem.run_bind,this]
theorem Qq5 {g g0 : Nat} {v : Value} {R : Ending → World → Prop} (hb : Z8 P g = true) (h : Qo0 o d g x g0 = true) (hx : Qo a x = v) (hc : Calls P g #[v,.func (.func g0) #[] #[]] w R) (hR : ∀ e w',R e w' → ∃ u,e = .returned u ∧ wpList P ops Q rest (a.put (some d) u) w') : wpList P ops Q (o :: rest) a w:=by
 unfold Qo0 at h
 split at h
 case h_2=>cases h
 rename_i d' g' args ats hg hd hop
 split at h
 case h_2=>cases h
 rename_i x' g0' ea
 simp only [Bool.and_eq_true] at h
 obtain rfl:=Nat.eq_of_beq_eq_true h.1.1.1
 obtain rfl:=Nat.eq_of_beq_eq_true h.1.1.2
 obtain rfl:=Nat.eq_of_beq_eq_true h.1.2
 obtain rfl:=Nat.eq_of_beq_eq_true h.2
 have hx : a.eval (.tmp x) = v:=hx
 have h0 : a.eval (.func g0) = .func (.func g0) #[] #[]:=rfl
 have ea' : args = #[.tmp x,.func g0]:=by rw [← Array.toArray_toList (xs:=args),ea]
 refine wpList_plain hg fun K hK=>?_
 unfold Oper.wp
 have hexec : (execOp a.eval o).run P w = .ok (.enter g #[v,.func (.func g0) #[] #[]]) w:=by
  have e1 : args.map a.eval = #[v,.func (.func g0) #[] #[]]:=by rw [ea']; simp only [List.map_toArray,List.map_cons,List.map_nil,hx,h0]
  simp only [execOp,hop,resolve,Deferred.ofValue,invoke,e1,Act.eval]
  simp [Deferred.ofValue,V8 hb,resolve,invoke]
 rw [hexec,Oper.upon_enter]
 refine hc.mono fun e w' hr=>?_
 obtain ⟨u,rfl,h⟩:=hR e w' hr
 rw [hd]
 exact hK _ _ h
end
section
variable {α : Type} [Inhabited α]
theorem Qm5 (enc : α → List Value) {k : Nat} (hk : ∀ x,(enc x).length = k) (d : List α) : (flatK enc k d.toArray).toList = (d.map enc).flatten:=by
 by_cases h0 : k = 0
 ·subst h0
  have : (d.map enc).flatten = []:=List.eq_nil_of_length_eq_zero (by rw [Qeb (k:=0) (by intro x hx; obtain ⟨y,_,rfl⟩:=List.mem_map.1 hx; exact hk y)]; omega)
  rw [this]
  exact List.eq_nil_of_length_eq_zero (by rw [Array.length_toList,size_flatK]; omega)
 have hk0 : 0 < k:=by omega
 apply List.ext_getElem?
 intro t
 have gen : ∀ (d : List α) (t : Nat),t < d.length * k → ((d.map enc).flatten)[t]? = some ((enc (d[t / k]!))[t % k]!):=by
  intro d
  induction d with
  | nil=>intro t ht; simp at ht
  | cons x d ih =>
   intro t ht
   rw [List.map_cons,List.flatten_cons]
   by_cases hlt : t < k
   ·rw [List.getElem?_append_left (by rw [hk]; exact hlt),Nat.div_eq_of_lt hlt,Nat.mod_eq_of_lt hlt]
    have : t < (enc x).length:=by rw [hk]; exact hlt
    simp [List.getElem?_eq_getElem this,getElem!_pos (enc x) t this]
   ·have hge : k ≤ t:=by omega
    rw [List.getElem?_append_right (by rw [hk]; exact hge),hk]
    rw [List.length_cons,Nat.add_mul,Nat.one_mul] at ht
    rw [ih (t - k) (by omega)]
    have e1 : t / k = (t - k) / k + 1:=by rw [Nat.div_eq_sub_div hk0 hge]
    have e2 : t % k = (t - k) % k:=by rw [Nat.mod_eq_sub_mod hge]
    rw [e1,e2]
    rfl
 by_cases ht : t < d.length * k
 ·rw [gen d t ht,Array.getElem?_toList]
  have h2 : t < (flatK enc k d.toArray).size:=by rw [size_flatK]; exact ht
  rw [Array.getElem?_eq_getElem h2,← getElem!_pos (flatK enc k d.toArray) t h2,get_flatK enc k d.toArray t ht,List.getElem!_toArray]
 ·rw [List.getElem?_eq_none (by rw [Array.length_toList,size_flatK]; exact Nat.le_of_not_lt ht),List.getElem?_eq_none]
  rw [Qeb (k:=k) (by intro x hx; obtain ⟨y,_,rfl⟩:=List.mem_map.1 hx; exact hk y),List.length_map]
  exact Nat.le_of_not_lt ht
theorem Qo1 {enc : α → List Value} {k : Nat} (hk : ∀ x,(enc x).length = k) {w : World} {g : Nat} {cur : Array Value} {e : TypeId} {d : List α} (hb : w.heap[g]? = some (.cells cur e (0,0))) (ht : cur.toList.take (d.length * k) = (d.map enc).flatten) : HoldsK enc k w g 0 d.toArray:=by
 intro j hj
 have hj' : j < d.length * k:=by simpa using hj
 refine ⟨?_,by simp [World.frozen?,hb]⟩
 have h1 : (cur.toList.take (d.length * k))[j]? = ((flatK enc k d.toArray).toList)[j]?:=by rw [ht,Qm5 enc hk]
 rw [List.getElem?_take_of_lt hj',Array.getElem?_toList,Array.getElem?_toList,Array.getElem?_eq_getElem hj] at h1
 rw [ZT hb,Nat.zero_add,h1,← getElem!_pos (flatK enc k d.toArray) j hj]
 rfl
theorem QqB {w : World} {g n : Nat} {os : Array Obj} {cur : Array Value} {e : TypeId} {fr : Nat × Nat} (F : Array Value) (hb : w.heap[g]? = some (.cells cur e fr)) :
  (Sort.grow (Sort.putRow id (Sort.ahead w n) g 0 F) os).heap[g]? = some (.cells (Sort.putCells id 0 F cur) e fr):=by
 have hg : g < w.heap.size:=(Array.getElem?_eq_some_iff.1 hb).1
 rw [heap_grow_old _ _ (by simpa using hg)]
 simp [Sort.putRow,Sort.mapBlock,Sort.ahead,Array.getElem?_modify,hb,Sort.onCells]
theorem Qo2 {w : World} {g n : Nat} {os : Array Obj} (F : Array Value) {w0 : World} (hB : BelowN w0.heap.size w0 w) (hg : w0.heap.size ≤ g) : BelowN w0.heap.size w0 (Sort.grow (Sort.putRow id (Sort.ahead w n) g 0 F) os):=by
 refine ⟨hB.os,hB.tape,hB.output,Nat.le_trans hB.size (by simp),fun q hq=>?_,Nat.le_trans hB.drawn (Nat.le_add_right _ _)⟩
 rw [heap_grow_old _ _ (by have:=hB.size; simp; omega),← hB.block q hq]
 have : g ≠ q:=by omega
 simp [Sort.putRow,Sort.mapBlock,Sort.ahead,Array.getElem?_modify,this]
theorem QrB (cur F : Array Value) (h : F.size ≤ cur.size) : (Sort.putCells id 0 F cur).toList.take F.size = F.toList:=by
 apply List.ext_getElem?
 intro j
 by_cases hj : j < F.size
 ·rw [List.getElem?_take_of_lt hj,Array.getElem?_toList,Array.getElem?_toList]
  simp [Sort.putCells,hj,show j < cur.size by omega]
 ·rw [List.getElem?_eq_none (by rw [List.length_take]; omega),List.getElem?_eq_none (by rw [Array.length_toList]; omega)]
end
end Go.Ab
