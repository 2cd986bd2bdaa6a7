/-
  The keys of a map, collected and sorted: the walk.
-/
import Derived.Test.YtaaehcjdphienaaGreatAb32
import Derived.Sort.KeysCollected
namespace Go.Ab
open Go.Proofs (encStr)

/-! ## Single operations -/
def isNil (o : Oper) (d : Nat) : Bool :=
  match o.guard, o.dst, o.op with
  | none, some d', .assign (.const (.slice none 0 0)) => Nat.beq d d'
  | _, _, _ => false
def isRange (P : Program) (o : Oper) (d x : Nat) : Bool :=
  match o.guard, o.dst, o.op with
  | none, some d', .range t (.tmp x') => Nat.beq d d' && Nat.beq x x' && (match P.underlying t with
    | some (.map _ _) => true
    | _ => false)
  | _, _, _ => false
def isNext (o : Oper) (d x : Nat) : Bool :=
  match o.guard, o.dst, o.op with
  | none, some d', .next (.tmp x') false => Nat.beq d d' && Nat.beq x x'
  | _, _, _ => false
def isEntry (o : Oper) (d x : Nat) : Bool :=
  match o.guard, o.dst, o.op with
  | none, some d', .entry (.tmp x') => Nat.beq d d' && Nat.beq x x'
  | _, _, _ => false
def isExt0 (o : Oper) (d x : Nat) : Bool :=
  match o.guard, o.dst, o.op with
  | none, some d', .extract (.tmp x') 0 => Nat.beq d d' && Nat.beq x x'
  | _, _, _ => false
def isLit1 (o : Oper) (d x ts : Nat) : Bool :=
  match o.guard, o.dst, o.op with
  | none, some d', .buildSlice t 1 ps => match ps.toList with
    | [(0, .tmp x')] => Nat.beq d d' && Nat.beq x x' && Nat.beq t ts
    | _ => false
  | _, _, _ => false
def isApp (o : Oper) (d x y ts : Nat) : Bool :=
  match o.guard, o.dst, o.op with
  | none, some d', .call { callee := .builtin .append, args, argTypes } => match args.toList, argTypes.toList with
    | [.tmp x', .tmp y'], [t, t'] => Nat.beq d d' && Nat.beq x x' && Nat.beq y y' && Nat.beq t ts && Nat.beq t' ts
    | _, _ => false
  | _, _, _ => false
def isCall1 (o : Oper) (d g x : Nat) : Bool :=
  match o.guard, o.dst, o.op with
  | none, some d', .call { callee := .value (.func g'), args, .. } => match args.toList with
    | [.tmp x'] => Nat.beq d d' && Nat.beq x x' && Nat.beq g g'
    | _ => false
  | _, _, _ => false

/-- The shape. -/
def keysL (P : Program) (gs ts : Nat) (fn : Func) : Code → Bool
  | .seq (.region _ r0 false) (.seq (.region _ r1 false) (.seq (.seq (.region _ r2 false) (.block b0 (.loop (.seq (.region _ r3 false) (.seq (.cond (.tmp 8) .skip (.exit b0')) (.block _ (.seq (.region _ r4 false) (.region _ r5 false)))))))) (.seq (.region _ r6 false) (.seq (.region _ r7 false) .ret)))) =>
    Nat.beq b0' b0 && Nat.ble 18 fn.ntmps && (match fn.results.toList with
      | [.tmp 2] => true
      | _ => false) && (match r0.toList with
      | [o] => isNil o 2
      | _ => false) && (match r1.toList with
      | [o] => isNil o 3
      | _ => false) && (match r2.toList with
      | [o1, o2] => isMv o1 5 0 && isRange P o2 6 5
      | _ => false) && (match r3.toList with
      | [o1, o2] => isNext o1 7 6 && isExt0 o2 8 7
      | _ => false) && (match r4.toList with
      | [o1, o2, o3] => isEntry o1 9 6 && isExt0 o2 10 9 && isMv o3 4 10
      | _ => false) && (match r5.toList with
      | [o1, o2, o3, o4, o5] => isMv o1 11 3 && isMv o2 12 4 && isLit1 o3 13 12 ts && isApp o4 14 11 13 ts && isMv o5 3 14
      | _ => false) && (match r6.toList with
      | [o1, o2] => isMv o1 15 3 && isCall1 o2 16 gs 15
      | _ => false) && (match r7.toList with
      | [o1, o2] => isMv o1 17 3 && isMv o2 2 17
      | _ => false) && (match P.underlying ts with
      | some (.slice e) => match P.info? e with
        | some i => Nat.beq i.size 1 && Nat.ble i.bytes 16 && (match i.zero with
          | some (.string _) => true
          | _ => false)
        | none => false
      | _ => false)
  | _ => false

section
variable {P : Program} {ops : Array Oper} {Q : Exit → Act → World → Prop} {a : Act} {w : World} {rest : List Oper} {o : Oper} {d x y : Nat}

/-- A value in another world. -/
theorem w_turn {u : Value} {w' : World} (hg : o.guard = none) (hd : o.dst = some d) (hrun : (execOp a.eval o).run P w = .ok (.value u) w') (h : wpList P ops Q rest (a.put (some d) u) w') : wpList P ops Q (o :: rest) a w := by
  refine wpList_plain hg fun K hK => ?_
  unfold Oper.wp
  rw [hrun, Oper.upon_value, hd]
  exact hK _ _ h

theorem w_nil (h : isNil o d = true) (hr : wpList P ops Q rest (a.put (some d) (.slice none 0 0)) w) : wpList P ops Q (o :: rest) a w := by
  unfold isNil at h
  split at h
  case h_2 => cases h
  rename_i d' hg hd hop
  obtain rfl := Nat.eq_of_beq_eq_true h
  exact w_value hg hd (by simp [execOp, hop]; rfl) hr

theorem w_range {v u : Value} {w' : World} (h : isRange P o d x = true) (hx : tmpAt a x = v) (hrun : ∀ t k e, P.underlying t = some (.map k e) → (Instr.range t v).run P w = .ok u w') (hr : wpList P ops Q rest (a.put (some d) u) w') : wpList P ops Q (o :: rest) a w := by
  unfold isRange at h
  split at h
  case h_2 => cases h
  rename_i d' t x' hg hd hop
  split at h
  case h_2 => simp at h
  rename_i k e ht
  simp only [Bool.and_eq_true] at h
  obtain rfl := Nat.eq_of_beq_eq_true h.1.1
  obtain rfl := Nat.eq_of_beq_eq_true h.1.2
  have hx : a.eval (.tmp x) = v := hx
  refine w_turn hg hd ?_ hr
  simp only [execOp, hop, hx, Sem.run_bind, hrun t k e ht]
  rfl

theorem w_next {v u : Value} {w' : World} (h : isNext o d x = true) (hx : tmpAt a x = v) (hrun : (Instr.next v false o.type).run P w = .ok u w') (hr : wpList P ops Q rest (a.put (some d) u) w') : wpList P ops Q (o :: rest) a w := by
  unfold isNext at h
  split at h
  case h_2 => cases h
  rename_i d' x' hg hd hop
  simp only [Bool.and_eq_true] at h
  obtain rfl := Nat.eq_of_beq_eq_true h.1
  obtain rfl := Nat.eq_of_beq_eq_true h.2
  have hx : a.eval (.tmp x) = v := hx
  refine w_turn hg hd ?_ hr
  simp only [execOp, hop, hx, Sem.run_bind, hrun]
  rfl

theorem w_entry {v u : Value} (h : isEntry o d x = true) (hx : tmpAt a x = v) (hrun : (Instr.entry v).run P w = .ok u w) (hr : wpList P ops Q rest (a.put (some d) u) w) : wpList P ops Q (o :: rest) a w := by
  unfold isEntry at h
  split at h
  case h_2 => cases h
  rename_i d' x' hg hd hop
  simp only [Bool.and_eq_true] at h
  obtain rfl := Nat.eq_of_beq_eq_true h.1
  obtain rfl := Nat.eq_of_beq_eq_true h.2
  have hx : a.eval (.tmp x) = v := hx
  refine w_turn hg hd ?_ hr
  simp only [execOp, hop, hx, Sem.run_bind, hrun]
  rfl

theorem w_ext0 {vs : Array Value} {u : Value} (h : isExt0 o d x = true) (hx : tmpAt a x = .tuple vs) (hu : vs[0]? = some u) (hr : wpList P ops Q rest (a.put (some d) u) w) : wpList P ops Q (o :: rest) a w := by
  unfold isExt0 at h
  split at h
  case h_2 => cases h
  rename_i d' x' hg hd hop
  simp only [Bool.and_eq_true] at h
  obtain rfl := Nat.eq_of_beq_eq_true h.1
  obtain rfl := Nat.eq_of_beq_eq_true h.2
  have hx : a.eval (.tmp x) = .tuple vs := hx
  refine w_turn hg hd ?_ hr
  have : (Instr.extract (.tuple vs) 0).run P w = .ok u w := by simp [Instr.extract, hu]
  simp only [execOp, hop, hx, Sem.run_bind, this]
  rfl

theorem w_lit1 {ts e : TypeId} {i : TypeInfo} {z u : Value} (ht : P.underlying ts = some (.slice e)) (hi : P.info? e = some i) (hz : i.zero = some z) (hs : i.size = 1) (hu : u.cells = #[u]) (h : isLit1 o d x ts = true) (hx : tmpAt a x = u)
    (hr : wpList P ops Q rest (a.put (some d) (.slice (some ⟨w.heap.size, 0, none⟩) 1 1)) (w.alloc (.cells #[u] e))) : wpList P ops Q (o :: rest) a w := by
  unfold isLit1 at h
  split at h
  case h_2 => cases h
  rename_i d' t ps hg hd hop
  split at h
  case h_2 => cases h
  rename_i x' hps
  simp only [Bool.and_eq_true] at h
  obtain rfl := Nat.eq_of_beq_eq_true h.1.1
  obtain rfl := Nat.eq_of_beq_eq_true h.1.2
  obtain rfl := Nat.eq_of_beq_eq_true h.2
  have hx : a.eval (.tmp x) = u := hx
  have hps' : ps = #[(0, .tmp x)] := by rw [← Array.toArray_toList (xs := ps), hps]
  refine w_turn hg hd ?_ hr
  have := run_lit1 (P := P) (w := w) ht hi hz hs u hu
  simp only [execOp, hop, hps']
  simp [hx, Sem.run_bind, this]

theorem w_app {ts : TypeId} {v1 v2 u : Value} {w' : World} (h : isApp o d x y ts = true) (hx : tmpAt a x = v1) (hy : tmpAt a y = v2) (hrun : (Builtin.append_ #[ts, ts] o.type #[v1, v2]).run P w = .ok u w')
    (hr : wpList P ops Q rest (a.put (some d) u) w') : wpList P ops Q (o :: rest) a w := by
  unfold isApp at h
  split at h
  case h_2 => cases h
  rename_i d' args ats hg hd hop
  split at h
  case h_2 => cases h
  rename_i x' y' t t' ea et
  simp only [Bool.and_eq_true] at h
  obtain rfl := Nat.eq_of_beq_eq_true h.1.1.1.1
  obtain rfl := Nat.eq_of_beq_eq_true h.1.1.1.2
  obtain rfl := Nat.eq_of_beq_eq_true h.1.1.2
  have e1 := Nat.eq_of_beq_eq_true h.1.2
  have e2 := Nat.eq_of_beq_eq_true h.2
  subst e1; subst e2
  have hx : a.eval (.tmp x) = v1 := hx
  have hy : a.eval (.tmp y) = v2 := hy
  have ea' : args = #[.tmp x, .tmp y] := by rw [← Array.toArray_toList (xs := args), ea]
  have et' : ats = #[t', t'] := by rw [← Array.toArray_toList (xs := ats), et]
  refine w_turn hg hd ?_ hr
  simp [execOp, hop, ea', et', resolve, invoke, builtin, hx, hy, hrun]

theorem w_call1 {g : Nat} {v : Value} {R : Ending → World → Prop} (hb : entersB P g = true) (h : isCall1 o d g x = true) (hx : tmpAt a x = v) (hc : Calls P g #[v] w R) (hR : ∀ e w', R e w' → ∃ u, e = .returned u ∧ wpList P ops Q rest (a.put (some d) u) w') : wpList P ops Q (o :: rest) a w := by
  unfold isCall1 at h
  split at h
  case h_2 => cases h
  rename_i d' g' args ats hg hd hop
  split at h
  case h_2 => cases h
  rename_i x' ea
  simp only [Bool.and_eq_true] at h
  obtain rfl := Nat.eq_of_beq_eq_true h.1.1
  obtain rfl := Nat.eq_of_beq_eq_true h.1.2
  obtain rfl := Nat.eq_of_beq_eq_true h.2
  have hx : a.eval (.tmp x) = v := hx
  have ea' : args = #[.tmp x] := by rw [← Array.toArray_toList (xs := args), ea]
  refine wpList_plain hg fun K hK => ?_
  unfold Oper.wp
  have hexec : (execOp a.eval o).run P w = .ok (.enter g #[v]) w := by
    have e1 : args.map a.eval = #[v] := by rw [ea']; simp only [List.map_toArray, List.map_cons, List.map_nil, hx]
    simp only [execOp, hop, resolve, Deferred.ofValue, invoke, e1, Act.eval]
    simp [Deferred.ofValue, run_callFunc hb, resolve, invoke]
  rw [hexec, Oper.upon_enter]
  refine hc.mono fun e w' hr => ?_
  obtain ⟨u, rfl, h⟩ := hR e w' hr
  rw [hd]
  exact hK _ _ h

theorem put_facts {a : Act} {n d : Nat} (h : a.tmps.size = n) (hd : d < n) (u : Value) : ∃ b, a.put (some d) u = b ∧ b.tmps.size = n ∧ b.defers = a.defers ∧ ∀ t, tmpAt b t = if t = d then u else tmpAt a t :=
  ⟨_, rfl, by rw [put_size]; exact h, rfl, put_at (by omega) _⟩

/-! ## The walk -/
def strBytes : Value → List UInt8
  | .string s => s.data.toList
  | _ => []
theorem strBytes_enc (x : List UInt8) : strBytes (encStr x) = x := by simp [encStr, strBytes]

theorem left_perm (p : MapEntry → Bool) (e : MapEntry) : ∀ (l : List MapEntry), (l.map (·.born)).Nodup → e ∈ l → p e = true → (l.filter p).Perm (e :: l.filter fun x => p x && !(x.born == e.born))
  | [], _, h, _ => by cases h
  | x :: l, hn, hm, hp => by
    simp only [List.map_cons, List.nodup_cons] at hn
    rcases List.mem_cons.1 hm with rfl | hm
    · have : (l.filter fun x => p x && !(x.born == e.born)) = l.filter p := by
        apply List.filter_congr
        intro y hy
        have : ¬ (y.born = e.born) := fun h => hn.1 (by rw [← h]; exact List.mem_map_of_mem hy)
        simp [this]
      simp [hp, this]
    · have ih := left_perm p e l hn.2 hm hp
      have hne : ¬ (x.born = e.born) := fun h => hn.1 (by rw [h]; exact List.mem_map_of_mem hm)
      simp only [List.filter_cons, hne, beq_iff_eq, Bool.not_false, Bool.and_true]
      cases hpx : p x with
      | true => simp [hne, hpx]; exact (List.Perm.cons x ih).trans (List.Perm.swap e x _)
      | false => simp [hpx]; exact ih

theorem perm_of_enc {l l' : List (List UInt8)} (h : (l.map encStr).Perm (l'.map encStr)) : l.Perm l' := by
  have h2 := h.map strBytes
  simpa [List.map_map, Function.comp_def, strBytes_enc] using h2

set_option maxHeartbeats 800000 in
/-- What the walk shows. -/
theorem keys_walk {P : Program} {g gs ts : Nat} {fn : Func} {c : Code} (hf : P.funcs[g]? = some fn) (hb : fn.body = some c) (hsort : SortS P gs) (hchk : keysL P gs ts fn c = true)
    {w0 : World} {r : Option Nat} {ms : Array MapEntry} {clock : Nat} (hr : ∀ b, r = some b → w0.heap[b]? = some (.map ms clock)) (hr0 : r = none → ms = #[]) (hborn : ∀ m ∈ ms, m.born < clock) (hnd : (ms.toList.map (·.born)).Nodup) {kb : List (List UInt8)} (hkb : ms.toList.map (·.key) = kb.map encStr) (hlen : (kb.length + 1) * 16 ≤ 140737488355328) :
    Calls P g #[.map r] w0 fun e w' => ∃ v, e = .returned v ∧ Grown w0 w' [] v (kb.mergeSort fun x y => decide (x ≤ y)) ∧ RowKit.Below w0.heap.size w0 w' := by
  unfold keysL at hchk
  split at hchk
  case h_2 => cases hchk
  rename_i i0 r0 i1 r1 i2 r2 b0 i3 r3 b0' b1 i4 r4 i5 r5 i6 r6 i7 r7
  simp only [Bool.and_eq_true] at hchk
  obtain ⟨⟨⟨⟨⟨⟨⟨⟨⟨⟨⟨hb0, hnt⟩, hres⟩, h0⟩, h1⟩, h2⟩, h3⟩, h4⟩, h5⟩, h6⟩, h7⟩, hty⟩ := hchk
  have hb0 := Nat.eq_of_beq_eq_true hb0
  subst hb0
  have hnt := Nat.le_of_ble_eq_true hnt
  split at hres
  case h_2 => cases hres
  rename_i hres'
  split at h0
  case h_2 => cases h0
  rename_i o0 e0
  split at h1
  case h_2 => cases h1
  rename_i o1 e1
  split at h2
  case h_2 => cases h2
  rename_i p1 p2 e2
  simp only [Bool.and_eq_true] at h2
  split at h3
  case h_2 => cases h3
  rename_i q1 q2 e3
  simp only [Bool.and_eq_true] at h3
  split at h4
  case h_2 => cases h4
  rename_i s1 s2 s3 e4
  simp only [Bool.and_eq_true] at h4
  split at h5
  case h_2 => cases h5
  rename_i t1 t2 t3 t4 t5 e5
  simp only [Bool.and_eq_true] at h5
  split at h6
  case h_2 => cases h6
  rename_i u1 u2 e6
  simp only [Bool.and_eq_true] at h6
  split at h7
  case h_2 => cases h7
  rename_i z1 z2 e7
  simp only [Bool.and_eq_true] at h7
  split at hty
  case h_2 => cases hty
  rename_i el hel
  split at hty
  case h_2 => cases hty
  rename_i inf hinf
  simp only [Bool.and_eq_true] at hty
  obtain ⟨⟨hsz1, hby⟩, hzz⟩ := hty
  have hsz1 := Nat.eq_of_beq_eq_true hsz1
  have hby := Nat.le_of_ble_eq_true hby
  split at hzz
  case h_2 => cases hzz
  rename_i zs hz
  obtain ⟨hsb, hs1, hs2⟩ := hsort
  refine calls_of_wp hf hb ?_
  let a0 : Act := { tmps := #[.map r] ++ Array.replicate (fn.ntmps - (#[Value.map r] : Array Value).size) undef, defers := [] }
  have a0s : a0.tmps.size = fn.ntmps := by simp [a0]; omega
  have a00 : tmpAt a0 0 = .map r := by simp only [tmpAt, a0, Array.getD_eq_getD_getElem?]; rw [Array.getElem?_append_left (by simp)]; rfl
  have hkl : ms.toList.length = kb.length := by have := congrArg List.length hkb; simpa using this
  -- the iterator
  let ri := w0.heap.size
  obtain ⟨it, hrun, hit⟩ : ∃ it : Obj, (∀ t k e, P.underlying t = some (.map k e) → (Instr.range t (.map r)).run P w0 = .ok (.pointer (some ⟨ri, 0, none⟩)) (w0.alloc it)) ∧ ((r = none ∧ it = .mapIter none 0 #[] 0) ∨ ∃ b, r = some b ∧ it = .mapIter (some b) clock #[] clock) := by
    cases r with
    | none => exact ⟨_, fun t k e ht => run_range_nilMap w0 t k e ht, .inl ⟨rfl, rfl⟩⟩
    | some b => exact ⟨_, fun t k e ht => run_range_map w0 t k e b ms clock ht (hr b rfl), .inr ⟨b, rfl, rfl⟩⟩
  -- the invariant
  let I : Act → World → Prop := fun a w => ∃ (ss : List (List UInt8)) (left : List MapEntry), a.tmps.size = fn.ntmps ∧ a.defers = [] ∧ tmpAt a 6 = .pointer (some ⟨ri, 0, none⟩) ∧ Grown w0 w [ri] (tmpAt a 3) ss ∧ RowKit.Below w0.heap.size w0 w ∧ ri < w.heap.size ∧
    (ss.map encStr ++ left.map (·.key)).Perm (kb.map encStr) ∧ ((r = none ∧ left = [] ∧ w.heap[ri]? = some (.mapIter none 0 #[] 0)) ∨ ∃ (b : Nat) (seen : Array Nat) (c0 : Nat), r = some b ∧ w.heap[ri]? = some (.mapIter (some b) clock seen c0) ∧ clock ≤ c0 ∧ left = (Go.leftOf ms seen).toList)
  refine wp_seq (wp_region_list ?_)
  rw [e0]
  refine w_nil h0 ?_
  show Code.wp _ _ _ _ _
  refine wp_seq (wp_region_list ?_)
  rw [e1]
  refine w_nil h1 ?_
  show Code.wp _ _ _ _ _
  refine wp_seq (wp_seq (wp_region_list ?_))
  rw [e2]
  let a1 := a0.put (some 2) (.slice none 0 0)
  let a2 := a1.put (some 3) (.slice none 0 0)
  let a3 := a2.put (some 5) (tmpAt a2 0)
  let a4 := a3.put (some 6) (.pointer (some ⟨ri, 0, none⟩))
  have z1s : a1.tmps.size = fn.ntmps := by simp only [a1, put_size]; exact a0s
  have z2s : a2.tmps.size = fn.ntmps := by simp only [a2, put_size]; exact z1s
  have z3s : a3.tmps.size = fn.ntmps := by simp only [a3, put_size]; exact z2s
  have z4s : a4.tmps.size = fn.ntmps := by simp only [a4, put_size]; exact z3s
  have v1 : ∀ t, tmpAt a1 t = if t = 2 then .slice none 0 0 else tmpAt a0 t := put_at (by omega) _
  have v2 : ∀ t, tmpAt a2 t = if t = 3 then .slice none 0 0 else tmpAt a1 t := put_at (by omega) _
  have v3 : ∀ t, tmpAt a3 t = if t = 5 then tmpAt a2 0 else tmpAt a2 t := put_at (by omega) _
  have v4 : ∀ t, tmpAt a4 t = if t = 6 then .pointer (some ⟨ri, 0, none⟩) else tmpAt a3 t := put_at (by omega) _
  refine w_mv h2.1 (w_range (v := .map r) (u := .pointer (some ⟨ri, 0, none⟩)) h2.2 ?_ hrun ?_)
  · show tmpAt a3 5 = _
    rw [v3, if_pos rfl, v2, if_neg (by decide), v1, if_neg (by decide), a00]
  show Code.wp _ _ _ a4 (w0.alloc it)
  refine wp_block ?_
  refine wp_loop I (fun _ w => match w.heap[ri]? with
    | some (.mapIter (some _) _ seen _) => (Go.leftOf ms seen).size
    | _ => 0) ?_ ?_
  · have hal := (MapKept.heap_alloc w0 it).1
    refine ⟨[], ms.toList, z4s, rfl, ?_, .inl ⟨?_, rfl⟩, (RowKit.Below.refl _ _).alloc (Nat.le_refl _) _, by rw [size_alloc]; exact Nat.lt_succ_self _, by rw [← hkb]; exact List.Perm.refl _, ?_⟩
    · rw [v4, if_pos rfl]
    · rw [v4, if_neg (by decide), v3, if_neg (by decide), v2, if_pos rfl]
    · rcases hit with ⟨e, e'⟩ | ⟨b, e, e'⟩
      · exact .inl ⟨e, by rw [hr0 e], by rw [← e']; exact hal⟩
      · refine .inr ⟨b, #[], clock, e, by rw [← e']; exact hal, Nat.le_refl _, ?_⟩
        have : Go.leftOf ms #[] = ms := Array.filter_eq_self.2 (fun x _ => by simp)
        rw [this]
  · rintro a w ⟨ss, left, hsz, hdef, ht6, hG, hB, hri, hperm, hmem⟩
    have hssl : ss.length + left.length = kb.length := by have := hperm.length_eq; simpa using this
    refine wp_seq (wp_region_list ?_)
    rw [e3]
    have key : (left = [] ∧ (Instr.next (.pointer (some ⟨ri, 0, none⟩)) false q1.type).run P w = .ok (.tuple #[.bool false]) w) ∨ ∃ (b : Nat) (seen : Array Nat) (c0 : Nat) (e : MapEntry) (w1 : World), r = some b ∧ w.heap[ri]? = some (.mapIter (some b) clock seen c0) ∧ left = (Go.leftOf ms seen).toList ∧ b < w0.heap.size ∧ w.heap[b]? = some (.map ms clock) ∧ e ∈ (Go.leftOf ms seen).toList ∧ (w1 = w ∨ w1 = w.drew) ∧ (Instr.next (.pointer (some ⟨ri, 0, none⟩)) false q1.type).run P w = .ok (.tuple #[.bool true, e.key, e.val]) (Go.ChangeMaps.setBlock w1 ri (.mapIter (some b) clock (seen.push e.born) clock)) := by
      rcases hmem with ⟨hrn, hl, hit2⟩ | ⟨b, seen, c0, hrb, hit2, hc0, hl⟩
      · refine .inl ⟨hl, ?_⟩
        simp only [Instr.next, getObj, Sem.run_bind, Sem.run, hit2, Result.andThen]
        rfl
      · have hblt : b < w0.heap.size := (Array.getElem?_eq_some_iff.1 (hr b hrb)).1
        have hbm : w.heap[b]? = some (.map ms clock) := by rw [hB.block b hblt]; exact hr b hrb
        rcases run_next_at (P := P) w q1.type ri b clock c0 seen ms clock hit2 hbm (fun x hx => hborn x (by simpa using hx)) hc0 with ⟨hz0, hnx⟩ | ⟨e, he, w1, hw1, hnx⟩
        · refine .inl ⟨?_, hnx⟩
          rw [hl]
          exact List.eq_nil_of_length_eq_zero (by simpa using hz0)
        · exact .inr ⟨b, seen, c0, e, w1, hrb, hit2, hl, hblt, hbm, he, hw1, hnx⟩
    rcases key with ⟨hl, hnx⟩ | ⟨b, seen, c0, e, w1, hrb, hit2, hl, hblt, hbm, he, hw1, hnx⟩
    · refine w_next h3.1 ht6 hnx ?_
      let b1 := a.put (some 7) (.tuple #[.bool false])
      let b2 := b1.put (some 8) (.bool false)
      have y1s : b1.tmps.size = fn.ntmps := by simp only [b1, put_size]; exact hsz
      have y2s : b2.tmps.size = fn.ntmps := by simp only [b2, put_size]; exact y1s
      have y1 : ∀ t, tmpAt b1 t = if t = 7 then .tuple #[.bool false] else tmpAt a t := put_at (by omega) _
      have y2 : ∀ t, tmpAt b2 t = if t = 8 then .bool false else tmpAt b1 t := put_at (by omega) _
      refine w_ext0 (vs := #[.bool false]) h3.2 (by show tmpAt b1 7 = _; rw [y1, if_pos rfl]) rfl ?_
      show Code.wp _ _ _ b2 w
      refine wp_seq (wp_cond_false (by show tmpAt b2 8 = _; rw [y2, if_pos rfl]) (wp_exit ?_))
      show Exit.inBlock b0' _ (.exit b0') b2 w
      simp only [Exit.inBlock, if_true]
      show Code.wp _ _ _ b2 w
      refine wp_seq (wp_region_list ?_)
      rw [e6]
      let b3 := b2.put (some 15) (tmpAt b2 3)
      have y3s : b3.tmps.size = fn.ntmps := by simp only [b3, put_size]; exact y2s
      have y3 : ∀ t, tmpAt b3 t = if t = 15 then tmpAt b2 3 else tmpAt b2 t := put_at (by omega) _
      have y23 : tmpAt b2 3 = tmpAt a 3 := by rw [y2, if_neg (by decide), y1, if_neg (by decide)]
      have y315 : tmpAt b3 15 = tmpAt a 3 := by rw [y3, if_pos rfl, y23]
      have y33 : tmpAt b3 3 = tmpAt a 3 := by rw [y3, if_neg (by decide), y23]
      have d3 : b3.defers = [] := hdef
      have hperm2 : ss.Perm kb := by
        rw [hl] at hperm
        simp only [List.map_nil, List.append_nil] at hperm
        exact perm_of_enc hperm
      have hms : (ss.mergeSort fun x y => decide (x ≤ y)) = kb.mergeSort fun x y => decide (x ≤ y) := mergeSort_of_perm hperm2
      refine w_mv h6.1 ?_
      show wpList P r6 _ [u2] b3 w
      clear_value b3
      -- what stands behind the call
      have fin : ∀ (w' : World), Grown w0 w' [] (tmpAt a 3) (kb.mergeSort fun x y => decide (x ≤ y)) → RowKit.Below w0.heap.size w0 w' → ∀ u : Value, wpList P r6 (Exit.then (fun a w => ((Code.region i7 r7 false).seq Code.ret).wp P (bodyPost P fn fun e w' => ∃ v, e = .returned v ∧ Grown w0 w' [] v (kb.mergeSort fun x y => decide (x ≤ y)) ∧ RowKit.Below w0.heap.size w0 w') a w) (bodyPost P fn fun e w' => ∃ v, e = .returned v ∧ Grown w0 w' [] v (kb.mergeSort fun x y => decide (x ≤ y)) ∧ RowKit.Below w0.heap.size w0 w')) [] (b3.put (some 16) u) w' := by
        intro w' hg' hb' u
        show Code.wp _ _ _ _ _
        refine wp_seq (wp_region_list ?_)
        rw [e7]
        let b4 := b3.put (some 16) u
        let b5 := b4.put (some 17) (tmpAt b4 3)
        let b6 := b5.put (some 2) (tmpAt b5 17)
        have y4s : b4.tmps.size = fn.ntmps := by simp only [b4, put_size]; exact y3s
        have y5s : b5.tmps.size = fn.ntmps := by simp only [b5, put_size]; exact y4s
        have y6s : b6.tmps.size = fn.ntmps := by simp only [b6, put_size]; exact y5s
        have y4 : ∀ t, tmpAt b4 t = if t = 16 then u else tmpAt b3 t := put_at (by omega) _
        have y5 : ∀ t, tmpAt b5 t = if t = 17 then tmpAt b4 3 else tmpAt b4 t := put_at (by omega) _
        have y6 : ∀ t, tmpAt b6 t = if t = 2 then tmpAt b5 17 else tmpAt b5 t := put_at (by omega) _
        refine w_mv h7.1 (w_mv h7.2 ?_)
        show Code.wp _ _ _ b6 w'
        refine wp_ret ⟨d3, _, run_results_one hres' _ _, _, rfl, ?_, hb'⟩
        rw [y6, if_pos rfl, y5, if_pos rfl, y4, if_neg (by decide), y33]
        exact hg'
      rcases hG with ⟨e3', rfl⟩ | ⟨g', cap, cur, e', e3', k1, k2, k3, k4, k5, k6, k7⟩
      · refine w_call1 hsb h6.2 (v := .slice none 0 0) (y315.trans e3') (hs2 none 0 w) ?_
        rintro e w' ⟨rfl, rfl⟩
        refine ⟨_, rfl, fin _ (.inl ⟨e3', ?_⟩) hB _⟩
        have := hperm2.length_eq
        have : kb = [] := List.eq_nil_of_length_eq_zero (by simpa using this.symm)
        rw [this]
        simp
      · have hg' : g' < w.heap.size := (Array.getElem?_eq_some_iff.1 k1).1
        refine w_call1 hsb h6.2 (v := .slice (some ⟨g', 0, none⟩) ss.length cap) (y315.trans e3') (hs1 g' 0 cap ss w (holds_of_block k1 k2) hg' (by omega)) ?_
        rintro e w' ⟨rfl, n, os, rfl⟩
        refine ⟨_, rfl, fin _ (.inr ⟨g', cap, _, e', ?_, heap_sorted _ k1, ?_, ?_, ?_, k5, k6, by simp⟩) ?_ _⟩
        · rw [e3', ← hms, List.length_mergeSort]
        · rw [← hms]; exact take_putCells _ _ (by rw [List.length_mergeSort]; omega)
        · simp [Go.Sort.putCells, k3]
        · rw [← hms, List.length_mergeSort]; exact k4
        · obtain ⟨q1, q2, q3, q4, q5⟩ := grownBy_sorted (w := w) (g := g') (n := n) (os := os) (ss.mergeSort fun x y => decide (x ≤ y)).toArray
          exact ⟨q1.trans hB.os, q2.trans hB.tape, q3.trans hB.output, Nat.le_trans hB.size q4, fun k hk => (q5 k (Nat.lt_of_lt_of_le hk hB.size) (fun e => by cases e; omega)).trans (hB.block k hk)⟩
    · have hem := Go.mem_left he
      obtain ⟨x, hx, hkx⟩ : ∃ x ∈ kb, encStr x = e.key := by
        have : e.key ∈ kb.map encStr := by rw [← hkb]; exact List.mem_map_of_mem hem.1
        exact List.mem_map.1 this
      have hw1h : w1.heap = w.heap := by rcases hw1 with rfl | rfl <;> rfl
      let w2 := Go.ChangeMaps.setBlock w1 ri (.mapIter (some b) clock (seen.push e.born) clock)
      have w2s : w2.heap.size = w.heap.size := by show (w1.heap.setIfInBounds _ _).size = _; rw [Array.size_setIfInBounds, hw1h]
      have w2r : w2.heap[ri]? = some (.mapIter (some b) clock (seen.push e.born) clock) := by
        show (w1.heap.setIfInBounds _ _)[ri]? = _
        rw [Array.getElem?_setIfInBounds_self_of_lt (by rw [hw1h]; exact hri)]
      have w2o : ∀ k, k ≠ ri → w2.heap[k]? = w.heap[k]? := fun k hk => by
        show (w1.heap.setIfInBounds _ _)[k]? = _
        rw [Array.getElem?_setIfInBounds_ne (fun e => hk e.symm), hw1h]
      have hB2 : RowKit.Below w0.heap.size w0 w2 := by
        have : w1.os = w.os ∧ w1.tape = w.tape ∧ w1.output = w.output := by rcases hw1 with rfl | rfl <;> exact ⟨rfl, rfl, rfl⟩
        exact ⟨this.1.trans hB.os, this.2.1.trans hB.tape, this.2.2.trans hB.output, by rw [w2s]; exact hB.size, fun k hk => (w2o k (Nat.ne_of_lt hk)).trans (hB.block k hk)⟩
      have hG2 : Grown w0 w2 [ri] (tmpAt a 3) ss := by
        rcases hG with h | ⟨g', cap, cur, e', k0, k1, k⟩
        · exact .inl h
        · refine .inr ⟨g', cap, cur, e', k0, ?_, k⟩
          rw [w2o g' (fun e => k.2.2.2.2.2 (by simp [e]))]; exact k1
      have hn2 : (ss.length + 1) * 16 ≤ 140737488355328 := by omega
      refine w_next h3.1 ht6 hnx ?_
      let b1' := a.put (some 7) (.tuple #[.bool true, e.key, e.val])
      let b2 := b1'.put (some 8) (.bool true)
      have y1s : b1'.tmps.size = fn.ntmps := by simp only [b1', put_size]; exact hsz
      have y2s : b2.tmps.size = fn.ntmps := by simp only [b2, put_size]; exact y1s
      have y1 : ∀ t, tmpAt b1' t = if t = 7 then .tuple #[.bool true, e.key, e.val] else tmpAt a t := put_at (by omega) _
      have y2 : ∀ t, tmpAt b2 t = if t = 8 then .bool true else tmpAt b1' t := put_at (by omega) _
      refine w_ext0 (vs := #[.bool true, e.key, e.val]) h3.2 (by show tmpAt b1' 7 = _; rw [y1, if_pos rfl]) rfl ?_
      show Code.wp _ _ _ b2 w2
      have y23 : tmpAt b2 3 = tmpAt a 3 := by rw [y2, if_neg (by decide), y1, if_neg (by decide)]
      have y26 : tmpAt b2 6 = .pointer (some ⟨ri, 0, none⟩) := by rw [y2, if_neg (by decide), y1, if_neg (by decide), ht6]
      have y28 : tmpAt b2 8 = .bool true := by rw [y2, if_pos rfl]
      have d2 : b2.defers = [] := hdef
      clear_value b2
      refine wp_seq (wp_cond_true y28 (wp_skip ?_))
      show Code.wp _ _ _ b2 w2
      refine wp_block (wp_seq (wp_region_list ?_))
      rw [e4]
      have hbm2 : w2.heap[b]? = some (.map ms clock) := by rw [w2o b (Nat.ne_of_lt hblt)]; exact hbm
      have hent := run_entry_at (P := P) w2 ri b clock seen ms clock e w2r hbm2 hem.1 hnd
      let b3 := b2.put (some 9) (.tuple #[e.key, e.val])
      let b4 := b3.put (some 10) e.key
      let b5 := b4.put (some 4) (tmpAt b4 10)
      have y3s : b3.tmps.size = fn.ntmps := by simp only [b3, put_size]; exact y2s
      have y4s : b4.tmps.size = fn.ntmps := by simp only [b4, put_size]; exact y3s
      have y5s : b5.tmps.size = fn.ntmps := by simp only [b5, put_size]; exact y4s
      have y3 : ∀ t, tmpAt b3 t = if t = 9 then .tuple #[e.key, e.val] else tmpAt b2 t := put_at (by omega) _
      have y4 : ∀ t, tmpAt b4 t = if t = 10 then e.key else tmpAt b3 t := put_at (by omega) _
      have y5 : ∀ t, tmpAt b5 t = if t = 4 then tmpAt b4 10 else tmpAt b4 t := put_at (by omega) _
      refine w_entry h4.1.1 y26 hent (w_ext0 (vs := #[e.key, e.val]) h4.1.2 (by show tmpAt b3 9 = _; rw [y3, if_pos rfl]) rfl (w_mv h4.2 ?_))
      show Code.wp _ _ _ b5 w2
      have y53 : tmpAt b5 3 = tmpAt a 3 := by rw [y5, if_neg (by decide), y4, if_neg (by decide), y3, if_neg (by decide), y23]
      have y54 : tmpAt b5 4 = encStr x := by rw [y5, if_pos rfl, y4, if_pos rfl, hkx]
      have y56 : tmpAt b5 6 = .pointer (some ⟨ri, 0, none⟩) := by rw [y5, if_neg (by decide), y4, if_neg (by decide), y3, if_neg (by decide), y26]
      have d5 : b5.defers = [] := d2
      clear_value b5
      refine wp_region_list ?_
      rw [e5]
      obtain ⟨v', w', hap, hG', hB', hsz', hbad'⟩ := grown_push (P := P) (w := w2) (t := ts) (ty := t4.type) (x := x) hel hinf hz (by rfl) hsz1 hby hG2 hB2 (by intro b hb; rw [List.mem_singleton.1 hb, w2s]; exact hri) hn2
      obtain ⟨b6, hb6, y6s, d6, y6⟩ := put_facts y5s (show 11 < fn.ntmps by omega) (tmpAt b5 3)
      obtain ⟨b7, hb7, y7s, d7, y7⟩ := put_facts y6s (show 12 < fn.ntmps by omega) (tmpAt b6 4)
      obtain ⟨b8, hb8, y8s, d8, y8⟩ := put_facts y7s (show 13 < fn.ntmps by omega) (.slice (some ⟨w2.heap.size, 0, none⟩) 1 1)
      obtain ⟨b9, hb9, y9s, d9, y9⟩ := put_facts y8s (show 14 < fn.ntmps by omega) v'
      obtain ⟨b10, hb10, y10s, d10, y10⟩ := put_facts y9s (show 3 < fn.ntmps by omega) (tmpAt b9 14)
      have g12 : tmpAt b7 12 = encStr x := by rw [y7, if_pos rfl, y6, if_neg (by decide), y54]
      have g11 : tmpAt b8 11 = tmpAt a 3 := by rw [y8, if_neg (by decide), y7, if_neg (by decide), y6, if_pos rfl, y53]
      have g13 : tmpAt b8 13 = .slice (some ⟨w2.heap.size, 0, none⟩) 1 1 := by rw [y8, if_pos rfl]
      have f6 : tmpAt b10 6 = .pointer (some ⟨ri, 0, none⟩) := by rw [y10, if_neg (by decide), y9, if_neg (by decide), y8, if_neg (by decide), y7, if_neg (by decide), y6, if_neg (by decide), y56]
      have f3 : tmpAt b10 3 = v' := by rw [y10, if_pos rfl, y9, if_pos rfl]
      have dd : b10.defers = [] := by rw [d10, d9, d8, d7, d6, d5]
      refine w_mv h5.1.1.1.1 ?_
      rw [hb6]
      refine w_mv h5.1.1.1.2 ?_
      rw [hb7]
      refine w_lit1 (u := encStr x) hel hinf hz hsz1 rfl h5.1.1.2 g12 ?_
      rw [hb8]
      refine w_app (v1 := tmpAt a 3) (v2 := .slice (some ⟨w2.heap.size, 0, none⟩) 1 1) h5.1.2 g11 g13 hap ?_
      rw [hb9]
      refine w_mv h5.2 ?_
      rw [hb10]
      show I b10 w' ∧ (match w'.heap[ri]? with
        | some (.mapIter (some _) _ seen _) => (Go.leftOf ms seen).size
        | _ => 0) < (match w.heap[ri]? with
        | some (.mapIter (some _) _ seen _) => (Go.leftOf ms seen).size
        | _ => 0)
      have hri' : w'.heap[ri]? = some (.mapIter (some b) clock (seen.push e.born) clock) := by rw [hbad' ri (by simp)]; exact w2r
      have hlp : left.Perm (e :: (Go.leftOf ms (seen.push e.born)).toList) := by
        rw [hl]
        unfold Go.leftOf
        rw [Array.toList_filter, Array.toList_filter]
        have := left_perm (fun x => !seen.contains x.born) e ms.toList hnd hem.1 (by rw [hem.2]; rfl)
        refine this.trans (List.Perm.cons e (List.Perm.of_eq (List.filter_congr fun y _ => ?_)))
        rw [contains_push]
        simp
      refine ⟨⟨ss ++ [x], (Go.leftOf ms (seen.push e.born)).toList, y10s, dd, f6, by rw [f3]; exact hG', hB', ?_, ?_, .inr ⟨b, seen.push e.born, clock, hrb, hri', Nat.le_refl _, rfl⟩⟩, ?_⟩
      · exact Nat.lt_of_lt_of_le (by rw [w2s]; exact hri) hsz'
      · refine List.Perm.trans ?_ hperm
        have := (hlp.map (·.key)).symm
        rw [List.map_append, List.append_assoc]
        refine List.Perm.append_left _ ?_
        simp only [List.map_cons, List.map_nil, List.singleton_append, hkx] at this ⊢
        exact this
      · simp only [hri', hit2]
        exact left_shrinks ms seen e he
end
end Go.Ab
