import Derived.Test.YtafopbigcffjgaaGreatAb38
namespace Go.Ab
noncomputable section
open Go.Proofs Go.Sort
variable {R : Type}
theorem QfY {P : Program} {base : Base} {w0 : Orig} {θ : Nat → Nat → Value} {CF : Nat → Ctx R} {root : Nat → XA R} (H : CtxOk P w0.gl CF root) (HI : QmE P base w0 CF root) {dp nn : Nat} {path : List Nat} {ops : Array Oper} {Q : Exit → Act → World → Prop} {K : Nat → Zp R} {r : R} {N : Nat} (suf : List Oper) (hQ : ∀ a w,Fam P base w0 dp nn θ N K r a w → wpOps P ops Q (List.range' (ops.size - suf.length) suf.length) a w) (b : Nat) :
  ∀ (rest : List Oper) (i : Nat),ops.toList.drop i = rest ++ suf → (∀ m x,x ∈ Qfg (CF m) dp nn path ops.toList (b + i) rest (K m) → x ∈ root m) →
   ∀ (m : Nat) (st : St) (M : Me) (a : Act) (w : World),m ≤ N → V3 (CF m) dp nn path ops.toList (b + i) rest (K m) st = some r → RelA P base w0 dp nn st θ M a w → wpOps P ops Q (List.range' i (rest.length + suf.length)) a w
 | [],i,hdrop,_,m,st,M,a,w,hN,hs,h=>by
  simp only [V3] at hs
  have hl:=congrArg List.length hdrop
  simp only [List.length_drop,List.nil_append,Array.length_toList] at hl
  have:=hQ a w ⟨m,hN,st,M,h,hs⟩
  rw [List.length_nil,Nat.zero_add]
  by_cases h0 : suf.length = 0
  ·rw [h0] at this ⊢; exact this
  ·rw [show i = ops.size - suf.length by omega]; exact this
 | o :: rest,i,hdrop,hsub,m,st,M,a,w,hN,hs,h=>by
  have hoi : ops[i]? = some o:=by
   have : (ops.toList.drop i)[0]? = some o:=by rw [hdrop]; rfl
   rw [List.getElem?_drop] at this
   simpa using this
  have hdrop' : ops.toList.drop (i + 1) = rest ++ suf:=by
   rw [← List.drop_drop,hdrop]; rfl
  have hsub1 : ∀ g,Jq (CF 0).I ((b + i) :: path) = some g → ∀ m x,x ∈ (CF m).lab dp ((b + i) :: path) g (fun v st=>V3 (CF m) dp nn path ops.toList (b + i + 1) rest (K m) (st.put dp o.dst v)) → x ∈ root m:=by
   intro g hg m x hx
   refine hsub m x ?_
   simp only [Qfg]
   rw [H.I_eq m 0,hg]
   exact List.mem_append.2 (.inl hx)
  have hsub2 : ∀ m x,x ∈ Qfg (CF m) dp nn path ops.toList (b + (i + 1)) rest (K m) → x ∈ root m:=by
   intro m x hx
   refine hsub m x ?_
   simp only [Qfg]
   exact List.mem_append.2 (.inr hx)
  have IH : ∀ a w,Fam P base w0 dp nn θ m (fun m=>V3 (CF m) dp nn path ops.toList (b + i + 1) rest (K m)) r a w → wpOps P ops Q (List.range' (i + 1) (rest.length + suf.length)) a w:=by
   rintro a w ⟨m',hm',st,M,h,hs⟩
   exact QfY H HI suf hQ b rest (i + 1) hdrop' hsub2 m' st M a w (Nat.le_trans hm' hN) hs h
  have go : ∀ (st : St) (M : Me),RelA P base w0 dp nn st θ M a w → QaC nn o = true → Zf (CF m) dp path (b + i) o st (V3 (CF m) dp nn path ops.toList (b + i + 1) rest (K m)) = some r → o.wp P a w (wpOps P ops Q (List.range' (i + 1) (rest.length + suf.length))) Q:=by
   intro st M h hd hs
   refine Oper.wp_mono IH ?_
   cases hc : VK o with
   | true=>exact Qgw (K:=fun m=>V3 (CF m) dp nn path ops.toList (b + i + 1) rest (K m)) H HI hsub1 h hd hc hs Q
   | false=>exact Oper.wp_mono (fun a w hg=>⟨m,Nat.le_refl _,hg⟩) (QbV (CF m) (H.P_eq m) h hd hc hs Q)
  simp only [V3] at hs
  obtain ⟨hd,hs2⟩:=Qe hs
  clear hs
  rw [List.length_cons,Nat.add_right_comm,List.range'_succ]
  simp only [wpOps,hoi]
  split at hs2
  ·rename_i hg
   have hw : Region.wanted o (yielded ops a.tmps) = true:=by simp [Region.wanted,hg]
   rw [if_pos hw]
   exact .inl (go st M h hd hs2)
  ·rename_i j want hg
   split at hs2
   case h_1=>cases hs2
   rename_i t hdst
   have hskip : ∀ st : St,RelA P base w0 dp nn st θ M a w → V3 (CF m) dp nn path ops.toList (b + i + 1) rest (K m) (st.put dp o.dst .un) = some r → wpOps P ops Q (List.range' (i + 1) (rest.length + suf.length)) (a.put o.dst undef) w:=by
    intro st h hs
    exact IH _ _ ⟨m,Nat.le_refl _,_,M,h.put (Jg hd) .un rfl,hs⟩
   split at hs2
   case h_3=>cases hs2
   case h_2 =>
    rename_i hun
    have hwant : Region.wanted o (yielded ops a.tmps) = false:=by simp [Region.wanted,hg,QhJ h hdst hun]
    rw [if_neg (by rw [hwant]; decide)]
    exact hskip _ h hs2
   rename_i bv hbv
   obtain ⟨hy,hset⟩:=QaH h hdst hbv
   have hwant : Region.wanted o (yielded ops a.tmps) = (some bv == some want):=by simp [Region.wanted,hg,hy]
   cases bv with
   | true =>
    cases want with
    | true =>
     rw [if_pos (by rw [hwant]; rfl)]
     exact .inl (go _ M hset hd hs2)
    | false =>
     rw [if_neg (by rw [hwant]; decide)]
     exact hskip _ hset hs2
   | false =>
    cases want with
    | true =>
     rw [if_neg (by rw [hwant]; decide)]
     exact hskip _ hset hs2
    | false =>
     rw [if_pos (by rw [hwant]; rfl)]
     exact .inl (go _ M hset hd hs2)
def Vj (P : Program) (gl : Nat → Option (List V)) (con : Nat → List V → (V → Option R) → Option R) (fn : Func) (m : Nat) : Ctx R:=Qk9 P (Qk6 P gl [] [] con fn .skip fun _ _=>none) [] [] con YX m
def Qb9 (P : Program) (fn : Func) (t : Ty) : XB (List t.den)
 | .ret,st=>QsO P fn t .ret st
 | _,_=>none
def QaS (tk tv : Ty) {S : Type} (ans : List tk.den → Option S) : Zp S:=fun st =>
 match st.tm 0 17,st.tm 0 5 with
 | .d (.map k v) es,.nils=>(castE? k v tk tv es).bind fun es=>(ans (es.map (·.1))).bind fun y=>some y
 | _,_=>none
def QpO (P : Program) (gl : Nat → Option (List V)) (fn : Func) (i0 : Nat) (r0 : Array Oper) (s1 : Code) (i3 : Nat) (r3 : Array Oper) (i4 : Nat) (r4 : Array Oper) (tk tv t : Ty) (con : Nat → List V → (V → Option (List t.den)) → Option (List t.den)) (ans : List tk.den → Option (List t.den)) (m : Nat) (args : List V) : Option (List t.den) :=
 JG (Vj P gl con fn m) 0 fn.ntmps [] (.region i0 r0 false) (Qdn (JG (Vj P gl con fn m) 0 fn.ntmps [] s1 (Qdn (JG (Vj P gl con fn m) 0 fn.ntmps [] (.region i3 r3 false) (Qdn (V3 (Vj P gl con fn m) 0 fn.ntmps [] r4.toList (1000 * i4 + 0) (r4.toList.take 3) (QaS tk tv ans)) (Qb9 P fn t))) (Qb9 P fn t))) (Qb9 P fn t)) (GH { St.empty with gl:=gl } 0 args)
def Qob (P : Program) (gl : Nat → Option (List V)) (fn : Func) (tk tv t : Ty) (con : Nat → List V → (V → Option (List t.den)) → Option (List t.den)) (ans : List tk.den → Option (List t.den)) (m : Nat) (args : List V) : Code → Option (List t.den)
 | .seq (.region i0 r0 false) (.seq s1 (.seq (.region i3 r3 false) (.seq (.seq (.region i4 r4 false) _) _)))=>QpO P gl fn i0 r0 s1 i3 r3 i4 r4 tk tv t con ans m args
 | _=>none
def Qty (C : Nat → Ctx R) (nn : Nat) : Code → Prop
 | .seq (.region i0 r0 false) (.seq s1 (.seq (.region i3 r3 false) (.seq (.seq (.region i4 r4 false) _) _))) =>
  (∀ m K,Zg (C m) 0 nn [] (.region i0 r0 false) K = []) ∧ (∀ m K,Zg (C m) 0 nn [] s1 K = []) ∧ (∀ m K,Zg (C m) 0 nn [] (.region i3 r3 false) K = []) ∧ ∀ m K,Qfg (C m) 0 nn [] r4.toList (1000 * i4 + 0) (r4.toList.take 3) K = []
 | _=>False
end
end Go.Ab
