import Derived.Test.YtedpigpcdllpaaaGreatAb25
import Derived.Test.YtedpigpcdllpaaaGreatAb16
namespace Go.Ab
def QkC (c : Int) : Bool:=decide (48 ≤ c) && decide (c ≤ 57)
def Qjb (c : Int) : Bool:=(decide (97 ≤ c) && decide (c ≤ 122)) || (decide (65 ≤ c) && decide (c ≤ 90))
def QkD (c : Int) : Bool:=Qjb c || QkC c || decide (c = 95)
def Qx3 (c : Int) : Bool:=decide (32 ≤ c) && decide (c ≤ 126)
def Qbo (a b : Int) : Int:=bif decide (a < b) then -1 else bif decide (b < a) then 1 else 0
def YK (s : List Int) : Bool:=decide (1 ≤ s.length) && decide (s.length ≤ 30) && !(QkC (rd s 0 0)) && s.all QkD
def QkE (s : List Int) : Bool:=s.all Qx3
def Qjc (s : List Int) (least most : Int) : Bool:=!decide ((s.length : Int) < least) && !decide (most < (s.length : Int)) && s.all Qx3
def Qfw : List Int → List Int → Int
 | x :: a,y :: b=>bif decide (x = y) then Qfw a b else Qbo x y
 | a,b=>Qbo a.length b.length
theorem QCL (l : List Int) : Qfw [] l = Qbo 0 l.length:=by cases l <;> rfl
theorem QBW (l : List Int) : Qfw l [] = Qbo l.length 0:=by cases l <;> rfl
def Hw (a b : List Int) : Int:=bif Jg a b then -1 else bif Jg b a then 1 else 0
def bytesL (s : List Int) : Prop:=∀ b ∈ s,0 ≤ b ∧ b ≤ 255
theorem bytesL.tail {x : Int} {s : List Int} (h : bytesL (x :: s)) : bytesL s:=fun b hb=>h b (by simp [hb])
theorem Qo8 {s : List Int} (h : wfD .str s) : bytesL s:=fun b hb=>by have:=h.2 b hb; rw [Wa,QuS,QuT] at this; exact this
theorem QkF {s : List Int} (h : wfD .str s) : s.length ≤ maxLen:=QGi h
theorem QwF : ∀ (a b : List Int),Qfw a b = Hw a b
 | [],[]=>rfl
 | [],y :: b=>by simp only [Qfw,Hw,Jg,Qbo]; grind
 | x :: a,[]=>by simp only [Qfw,Hw,Jg,Qbo]; grind
 | x :: a,y :: b=>by
  have ih:=QwF a b
  unfold Qfw Hw Jg
  by_cases h : x = y
  ·subst h
   simp [ih,Hw]
  ·simp [h,Qbo]
   grind
theorem Qjd (a b : List Int) : decide (0 ≤ Hw a b) = !Jg a b:=by unfold Hw; grind
theorem Qnk {x : Int} (h : -9223372036854775808 ≤ x ∧ x ≤ 9223372036854775807) : IntKind.wrap .i64 x = x:=Qrj h
theorem QHd (k : Nat) : decide ((0 : Int) ≤ (k : Int)) = true:=decide_eq_true (by omega)
theorem QA4 (a b : Bool) : (a && b) = bif a then b else false:=by cases a <;> rfl
theorem QEO (a b : Bool) : (a || b) = bif a then true else b:=by cases a <;> rfl
theorem QfQ {α : Type} (c : Bool) (a b : α) : some (bif c then a else b) = bif c then some a else some b:=by cases c <;> rfl
theorem Qje (p : Prop) [Decidable p] : some (decide p) = bif decide p then some true else some false:=by cases decide p <;> rfl
def Z7 {α : Type} (xs : List α) (k : Nat) : Option α:=if k = 0 then none else xs[k - 1]?
theorem Jh {α : Type} (xs : List α) : Z7 xs 0 = none:=rfl
theorem XG {α : Type} {xs rest : List α} {e d : α} {k : Nat} (hl : xs.length ≤ maxLen) (h : e :: rest = xs.drop k) :
  rest = xs.drop (k + 1) ∧ Z7 xs (k + 1) = some e ∧ k < xs.length ∧ e ∈ xs ∧
   (k = 0 ∨ (0 < k ∧ inB (IntKind.wrap .i64 ((k : Int) - 1)) xs.length = true ∧ Z7 xs k = some (rd xs (IntKind.wrap .i64 ((k : Int) - 1)) d) ∧ rd xs (IntKind.wrap .i64 ((k : Int) - 1)) d ∈ xs)):=by
 obtain ⟨hk,hx,hr⟩:=QJ (d:=d) h
 have e1 : xs[k]? = some e:=by rw [List.getElem?_eq_getElem hk]; rw [Qy4 (List.getElem?_eq_getElem hk)] at hx; rw [hx]
 refine ⟨hr,?_,hk,List.mem_of_getElem? e1,?_⟩
 ·unfold Z7; rw [if_neg (by omega),Nat.add_sub_cancel]; exact e1
 ·rcases Nat.eq_zero_or_pos k with h0 | h0
  ·exact .inl h0
  ·right
   obtain ⟨j,rfl⟩ : ∃ j,k = j + 1:=⟨k - 1,by omega⟩
   have hw : IntKind.wrap .i64 (((j + 1 : Nat) : Int) - 1) = (j : Int):=QEM hl (by omega)
   have hj:=List.getElem?_eq_getElem (show j < xs.length by omega)
   rw [hw]
   refine ⟨h0,QM (by omega),?_,?_⟩
   ·unfold Z7; rw [if_neg (by omega),Nat.add_sub_cancel,Qy4 hj]; exact hj
   ·rw [Qy4 hj]; exact List.getElem_mem _
def QU {α : Type} (lt : α → α → Bool) : Option α → List α → Bool
 | _,[]=>true
 | none,x :: r=>QU lt (some x) r
 | some p,x :: r=>lt p x && QU lt (some x) r
def ZQ {α : Type} (lt : α → α → Bool) (l : List α) : Bool:=QU lt none l
theorem J3 {α : Type} (lt : α → α → Bool) (p : Option α) : QU lt p [] = true:=by cases p <;> rfl
theorem Qly {α : Type} (lt : α → α → Bool) (p : Option α) (x : α) (r : List α) : QU lt p (x :: r) = ((match p with | none=>true | some q=>lt q x) && QU lt (some x) r):=by
 cases p <;> simp [QU]
theorem Qx4 {α : Type} (p q : α → Bool) : ∀ l : List α,(l.all p && l.all q) = l.all fun x=>p x && q x
 | []=>rfl
 | x :: l=>by simp only [List.all_cons,← Qx4 p q l]; cases p x <;> cases q x <;> simp
abbrev Atm : Type:=Int × Int × List Int × List Int
def QEP (n : Int) : Int:=2 ^ n.toNat
def Qf4 (a : Atm) : Bool :=
 let bare:=decide (a.2.2.1 = []) && decide (a.2.2.2 = [])
 bif decide (a.1 = 1) then bare && (decide (a.2.1 = 0) || decide (a.2.1 = 1))
 else bif decide (a.1 = 2) then bare
 else bif decide (a.1 = 3) then decide (a.2.1 = 0) && decide (a.2.2.2 = []) && Qjc a.2.2.1 0 200
 else bif decide (a.1 = 4) then decide (a.2.1 = 0) && YK a.2.2.2 && Qjc a.2.2.1 1 200
 else bif decide (a.1 = 5) then bare
 else bif decide (a.1 = 6) then bare && decide (0 ≤ a.2.1) && decide (a.2.1.tmod 64 ≤ 32) && decide (a.2.1.tdiv 64 < 4294967296) && decide ((a.2.1.tdiv 64).tmod (QEP (32 - a.2.1.tmod 64)) = 0)
 else bif decide (a.1 = 7) then bare && decide (-100000000000 ≤ a.2.1) && decide (a.2.1 ≤ 100000000000)
 else false
theorem QkG : ∀ a : List Int,Jg a a = false
 | []=>rfl
 | x :: a=>by simp [Jg,QkG a]
theorem QwG : ∀ a b c : List Int,Jg a b = true → Jg b c = true → Jg a c = true
 | [],_,[],h,h2=>by cases ‹List Int› <;> simp [Jg] at h h2
 | [],_,z :: c,_,_=>rfl
 | x :: a,[],c,h,_=>by simp [Jg] at h
 | x :: a,y :: b,[],_,h2=>by simp [Jg] at h2
 | x :: a,y :: b,z :: c,h,h2=>by
  have ih:=QwG a b c
  simp only [Jg] at h h2 ⊢
  grind
theorem QFS {left : Int} {n : Nat} (h : decide (QY left n < 0) = false) : (n : Int) ≤ left ∧ 0 ≤ QY left n ∧ QY left n ≤ left:=by
 have hd:=of_decide_eq_false h
 unfold QY at hd ⊢
 split at hd
 ·rename_i h1; rw [if_pos h1]; omega
 ·omega
end Go.Ab
namespace Go.Ab
noncomputable section
section
variable {P : Program}
def St.emptyW (gl : Nat → Option (List V)) : St:={ St.empty with gl:=gl,nt:=1,lv:=QBk (fun _=>false) 0 true }
def QGk (P : Program) (gl : Nat → Option (List V)) (A : List (List Nat × Ann)) (I : List (List Nat × Nat)) {R : Type} (con : Nat → List V → (V → Option R) → Option R) (fn : Func) (c : Code) (fin : Qbh R) (n : Nat) (args : List V) : Option R :=
 bif Nat.ble args.length fn.ntmps then
  G5 (Qml P (Qi0 P gl A I con fn c fin n) A I con Gy) 0 fn.ntmps [] c fin (Xl (St.emptyW gl) 0 args)
 else none
theorem QDC {gl : Nat → Option (List V)} {F : Snap} {w : World} (hgl : GlobOk gl F) (hF : ∀ a u,F a = some u → Sees w a u) {fn : Func} {args : List V} {vals : List Value} (hlen : args.length = vals.length)
  {o : Option Reg} (hr : ∀ (i : Nat) c u,args[i]? = some c → vals[i]? = some u → RelV ⟨F,fun _ _=>none,fun k=>if k = 0 then some o else none,1,.no⟩ c u) (hle : V.le.leL 0 args = true) (hn : args.length ≤ fn.ntmps)
  (ho : ∀ reg,o = some reg → reg.n ≤ reg.cap ∧ reg.cap ≤ maxLen ∧ ∃ cur e,w.heap[reg.g]? = some (.cells cur e (0,0)) ∧ cur.size = reg.cap * reg.sz ∧ ∀ a,a.block = reg.g → reg.n * reg.sz ≤ a.off → F a = none) :
  RelA P (Qmm w o) ⟨w,F,gl,hgl⟩ 0 fn.ntmps (Xl (St.emptyW gl) 0 args) (fun _ _=>undef) ⟨F,fun _ _=>none,fun k=>if k = 0 then some o else none,1,.no⟩ (QdP fn vals.toArray) w:=by
 have hτ : ∀ k o',(if k = 0 then some o else none : Option (Option Reg)) = some o' → k = 0 ∧ o = o':=by
  intro k o' h
  by_cases hk : k = 0
  ·rw [if_pos hk] at h; exact ⟨hk,Option.some.inj h⟩
  ·rw [if_neg hk] at h; cases h
 refine ⟨⟨hF,?_,?_,?_,fun _ _ _=>rfl,fun _ _ _ _ _ _ _ h=>(by cases h),fun _ _ _ _ _ h=>(by cases h),?_,?_,?_,fun _ _ _ _ _ _ _ h=>(by cases h),rfl,?_,Nat.le_refl _,.refl _ _,.refl _,fun _ _ h=>.inl h,rfl,fun _ _ h=>(by cases h),.no rfl⟩,?_,rfl⟩
 ·intro d t hd
  have e : d = 0:=by omega
  subst e
  simp only [Xl,thA]
  simp only [if_true]; rw [QaE,if_pos (Nat.zero_le _),UJ,if_pos rfl,Qrh]
  simp only [Nat.sub_zero]
  cases hc : args[t]? with
  | none=>exact .any _
  | some c =>
   have hlt : t < vals.length:=by rw [← hlen]; exact (List.getElem?_eq_some_iff.1 hc).1
   have hu : vals[t]? = some vals[t]:=List.getElem?_eq_getElem hlt
   have : vals.toArray.getD t undef = vals[t]:=by simp [Array.getD_eq_getD_getElem?,hu]
   rw [this]
   exact hr t c _ hc hu
 ·intro d t hd
  have e : d = 0:=by omega
  subst e
  simp only [Xl]
  rw [QaE,if_pos (Nat.zero_le _),UJ,if_pos rfl]
  simp only [Nat.sub_zero]
  cases hc : args[t]? with
  | none=>rfl
  | some c=>exact VQ hle hc
 ·intro d s hd
  have e : d = 0:=by omega
  subst e
  simp only [Xl]
  rw [Qo6,if_pos rfl]
  trivial
 ·intro k o' h
  obtain ⟨rfl,rfl⟩:=hτ k o' h
  refine ⟨Nat.one_pos,rfl,fun reg hreg=>?_⟩
  obtain ⟨h1,h2,h3⟩:=ho reg hreg
  refine ⟨?_,h1,h2,h3⟩
  subst hreg
  exact .inr (List.mem_singleton.2 rfl)
 ·intro k hk
  refine ⟨o,?_⟩
  have : k = 0:=by
   cases k with
   | zero=>rfl
   | succ k=>exact absurd hk (by simp [Xl,St.emptyW,QBk])
  subst this
  rfl
 ·intro k k' reg reg' h1 h2 _
  rw [(hτ k _ h1).1,(hτ k' _ h2).1]
 ·intro k hk
  cases k with
  | zero=>exact absurd hk (by simp [Xl,St.emptyW])
  | succ k=>rfl
 ·simp only [QdP,Array.size_append,List.size_toArray,Array.size_replicate]
  omega
theorem QDD {g : Nat} {fn : Func} {c : Code} (hf : P.funcs[g]? = some fn) (hb : fn.body = some c) {A : List (List Nat × Ann)} {I : List (List Nat × Nat)} {t : Ty} {gl : Nat → Option (List V)} {con : Nat → List V → (V → Option (List t.den)) → Option (List t.den)} (hcon : Qqi P gl con)
  {n : Nat} {args : List V} {xs : List t.den} (hrun : QGk P gl A I con fn c (QdK P fn t) n args = some xs) {F : Snap} {w : World} {vals : List Value} (hgl : GlobOk gl F) (hF : ∀ a u,F a = some u → Sees w a u)
  (hlen : args.length = vals.length) {o : Option Reg} (hr : ∀ (i : Nat) c u,args[i]? = some c → vals[i]? = some u → RelV ⟨F,fun _ _=>none,fun k=>if k = 0 then some o else none,1,.no⟩ c u) (hle : V.le.leL 0 args = true)
  (ho : ∀ reg,o = some reg → reg.n ≤ reg.cap ∧ reg.cap ≤ maxLen ∧ ∃ cur e,w.heap[reg.g]? = some (.cells cur e (0,0)) ∧ cur.size = reg.cap * reg.sz ∧ ∀ a,a.block = reg.g → reg.n * reg.sz ≤ a.off → F a = none) :
  Calls P g vals.toArray w fun e w'=>∃ u' F' o',e = .returned u' ∧ F.le F' ∧ (∀ a v,F' a = some v → Sees w' a v ∧ (F a = some v ∨ Own (Qmm w o) a.block)) ∧ BelowB (Qmm w o) w w' ∧ RelD F' (.list t) xs [u'] ∧ EO o' u' xs.length t.cells ∧
   ∀ reg,o' = some reg → Own (Qmm w o) reg.g ∧ reg.n ≤ reg.cap ∧ reg.cap ≤ maxLen ∧ ∃ cur e',w'.heap[reg.g]? = some (.cells cur e' (0,0)) ∧ cur.size = reg.cap * reg.sz ∧ ∀ ad,ad.block = reg.g → reg.n * reg.sz ≤ ad.off → F' ad = none:=by
 unfold QGk at hrun
 obtain ⟨h0,hrun⟩:=Qs hrun
 have hn:=Nat.le_of_ble_eq_true h0
 have hra:=QDC (P:=P) (fn:=fn) hgl hF hlen hr hle hn ho
 have hH:=fun k=>Qx1 (P:=P) (gl:=gl) (A:=A) (I:=I) (con:=con) (fn:=fn) (c:=c) (fin:=QdK P fn t) hcon k
 have hw:=Gt (hH Gy) (QfO hH Gy) c (fun _=>QdK P fn t) xs (fun m x hx=>hx) n _ _ _ w hrun hra
 refine calls_of_wp hf hb (wp_mono hw ?_)
 have fin : ∀ a w',Fam P (Qmm w o) ⟨w,F,gl,hgl⟩ 0 fn.ntmps (fun _ _=>undef) n (fun _=>QdK P fn t .ret) xs a w' → a.defers = [] ∧ ∃ v,(results fn a.tmps).run P w' = .ok v w' ∧ ∃ u' F' o',Ending.returned v = .returned u' ∧ F.le F' ∧ (∀ a v,F' a = some v → Sees w' a v ∧ (F a = some v ∨ Own (Qmm w o) a.block)) ∧ BelowB (Qmm w o) w w' ∧ RelD F' (.list t) xs [u'] ∧ EO o' u' xs.length t.cells ∧
   ∀ reg,o' = some reg → Own (Qmm w o) reg.g ∧ reg.n ≤ reg.cap ∧ reg.cap ≤ maxLen ∧ ∃ cur e',w'.heap[reg.g]? = some (.cells cur e' (0,0)) ∧ cur.size = reg.cap * reg.sz ∧ ∀ ad,ad.block = reg.g → reg.n * reg.sz ≤ ad.off → F' ad = none:=by
  rintro a w' ⟨m',hm',st',M',h,hk⟩
  refine ⟨h.defers,?_⟩
  obtain ⟨v,u,hu,ho,hv⟩:=QCG h hk
  obtain ⟨F',o',k1,k2,k3,k4,k5⟩:=QyV h.rel ho hv
  refine ⟨u,hu,u,F',o',rfl,h.rel.F0.trans k1,?_,h.rel.below,k3,k4,k5⟩
  intro ad x hx
  rcases k2 ad x hx with h1 | h1
  ·exact ⟨h.rel.F ad x h1,h.rel.Fnew ad x h1⟩
  ·exact ⟨h1.1,.inr h1.2⟩
 intro e a w' hp
 cases e with
 | normal=>exact fin a w' hp
 | ret=>exact fin a w' hp
 | exit i =>
  obtain ⟨m',_,st',M',_,hk⟩:=hp
  simp only [QdK] at hk
  cases hk
 | goto l=>exact hp.elim
 | panic c=>exact hp.elim
 | outgrown=>exact hp.elim
end
end
end Go.Ab
