import Derived.Test.YtgmdnickgijkoaaGreatDoorAb23
namespace Go.Ab
def Qll (c : Int) : Bool:=decide (48 ≤ c) && decide (c ≤ 57)
def Qjk (c : Int) : Bool:=(decide (97 ≤ c) && decide (c ≤ 122)) || (decide (65 ≤ c) && decide (c ≤ 90))
def QsG (c : Int) : Bool:=Qjk c || Qll c || decide (c = 95)
def QAy (c : Int) : Bool:=decide (32 ≤ c) && decide (c ≤ 126)
def HC (a b : Int) : Int:=bif decide (a < b) then -1 else bif decide (b < a) then 1 else 0
def Xv (s : List Int) : Bool:=decide (1 ≤ s.length) && decide (s.length ≤ 30) && !(Qll (rd s 0 0)) && s.all QsG
def Qd0 (s : List Int) : Bool:=s.all QAy
def QcU (s : List Int) (least most : Int) : Bool:=!decide ((s.length : Int) < least) && !decide (most < (s.length : Int)) && s.all QAy
def Qf5 : List Int → List Int → Int
 | x :: a,y :: b=>bif decide (x = y) then Qf5 a b else HC x y
 | a,b=>HC a.length b.length
theorem QET (l : List Int) : Qf5 [] l = HC 0 l.length:=by cases l <;> rfl
theorem QDX (l : List Int) : Qf5 l [] = HC l.length 0:=by cases l <;> rfl
def E5 (a b : List Int) : Int:=bif Z4 a b then -1 else bif Z4 b a then 1 else 0
def bytesL (s : List Int) : Prop:=∀ b ∈ s,0 ≤ b ∧ b ≤ 255
theorem bytesL.tail {x : Int} {s : List Int} (h : bytesL (x :: s)) : bytesL s:=fun b hb=>h b (by simp [hb])
theorem QDa {s : List Int} (h : wfD .str s) : bytesL s:=fun b hb=>by have:=h.2 b hb; rw [VW,Qsn,Qso] at this; exact this
theorem XR {s : List Int} (h : wfD .str s) : s.length ≤ maxLen:=QIB h
theorem QyO : ∀ (a b : List Int),Qf5 a b = E5 a b
 | [],[]=>rfl
 | [],y :: b=>by simp only [Qf5,E5,Z4,HC]; grind
 | x :: a,[]=>by simp only [Qf5,E5,Z4,HC]; grind
 | x :: a,y :: b=>by
  have ih:=QyO a b
  unfold Qf5 E5 Z4
  by_cases h : x = y
  ·subst h
   simp [ih,E5]
  ·simp [h,HC]
   grind
theorem Qjl (a b : List Int) : decide (0 ≤ E5 a b) = !Z4 a b:=by unfold E5; grind
theorem QoJ {x : Int} (h : -9223372036854775808 ≤ x ∧ x ≤ 9223372036854775807) : IntKind.wrap .i64 x = x:=QiL h
theorem QH7 (k : Nat) : decide ((0 : Int) ≤ (k : Int)) = true:=decide_eq_true (by omega)
theorem Xw (a b : Bool) : (a && b) = bif a then b else false:=by cases a <;> rfl
theorem Qba (a b : Bool) : (a || b) = bif a then true else b:=by cases a <;> rfl
theorem Zx {α : Type} (c : Bool) (a b : α) : some (bif c then a else b) = bif c then some a else some b:=by cases c <;> rfl
theorem JJ (p : Prop) [Decidable p] : some (decide p) = bif decide p then some true else some false:=by cases decide p <;> rfl
def J2 {α : Type} (xs : List α) (k : Nat) : Option α:=if k = 0 then none else xs[k - 1]?
theorem YC {α : Type} (xs : List α) : J2 xs 0 = none:=rfl
theorem H5 {α : Type} {xs rest : List α} {e d : α} {k : Nat} (hl : xs.length ≤ maxLen) (h : e :: rest = xs.drop k) :
  rest = xs.drop (k + 1) ∧ J2 xs (k + 1) = some e ∧ k < xs.length ∧ e ∈ xs ∧
   (k = 0 ∨ (0 < k ∧ inB (IntKind.wrap .i64 ((k : Int) - 1)) xs.length = true ∧ J2 xs k = some (rd xs (IntKind.wrap .i64 ((k : Int) - 1)) d) ∧ rd xs (IntKind.wrap .i64 ((k : Int) - 1)) d ∈ xs)):=by
 obtain ⟨hk,hx,hr⟩:=Qz (d:=d) h
 have e1 : xs[k]? = some e:=by rw [List.getElem?_eq_getElem hk]; rw [Qa7 (List.getElem?_eq_getElem hk)] at hx; rw [hx]
 refine ⟨hr,?_,hk,List.mem_of_getElem? e1,?_⟩
 ·unfold J2; rw [if_neg (by omega),Nat.add_sub_cancel]; exact e1
 ·rcases Nat.eq_zero_or_pos k with h0 | h0
  ·exact .inl h0
  ·right
   obtain ⟨j,rfl⟩ : ∃ j,k = j + 1:=⟨k - 1,by omega⟩
   have hw : IntKind.wrap .i64 (((j + 1 : Nat) : Int) - 1) = (j : Int):=Qjh hl (by omega)
   have hj:=List.getElem?_eq_getElem (show j < xs.length by omega)
   rw [hw]
   refine ⟨h0,Qx (by omega),?_,?_⟩
   ·unfold J2; rw [if_neg (by omega),Nat.add_sub_cancel,Qa7 hj]; exact hj
   ·rw [Qa7 hj]; exact List.getElem_mem _
def ZZ {α : Type} (lt : α → α → Bool) : Option α → List α → Bool
 | _,[]=>true
 | none,x :: r=>ZZ lt (some x) r
 | some p,x :: r=>lt p x && ZZ lt (some x) r
def V5 {α : Type} (lt : α → α → Bool) (l : List α) : Bool:=ZZ lt none l
theorem YQ {α : Type} (lt : α → α → Bool) (p : Option α) : ZZ lt p [] = true:=by cases p <;> rfl
theorem Jd {α : Type} (lt : α → α → Bool) (p : Option α) (x : α) (r : List α) : ZZ lt p (x :: r) = ((match p with | none=>true | some q=>lt q x) && ZZ lt (some x) r):=by
 cases p <;> simp [ZZ]
theorem QGv {α : Type} (p q : α → Bool) : ∀ l : List α,(l.all p && l.all q) = l.all fun x=>p x && q x
 | []=>rfl
 | x :: l=>by simp only [List.all_cons,← QGv p q l]; cases p x <;> cases q x <;> simp
abbrev Atm : Type:=Int × Int × List Int × List Int
def QHc (n : Int) : Int:=2 ^ n.toNat
def GW (a : Atm) : Bool :=
 let bare:=decide (a.2.2.1 = []) && decide (a.2.2.2 = [])
 bif decide (a.1 = 1) then bare && (decide (a.2.1 = 0) || decide (a.2.1 = 1))
 else bif decide (a.1 = 2) then bare
 else bif decide (a.1 = 3) then decide (a.2.1 = 0) && decide (a.2.2.2 = []) && QcU a.2.2.1 0 200
 else bif decide (a.1 = 4) then decide (a.2.1 = 0) && Xv a.2.2.2 && QcU a.2.2.1 1 200
 else bif decide (a.1 = 5) then bare
 else bif decide (a.1 = 6) then bare && decide (0 ≤ a.2.1) && decide (a.2.1.tmod 64 ≤ 32) && decide (a.2.1.tdiv 64 < 4294967296) && decide ((a.2.1.tdiv 64).tmod (QHc (32 - a.2.1.tmod 64)) = 0)
 else bif decide (a.1 = 7) then bare && decide (-100000000000 ≤ a.2.1) && decide (a.2.1 ≤ 100000000000)
 else false
def Yu (a b : Atm) : Bool :=
 decide (a.1 < b.1) || (decide (a.1 = b.1) && (decide (a.2.1 < b.2.1) || (decide (a.2.1 = b.2.1) && (Z4 a.2.2.2 b.2.2.2 || (decide (a.2.2.2 = b.2.2.2) && Z4 a.2.2.1 b.2.2.1)))))
def Ud (a b : Atm) : Int :=
 bif !decide (HC a.1 b.1 = 0) then HC a.1 b.1 else bif !decide (HC a.2.1 b.2.1 = 0) then HC a.2.1 b.2.1 else
 bif !decide (E5 a.2.2.2 b.2.2.2 = 0) then E5 a.2.2.2 b.2.2.2 else E5 a.2.2.1 b.2.2.1
theorem Qlm : ∀ a : List Int,Z4 a a = false
 | []=>rfl
 | x :: a=>by simp [Z4,Qlm a]
theorem QyP : ∀ a b : List Int,a ≠ b → Z4 a b = false → Z4 b a = true
 | [],[],h,_=>absurd rfl h
 | [],y :: b,_,h=>by simp [Z4] at h
 | x :: a,[],_,_=>rfl
 | x :: a,y :: b,h,h2=>by
  have ih:=QyP a b
  simp only [Z4] at h2 ⊢
  grind
theorem QoK : ∀ a b c : List Int,Z4 a b = true → Z4 b c = true → Z4 a c = true
 | [],_,[],h,h2=>by cases ‹List Int› <;> simp [Z4] at h h2
 | [],_,z :: c,_,_=>rfl
 | x :: a,[],c,h,_=>by simp [Z4] at h
 | x :: a,y :: b,[],_,h2=>by simp [Z4] at h2
 | x :: a,y :: b,z :: c,h,h2=>by
  have ih:=QoK a b c
  simp only [Z4] at h h2 ⊢
  grind
theorem Qh0 (a b : List Int) : decide (E5 a b = 0) = decide (a = b):=by
 unfold E5
 by_cases h : a = b
 ·subst h; simp [Qlm]
 ·cases h1 : Z4 a b with
  | true=>simp [h]
  | false=>simp [QyP a b h h1,h]
theorem Qgu (a b : Atm) : decide (0 ≤ Ud a b) = !Yu a b:=by
 have h:=Qh0 a.2.2.2 b.2.2.2
 have h1:=Qjl a.2.2.2 b.2.2.2
 have h2:=Qjl a.2.2.1 b.2.2.1
 unfold Ud Yu HC
 grind
abbrev Val : Type:=Int × Atm × List Atm × List (List Int)
def Y7 (v : Val) : Bool :=
 bif decide (v.1 = 1) then GW v.2.1 && decide (v.2.2.1.length = 0) && decide (v.2.2.2.length = 0)
 else bif decide (v.1 = 2) then decide (v.2.1 = (0,0,[],[])) && decide (v.2.2.1.length ≤ 50) && decide (v.2.2.2.length = 0) && (v.2.2.1.all GW && V5 Yu v.2.2.1)
 else bif decide (v.1 = 3) then decide (v.2.1 = (0,0,[],[])) && decide (v.2.2.1.length ≤ 50) && decide (v.2.2.2.length = v.2.2.1.length) && v.2.2.2.all Xv && V5 Z4 v.2.2.2 && v.2.2.1.all GW
 else false
abbrev Req : Type:=Atm × Atm × Atm × List (List Int) × List Val
def GX (n : List (List Int)) (v : List Val) : Bool :=
 decide (n.length ≤ 20) && decide (v.length = n.length) && n.all Xv && V5 Z4 n && v.all fun v=>!decide (v.1 = 3) && Y7 v
def GF (a : Atm) : Bool:=decide (a.1 = 4) && GW a
def Ho (r : Req) : Bool:=GF r.1 && GF r.2.1 && GF r.2.2.1 && GX r.2.2.2.1 r.2.2.2.2
abbrev Thg : Type:=Atm × List Atm × List (List Int) × List Val
def QuI (l : List Atm) : Bool:=l.all GF && V5 Yu l
def H6 (t : Thg) : Bool:=GF t.1 && decide (t.2.1.length ≤ 50) && QuI t.2.1 && GX t.2.2.1 t.2.2.2
def QcV (l : List Thg) : Bool:=decide (l.length ≤ 100) && (l.all H6 && V5 (fun a b=>Yu a.1 b.1) l)
theorem QFX {left : Int} {n : Nat} (h : decide (QE left n < 0) = false) : (n : Int) ≤ left ∧ 0 ≤ QE left n ∧ QE left n ≤ left:=by
 have hd:=of_decide_eq_false h
 unfold QE at hd ⊢
 split at hd
 ·rename_i h1; rw [if_pos h1]; omega
 ·omega
theorem QFY {a b : Atm} (h : Ud a b = 0) : a = b:=by
 have h1:=Qh0 a.2.2.2 b.2.2.2
 have h2:=Qh0 a.2.2.1 b.2.2.1
 obtain ⟨a1,a2,a3,a4⟩:=a
 obtain ⟨b1,b2,b3,b4⟩:=b
 simp only [decide_eq_decide] at h1 h2
 unfold Ud HC at h
 dsimp only at h h1 h2
 grind
theorem QuJ (k : Ty) (e : k.den) : ∀ (xs : List k.den),QcJ k (xs.map fun a=>(a,true)) e false = true ↔ e ∈ xs
 | []=>by simp [QcJ]
 | x :: xs=>by
  have ih:=QuJ k e xs
  rw [List.map_cons,QcJ]
  by_cases h : e = x
  ·subst h; simp
  ·simp only [h,decide_false,cond_false,List.mem_cons,false_or]; exact ih
theorem QGw (k : Ty) (e : k.den) : ∀ (xs : List k.den),e ∉ xs → QiG k (xs.map fun a=>(a,true)) e true = (xs ++ [e]).map fun a=>(a,true)
 | [],_=>rfl
 | x :: xs,h=>by
  have h1 : ¬ e = x:=fun q=>h (by simp [q])
  rw [List.map_cons,QiG,QGw k e xs (fun q=>h (by simp [q]))]
  simp [h1]
end Go.Ab
