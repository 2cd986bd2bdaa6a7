import Derived.Test.YtafopbigcffjgaaGreatAb23
namespace Go.Ab
def Qfd (c : Int) : Bool:=decide (48 ≤ c) && decide (c ≤ 57)
def Qd8 (c : Int) : Bool:=(decide (97 ≤ c) && decide (c ≤ 122)) || (decide (65 ≤ c) && decide (c ≤ 90))
def QjL (c : Int) : Bool:=Qd8 c || Qfd c || decide (c = 95)
def Ql6 (c : Int) : Bool:=decide (32 ≤ c) && decide (c ≤ 126)
def Yq (a b : Int) : Int:=bif decide (a < b) then -1 else bif decide (b < a) then 1 else 0
def Vs (s : List Int) : Bool:=decide (1 ≤ s.length) && decide (s.length ≤ 30) && !(Qfd (rd s 0 0)) && s.all QjL
def Qb7 (s : List Int) : Bool:=s.all Ql6
def QaR (s : List Int) (least most : Int) : Bool:=!decide ((s.length : Int) < least) && !decide (most < (s.length : Int)) && s.all Ql6
def WV : List Int → List Int → Int
 | x :: a,y :: b=>bif decide (x = y) then WV a b else Yq x y
 | a,b=>Yq a.length b.length
theorem QpL (l : List Int) : WV [] l = Yq 0 l.length:=by cases l <;> rfl
theorem QoX (l : List Int) : WV l [] = Yq l.length 0:=by cases l <;> rfl
def VA (a b : List Int) : Int:=bif ZG a b then -1 else bif ZG b a then 1 else 0
def bytesL (s : List Int) : Prop:=∀ b ∈ s,0 ≤ b ∧ b ≤ 255
theorem bytesL.tail {x : Int} {s : List Int} (h : bytesL (x :: s)) : bytesL s:=fun b hb=>h b (by simp [hb])
theorem Qoa {s : List Int} (h : wfD .str s) : bytesL s:=fun b hb=>by have:=h.2 b hb; rw [Jz,QdH,QdI] at this; exact this
theorem E0 {s : List Int} (h : wfD .str s) : s.length ≤ maxLen:=QsY h
theorem Qk2 : ∀ (a b : List Int),WV a b = VA a b
 | [],[]=>rfl
 | [],y :: b=>by simp only [WV,VA,ZG,Yq]; grind
 | x :: a,[]=>by simp only [WV,VA,ZG,Yq]; grind
 | x :: a,y :: b=>by
  have ih:=Qk2 a b
  unfold WV VA ZG
  by_cases h : x = y
  ·subst h
   simp [ih,VA]
  ·simp [h,Yq]
   grind
theorem Qfe (a b : List Int) : decide (0 ≤ VA a b) = !ZG a b:=by unfold VA; grind
theorem Qd9 {x : Int} (h : -9223372036854775808 ≤ x ∧ x ≤ 9223372036854775807) : IntKind.wrap .i64 x = x:=Qd1 h
theorem Qs8 (k : Nat) : decide ((0 : Int) ≤ (k : Int)) = true:=decide_eq_true (by omega)
theorem XJ (a b : Bool) : (a && b) = bif a then b else false:=by cases a <;> rfl
theorem Qb8 (a b : Bool) : (a || b) = bif a then true else b:=by cases a <;> rfl
theorem Ji {α : Type} (c : Bool) (a b : α) : some (bif c then a else b) = bif c then some a else some b:=by cases c <;> rfl
theorem JJ (p : Prop) [Decidable p] : some (decide p) = bif decide p then some true else some false:=by cases decide p <;> rfl
def Zj {α : Type} (xs : List α) (k : Nat) : Option α:=if k = 0 then none else xs[k - 1]?
theorem J4 {α : Type} (xs : List α) : Zj xs 0 = none:=rfl
theorem Xr {α : Type} {xs rest : List α} {e d : α} {k : Nat} (hl : xs.length ≤ maxLen) (h : e :: rest = xs.drop k) :
  rest = xs.drop (k + 1) ∧ Zj xs (k + 1) = some e ∧ k < xs.length ∧ e ∈ xs ∧
   (k = 0 ∨ (0 < k ∧ inB (IntKind.wrap .i64 ((k : Int) - 1)) xs.length = true ∧ Zj xs k = some (rd xs (IntKind.wrap .i64 ((k : Int) - 1)) d) ∧ rd xs (IntKind.wrap .i64 ((k : Int) - 1)) d ∈ xs)):=by
 obtain ⟨hk,hx,hr⟩:=QK (d:=d) h
 have e1 : xs[k]? = some e:=by rw [List.getElem?_eq_getElem hk]; rw [Eh (List.getElem?_eq_getElem hk)] at hx; rw [hx]
 refine ⟨hr,?_,hk,List.mem_of_getElem? e1,?_⟩
 ·unfold Zj; rw [if_neg (by omega),Nat.add_sub_cancel]; exact e1
 ·rcases Nat.eq_zero_or_pos k with h0 | h0
  ·exact .inl h0
  ·right
   obtain ⟨j,rfl⟩ : ∃ j,k = j + 1:=⟨k - 1,by omega⟩
   have hw : IntKind.wrap .i64 (((j + 1 : Nat) : Int) - 1) = (j : Int):=QaN hl (by omega)
   have hj:=List.getElem?_eq_getElem (show j < xs.length by omega)
   rw [hw]
   refine ⟨h0,QD (by omega),?_,?_⟩
   ·unfold Zj; rw [if_neg (by omega),Nat.add_sub_cancel,Eh hj]; exact hj
   ·rw [Eh hj]; exact List.getElem_mem _
def ZU {α : Type} (lt : α → α → Bool) : Option α → List α → Bool
 | _,[]=>true
 | none,x :: r=>ZU lt (some x) r
 | some p,x :: r=>lt p x && ZU lt (some x) r
def Yy {α : Type} (lt : α → α → Bool) (l : List α) : Bool:=ZU lt none l
theorem JK {α : Type} (lt : α → α → Bool) (p : Option α) : ZU lt p [] = true:=by cases p <;> rfl
theorem Jy {α : Type} (lt : α → α → Bool) (p : Option α) (x : α) (r : List α) : ZU lt p (x :: r) = ((match p with | none=>true | some q=>lt q x) && ZU lt (some x) r):=by
 cases p <;> simp [ZU]
theorem Qq4 {α : Type} (p q : α → Bool) : ∀ l : List α,(l.all p && l.all q) = l.all fun x=>p x && q x
 | []=>rfl
 | x :: l=>by simp only [List.all_cons,← Qq4 p q l]; cases p x <;> cases q x <;> simp
abbrev Atm : Type:=Int × Int × List Int × List Int
def QrA (n : Int) : Int:=2 ^ n.toNat
def Yz (a : Atm) : Bool :=
 let bare:=decide (a.2.2.1 = []) && decide (a.2.2.2 = [])
 bif decide (a.1 = 1) then bare && (decide (a.2.1 = 0) || decide (a.2.1 = 1))
 else bif decide (a.1 = 2) then bare
 else bif decide (a.1 = 3) then decide (a.2.1 = 0) && decide (a.2.2.2 = []) && QaR a.2.2.1 0 200
 else bif decide (a.1 = 4) then decide (a.2.1 = 0) && Vs a.2.2.2 && QaR a.2.2.1 1 200
 else bif decide (a.1 = 5) then bare
 else bif decide (a.1 = 6) then bare && decide (0 ≤ a.2.1) && decide (a.2.1.tmod 64 ≤ 32) && decide (a.2.1.tdiv 64 < 4294967296) && decide ((a.2.1.tdiv 64).tmod (QrA (32 - a.2.1.tmod 64)) = 0)
 else bif decide (a.1 = 7) then bare && decide (-100000000000 ≤ a.2.1) && decide (a.2.1 ≤ 100000000000)
 else false
def Qs (a b : Atm) : Bool :=
 decide (a.1 < b.1) || (decide (a.1 = b.1) && (decide (a.2.1 < b.2.1) || (decide (a.2.1 = b.2.1) && (ZG a.2.2.2 b.2.2.2 || (decide (a.2.2.2 = b.2.2.2) && ZG a.2.2.1 b.2.2.1)))))
def Jr (a b : Atm) : Int :=
 bif !decide (Yq a.1 b.1 = 0) then Yq a.1 b.1 else bif !decide (Yq a.2.1 b.2.1 = 0) then Yq a.2.1 b.2.1 else
 bif !decide (VA a.2.2.2 b.2.2.2 = 0) then VA a.2.2.2 b.2.2.2 else VA a.2.2.1 b.2.2.1
theorem WW : ∀ a : List Int,ZG a a = false
 | []=>rfl
 | x :: a=>by simp [ZG,WW a]
theorem E1 : ∀ a b : List Int,a ≠ b → ZG a b = false → ZG b a = true
 | [],[],h,_=>absurd rfl h
 | [],y :: b,_,h=>by simp [ZG] at h
 | x :: a,[],_,_=>rfl
 | x :: a,y :: b,h,h2=>by
  have ih:=E1 a b
  simp only [ZG] at h2 ⊢
  grind
theorem Qea : ∀ a b c : List Int,ZG a b = true → ZG b c = true → ZG a c = true
 | [],_,[],h,h2=>by cases ‹List Int› <;> simp [ZG] at h h2
 | [],_,z :: c,_,_=>rfl
 | x :: a,[],c,h,_=>by simp [ZG] at h
 | x :: a,y :: b,[],_,h2=>by simp [ZG] at h2
 | x :: a,y :: b,z :: c,h,h2=>by
  have ih:=Qea a b c
  simp only [ZG] at h h2 ⊢
  grind
theorem UP (a b : List Int) : decide (VA a b = 0) = decide (a = b):=by
 unfold VA
 by_cases h : a = b
 ·subst h; simp [WW]
 ·cases h1 : ZG a b with
  | true=>simp [h]
  | false=>simp [E1 a b h h1,h]
theorem VS (a b : Atm) : decide (0 ≤ Jr a b) = !Qs a b:=by
 have h:=UP a.2.2.2 b.2.2.2
 have h1:=Qfe a.2.2.2 b.2.2.2
 have h2:=Qfe a.2.2.1 b.2.2.1
 unfold Jr Qs Yq
 grind
abbrev Val : Type:=Int × Atm × List Atm × List (List Int)
def HO (v : Val) : Bool :=
 bif decide (v.1 = 1) then Yz v.2.1 && decide (v.2.2.1.length = 0) && decide (v.2.2.2.length = 0)
 else bif decide (v.1 = 2) then decide (v.2.1 = (0,0,[],[])) && decide (v.2.2.1.length ≤ 50) && decide (v.2.2.2.length = 0) && (v.2.2.1.all Yz && Yy Qs v.2.2.1)
 else bif decide (v.1 = 3) then decide (v.2.1 = (0,0,[],[])) && decide (v.2.2.1.length ≤ 50) && decide (v.2.2.2.length = v.2.2.1.length) && v.2.2.2.all Vs && Yy ZG v.2.2.2 && v.2.2.1.all Yz
 else false
def G7 (n : List (List Int)) (v : List Val) : Bool :=
 decide (n.length ≤ 20) && decide (v.length = n.length) && n.all Vs && Yy ZG n && v.all fun v=>!decide (v.1 = 3) && HO v
def XK (a : Atm) : Bool:=decide (a.1 = 4) && Yz a
abbrev Thg : Type:=Atm × List Atm × List (List Int) × List Val
def Qm3 (l : List Atm) : Bool:=l.all XK && Yy Qs l
def HP (t : Thg) : Bool:=XK t.1 && decide (t.2.1.length ≤ 50) && Qm3 t.2.1 && G7 t.2.2.1 t.2.2.2
def HQ (l : List Thg) : Bool:=decide (l.length ≤ 100) && (l.all HP && Yy (fun a b=>Qs a.1 b.1) l)
theorem Qsy {left : Int} {n : Nat} (h : decide (Qz left n < 0) = false) : (n : Int) ≤ left ∧ 0 ≤ Qz left n ∧ Qz left n ≤ left:=by
 have hd:=of_decide_eq_false h
 unfold Qz at hd ⊢
 split at hd
 ·rename_i h1; rw [if_pos h1]; omega
 ·omega
theorem QqA {a b : Atm} (h : Jr a b = 0) : a = b:=by
 have h1:=UP a.2.2.2 b.2.2.2
 have h2:=UP a.2.2.1 b.2.2.1
 obtain ⟨a1,a2,a3,a4⟩:=a
 obtain ⟨b1,b2,b3,b4⟩:=b
 simp only [decide_eq_decide] at h1 h2
 unfold Jr Yq at h
 dsimp only at h h1 h2
 grind
theorem Qff {α : Type} [DecidableEq α] : ∀ {S D : List α},S.Nodup → (∀ x ∈ S,x ∈ D) → S.length ≤ D.length
 | [],D,_,_=>Nat.zero_le _
 | x :: S,D,hn,hs=>by
  rw [List.nodup_cons] at hn
  have h1:=Qff (D:=D.erase x) hn.2 (fun y hy=>(List.mem_erase_of_ne (fun e=>by subst e; exact hn.1 hy)).2 (hs y (by simp [hy])))
  have h2:=List.length_erase_of_mem (hs x (by simp))
  have h3 : 0 < D.length:=List.length_pos_of_mem (hs x (by simp))
  rw [List.length_cons]; omega
end Go.Ab
