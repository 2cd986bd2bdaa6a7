import Derived.Test.YtedpigpcdllpaaaGreatOkAsk0
import Derived.Test.YtedpigpcdllpaaaGreatStrata
namespace Go.Ab
open Go.Proofs
noncomputable section
theorem QAy {x : List Int} (h : wfD .str x) : x.length ≤ maxLen:=Nat.le_trans h.1 (by unfold maxLen; omega)
def Yz {β : Type} (name : β → List Int) (z : β) : List β → List Int → β × Bool
 | [],_=>(z,false)
 | e :: r,x=>if name e = x then (e,true) else Yz name z r x
theorem Qdp {β : Type} {name : β → List Int} {z : β} : ∀ {l : List β} {x : List Int},(Yz name z l x).2 = true → (Yz name z l x).1 ∈ l ∧ name (Yz name z l x).1 = x
 | [],x,h=>by cases h
 | e :: r,x,h=>by
  unfold Yz at h ⊢
  split
  ·rename_i hx; exact ⟨List.mem_cons_self,hx⟩
  ·rename_i hx
   rw [if_neg hx] at h
   obtain ⟨h1,h2⟩:=Qdp h
   exact ⟨List.mem_cons_of_mem _ h1,h2⟩
theorem QCR {β : Type} {name : β → List Int} {z : β} : ∀ {l : List β} {e : β},e ∈ l → (Yz name z l (name e)).2 = true
 | a :: r,e,h=>by
  unfold Yz
  split
  ·rfl
  ·rename_i hx
   rcases List.mem_cons.1 h with rfl | h
   ·exact absurd rfl hx
   ·exact QCR h
def HT (s : Qa) (x : List Int) : Qb × Bool:=Yz (·.1) ([],[],[]) s.2 x
def V3 (t : Qb) (x : List Int) : Qf × Bool:=Yz (·.1) ([],[]) t.2.1 x
def QA7 (t : Qb) (x : List Int) : Qc × Bool:=Yz (·.1) ([],[]) t.2.2 x
def QoK (s : Qa) (x : List Int) : QC × Bool:=Yz (·.1) ([],[],[]) s.1 x
def Qmg (l : List QF) (x : List Int) : QF × Bool:=Yz (·.1) ([],0) l x
def GW (s : Qa) (t n : List Int) : Bool:=(HT s t).2 && ((V3 (HT s t).1 n).2 || (QA7 (HT s t).1 n).2)
theorem Qmh (x : List Int) : ∀ l : List Qb,YU x l = some (Yz (·.1) ([],[],[]) l x)
 | []=>rfl
 | e :: r=>by
  rw [YU,Qmh x r,Yz]
  by_cases h : e.1 = x
  ·rw [decide_eq_true h,if_pos h]; rfl
  ·rw [decide_eq_false h,if_neg h]; rfl
theorem QiV {s : Qa} (h : s.2.length ≤ maxLen) (x : List Int) : Y4 s x = some (HT s x):=by
 rw [Y4,QL h,Qmh]; rfl
theorem QoL (x : List Int) : ∀ l : List Qb,Zd x l = some (Yz (·.1) ([],[],[]) l x)
 | []=>rfl
 | e :: r=>by
  rw [Zd,QoL x r,Yz]
  by_cases h : e.1 = x
  ·rw [decide_eq_true h,if_pos h]; rfl
  ·rw [decide_eq_false h,if_neg h]; rfl
theorem QfL {s : Qa} (h : s.2.length ≤ maxLen) (x : List Int) : Q2 s x = some (HT s x):=by
 rw [Q2,QL h,QoL]; rfl
theorem Qfq (x : List Int) : ∀ l : List Qf,JA x l = some (Yz (·.1) ([],[]) l x)
 | []=>rfl
 | e :: r=>by
  rw [JA,Qfq x r,Yz]
  by_cases h : e.1 = x
  ·rw [decide_eq_true h,if_pos h]; rfl
  ·rw [decide_eq_false h,if_neg h]; rfl
theorem Wz {t : Qb} (h : t.2.1.length ≤ maxLen) (x : List Int) : Zs t x = some (V3 t x):=by
 rw [Zs,QL h,Qfq]; rfl
theorem QgX (x : List Int) : ∀ l : List Qf,Q4 x l = some (Yz (·.1) ([],[]) l x)
 | []=>rfl
 | e :: r=>by
  rw [Q4,QgX x r,Yz]
  by_cases h : e.1 = x
  ·rw [decide_eq_true h,if_pos h]; rfl
  ·rw [decide_eq_false h,if_neg h]; rfl
theorem G4 {t : Qb} (h : t.2.1.length ≤ maxLen) (x : List Int) : QK t x = some (V3 t x):=by
 rw [QK,QL h,QgX]; rfl
theorem QcL (x : List Int) : ∀ l : List Qc,Z3 x l = some (Yz (·.1) ([],[]) l x)
 | []=>rfl
 | e :: r=>by
  rw [Z3,QcL x r,Yz]
  by_cases h : e.1 = x
  ·rw [decide_eq_true h,if_pos h]; rfl
  ·rw [decide_eq_false h,if_neg h]; rfl
theorem Qqd {t : Qb} (h : t.2.2.length ≤ maxLen) (x : List Int) : YQ t x = some (QA7 t x):=by
 rw [YQ,QL h,QcL]; rfl
theorem Qep (x : List Int) : ∀ l : List Qc,QZ x l = some (Yz (·.1) ([],[]) l x)
 | []=>rfl
 | e :: r=>by
  rw [QZ,Qep x r,Yz]
  by_cases h : e.1 = x
  ·rw [decide_eq_true h,if_pos h]; rfl
  ·rw [decide_eq_false h,if_neg h]; rfl
theorem QgY {t : Qb} (h : t.2.2.length ≤ maxLen) (x : List Int) : Zu t x = some (QA7 t x):=by
 rw [Zu,QL h,Qep]; rfl
theorem Qia (x : List Int) : ∀ l : List QC,Yd x l = some (Yz (·.1) ([],[],[]) l x)
 | []=>rfl
 | e :: r=>by
  rw [Yd,Qia x r,Yz]
  by_cases h : e.1 = x
  ·rw [decide_eq_true h,if_pos h]; rfl
  ·rw [decide_eq_false h,if_neg h]; rfl
theorem QxN {s : Qa} (h : s.1.length ≤ maxLen) (x : List Int) : Gv s x = some (QoK s x):=by
 rw [Gv,QL h,Qia]; rfl
theorem Qke (x : List Int) : ∀ l : List QF,Yv x l = some (Yz (·.1) ([],0) l x)
 | []=>rfl
 | e :: r=>by
  rw [Yv,Qke x r,Yz]
  by_cases h : e.1 = x
  ·rw [decide_eq_true h,if_pos h]; rfl
  ·rw [decide_eq_false h,if_neg h]; rfl
theorem QoM {l : List QF} (h : l.length ≤ maxLen) (x : List Int) : Vv l x = some (Qmg l x):=by
 rw [Vv,QL h,Qke]; rfl
theorem Qmi (x : List Int) : ∀ l : List QF,Zn x l = some (Yz (·.1) ([],0) l x)
 | []=>rfl
 | e :: r=>by
  rw [Zn,Qmi x r,Yz]
  by_cases h : e.1 = x
  ·rw [decide_eq_true h,if_pos h]; rfl
  ·rw [decide_eq_false h,if_neg h]; rfl
theorem QqI {c : QC} (h : c.2.1.length ≤ maxLen) (x : List Int) : Jn c x = some (Qmg c.2.1 x):=by
 rw [Jn,QL h,Qmi]; rfl
def GS (t : Qb) : Prop:=t.2.1.length ≤ maxLen ∧ t.2.2.length ≤ maxLen
theorem QA8 {s : Qa} (h : ∀ t ∈ s.2,GS t) (x : List Int) : GS (HT s x).1:=by
 unfold HT
 cases hb : (Yz (·.1) (([],[],[]) : Qb) s.2 x).2 with
 | true=>exact h _ (Qdp hb).1
 | false =>
  have : ∀ l : List Qb,(Yz (·.1) (([],[],[]) : Qb) l x).2 = false → (Yz (·.1) (([],[],[]) : Qb) l x).1 = ([],[],[]):=by
   intro l
   induction l with
   | nil=>intro _; rfl
   | cons e r ih =>
    intro h
    unfold Yz at h ⊢
    split
    ·rename_i hx; rw [if_pos hx] at h; cases h
    ·rename_i hx; rw [if_neg hx] at h; exact ih h
  rw [this _ hb]
  exact ⟨Nat.zero_le _,Nat.zero_le _⟩
theorem W7 {s : Qa} (h : s.2.length ≤ maxLen) (ht : ∀ t ∈ s.2,GS t) (t n : List Int) : ZX s t n = some (GW s t n):=by
 have h2:=QA8 ht t
 rw [ZX,QiV h,Option.bind_some,Wz h2.1,Option.bind_some,Qqd h2.2,Option.bind_some,GW]
 cases (HT s t).2 <;> cases (V3 (HT s t).1 n).2 <;> rfl
theorem W8 {s : Qa} (h : s.2.length ≤ maxLen) (ht : ∀ t ∈ s.2,GS t) (t n : List Int) : QI s t n = some (GW s t n):=by
 have h2:=QA8 ht t
 rw [QI,QfL h,Option.bind_some,G4 h2.1,Option.bind_some,QgY h2.2,Option.bind_some,GW]
 cases (HT s t).2 <;> cases (V3 (HT s t).1 n).2 <;> rfl
def Qwd (op k : Int) : Bool:=decide (op = 1) || ((decide (op = 2) || decide (op = 3)) && (decide (k = 2) || decide (k = 3) || decide (k = 5) || decide (k = 7))) || (decide (op = 4) && decide (k = 6))
theorem QzA (op k : Int) : VD op k = some (Qwd op k):=by
 rw [VD,V0,V0,Qwd]
 simp only [QA4,QEO,QfQ,Qje]
 grind (splits:=30)
theorem Qsw (k : Int) (x : QH) (p : QF) : YF k x p = some (decide (k = p.2) && Qwd x.2.1 k):=by
 rw [YF,YE,YE,Qwd]
 simp only [QA4,QEO,QfQ,Qje]
 grind (splits:=30)
def Qlq (ps : List QF) (x : QH) : Bool:=(Qmg ps x.1).2 && (bif !decide (x.2.2.1 = ([] : List Int)) then (Qmg ps x.2.2.1).2 && decide (x.2.2.2 = ((0,0,[],[]) : Atm)) && decide ((Qmg ps x.2.2.1).1.2 = (Qmg ps x.1).1.2) && Qwd x.2.1 (Qmg ps x.2.2.1).1.2
 else Qf4 x.2.2.2 && decide (x.2.2.2.1 = (Qmg ps x.1).1.2) && Qwd x.2.1 x.2.2.2.1)
theorem QxO {x : QH} {ps : List QF} (hp : ps.length ≤ maxLen) (hx : wfD Zz x.2.2.2) : Vx x ps = some (Qlq ps x):=by
 rw [Vx,QoM hp,Option.bind_some,QoM hp,QxK hx]
 simp only [Option.bind_some,Qsw,Qlq]
 have e : @decide (x.2.2.2 = (0,0,([] : List Int),([] : List Int))) (Ty.decEq Zz x.2.2.2 (0,0,([] : List Int),([] : List Int))) = decide (x.2.2.2 = ((0,0,[],[]) : Atm)):=decide_eq_decide.2 Iff.rfl
 rw [e]
 cases (Qmg ps x.1).2 <;> cases decide (x.2.2.1 = ([] : List Int)) <;> cases (Qmg ps x.2.2.1).2 <;> cases decide (x.2.2.2 = ((0,0,[],[]) : Atm)) <;> cases Qf4 x.2.2.2 <;> simp
def Qkf (a b : QF) : Bool:=Jg a.1 b.1
def Qus (p : QF) : Bool:=YK p.1 && !decide (p.1 = ([116,114,117,101] : List Int)) && !decide (p.1 = ([102,97,108,115,101] : List Int)) && decide (1 ≤ p.2) && decide (p.2 ≤ 7)
def Qeq (c : QC) : Bool:=YK c.1 && decide (1 ≤ c.2.1.length) && decide (c.2.1.length ≤ 6) && decide (1 ≤ c.2.2.length) && decide (c.2.2.length ≤ 6) && (c.2.1.all Qus && ZQ Qkf c.2.1) && c.2.2.all (Qlq c.2.1)
theorem QzB {x : QH} (h : wfD Qw x) : wfD Zz x.2.2.2:=h.2.2.2
theorem Qut (c : QC) (hp : c.2.1.length ≤ maxLen) : ∀ l : List QH,(∀ x ∈ l,wfD Qw x) → Jj c l = some (l.all (Qlq c.2.1))
 | [],_=>rfl
 | e :: r,h=>by
  rw [Jj,QxO hp (QzB (h e List.mem_cons_self)),Option.bind_some,Qut c hp r fun x hx=>h x (List.mem_cons_of_mem _ hx),List.all_cons]
  cases Qlq c.2.1 e <;> rfl
theorem Quu (c : QC) (hp : c.2.1.length ≤ maxLen) : ∀ l : List QH,(∀ x ∈ l,wfD Qw x) → ZE c l = some (l.all (Qlq c.2.1))
 | [],_=>rfl
 | e :: r,h=>by
  have ih:=Quu c hp r fun x hx=>h x (List.mem_cons_of_mem _ hx)
  rw [ZE,QqI hp,Option.bind_some,QqI hp,QxL (QzB (h e List.mem_cons_self)),ih,List.all_cons,Qwb]
  simp only [Option.bind_some,VE,QzA,Qlq]
  cases (Qmg c.2.1 e.1).2 <;> cases decide (e.2.2.1 = ([] : List Int)) <;> cases (Qmg c.2.1 e.2.2.1).2 <;> cases decide (e.2.2.2 = ((0,0,[],[]) : Atm)) <;> cases Qf4 e.2.2.2 <;> simp <;> grind
theorem QqJ (c : QC) (hw : ∀ x ∈ c.2.1,wfD Qz x) (hl : c.2.1.length ≤ maxLen) (ht : c.2.2.length ≤ maxLen) (hx : ∀ x ∈ c.2.2,wfD Qw x) :
  ∀ (r : List QF) (k : Nat),r = c.2.1.drop k → ZG c r k = some ((r.all Qus && QU Qkf (Z7 c.2.1 k) r) && c.2.2.all (Qlq c.2.1))
 | [],k,_=>by rw [ZG,QL ht,Qut c hl _ hx,J3]; rfl
 | e :: r,k,h=>by
  obtain ⟨h1,h2,h3,h4,h5⟩:=XG (d:=Ty.dflt Qz) hl h
  have he:=hw e h4
  rw [ZG,XJ (QAy he.1),Option.bind_some,QqJ c hw hl ht hx r (k + 1) h1,h2,Qly,List.all_cons,Qus]
  rcases h5 with rfl | ⟨h5,h6,h7,h8⟩
  ·simp [Z7]
   grind
  ·rw [h6,h7,Vn (hw _ h8).1 he.1,Option.bind_some,Qjd]
   simp only [Qkf]
   generalize (rd c.2.1 (IntKind.wrap .i64 ((k : Int) - 1)) (Ty.dflt Qz)).1 = q
   grind
theorem QqK (c : QC) (hw : ∀ x ∈ c.2.1,wfD Qz x) (hl : c.2.1.length ≤ maxLen) (ht : c.2.2.length ≤ maxLen) (hx : ∀ x ∈ c.2.2,wfD Qw x) :
  ∀ (r : List QF) (k : Nat),r = c.2.1.drop k → ZI c r k = some ((r.all Qus && QU Qkf (Z7 c.2.1 k) r) && c.2.2.all (Qlq c.2.1))
 | [],k,_=>by rw [ZI,QL ht,Quu c hl _ hx,J3]; rfl
 | e :: r,k,h=>by
  obtain ⟨h1,h2,h3,h4,h5⟩:=XG (d:=Ty.dflt Qz) hl h
  have he:=hw e h4
  rw [ZI,XK (QAy he.1),Option.bind_some,QqK c hw hl ht hx r (k + 1) h1,h2,Qly,List.all_cons,Qus]
  rcases h5 with rfl | ⟨h5,h6,h7,h8⟩
  ·simp [Z7]
   grind
  ·rw [h6,h7]
   simp only [Qkf]
   generalize (rd c.2.1 (IntKind.wrap .i64 ((k : Int) - 1)) (Ty.dflt Qz)).1 = q
   grind
end
end Go.Ab
