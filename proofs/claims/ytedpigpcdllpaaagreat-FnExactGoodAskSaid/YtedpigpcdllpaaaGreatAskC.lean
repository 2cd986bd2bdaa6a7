import Derived.Test.YtedpigpcdllpaaaGreatAskB
namespace Go.Ab
open Go.Proofs
noncomputable section
theorem QB5 {α : Type} {l : List α} {i : Nat} {x d : α} (h : l[i]? = some x) : rd l (i : Int) d = x:=by
 unfold rd
 rw [Int.toNat_natCast,List.getD_eq_getElem?_getD,h]; rfl
def Qki (w : Qp) : Bool:=decide (w.1 = 3) || decide (w.1 = 4) || decide (w.1 = 5)
def JJ (b : List Qp) : Nat → Nat → Option (Q5 × Nat)
 | 0,_=>none
 | d + 1,a=>match b[a]? with
  | none=>none
  | some w=>if Qki w then (match JJ b d (a + 1) with
   | none=>none
   | some p=>match JJ b d p.2 with
    | none=>none
    | some q=>some (.node w [p.1,q.1],q.2)) else some (.node w [],a + 1)
theorem Qai {b : List Qp} : ∀ {d a : Nat} {p : Q5 × Nat},JJ b d a = some p → a < p.2 ∧ p.2 ≤ b.length
 | 0,_,_,h=>by cases h
 | d + 1,a,p,h=>by
  rw [JJ] at h
  split at h
  ·cases h
  ·rename_i w hw
   have ha:=(List.getElem?_eq_some_iff.1 hw).1
   split at h
   ·split at h
    ·cases h
    ·rename_i p1 h1
     split at h
     ·cases h
     ·rename_i q h2
      cases h
      have:=Qai h1
      have:=Qai h2
      exact ⟨by simp only; omega,by simp only; omega⟩
   ·cases h; exact ⟨Nat.lt_succ_self _,ha⟩
def QEd : Q5:=.node (0,[],[]) []
def QAz : Option (Q5 × Nat) → Q5 × Int
 | none=>(QEd,-1)
 | some p=>(p.1,p.2)
def QCS : Option (Q5 × Nat) → Int
 | none=>-1
 | some p=>p.2
theorem eta (t : Q5) : Tree.node t.val t.kids = t:=by cases t; rfl
theorem QCT {Rc : List Qp → Int → Int → Option (Q5 × Int)} {b : List Qp} {d : Nat} {x3 : Int} (hR : ∀ a : Nat,a ≤ b.length → Rc b (a : Int) (IntKind.wrap .i64 (x3 + 1)) = some (QAz (JJ b d a))) (w : Qp) (m a : Nat) (hm : 3 ≤ m) (ha : a ≤ b.length) :
  Jk Rc b x3 m (a : Int) 0 [] (.node w []) = some (match JJ b d a with
   | none=>(QEd,-1)
   | some p=>match JJ b d p.2 with
    | none=>(QEd,-1)
    | some q=>(.node w [p.1,q.1],q.2)):=by
 obtain ⟨m,rfl⟩ : ∃ j,m = j + 3:=⟨m - 3,by omega⟩
 have g1 : (decide (((([] : List Q5).length : Int) + ((1 : Nat) : Int)) * 64 ≤ ZB) && decide ((([] : List Q5).length : Int) + ((1 : Nat) : Int) ≤ ZB)) = true:=by rw [U9]; decide
 have g2 : (decide (((1 : Nat) : Int) + ((1 : Nat) : Int) ≤ ZB) && decide ((((1 : Nat) : Int) + ((1 : Nat) : Int)) * 64 ≤ ZB)) = true:=by rw [U9]; decide
 rw [Jk,hR a ha]
 cases hp : JJ b d a with
 | none=>rfl
 | some p =>
  have hlt:=Qai hp
  simp only [Option.bind_some,QAz,eta]
  rw [show decide ((0 : Int) < 2) = true from rfl,decide_eq_false (show ¬ (p.2 : Int) < 0 by omega)]
  simp only [cond_true,cond_false,List.length_singleton,List.nil_append]
  rw [g1]
  simp only [cond_true]
  rw [show IntKind.wrap .i64 ((0 : Int) + 1) = 1 from by decide,Jk,hR p.2 hlt.2]
  cases hq : JJ b d p.2 with
  | none=>rfl
  | some q =>
   simp only [Option.bind_some,QAz,eta]
   rw [show decide ((1 : Int) < 2) = true from rfl,decide_eq_false (show ¬ (q.2 : Int) < 0 by omega)]
   simp only [cond_true,cond_false,List.length_singleton,List.singleton_append]
   rw [show (decide ((((1 : Nat) : Int) + ((1 : Nat) : Int)) * 64 ≤ ZB) && decide (((1 : Nat) : Int) + ((1 : Nat) : Int) ≤ ZB)) = true from by rw [U9]; decide]
   simp only [cond_true]
   rw [show IntKind.wrap .i64 ((1 : Int) + 1) = 2 from by decide,Jk]
   rfl
theorem Qmj {b : List Qp} (hb : b.length ≤ maxLen) : ∀ (r d a : Nat),d ≤ 10 → d < r → a ≤ b.length → X8 r b (a : Int) (11 - (d : Int)) = some (QAz (JJ b d a))
 | 0,d,a,_,h,_=>by omega
 | r + 1,d,a,h,hr,ha=>by
  show (Qhw fun m=>Qab (X8 r) m b (a : Int) (11 - (d : Int))) = _
  refine Qbn ⟨3,fun m hm=>?_⟩
  unfold Qab
  have zz : (Tree.node (0,([] : List Int),([] : List Int)) [] : Q5) = QEd:=rfl
  rw [zz]
  cases d with
  | zero =>
   rw [decide_eq_true (show (10 : Int) < 11 - ((0 : Nat) : Int) by omega)]
   cases decide ((b.length : Int) ≤ (a : Int)) <;> rfl
  | succ d =>
   rw [decide_eq_false (show ¬ (10 : Int) < 11 - ((d + 1 : Nat) : Int) by omega),JJ]
   cases hn : b[a]? with
   | none =>
    have:=List.getElem?_eq_none_iff.1 hn
    rw [decide_eq_true (show (b.length : Int) ≤ (a : Int) by omega)]; rfl
   | some w =>
    have ha : a < b.length:=(List.getElem?_eq_some_iff.1 hn).1
    rw [decide_eq_false (show ¬ (b.length : Int) ≤ (a : Int) by omega)]
    simp only [cond_false]
    unfold Wg
    rw [QM ha,QB5 hn,QG hb ha]
    simp only [cond_true,cond_false]
    have hd : IntKind.wrap .i64 (11 - ((d + 1 : Nat) : Int) + 1) = 11 - (d : Int):=by rw [Qrj (by omega)]; omega
    have hR : ∀ a : Nat,a ≤ b.length → X8 r b (a : Int) (IntKind.wrap .i64 (11 - ((d + 1 : Nat) : Int) + 1)) = some (QAz (JJ b d a)):=fun a ha=>by
     rw [hd]; exact Qmj hb r d a (by omega) (by omega) ha
    have hl:=QCT hR w m (a + 1) (by omega) (by omega)
    rw [hl,Qki]
    cases decide (w.1 = 3) <;> cases decide (w.1 = 4) <;> cases decide (w.1 = 5) <;> simp <;> first | rfl | (cases JJ b d (a + 1) with
     | none=>rfl
     | some p =>
      simp only
      cases JJ b d p.2 <;> rfl)
theorem QqM {b : List Qp} (hb : b.length ≤ maxLen) : Qdv b 0 1 = some (QAz (JJ b 10 0)) :=
 Qbn ⟨11,fun r hr=>Qmj hb r 10 0 (by omega) (by omega) (Nat.zero_le _)⟩
theorem QoO {b : List Qp} (hb : b.length ≤ maxLen) : ∀ (r d a : Nat),d ≤ 10 → d < r → a ≤ b.length → XV r b (a : Int) (11 - (d : Int)) = some (QCS (JJ b d a))
 | 0,d,a,_,h,_=>by omega
 | r + 1,d,a,h,hr,ha=>by
  show QbX (XV r) b (a : Int) (11 - (d : Int)) = _
  rw [QbX]
  cases d with
  | zero =>
   rw [decide_eq_true (show (10 : Int) < 11 - ((0 : Nat) : Int) by omega)]
   cases decide ((b.length : Int) ≤ (a : Int)) <;> rfl
  | succ d =>
   rw [decide_eq_false (show ¬ (10 : Int) < 11 - ((d + 1 : Nat) : Int) by omega),JJ]
   cases hn : b[a]? with
   | none =>
    have:=List.getElem?_eq_none_iff.1 hn
    rw [decide_eq_true (show (b.length : Int) ≤ (a : Int) by omega)]; rfl
   | some w =>
    have ha : a < b.length:=(List.getElem?_eq_some_iff.1 hn).1
    rw [decide_eq_false (show ¬ (b.length : Int) ≤ (a : Int) by omega),Em,QM ha,QB5 hn,QG hb ha]
    simp only [cond_true,cond_false]
    have hd : IntKind.wrap .i64 (11 - ((d + 1 : Nat) : Int) + 1) = 11 - (d : Int):=by rw [Qrj (by omega)]; omega
    have hR : ∀ a : Nat,a ≤ b.length → XV r b (a : Int) (IntKind.wrap .i64 (11 - ((d + 1 : Nat) : Int) + 1)) = some (QCS (JJ b d a)):=fun a ha=>by
     rw [hd]; exact QoO hb r d a (by omega) (by omega) ha
    rw [hR (a + 1) (by omega),Option.bind_some,Qki]
    have key : (bif decide (QCS (JJ b d (a + 1)) < 0) then some (-1) else Option.bind (XV r b (QCS (JJ b d (a + 1))) (IntKind.wrap .i64 (11 - ((d + 1 : Nat) : Int) + 1))) fun y2=>some y2) = some (QCS (match JJ b d (a + 1) with
      | none=>none
      | some p=>match JJ b d p.2 with
       | none=>none
       | some q=>some (.node w [p.1,q.1],q.2))):=by
     cases hp : JJ b d (a + 1) with
     | none=>rfl
     | some p =>
      have hlt:=Qai hp
      rw [show QCS (some p) = (p.2 : Int) from rfl,decide_eq_false (show ¬ (p.2 : Int) < 0 by omega),hR p.2 hlt.2]
      simp only
      cases JJ b d p.2 <;> rfl
    rw [key]
    cases decide (w.1 = 3) <;> cases decide (w.1 = 4) <;> cases decide (w.1 = 5) <;> simp <;> rfl
theorem QB6 {b : List Qp} (hb : b.length ≤ maxLen) : Qfy b 0 1 = some (QCS (JJ b 10 0)) :=
 Qbn ⟨11,fun r hr=>QoO hb r 10 0 (by omega) (by omega) (Nat.zero_le _)⟩
end
end Go.Ab
