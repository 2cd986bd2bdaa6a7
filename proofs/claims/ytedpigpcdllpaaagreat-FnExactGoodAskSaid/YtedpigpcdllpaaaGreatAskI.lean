import Derived.Test.YtedpigpcdllpaaaGreatAskH
namespace Go.Ab
open Go.Proofs
noncomputable section
theorem QFY {t : Ty} (xs : List t.den) : xs.length ≤ Ty.size (.list t) xs:=Nat.le_add_right _ _
theorem QEi {t : Ty} {x : t.den} {xs : List t.den} (h : x ∈ xs) : t.size x ≤ Ty.size (.list t) xs :=
 Nat.le_trans (QDA (List.mem_map_of_mem h)) (Nat.le_add_left _ _)
theorem QFZ {s : Qa} (hw : wfD Qi s) (h : Ty.size Qi s ≤ 2000000) : SchBd s where
 c:=hw.1.1
 t:=hw.2.1
 typ:=fun t ht=>⟨(hw.2.2 t ht).2.1.1,(hw.2.2 t ht).2.2.1⟩
 rel:=fun t ht r hr=>by
  have h1 : Ty.size (.list Qe) s.2 ≤ Ty.size Qi s:=Nat.le_add_left _ _
  have h2:=QEi (t:=Qe) ht
  have h3 : Ty.size (.list Qj) t.2.1 ≤ Ty.size Qe t:=Nat.le_trans (Nat.le_add_right _ _) (Nat.le_add_left _ _)
  have h4:=QEi (t:=Qj) hr
  have h5 : Ty.size (.list Qd) r.2 ≤ Ty.size Qj r:=Nat.le_add_left _ _
  have h6:=QFY (t:=Qd) r.2
  omega
 wf:=hw
def QzU (c : Int) : Bool:=QkD c || decide (c = 45) || decide (c = 46)
def Qwn (x : List Int) : Bool:=decide (1 ≤ x.length) && decide (x.length ≤ 40) && x.all QzU
theorem QqW (x : List Int) : ∀ l : List Int,Jf x l = some (l.all QzU && decide (1 ≤ x.length) && decide (x.length ≤ 40))
 | []=>by
  rw [Jf,show decide ((1 : Int) ≤ (x.length : Int)) = decide (1 ≤ x.length) from decide_eq_decide.2 (by omega),show decide ((x.length : Int) ≤ 40) = decide (x.length ≤ 40) from decide_eq_decide.2 (by omega)]
  cases decide (1 ≤ x.length) <;> rfl
 | e :: l=>by
  rw [Jf,QqW x l,Qmf,QgV,List.all_cons,QzU,QkD]
  cases Qjb e <;> cases QkC e <;> cases decide (e = 95) <;> cases decide (e = 45) <;> cases decide (e = 46) <;> cases l.all QzU <;> rfl
theorem QwT {x : List Int} (h : x.length ≤ maxLen) : XS x = some (Qwn x):=by
 rw [XS,QL h,QqW,Qwn,Bool.and_assoc,Bool.and_comm]
theorem Qkk : ∀ l : List Int,Ju l = some (l.all QzU)
 | []=>rfl
 | e :: l=>by
  rw [Ju,Qkk l,Qkd,List.all_cons,QzU]
  cases QkD e <;> cases decide (e = 45) <;> cases decide (e = 46) <;> rfl
theorem QoX {x : List Int} (h : x.length ≤ maxLen) : VK x = some (Qwn x):=by
 rw [VK,QL h,Qkk,Qwn]
 have e1 : decide ((x.length : Int) < 1) = !decide (1 ≤ x.length):=by grind
 have e2 : decide ((40 : Int) < (x.length : Int)) = !decide (x.length ≤ 40):=by grind
 rw [e1,e2]
 cases decide (1 ≤ x.length) <;> cases decide (x.length ≤ 40) <;> cases x.all QzU <;> rfl
theorem QEX {s : Qa} (hs : SchLen s) {a : Ef} (ha : wfD G7 a) : ∃ b,X9 s a = some b ∧ Jd s a = some b:=by
 have h1:=QkF ha.2.1
 have h2:=QkF ha.2.2.2.2.1
 rw [X9,Jd,QiV hs.t,QfL hs.t,W7 hs.t hs.typ,W8 hs.t hs.typ,QwT h1,QwT h2,QoX h1,QoX h2,W7 hs.t hs.typ,W8 hs.t hs.typ]
 simp only [Option.bind_some]
 cases GW s a.1 a.2.2.1 <;> cases Qwn a.2.1 <;> cases (HT s a.2.2.2.1).2 <;> cases Qwn a.2.2.2.2.1 <;> cases decide (a.2.2.2.2.2 = ([] : List Int)) <;> exact ⟨_,rfl,rfl⟩
theorem QCb {s : Qa} (hs : SchBd s) {a : Ef} (ha : wfD G7 a) : ∃ b,Xa s a = some b ∧ Xi s a = some b:=by
 obtain ⟨b,h1,h2⟩:=QsA hs
 obtain ⟨c,h3,h4⟩:=QEX hs.toSchLen ha
 rw [Xa,Xi,h1,h2,h3,h4]
 cases b <;> exact ⟨_,rfl,rfl⟩
theorem QC1 (s : Qa) (a : Ef) (hw : wfD Qi s) (ha : wfD G7 a) : Xv s a = some true:=by
 rw [Xv,Uv hw (by omega) (by omega)]
 simp only [Option.bind_some]
 cases d1 : decide (QY 1048576 (Ty.size Qi s) < 0) with
 | true=>rfl
 | false =>
 obtain ⟨b1,b2,b3⟩:=QFS d1
 rw [Uv ha b2 (by omega)]
 simp only [Option.bind_some,cond_false]
 cases d2 : decide (QY (QY 1048576 (Ty.size Qi s)) (Ty.size G7 a) < 0) with
 | true=>rfl
 | false =>
 obtain ⟨c1,c2,c3⟩:=QFS d2
 obtain ⟨b,s1,s2⟩:=QCb (QFZ hw (by omega)) ha
 simp only [cond_false,Vu hw (by omega),Vu ha (by omega),Option.bind_some,s1,s2,VU hw,decide_true,Bool.not_true]
 cases b <;> rfl
end
end Go.Ab
