import Derived.Test.YtedpigpcdllpaaaGreatAskA
namespace Go.Ab
open Go.Proofs
noncomputable section
theorem Quv {c : QC} (hw : wfD Qu c) : Vy c = some (Qeq c):=by
 obtain ⟨h1,⟨h2,h3⟩,h4,h5⟩:=hw
 rw [Vy,XJ (QAy h1),Option.bind_some,QL h2,QqJ c h3 h2 h4 h5 c.2.1 0 rfl,Qeq,ZQ,Jh]
 simp only [QA4,QEO,QfQ,Qje]
 grind (splits:=30)
theorem Quw {c : QC} (hw : wfD Qu c) : VF c = some (Qeq c):=by
 obtain ⟨h1,⟨h2,h3⟩,h4,h5⟩:=hw
 rw [VF,XK (QAy h1),Option.bind_some,QL h2,QqK c h3 h2 h4 h5 c.2.1 0 rfl,Qeq,ZQ,Jh]
 simp only [QA4,QEO,QfQ,Qje]
 grind (splits:=30)
def Qib (a b : Qm) : Int :=
 if Hw a.1 b.1 ≠ 0 then Hw a.1 b.1 else if Hw a.2.1 b.2.1 ≠ 0 then Hw a.2.1 b.2.1 else if a.2.2.1 ≠ b.2.2.1 then (if b.2.2.1 then -1 else 1) else Hw a.2.2.2 b.2.2.2
def HP (a b : Qm) : Bool:=decide (Qib a b < 0)
theorem Qqe {a b : Qm} (ha : wfD Qd a) (hb : wfD Qd b) : JE a b = some (Qib a b):=by
 obtain ⟨a1,a2,_,a4⟩:=ha
 obtain ⟨b1,b2,_,b4⟩:=hb
 rw [JE,Vn a1 b1,Option.bind_some,Vn a2 b2,Option.bind_some,Vn a4 b4,Option.bind_some,Qib]
 cases h1 : decide (Hw a.1 b.1 = 0) <;> cases h2 : decide (Hw a.2.1 b.2.1 = 0) <;> cases a.2.2.1 <;> cases b.2.2.1 <;> simp at h1 h2 <;> simp [h1,h2]
theorem QgZ (a b : Qm) : J2 a b = some (Qib a b):=by
 have ci : ∀ x y : Int,Gp x y = Qbo x y:=fun x y=>by unfold Gp Vc Qbo; simp
 have cs : ∀ x y : List Int,ZR x y = Hw x y:=fun x y=>by unfold ZR J1 Hw; simp
 rw [J2,El,QL (by simp [maxLen])]
 simp only [V1,ci,cs,Qib,Yx,Qbo]
 cases h1 : decide (Hw a.1 b.1 = 0) <;> cases h2 : decide (Hw a.2.1 b.2.1 = 0) <;> cases h3 : decide (Hw a.2.2.2 b.2.2.2 = 0) <;> cases a.2.2.1 <;> cases b.2.2.1 <;> simp at h1 h2 h3 <;> simp [h1,h2,h3]
def QqL (s : Qa) (e : Qm) : Bool:=(HT s e.1).2 && (decide (e.2.1 = ([] : List Int)) || (!e.2.2.1 && GW s e.1 e.2.1)) && (decide (e.2.2.2 = ([] : List Int)) || (QoK s e.2.2.2).2)
def Qwe {α : Type} (lt : α → α → Bool) (p : Option α) (x : α) : Bool:=match p with
 | none=>true
 | some q=>lt q x
theorem GX {α : Type} (lt : α → α → Bool) (p : Option α) (x : α) (r : List α) : QU lt p (x :: r) = (Qwe lt p x && QU lt (some x) r):=by
 cases p with
 | none=>simp [QU,Qwe]
 | some q=>rfl
theorem Gf {α : Type} (lt : α → α → Bool) (x : α) : Qwe lt none x = true:=rfl
theorem Gg {α : Type} (lt : α → α → Bool) (q x : α) : Qwe lt (some q) x = lt q x:=rfl
theorem W9 : decide ((0 : Int) < ((0 : Nat) : Int)) = false:=rfl
theorem QDK (x : Int) : decide (0 ≤ x) = !decide (x < 0):=by grind
structure SchLen (s : Qa) : Prop where
 c : s.1.length ≤ maxLen
 t : s.2.length ≤ maxLen
 typ : ∀ t ∈ s.2,GS t
theorem Qkg {s : Qa} (hs : SchLen s) (r : Qf) (e : Qm) (x2 kb : Bool) (k : Nat) (h5 : k = 0 ∨ (0 < k ∧ inB (IntKind.wrap .i64 ((k : Int) - 1)) r.2.length = true ∧ Z7 r.2 k = some (rd r.2 (IntKind.wrap .i64 ((k : Int) - 1)) (Ty.dflt Qd)) ∧ rd r.2 (IntKind.wrap .i64 ((k : Int) - 1)) (Ty.dflt Qd) ∈ r.2)) :
  ∀ l : List QC,QS (some kb) (k : Int) x2 e.2.2.2 s r e l = some (Qwe HP (Z7 r.2 k) e && x2 && (decide (e.2.1 = ([] : List Int)) || (!e.2.2.1 && GW s e.1 e.2.1)) && (decide (e.2.2.2 = ([] : List Int)) || (Yz (·.1) (([],[],[]) : QC) l e.2.2.2).2) && kb)
 | []=>by
  rw [QS,QgZ,W8 hs.t hs.typ,Yz]
  rcases h5 with rfl | ⟨h5,h6,h7,h8⟩
  ·rw [Jh,Gf,W9]
   cases x2 <;> cases decide (e.2.1 = ([] : List Int)) <;> cases e.2.2.1 <;> cases GW s e.1 e.2.1 <;> cases decide (e.2.2.2 = ([] : List Int)) <;> cases kb <;> simp
  ·rw [h6,h7,Gg,decide_eq_true (show (0 : Int) < (k : Int) by omega)]
   simp only [cond_true,Option.bind_some,QDK,HP]
   cases decide (Qib (rd r.2 (IntKind.wrap .i64 ((k : Int) - 1)) (Ty.dflt Qd)) e < 0) <;> cases x2 <;> cases decide (e.2.1 = ([] : List Int)) <;> cases e.2.2.1 <;> cases GW s e.1 e.2.1 <;> cases decide (e.2.2.2 = ([] : List Int)) <;> cases kb <;> simp
 | c :: l=>by
  have ih:=Qkg hs r e x2 kb k h5 l
  rw [QS,ih,QgZ,W8 hs.t hs.typ,Yz]
  by_cases hc : c.1 = e.2.2.2
  ·rw [decide_eq_true hc,if_pos hc]
   rcases h5 with rfl | ⟨h5,h6,h7,h8⟩
   ·rw [Jh,Gf,W9]
    cases x2 <;> cases decide (e.2.1 = ([] : List Int)) <;> cases e.2.2.1 <;> cases GW s e.1 e.2.1 <;> cases decide (e.2.2.2 = ([] : List Int)) <;> cases kb <;> simp
   ·rw [h6,h7,Gg,decide_eq_true (show (0 : Int) < (k : Int) by omega)]
    simp only [cond_true,Option.bind_some,QDK,HP]
    cases decide (Qib (rd r.2 (IntKind.wrap .i64 ((k : Int) - 1)) (Ty.dflt Qd)) e < 0) <;> cases x2 <;> cases decide (e.2.1 = ([] : List Int)) <;> cases e.2.2.1 <;> cases GW s e.1 e.2.1 <;> cases decide (e.2.2.2 = ([] : List Int)) <;> cases kb <;> simp
  ·rw [decide_eq_false hc,if_neg hc]; rfl
theorem Qkh {s : Qa} (hs : SchLen s) (r : Qf) (hr : r.2.length ≤ maxLen) : ∀ (l : List Qm) (k : Nat),l = r.2.drop k → QW s r l k = some (l.all (QqL s) && QU HP (Z7 r.2 k) l)
 | [],k,_=>by rw [QW,J3]; rfl
 | e :: l,k,h=>by
  obtain ⟨h1,h2,h3,h4,h5⟩:=XG (d:=Ty.dflt Qd) hr h
  rw [QW,QfL hs.t,Option.bind_some,Qkh hs r hr l (k + 1) h1,QL hs.c,Qkg hs r e _ _ k h5,h2,GX,List.all_cons,QqL]
  generalize Qwe HP (Z7 r.2 k) e = ah
  generalize QU HP (some e) l = z
  show some (ah && (HT s e.1).2 && _ && (decide (e.2.2.2 = ([] : List Int)) || (QoK s e.2.2.2).2) && _) = _
  cases ah <;> cases (HT s e.1).2 <;> cases decide (e.2.1 = ([] : List Int)) || (!e.2.2.1 && GW s e.1 e.2.1) <;> cases decide (e.2.2.2 = ([] : List Int)) || (QoK s e.2.2.2).2 <;> cases l.all (QqL s) <;> cases z <;> rfl
def QoN (s : Qa) (r : Qf) : Bool:=decide (1 ≤ r.2.length) && decide (r.2.length ≤ 8) && (r.2.all (QqL s) && ZQ HP r.2)
theorem QzC {s : Qa} (hs : SchLen s) {r : Qf} (hr : r.2.length ≤ maxLen) : ZA s r = some (QoN s r):=by
 rw [ZA,QL hr,Qkh hs r hr r.2 0 rfl,QoN,ZQ,Jh]
 simp only [QA4,QEO,QfQ,Qje]
 grind (splits:=30)
theorem QB4 {s : Qa} (hs : SchLen s) (e : Qm) (kb : Bool) : Jm (some kb) s e = some ((decide (e.2.2.2 = ([] : List Int)) || (QoK s e.2.2.2).2) && kb):=by
 rw [Jm,QxN hs.c,Option.bind_some]
 cases (QoK s e.2.2.2).2 <;> cases decide (e.2.2.2 = ([] : List Int)) <;> simp
theorem QwM {s : Qa} (hs : SchLen s) (r : Qf) (hr : r.2.length ≤ maxLen) (hw : ∀ e ∈ r.2,wfD Qd e) (kb : Bool) : ∀ (l : List Qm) (k : Nat),l = r.2.drop k → Zc (some kb) s r l k = some ((l.all (QqL s) && QU HP (Z7 r.2 k) l) && kb)
 | [],k,_=>by rw [Zc,J3]; rfl
 | e :: l,k,h=>by
  obtain ⟨h1,h2,h3,h4,h5⟩:=XG (d:=Ty.dflt Qd) hr h
  have ih:=QwM hs r hr hw kb l (k + 1) h1
  rw [Zc,QiV hs.t,Option.bind_some,ih,W7 hs.t hs.typ,QB4 hs,h2,GX,List.all_cons,QqL]
  generalize QU HP (some e) l = z
  rcases h5 with rfl | ⟨h5,h6,h7,h8⟩
  ·rw [Jh,Gf,W9]
   cases (HT s e.1).2 <;> cases decide (e.2.1 = ([] : List Int)) <;> cases e.2.2.1 <;> cases GW s e.1 e.2.1 <;> cases (decide (e.2.2.2 = ([] : List Int)) || (QoK s e.2.2.2).2) <;> cases l.all (QqL s) <;> cases z <;> rfl
  ·rw [h6,h7,Gg,decide_eq_true (show (0 : Int) < (k : Int) by omega),Qqe (hw _ h8) (hw e h4)]
   simp only [cond_true,Option.bind_some,QDK,HP]
   cases decide (Qib (rd r.2 (IntKind.wrap .i64 ((k : Int) - 1)) (Ty.dflt Qd)) e < 0) <;> cases (HT s e.1).2 <;> cases decide (e.2.1 = ([] : List Int)) <;> cases e.2.2.1 <;> cases GW s e.1 e.2.1 <;> cases (decide (e.2.2.2 = ([] : List Int)) || (QoK s e.2.2.2).2) <;> cases l.all (QqL s) <;> cases z <;> rfl
end
end Go.Ab
