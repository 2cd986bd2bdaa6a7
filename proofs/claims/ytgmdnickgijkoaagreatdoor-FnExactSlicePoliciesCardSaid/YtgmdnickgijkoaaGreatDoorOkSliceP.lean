import Derived.Test.YtgmdnickgijkoaaGreatDoorGenSliceP
import Derived.Test.YtgmdnickgijkoaaGreatDoorPlain1
import Derived.Test.YtgmdnickgijkoaaGreatDoorAb24
namespace Go.Ab
open Go.Proofs
noncomputable section
theorem Qsa (s : List Int) : ZZ s = some (Qcw s) := by
 induction s with
 | nil => rfl
 | cons e r ih =>
  simp only [ZZ, ih, Qcw, List.all_cons, Qyw]
  grind
theorem Qju {s : List Int} (h : s.length ≤ maxLen) : ZQ s = some (Qcw s) := by
 rw [ZQ, QM h, Qsa]
theorem Qus (s : List Int) : Jr s = some (Qcw s) := by
 induction s with
 | nil => rfl
 | cons e r ih =>
  simp only [Jr, ih, Qcw, List.all_cons, Qyw]
  grind
theorem QlZ {s : List Int} (lo hi : Int) (h : s.length ≤ maxLen) : Ji s lo hi = some (Qbp s lo hi) := by
 rw [Ji, QM h, Qus, Qbp, Qcw]
 grind
theorem Qge (x : Int) : Ya x = Qka x := by unfold Ya Qka; grind
theorem Qqm (x : Int) : VN x = Qka x := by unfold VN Qka; grind
theorem Ql0 (x : Int) : YN x = Qh9 x := by unfold YN Qh9; grind
theorem Qz0 (x : Int) : Xi x = Qh9 x := by unfold Xi Qh9; grind
theorem Qjv (x : Int) : Ys x = QqQ x := by unfold Ys QqQ; rw [Qz0, Qqm]; grind
theorem Qut (s : List Int) : Zs s = some (s.all QqQ) := by
 induction s with
 | nil => rfl
 | cons e r ih =>
  simp only [Zs, ih, List.all_cons, QqQ, Ql0, Qge]
  grind
theorem Gr {s : List Int} (h : s.length ≤ maxLen) : Q9 s = some (Gy s) := by
 rw [Q9, QM h, Qut, Gy]
 simp only [Qge, inB]
 grind
theorem Quu (s : List Int) : Js s = some (s.all QqQ) := by
 induction s with
 | nil => rfl
 | cons e r ih =>
  simp only [Js, ih, List.all_cons, Qjv]
  grind
theorem X1 {s : List Int} (h : s.length ≤ maxLen) : Zv s = some (Gy s) := by
 rw [Zv, QM h, Quu, Gy]
 simp only [Qqm, inB]
 cases s with
 | nil => rfl
 | cons x s => grind
theorem Qyd (x : Int) (hx : x ≤ 62) : ∀ (m : Nat) (k : Int), 0 ≤ k → k ≤ x → x - k < m → YB x m (2 ^ k.toNat) k = some (2 ^ x.toNat) := by
 intro m
 induction m with
 | zero => intro k _ _ h; omega
 | succ m ih =>
  intro k h0 hk hm
  rw [YB]
  by_cases h : k < x
  ·have e : (2 : Int) ^ k.toNat * 2 = 2 ^ (k + 1).toNat := by
    rw [show (k + 1).toNat = k.toNat + 1 by omega, Int.pow_succ]
   have hb : (2 : Int) ^ (k + 1).toNat ≤ 2 ^ 62 := by
    have := Nat.pow_le_pow_right (n := 2) (by omega) (show (k + 1).toNat ≤ 62 by omega)
    exact_mod_cast this
   have hp : (0 : Int) < 2 ^ (k + 1).toNat := Int.pow_pos (by omega)
   rw [decide_eq_true h, e, Qm2 (by omega), Qm2 (by omega)]
   exact ih _ (by omega) (by omega) (by omega)
  ·have : k = x := by omega
   subst this
   rw [decide_eq_false h]; rfl
theorem Qqn {x : Int} (h0 : 0 ≤ x) (hx : x ≤ 62) : GN x = some (QEP x) := by
 refine XP ⟨x.toNat + 1, fun m hm => ?_⟩
 have := Qyd x hx m 0 (by omega) h0 (by omega)
 exact this
theorem Qz1 {a : Atm} (h0 : 0 ≤ a.2.1) (h1 : a.2.1 ≤ 9223372036854775807) (h : a.2.1.tmod 64 ≤ 32) : V3 a = some (a.2.1.tdiv 64, QEP (32 - a.2.1.tmod 64)) := by
 have hm := Int.tmod_nonneg 64 h0
 have hd : a.2.1.tdiv 64 = a.2.1 / 64 := Int.tdiv_eq_ediv_of_nonneg h0
 rw [V3, Qm2 (by omega), Qqn (by omega) (by omega), Qm2 (by omega)]
 rfl
theorem Gs {a : Atm} (hw : wfD Qa a) : Za a = some (V2 a) := by
 have hw2 : inK .i64 a.1 = true ∧ inK .i64 a.2.1 = true ∧ wfD .str a.2.2.1 ∧ wfD .str a.2.2.2 := hw
 have h1 := GS hw2.2.2.1
 have h2 := GS hw2.2.2.2
 have hn := hw2.2.1
 rw [Y1, We, Hh] at hn
 have hp : GN 32 = some 4294967296 := Qqn (x := 32) (by omega) (by omega)
 have hb := Qz1 (a := a)
 have hd : 0 ≤ a.2.1 → a.2.1.tdiv 64 = a.2.1 / 64 := fun h => Int.tdiv_eq_ediv_of_nonneg h
 have hw1 : IntKind.wrap .i64 (4294967296 - 1) = 4294967295 := Qm2 (by omega)
 have hpos : QEP (32 - a.2.1.tmod 64) ≠ 0 := by unfold QEP; exact Int.ne_of_gt (Int.pow_pos (by omega))
 have hwr : 0 ≤ a.2.1 → IntKind.wrap .i64 (a.2.1.tdiv 64) = a.2.1.tdiv 64 := fun h => Qm2 (by have := hd h; omega)
 simp only [Za, ZL, VC, Qju h1, Gr h2, hp, Option.bind_some, hw1]
 unfold V2 Qbp Qcw
 by_cases k6 : a.1 = 6
 ·simp only [k6]
  by_cases h0 : a.2.1 < 0
  ·have : ¬ 0 ≤ a.2.1 := by omega
   grind
  ·have h0' : 0 ≤ a.2.1 := by omega
   rw [hwr h0']
   by_cases h32 : a.2.1.tmod 64 ≤ 32
   ·rw [hb h0' hn.2 h32]
    simp only [Option.bind_some]
    grind
   ·grind
 ·clear hb hd hpos hwr hp hw hw2
  simp only [k6, decide_false, cond_false, Gz, EH, Zf, Jh]
  grind (splits := 30)
theorem X2 {a : Atm} (hw : wfD Qa a) : Zb a = some (V2 a) := by
 have hw2 : inK .i64 a.1 = true ∧ inK .i64 a.2.1 = true ∧ wfD .str a.2.2.1 ∧ wfD .str a.2.2.2 := hw
 have h1 := GS hw2.2.2.1
 have h2 := GS hw2.2.2.2
 have hn := hw2.2.1
 rw [Y1, We, Hh] at hn
 have hd : 0 ≤ a.2.1 → a.2.1.tdiv 64 = a.2.1 / 64 := fun h => Int.tdiv_eq_ediv_of_nonneg h
 have hwr : 0 ≤ a.2.1 → IntKind.wrap .i64 (a.2.1.tdiv 64) = a.2.1.tdiv 64 := fun h => Qm2 (by have := hd h; omega)
 have hmm : 0 ≤ a.2.1 → 0 ≤ a.2.1.tmod 64 := fun h => Int.tmod_nonneg 64 h
 simp only [Zb, VI, VH, QlZ _ _ h1, X1 h2, Option.bind_some]
 unfold V2
 by_cases k6 : a.1 = 6
 ·simp only [k6]
  by_cases h0 : a.2.1 < 0
  ·have : ¬ 0 ≤ a.2.1 := by omega
   grind
  ·have h0' : 0 ≤ a.2.1 := by omega
   have hm0 := hmm h0'
   rw [hwr h0']
   by_cases h32 : a.2.1.tmod 64 ≤ 32
   ·have hws : IntKind.wrap .i64 (32 - a.2.1.tmod 64) = 32 - a.2.1.tmod 64 := Qm2 (by omega)
    have hmn : min (32 - a.2.1.tmod 64).toNat 64 = (32 - a.2.1.tmod 64).toNat := by omega
    have hb : (2 : Int) ^ (32 - a.2.1.tmod 64).toNat ≤ 2 ^ 32 := by
     have := Nat.pow_le_pow_right (n := 2) (by omega) (show (32 - a.2.1.tmod 64).toNat ≤ 32 by omega)
     exact_mod_cast this
    have hp : (0 : Int) < 2 ^ (32 - a.2.1.tmod 64).toNat := Int.pow_pos (by omega)
    rw [hws, hmn, Int.one_mul, Qm2 (by omega)]
    unfold QEP
    have hp2 : (2 : Int) ^ (32 - a.2.1.tmod 64).toNat ≠ 0 := by omega
    generalize (2 : Int) ^ (32 - a.2.1.tmod 64).toNat = q at *
    grind
   ·grind
 ·grind
theorem WG (a b : Int) : QS a b = Xw a b := by unfold QS Xw; rfl
theorem Qsb (a b : List Int) (ha : bytesL a) (hb : bytesL b) : ∀ (r : List Int) (k : Nat), r = a.drop k → k ≤ a.length → k ≤ b.length → Zx a b r k = some (QeP r (b.drop k)) := by
 intro r
 induction r with
 | nil =>
  intro k hr hk hkb
  have h1 := QO hr
  rw [Zx, WG, QCM, List.length_drop]
  unfold Xw
  grind
 | cons e r ih =>
  intro k hr hk hkb
  obtain ⟨h1, _, h2⟩ := QE (d := 0) hr
  have h3 : (e :: r).length = a.length - k := by rw [hr, List.length_drop]
  rw [Zx]
  by_cases h : k < b.length
  ·have hg := List.getElem?_eq_getElem h
   have he := ha e (List.mem_of_mem_drop (hr ▸ List.mem_cons_self))
   have hbk := hb b[k] (List.getElem_mem h)
   rw [Qdc hg, QB h, decide_eq_true (by omega), List.drop_eq_getElem_cons h, Qm2 (by omega), Qm2 (by omega), WG, ih (k + 1) h2 (by omega) (by omega)]
   simp only [QeP, cond_true]
   by_cases hc : e = b[k]
   ·simp [hc]
   ·simp [hc]
  ·rw [decide_eq_false (by omega), List.drop_eq_nil_of_le (by omega), QBV, h3]
   simp only [cond_false, WG, Xw]
   grind
theorem Xn {a b : List Int} (ha : wfD .str a) (hb : wfD .str b) : QX a b = some (WK a b) := by
 rw [QX, QM (GS ha), Qsb a b (QA9 ha) (QA9 hb) a 0 rfl (by omega) (by omega), List.drop_zero, QwU]
theorem QaR {a b : Atm} (ha : wfD Qa a) (hb : wfD Qa b) : Ja a b = some (Xx a b) := by
 have ha2 : inK .i64 a.1 = true ∧ inK .i64 a.2.1 = true ∧ wfD .str a.2.2.1 ∧ wfD .str a.2.2.2 := ha
 have hb2 : inK .i64 b.1 = true ∧ inK .i64 b.2.1 = true ∧ wfD .str b.2.2.1 ∧ wfD .str b.2.2.2 := hb
 rw [Ja, Xn ha2.2.2.1 hb2.2.2.1, Xn ha2.2.2.2 hb2.2.2.2]
 simp only [WG, Xx, Option.bind_some]
 grind
theorem Quv (a b : Int) : J0 a b = Xw a b := by
 unfold J0 Yg Xw
 simp
theorem QoA (a b : List Int) : Z2 a b = WK a b := by
 unfold Z2 Jc WK
 simp
theorem Ql1 (a b : Atm) : Yh a b = some (Xx a b) := by
 rw [Yh, Uq, QM (by simp [maxLen])]
 simp only [YX, Quv, QoA, Xx]
 have h := QgB a.2.2.1 b.2.2.1
 grind
theorem Gt {a : Atm} (hw : wfD Qa a) : Zc a = some (GT a) := by
 rw [Zc, X2 hw, GT]; grind
theorem U9 {a : Atm} (hw : wfD Qa a) : ZF a = some (GT a) := by
 rw [ZF, Gs hw, GT]; grind
theorem Qgf : ∀ (l : List (List Int)) (k : Nat), (∀ s ∈ l, s.length ≤ maxLen) → QQ l k = some (l.all Gy)
 | [], k, _ => rfl
 | s :: l, k, h => by
  rw [QQ, X1 (h s (by simp)), Qgf l (k + 1) (fun x hx => h x (by simp [hx])), List.all_cons]
  simp only [Option.bind_some, QFL]
  grind
theorem Qjw {l : List (List Int)} (h : wfD (.list .str) l) : JP l = some (l.all Gy) := by
 rw [JP, QM h.1, Qgf l 0 fun s hs => GS (h.2 s hs)]
theorem Qjx (xs : List (List Int)) (hl : xs.length ≤ maxLen) : ∀ (r : List (List Int)) (k : Nat), r = xs.drop k → Jd xs r k = some (Z9 Jn (Ju xs k) r)
 | [], k, _ => by rw [J9]; rfl
 | e :: r, k, h => by
  obtain ⟨h1, h2, h3, h4, h5⟩ := X6 (d := Ty.dflt .str) hl h
  rw [Jd, Qjx xs hl r (k + 1) h1, h2, JI]
  rcases h5 with rfl | ⟨h5, h6, h7, _⟩
  ·simp [Ju]
  ·rw [h6, h7]; grind
theorem QoB {l : List (List Int)} (h : l.length ≤ maxLen) : YE l = some (Vc Jn l) := by
 rw [YE, QM h, Qjx l h l 0 rfl]; rfl
theorem Qwz (a : Atm) : QH a = decide (a = (0, 0, [], [])) := by unfold QH; exact decide_eq_decide.2 Iff.rfl
theorem Qba (xs : List Atm) (hw : wfD (.list Qa) xs) : ∀ (r : List Atm) (k : Nat), r = xs.drop k → Q5 xs r k = some (r.all V2 && Z9 G8 (Ju xs k) r)
 | [], k, _ => by rw [J9]; rfl
 | e :: r, k, h => by
  obtain ⟨h1, h2, h3, h4, h5⟩ := X6 (d := Ty.dflt Qa) hw.1 h
  rw [Q5, X2 (hw.2 e h4), Qba xs hw r (k + 1) h1, h2, JI]
  simp only [Option.bind_some, Ql1, Qfe, List.all_cons]
  rcases h5 with rfl | ⟨h5, h6, h7, _⟩
  ·simp [Ju]; grind
  ·rw [h6, h7]; grind
theorem QeD {l : List Atm} (h : wfD (.list Qa) l) : ZO l = some (l.all V2 && Vc G8 l) := by
 rw [ZO, QM h.1, Qba l h l 0 rfl]; rfl
theorem Qgg : ∀ (l : List Atm) (k : Nat), (∀ a ∈ l, wfD Qa a) → QR l k = some (l.all V2)
 | [], k, _ => rfl
 | s :: l, k, h => by
  rw [QR, X2 (h s (by simp)), Qgg l (k + 1) (fun x hx => h x (by simp [hx])), List.all_cons]
  simp only [Option.bind_some, QFL]
  grind
theorem QwA {v : Val} (hw : wfD Qm v) : YZ v = some (Qbq v) := by
 have hw2 : inK .i64 v.1 = true ∧ wfD Qa v.2.1 ∧ wfD (.list Qa) v.2.2.1 ∧ wfD (.list .str) v.2.2.2 := hw
 rw [YZ, X2 hw2.2.1, QeD hw2.2.2.1, Qjw hw2.2.2.2, QoB hw2.2.2.2.1, QM hw2.2.2.1.1, Qgg _ _ hw2.2.2.1.2]
 simp only [Qwz, Option.bind_some, Qbq, Gz, EH, Zf, Jh]
 clear hw hw2
 grind (splits := 30)
theorem Qgh (v : Val) (hw : wfD (.list .str) v.2.2.2) : ∀ (r : List (List Int)) (k : Nat), r = v.2.2.2.drop k → Zn v r k = some (r.all Gy && Z9 Jn (Ju v.2.2.2 k) r)
 | [], k, _ => by rw [J9]; rfl
 | e :: r, k, h => by
  obtain ⟨h1, h2, h3, h4, h5⟩ := X6 (d := Ty.dflt .str) hw.1 h
  rw [Zn, Gr (GS (hw.2 e h4)), Qgh v hw r (k + 1) h1, h2, JI]
  simp only [Option.bind_some, List.all_cons]
  rcases h5 with rfl | ⟨h5, h6, h7, h8⟩
  ·simp [Ju]; grind
  ·rw [h6, h7, Xn (hw.2 _ h8) (hw.2 _ h4)]
   simp only [Option.bind_some, Qia]
   grind
theorem Qgi (v : Val) (hw : wfD (.list Qa) v.2.2.1) (hn : wfD (.list .str) v.2.2.2) : ∀ (r : List Atm) (k : Nat), r = v.2.2.1.drop k → Q2 v r k =
  some (r.all V2 && (bif decide (v.1 = 2) then Z9 G8 (Ju v.2.2.1 k) r && decide (v.2.2.2.length = 0) else decide (v.2.2.2.length = v.2.2.1.length) && v.2.2.2.all Gy && Vc Jn v.2.2.2))
 | [], k, _ => by
  rw [Q2, J9, QM hn.1, Qgh v hn v.2.2.2 0 rfl, Vc, JZ]
  simp only [List.all_nil, Gz, EH, Zf, Jh]
  grind (splits := 30)
 | e :: r, k, h => by
  obtain ⟨h1, h2, h3, h4, h5⟩ := X6 (d := Ty.dflt Qa) hw.1 h
  rw [Q2, Gs (hw.2 e h4), Qgi v hw hn r (k + 1) h1, h2, JI]
  simp only [Option.bind_some, List.all_cons]
  rcases h5 with rfl | ⟨h5, h6, h7, h8⟩
  ·simp [Ju]; grind
  ·rw [h6, h7, QaR (hw.2 _ h8) (hw.2 _ h4)]
   simp only [Option.bind_some, Qfe]
   grind
theorem QwB {v : Val} (hw : wfD Qm v) : JK v = some (Qbq v) := by
 have hw2 : inK .i64 v.1 = true ∧ wfD Qa v.2.1 ∧ wfD (.list Qa) v.2.2.1 ∧ wfD (.list .str) v.2.2.2 := hw
 rw [JK]
 simp only [Vf]
 rw [Gs hw2.2.1, QM hw2.2.2.1.1, Qgi v hw2.2.2.1 hw2.2.2.2 v.2.2.1 0 rfl, JZ]
 have e : (@decide (v.2.1 = (0, 0, ([] : List Int), ([] : List Int))) (Ty.decEq Qa v.2.1 (0, 0, ([] : List Int), ([] : List Int)))) = decide (v.2.1 = (0, 0, [], [])) := decide_eq_decide.2 Iff.rfl
 simp only [e, Option.bind_some, Qbq, Vc, Gz, EH, Zf, Jh]
 clear hw hw2 e
 grind (splits := 30)
theorem Qc9 : ∀ (l : List Val) (k : Nat), (∀ v ∈ l, wfD Qm v) → QJ l k = some (l.all fun v => !decide (v.1 = 3) && Qbq v)
 | [], k, _ => rfl
 | v :: l, k, h => by
  rw [QJ, QwA (h v (by simp)), Qc9 l (k + 1) (fun x hx => h x (by simp [hx])), List.all_cons]
  simp only [Option.bind_some, QFL, Gz, EH, Zf, Jh]
  grind
theorem Qgj {n : List (List Int)} {v : List Val} (hn : wfD (.list .str) n) (hv : wfD (.list Qm) v) : Zj n v = some (HJ n v) := by
 rw [Zj, Qjw hn, QoB hn.1, QM hv.1, Qc9 v 0 hv.2]
 simp only [Option.bind_some, HJ, Gz, EH, Zf, Jh]
 grind (splits := 30)
theorem Qgk (xs : List (List Int)) (vs : List Val) (hx : wfD (.list .str) xs) (hv : wfD (.list Qm) vs) (hlen : vs.length = xs.length) : ∀ (r : List (List Int)) (k : Nat), r = xs.drop k →
  Zy xs vs r k = some (r.all Gy && Z9 Jn (Ju xs k) r && (vs.drop k).all fun v => !decide (v.1 = 3) && Qbq v)
 | [], k, h => by
  have := QO h
  rw [J9, List.drop_eq_nil_of_le (by omega)]; rfl
 | e :: r, k, h => by
  obtain ⟨h1, h2, h3, h4, h5⟩ := X6 (d := Ty.dflt .str) hx.1 h
  have hk : k < vs.length := by omega
  have hg := List.getElem?_eq_getElem hk
  rw [Zy, Gr (GS (hx.2 e h4)), Qgk xs vs hx hv hlen r (k + 1) h1, h2, JI, QB hk, Qdc hg, QwB (hv.2 _ (List.getElem_mem hk)), List.drop_eq_getElem_cons hk]
  simp only [Option.bind_some, List.all_cons, cond_true]
  rcases h5 with rfl | ⟨h5, h6, h7, h8⟩
  ·simp only [JZ, Int.natCast_zero, Int.lt_irrefl, decide_false, cond_false, Gz, EH, Zf, Jh]
   grind
  ·rw [h6, h7, Xn (hx.2 _ h8) (hx.2 _ h4)]
   simp only [Option.bind_some, Qia, cond_true, Gz, EH, Zf, Jh]
   have : decide ((0 : Int) < (k : Int)) = true := decide_eq_true (by omega)
   rw [this]
   clear hx hv h h1 h2 h7 h8
   grind
theorem Qjy {n : List (List Int)} {v : List Val} (hn : wfD (.list .str) n) (hv : wfD (.list Qm) v) : ZR n v = some (HJ n v) := by
 rw [ZR, QM hn.1]
 by_cases hl : v.length = n.length
 ·rw [Qgk n v hn hv hl n 0 rfl, List.drop_zero, JZ]
  simp only [Option.bind_some, HJ, Vc, hl, Gz, EH, Zf, Jh]
  clear hn hv
  grind (splits := 30)
 ·simp only [HJ, Gz, EH, Zf, Jh]
  clear hn hv
  grind (splits := 30)
theorem Qsc {r : Req} (hw : wfD Qr r) : JF r = some (QcP r) := by
 have h : wfD Qa r.1 ∧ wfD Qa r.2.1 ∧ wfD Qa r.2.2.1 ∧ wfD (.list .str) r.2.2.2.1 ∧ wfD (.list Qm) r.2.2.2.2 := hw
 rw [JF, Gt h.1, Gt h.2.1, Gt h.2.2.1, Qgj h.2.2.2.1 h.2.2.2.2]
 simp only [Option.bind_some, QcP, Gz, EH, Zf, Jh]
 clear h hw
 grind (splits := 30)
theorem Qsd {r : Req} (hw : wfD Qr r) : Yl r = some (QcP r) := by
 have h : wfD Qa r.1 ∧ wfD Qa r.2.1 ∧ wfD Qa r.2.2.1 ∧ wfD (.list .str) r.2.2.2.1 ∧ wfD (.list Qm) r.2.2.2.2 := hw
 rw [Yl, U9 h.1, U9 h.2.1, U9 h.2.2.1, Qjy h.2.2.2.1 h.2.2.2.2]
 simp only [Option.bind_some, QcP, Gz, EH, Zf, Jh]
 clear h hw
 grind (splits := 30)
theorem Qgl : ∀ (l : List Atm) (k : Nat), QP l k = some (l.all fun a => decide (a.1 = 4))
 | [], k => rfl
 | a :: l, k => by
  rw [QP, Qgl l (k + 1), List.all_cons]
  simp only [QFL, Gz, EH, Zf, Jh]
  grind
theorem QwC {l : List Atm} {m : Int} (h : wfD (.list Qa) l) : JO l m = some (decide ((l.length : Int) ≤ m) && Qzt l) := by
 rw [JO, QeD h, QM h.1, Qgl]
 rw [Qzt, show l.all GT = ((l.all fun a => decide (a.1 = 4)) && l.all V2) from (QEe _ _ l).symm]
 simp only [Option.bind_some]
 cases l.all V2 <;> cases Vc G8 l <;> cases (l.all fun a => decide (a.1 = 4)) <;> cases decide ((l.length : Int) ≤ m) <;> rfl
theorem QeE (xs : List Thg) (hw : wfD (.list Qf) xs) : ∀ (r : List Thg) (k : Nat), r = xs.drop k →
  Zp xs r k = some (r.all Qbr && Z9 (fun a b => G8 a.1 b.1) (Ju xs k) r)
 | [], k, h => by rw [J9]; rfl
 | e :: r, k, h => by
  obtain ⟨h1, h2, h3, h4, h5⟩ := X6 (d := Ty.dflt Qf) hw.1 h
  have we : wfD Qa e.1 ∧ wfD (.list Qa) e.2.1 ∧ wfD (.list .str) e.2.2.1 ∧ wfD (.list Qm) e.2.2.2 := hw.2 e h4
  rw [Zp, Gt we.1, QwC we.2.1, Qgj we.2.2.1 we.2.2.2, QeE xs hw r (k + 1) h1, h2, JI]
  simp only [Option.bind_some, List.all_cons, Ql1, Qfe]
  rcases h5 with rfl | ⟨h5, h6, h7, h8⟩
  ·simp only [JZ, Qbr, Int.natCast_zero, Int.lt_irrefl, decide_false, cond_false, Gz, EH, Zf, Jh]
   clear hw we h h1 h2
   grind (splits := 30)
  ·rw [h6, h7, decide_eq_true (show (0 : Int) < (k : Int) by omega)]
   simp only [Qbr, cond_true, Gz, EH, Zf, Jh]
   clear hw we h h1 h2 h7 h8
   grind (splits := 30)
theorem Quw {l : List Thg} (hw : wfD (.list Qf) l) : J1 l = some (Xy l) := by
 rw [J1, QM hw.1, QeE l hw l 0 rfl, JZ]
 simp only [Xy, Vc, Gz, EH, Zf, Jh]
 clear hw
 grind
theorem QeF (K : Option Bool) (x : Thg) (hw : wfD (.list Qa) x.2.1) : ∀ (r : List Atm) (k : Nat), r = x.2.1.drop k →
  Q6 K x r k = bif r.all GT && Z9 G8 (Ju x.2.1 k) r then K else some false
 | [], k, _ => by rw [J9]; rfl
 | e :: r, k, h => by
  obtain ⟨h1, h2, h3, h4, h5⟩ := X6 (d := Ty.dflt Qa) hw.1 h
  rw [Q6, U9 (hw.2 e h4), QeF K x hw r (k + 1) h1, h2, JI]
  simp only [Option.bind_some, List.all_cons]
  rcases h5 with rfl | ⟨h5, h6, h7, h8⟩
  ·simp only [JZ, Int.natCast_zero, Int.lt_irrefl, decide_false, cond_false, Gz, EH]
   clear hw h h1 h2
   grind (splits := 30)
  ·rw [h6, h7, decide_eq_true (show (0 : Int) < (k : Int) by omega), QaR (hw.2 _ h8) (hw.2 _ h4)]
   simp only [Option.bind_some, Qfe, cond_true, Gz, EH]
   clear hw h h1 h2 h7 h8
   grind (splits := 30)
theorem QeG (xs : List Thg) (hw : wfD (.list Qf) xs) : ∀ (r : List Thg) (k : Nat), r = xs.drop k →
  Zo xs r k = some (r.all Qbr && Z9 (fun a b => G8 a.1 b.1) (Ju xs k) r)
 | [], k, h => by rw [J9]; rfl
 | e :: r, k, h => by
  obtain ⟨h1, h2, h3, h4, h5⟩ := X6 (d := Ty.dflt Qf) hw.1 h
  have we : wfD Qa e.1 ∧ wfD (.list Qa) e.2.1 ∧ wfD (.list .str) e.2.2.1 ∧ wfD (.list Qm) e.2.2.2 := hw.2 e h4
  rw [Zo, U9 we.1, Qjy we.2.2.1 we.2.2.2, QM we.2.1.1, QeF _ e we.2.1 e.2.1 0 rfl, QeG xs hw r (k + 1) h1, h2, JI]
  simp only [Option.bind_some, List.all_cons, JZ]
  have hg : Qbr e = (GT e.1 && decide (e.2.1.length ≤ 50) && (e.2.1.all GT && Z9 G8 none e.2.1) && HJ e.2.2.1 e.2.2.2) := rfl
  rcases h5 with rfl | ⟨h5, h6, h7, h8⟩
  ·simp only [hg, JZ, Int.natCast_zero, Int.lt_irrefl, decide_false, cond_false, Gz, EH, Zf, Jh]
   clear hw we h h1 h2 hg
   grind (splits := 30)
  ·have wp : wfD Qa _ ∧ _ := hw.2 _ h8
   rw [h6, h7, decide_eq_true (show (0 : Int) < (k : Int) by omega), QaR wp.1 we.1]
   simp only [Option.bind_some, hg, Qfe, cond_true, Gz, EH, Zf, Jh]
   clear hw we h h1 h2 h7 h8 wp hg
   grind (splits := 30)
theorem Qux {l : List Thg} (hw : wfD (.list Qf) l) : YC l = some (Xy l) := by
 rw [YC, QM hw.1, QeG l hw l 0 rfl, JZ]
 simp only [Xy, Vc, Gz, EH, Zf, Jh]
 clear hw
 grind
theorem Qye (a : Qe) (xs : List Qe) : Jw a xs = some (decide (a ∈ xs)) := by
 induction xs with
 | nil => simp [Jw]
 | cons e r ih =>
  rw [Jw, ih]
  by_cases h : e = a
  ·subst h; simp
  ·have h' : ¬ a = e := fun q => h q.symm
   simp [h, h']
theorem Qqo {xs : List Qe} (h : xs.length ≤ maxLen) (a : Qe) : Y4 xs a = some (decide (a ∈ xs)) := by
 rw [Y4, QM h, Qye]
theorem Quy (a : Qe) (xs : List Qj) : ∃ y, Zt a xs = some y ∧ (y.1 ∈ xs ∨ y.1.2.1 = []) := by
 induction xs with
 | nil => exact ⟨_, rfl, .inr rfl⟩
 | cons e r ih =>
  rw [Zt]
  by_cases h : e.1 = a
  ·subst h
   exact ⟨(e, true), by simp, .inl (by simp)⟩
  ·obtain ⟨y, h1, h2⟩ := ih
   refine ⟨y, by simp [h, h1], ?_⟩
   rcases h2 with h2 | h2
   ·exact .inl (by simp [h2])
   ·exact .inr h2
theorem Qyf {xs : List Qj} (h : xs.length ≤ maxLen) (a : Qe) : ∃ y, Ye xs a = some y ∧ (y.1 ∈ xs ∨ y.1.2.1 = []) := by
 rw [Ye, QM h]
 exact Quy a xs
theorem QpO (a : Qe) (xs : List Qj) : ∀ k, Q3 a xs k = Zt a xs := by
 induction xs with
 | nil => intro k; rfl
 | cons e r ih =>
  intro k
  rw [Q3, Zt, ih]
  have : decide ((k : Int) < 0) = false := decide_eq_false (by omega)
  rw [this]
  rfl
theorem Quz (xs : List Qj) (a : Qe) : YG xs a = Ye xs a := by
 rw [YG, Ye, QpO]
def Xo (h : ZE) : Bool :=
 bif decide (h.1 = 1) || decide (h.1 = 5) || decide (h.1 = 6) then @decide (h.2.1 = (0, 0, ([] : List Int), ([] : List Int))) (Ty.decEq Qa h.2.1 (0, 0, ([] : List Int), ([] : List Int))) && decide (h.2.2 = ([] : List Int))
 else bif decide (h.1 = 2) || decide (h.1 = 3) then GT h.2.1 && decide (h.2.2 = ([] : List Int))
 else bif decide (h.1 = 4) then @decide (h.2.1 = (0, 0, ([] : List Int), ([] : List Int))) (Ty.decEq Qa h.2.1 (0, 0, ([] : List Int), ([] : List Int))) && Gy h.2.2
 else false
theorem Qgm {h : ZE} (hw : wfD Qs h) : QY h true = some (Xo h) := by
 have h1 : wfD Qa h.2.1 := hw.2.1
 have h2 : wfD .str h.2.2 := hw.2.2
 simp only [QY, JL, Gs h1, Gr (GS h2), Option.bind_some, Xo, GT, Gz, EH, Zf, Jh, cond_true]
 clear hw h1 h2
 grind (splits := 30)
theorem Qjz {h : ZE} (hw : wfD Qs h) : Zg h false = some (Xo h) := by
 have h1 : wfD Qa h.2.1 := hw.2.1
 have h2 : wfD .str h.2.2 := hw.2.2
 simp only [Zg, Yt, J6, Gt h1, X1 (GS h2), QH, Option.bind_some, Xo, Gz, EH, Zf, Jh, Bool.not_false]
 clear hw h1 h2
 grind (splits := 30)
theorem Qse {p : Nat} {x : Qe} : ∀ (d j : Nat) (ys : List Qe), j = p + d → j < ys.length → ys.length ≤ maxLen →
  ∃ zs, zs.length = ys.length ∧ (∀ a, a ∈ zs ↔ a = x ∨ ∃ i, i ≠ j ∧ ys[i]? = some a) ∧ ∀ (K : List Qe → Option (List Qe)) m, d + 1 ≤ m → ZA K p x m ys j = K zs := by
 intro d
 induction d with
 | succ d ih =>
  intro j ys hp hj hl
  have hpj : p < j := by omega
  ·obtain ⟨j', rfl⟩ : ∃ j', j = j' + 1 := ⟨j - 1, by omega⟩
   have hw : IntKind.wrap .i64 (((j' + 1 : Nat) : Int) - 1) = (j' : Int) := Qh6 hl (by omega)
   obtain ⟨zs, h1, h2, h3⟩ := ih j' (ys.set (j' + 1) (rd ys (j' : Int) (Ty.dflt Qa))) (by omega) (by rw [List.length_set]; omega) (by rw [List.length_set]; exact hl)
   refine ⟨zs, by rw [h1, List.length_set], ?_, ?_⟩
   ·intro a
    rw [h2]
    have hrd : rd ys (j' : Int) (Ty.dflt Qa) = ys[j'] := Qdc (List.getElem?_eq_getElem (by omega))
    constructor
    ·rintro (h | ⟨i, hi, h⟩)
     ·exact .inl h
     ·rw [List.getElem?_set] at h
      split at h
      ·cases h; exact .inr ⟨j', by omega, by rw [hrd]; exact List.getElem?_eq_getElem (by omega)⟩
      ·rename_i hne; exact .inr ⟨i, fun e => hne e.symm, h⟩
    ·rintro (h | ⟨i, hi, h⟩)
     ·exact .inl h
     ·right
      by_cases hij : i = j'
      ·subst hij
       refine ⟨i + 1, by omega, ?_⟩
       rw [List.getElem?_set, if_pos rfl, if_pos hj, hrd]
       rw [List.getElem?_eq_getElem (by omega)] at h
       exact h
      ·exact ⟨i, hij, by rw [List.getElem?_set, if_neg (fun e => hi e.symm)]; exact h⟩
   ·intro K m hm
    obtain ⟨m, rfl⟩ : ∃ m', m = m' + 1 := ⟨m - 1, by omega⟩
    rw [ZA]
    have d1 : decide ((p : Int) < ((j' + 1 : Nat) : Int)) = true := decide_eq_true (by omega)
    have d2 : inB (j' : Int) ys.length = true := QB (by omega)
    have d3 : inB ((j' + 1 : Nat) : Int) ys.length = true := QB hj
    simp only [d1, hw, d2, d3, cond_true, Bool.and_self, Int.toNat_natCast]
    exact h3 K m (by omega)
 | zero =>
  intro j ys hp hj hl
  ·have hjp : j = p := by omega
   subst hjp
   refine ⟨ys.set j x, by simp, ?_, ?_⟩
   ·intro a
    constructor
    ·intro h
     obtain ⟨i, hi⟩ := List.getElem?_of_mem h
     rw [List.getElem?_set] at hi
     split at hi
     ·cases hi; exact .inl rfl
     ·rename_i hne; exact .inr ⟨i, fun e => hne e.symm, hi⟩
    ·rintro (rfl | ⟨i, hi, h⟩)
     ·exact List.mem_of_getElem? (i := j) (by rw [List.getElem?_set, if_pos rfl, if_pos hj])
     ·exact List.mem_of_getElem? (i := i) (by rw [List.getElem?_set, if_neg (fun e => hi e.symm)]; exact h)
   ·intro K m hm
    obtain ⟨m, rfl⟩ : ∃ m', m = m' + 1 := ⟨m - 1, by omega⟩
    rw [ZA]
    have d1 : decide ((j : Int) < (j : Int)) = false := decide_eq_false (by omega)
    have d3 : inB (j : Int) ys.length = true := QB hj
    simp only [d1, d3, cond_true, cond_false, Bool.and_self, Int.toNat_natCast]
theorem Qgn {x1 : List Qe} {x : Qe} {k : Nat} (hk : k ≤ x1.length) (hl : x1.length ≤ 1000000) (hx : wfD Qa x) (h1 : ∀ a ∈ x1, wfD Qa a) (hc : ∀ a b : Qe, Xx a b = 0 → a = b) :
  ∃ zs, zs.length ≤ x1.length + 1 ∧ (∀ a, a ∈ zs ↔ a = x ∨ a ∈ x1) ∧ ∀ (K : List Qe → Option (List Qe)) m, x1.length + 2 ≤ m → Jp K m x1 k x = K zs := by
 have hmax : x1.length + 1 ≤ maxLen := by unfold maxLen; omega
 obtain ⟨zs, z1, z2, z3⟩ := Qse (p := k) (x := x) (x1.length - k) x1.length (x1 ++ [x]) (by omega) (by simp) (by simpa using hmax)
 have hmem : ∀ a, a ∈ zs ↔ a = x ∨ a ∈ x1 := by
  intro a
  rw [z2]
  constructor
  ·rintro (h | ⟨i, hi, h⟩)
   ·exact .inl h
   ·right
    rw [List.getElem?_append] at h
    split at h
    ·exact List.mem_of_getElem? h
    ·have : i - x1.length ≠ 0 := by omega
     rw [List.getElem?_eq_none (by simp; omega)] at h
     cases h
  ·rintro (h | h)
   ·exact .inl h
   ·obtain ⟨i, hi⟩ := List.getElem?_of_mem h
    have hlt : i < x1.length := (List.getElem?_eq_some_iff.1 hi).1
    exact .inr ⟨i, by omega, by rw [List.getElem?_append_left hlt]; exact hi⟩
 have hroom : (decide (((x1.length : Int) + (([x] : List Qe).length : Int)) * 48 ≤ QI) && decide ((x1.length : Int) + (([x] : List Qe).length : Int) ≤ QI)) = true := by
  rw [Yv]; simp; omega
 have hpos : IntKind.wrap .i64 (((x1 ++ ([x] : List Qe)).length : Int) - 1) = ((x1.length : Nat) : Int) := by
  rw [List.length_append]
  exact Qh6 hmax (by omega)
 by_cases h0 : k = 0
 ·subst h0
  refine ⟨zs, by rw [z1]; simp, hmem, fun K m hm => ?_⟩
  rw [Jp]
  simp only [Int.natCast_zero, hroom, hpos, cond_true]
  exact z3 K m (by omega)
 ·obtain ⟨k', rfl⟩ : ∃ k', k = k' + 1 := ⟨k - 1, by omega⟩
  have hw : IntKind.wrap .i64 (((k' + 1 : Nat) : Int) - 1) = (k' : Int) := Qh6 (by unfold maxLen; omega) hk
  have hin : inB (k' : Int) x1.length = true := QB (by omega)
  have hrd : rd x1 (k' : Int) (Ty.dflt Qa) = x1[k'] := Qdc (List.getElem?_eq_getElem (by omega))
  have hcm := QaR (h1 x1[k'] (List.getElem_mem _)) hx
  have d1 : decide ((0 : Int) < ((k' + 1 : Nat) : Int)) = true := decide_eq_true (by omega)
  by_cases he : Xx x1[k'] x = 0
  ·refine ⟨x1, by omega, fun a => ⟨.inr, ?_⟩, fun K m hm => ?_⟩
   ·rintro (h | h)
    ·rw [h, ← hc _ _ he]; exact List.getElem_mem _
    ·exact h
   ·rw [Jp]
    simp only [d1, hw, hin, hrd, hcm, Option.bind_some, he, decide_true, cond_true]
  ·refine ⟨zs, by rw [z1]; simp, hmem, fun K m hm => ?_⟩
   rw [Jp]
   simp only [d1, hw, hin, hrd, hcm, Option.bind_some, he, decide_false, cond_true, cond_false, hroom, hpos]
   exact z3 K m (by omega)
theorem QpP {x1 : List Qe} {x : Qe} (hl : x1.length ≤ 1000000) (hx : wfD Qa x) (h1 : ∀ a ∈ x1, wfD Qa a) (hc : ∀ a b : Qe, Xx a b = 0 → a = b) : ∀ (k : Nat), k ≤ x1.length →
  ∃ zs, zs.length ≤ x1.length + 1 ∧ (∀ a, a ∈ zs ↔ a = x ∨ a ∈ x1) ∧ ∀ (K : List Qe → Option (List Qe)) m, x1.length + k + 4 ≤ m → ZM K x1 x m k = K zs := by
 intro k
 induction k with
 | zero =>
  intro hk
  obtain ⟨zs, z1, z2, z3⟩ := Qgn hk hl hx h1 hc
  refine ⟨zs, z1, z2, fun K m hm => ?_⟩
  obtain ⟨m, rfl⟩ : ∃ m', m = m' + 1 := ⟨m - 1, by omega⟩
  rw [ZM]
  have d1 : decide ((0 : Int) < ((0 : Nat) : Int)) = false := decide_eq_false (by omega)
  simp only [d1, cond_false]
  exact z3 K m (by omega)
 | succ k ih =>
  intro hk
  have hw : IntKind.wrap .i64 (((k + 1 : Nat) : Int) - 1) = (k : Int) := Qh6 (by unfold maxLen; omega) hk
  have hin : inB (k : Int) x1.length = true := QB (by omega)
  have hrd : rd x1 (k : Int) (Ty.dflt Qa) = x1[k] := Qdc (List.getElem?_eq_getElem (by omega))
  have hcm := QaR (h1 x1[k] (List.getElem_mem _)) hx
  have d1 : decide ((0 : Int) < ((k + 1 : Nat) : Int)) = true := decide_eq_true (by omega)
  by_cases hg : 0 < Xx x1[k] x
  ·obtain ⟨zs, z1, z2, z3⟩ := ih (by omega)
   refine ⟨zs, z1, z2, fun K m hm => ?_⟩
   obtain ⟨m, rfl⟩ : ∃ m', m = m' + 1 := ⟨m - 1, by omega⟩
   rw [ZM]
   simp only [d1, hw, hin, hrd, hcm, Option.bind_some, hg, decide_true, cond_true]
   exact z3 K m (by omega)
  ·obtain ⟨zs, z1, z2, z3⟩ := Qgn hk hl hx h1 hc
   refine ⟨zs, z1, z2, fun K m hm => ?_⟩
   obtain ⟨m, rfl⟩ : ∃ m', m = m' + 1 := ⟨m - 1, by omega⟩
   rw [ZM]
   simp only [d1, hw, hin, hrd, hcm, Option.bind_some, hg, decide_false, cond_true, cond_false]
   exact z3 K m (by omega)
theorem QuA (hc : ∀ a b : Qe, Xx a b = 0 → a = b) : ∀ (rest x1 : List Qe), x1.length + rest.length ≤ 1000000 → (∀ a ∈ rest, wfD Qa a) → (∀ a ∈ x1, wfD Qa a) →
  ∃ zs, (∀ a, a ∈ zs ↔ a ∈ x1 ∨ a ∈ rest) ∧ zs.length ≤ x1.length + rest.length ∧ ∀ m, 2 * (x1.length + rest.length) + 8 ≤ m → Jq m rest x1 = some zs := by
 intro rest
 induction rest with
 | nil => intro x1 _ _ _; exact ⟨x1, fun a => by simp, by simp, fun m _ => rfl⟩
 | cons e rest ih =>
  intro x1 hl hr h1
  rw [List.length_cons] at hl
  obtain ⟨zs, z1, z2, z3⟩ := QpP (x1 := x1) (x := e) (by omega) (hr e (by simp)) h1 hc x1.length (Nat.le_refl _)
  obtain ⟨ys, y1, y2, y3⟩ := ih zs (by omega) (fun a ha => hr a (by simp [ha])) (fun a ha => by
   rcases (z2 a).1 ha with rfl | h
   ·exact hr a (by simp)
   ·exact h1 a h)
  refine ⟨ys, fun a => ?_, by rw [List.length_cons]; omega, fun m hm => ?_⟩
  ·rw [y1, z2, List.mem_cons]
   constructor
   ·rintro ((h | h) | h)
    ·exact .inr (.inl h)
    ·exact .inl h
    ·exact .inr (.inr h)
   ·rintro (h | h | h)
    ·exact .inl (.inr h)
    ·exact .inl (.inl h)
    ·exact .inr h
  ·rw [List.length_cons] at hm
   rw [Jq, z3 _ m (by omega)]
   exact y3 m (by omega)
theorem Qyg (hc : ∀ a b : Qe, Xx a b = 0 → a = b) {xs : List Qe} (hl : xs.length ≤ 1000000) (hw : ∀ a ∈ xs, wfD Qa a) : ∃ zs, (∀ a, a ∈ zs ↔ a ∈ xs) ∧ zs.length ≤ xs.length ∧ XS xs = some zs := by
 obtain ⟨zs, z1, z2, z3⟩ := QuA hc xs [] (by simpa using hl) hw (fun a ha => by simp at ha)
 refine ⟨zs, fun a => by rw [z1]; simp, by simpa using z2, XP ⟨2 * xs.length + 8, fun m hm => ?_⟩⟩
 show XR m xs = some zs
 rw [XR, QM (by unfold maxLen; omega)]
 exact z3 m (by simpa using hm)
def Qd4 (acc : List Qe) : List Qe → List Qe
 | [] => acc
 | e :: r => Qd4 (if e ∈ acc then acc else acc ++ [e]) r
theorem QwD (e : Qe) : ∀ (xs : List Qe), Qhd Qa (xs.map fun a => (a, true)) e false = decide (e ∈ xs)
 | [] => by simp [Qhd]
 | x :: xs => by
  rw [List.map_cons, Qhd, QwD e xs]
  by_cases h : e = x
  ·subst h; simp
  ·simp [h]
theorem QBb (e : Qe) : ∀ (xs : List Qe), e ∉ xs → Qgp Qa (xs.map fun a => (a, true)) e true = (xs ++ [e]).map fun a => (a, true)
 | [], _ => rfl
 | x :: xs, h => by
  have h1 : ¬ e = x := fun q => h (by simp [q])
  rw [List.map_cons, Qgp, QBb e xs (fun q => h (by simp [q]))]
  simp [h1]
theorem Qd5 {K0 : List Qe → Int → Option (List Qe)} {x3 : Int} : ∀ (ups x2 : List Qe), x2.length + ups.length ≤ 1000000 → JN K0 x3 ups x2 = K0 (Qd4 x2 ups) (IntKind.wrap .i64 (x3 + 1))
 | [], x2, _ => rfl
 | e :: r, x2, hl => by
  rw [List.length_cons] at hl
  rw [JN, Qqo (by unfold maxLen; omega), Option.bind_some, Qd4]
  by_cases h : e ∈ x2
  ·simp only [h, decide_true, Bool.not_true, cond_false, if_true]
   exact Qd5 r x2 (by omega)
  ·have hroom : (decide (((x2.length : Int) + (([(e)] : List Qe).length : Int)) * 48 ≤ QI) && decide ((x2.length : Int) + (([(e)] : List Qe).length : Int) ≤ QI)) = true := by
    rw [Yv]; simp; omega
   simp only [h, decide_false, Bool.not_false, cond_true, hroom, if_false]
   exact Qd5 r _ (by rw [List.length_append]; simp; omega)
theorem H9 {K0 : List Qe → List (Qe × Bool) → Option (List (Qe × Bool))} (k : Nat) : ∀ (ups x2 : List Qe), k < x2.length → x2.length + ups.length ≤ 1000000 →
  Q8 K0 ups (x2.drop k) (x2.map fun a => (a, true)) = K0 ((Qd4 x2 ups).drop (k + 1)) ((Qd4 x2 ups).map fun a => (a, true))
 | [], x2, hk, hl => by
  have h1 : (1 : Int) ≤ (((x2.drop k).length : Nat) : Int) := by rw [List.length_drop]; omega
  rw [Q8, Qd4]
  simp only [h1, decide_true, Bool.and_self, cond_true]
  congr 1
  unfold cut
  rw [Int.toNat_natCast, List.take_length, show Int.toNat 1 = 1 from rfl, List.drop_drop]
 | e :: r, x2, hk, hl => by
  rw [List.length_cons] at hl
  rw [Q8, QwD, Qd4]
  by_cases h : e ∈ x2
  ·simp only [h, decide_true, Bool.not_true, cond_false, if_true]
   exact H9 k r x2 hk (by omega)
  ·have hroom : (decide ((((x2.drop k).length : Int) + (([(e)] : List Qe).length : Int)) * 48 ≤ QI) && decide (((x2.drop k).length : Int) + (([(e)] : List Qe).length : Int) ≤ QI)) = true := by
    rw [Yv]; simp; omega
   have hd : x2.drop k ++ [e] = (x2 ++ [e]).drop k := by rw [List.drop_append_of_le_length (by omega)]
   simp only [h, decide_false, Bool.not_false, cond_true, hroom, if_false, QBb e x2 h, hd]
   exact H9 k r _ (by rw [List.length_append]; omega) (by rw [List.length_append]; simp; omega)
theorem Qsf {U : List Qe} : ∀ (ups x2 : List Qe), (∀ a ∈ ups, a ∈ U) → (∀ a ∈ x2, a ∈ U) → x2.Nodup → (∀ a ∈ Qd4 x2 ups, a ∈ U) ∧ (Qd4 x2 ups).Nodup ∧ x2.length ≤ (Qd4 x2 ups).length
 | [], x2, _, h2, h3 => ⟨h2, h3, Nat.le_refl _⟩
 | e :: r, x2, h1, h2, h3 => by
  rw [Qd4]
  by_cases h : e ∈ x2
  ·rw [if_pos h]
   exact Qsf r x2 (fun a ha => h1 a (by simp [ha])) h2 h3
  ·rw [if_neg h]
   obtain ⟨q1, q2, q3⟩ := Qsf (U := U) r (x2 ++ [e]) (fun a ha => h1 a (by simp [ha])) (fun a ha => by
    rcases List.mem_append.1 ha with ha | ha
    ·exact h2 a ha
    ·rw [List.mem_singleton.1 ha]; exact h1 e (by simp)) (by
    rw [List.nodup_append]
    exact ⟨h3, by simp, fun a ha b hb => by rw [List.mem_singleton.1 hb]; exact fun q => h (q ▸ ha)⟩)
   refine ⟨q1, q2, ?_⟩
   rw [List.length_append] at q3
   exact Nat.le_trans (Nat.le_add_right _ _) q3
theorem QGb {a0 : List Qj} (h0 : a0.length ≤ maxLen) {U : List Qe} (hU : ∀ t ∈ a0, ∀ a ∈ t.2.1, a ∈ U) (hUl : U.length ≤ 400000) (hups : ∀ t ∈ a0, t.2.1.length ≤ 400000) : ∀ (d k : Nat) (x2 : List Qe), U.length ≤ k + d → k ≤ x2.length → (∀ a ∈ x2, a ∈ U) → x2.Nodup →
  ∃ L, (∀ a ∈ L, a ∈ U) ∧ L.Nodup ∧ ∀ m, d + 1 ≤ m → Zq a0 m (x2.drop k) (x2.map fun a => (a, true)) = some (L.map fun a => (a, true)) ∧ Jj a0 m x2 k = Option.bind (XS L) some := by
 intro d
 induction d with
 | zero =>
  intro k x2 hd hk hx hn
  have hlen := QoS hn hx
  have hkk : k = x2.length := by omega
  subst hkk
  refine ⟨x2, hx, hn, fun m hm => ?_⟩
  obtain ⟨m, rfl⟩ : ∃ m', m = m' + 1 := ⟨m - 1, by omega⟩
  rw [Zq, Jj]
  simp
 | succ d ih =>
  intro k x2 hd hk hx hn
  have hlen := QoS hn hx
  by_cases hkk : k = x2.length
  ·subst hkk
   refine ⟨x2, hx, hn, fun m hm => ?_⟩
   obtain ⟨m, rfl⟩ : ∃ m', m = m' + 1 := ⟨m - 1, by omega⟩
   rw [Zq, Jj]
   simp
  ·have hlt : k < x2.length := by omega
   obtain ⟨y, hy, hy2⟩ := Qyf h0 x2[k]
   have hin : ∀ a ∈ y.1.2.1, a ∈ U := by
    rcases hy2 with h | h
    ·exact hU _ h
    ·rw [h]; intro a ha; cases ha
   have hul : y.1.2.1.length ≤ 400000 := by
    rcases hy2 with h | h
    ·exact hups _ h
    ·rw [h]; simp
   obtain ⟨q1, q2, q3⟩ := Qsf (U := U) y.1.2.1 x2 hin hx hn
   obtain ⟨L, l1, l2, l3⟩ := ih (k + 1) (Qd4 x2 y.1.2.1) (by omega) (by omega) q1 q2
   refine ⟨L, l1, l2, fun m hm => ?_⟩
   obtain ⟨m, rfl⟩ : ∃ m', m = m' + 1 := ⟨m - 1, by omega⟩
   obtain ⟨r1, r2⟩ := l3 m (by omega)
   have hrd : rd x2 (k : Int) (Ty.dflt Qa) = x2[k] := Qdc (List.getElem?_eq_getElem hlt)
   have hrd2 : rd (x2.drop k) (0 : Int) (Ty.dflt Qa) = x2[k] := Qdc (k := 0) (by rw [List.getElem?_drop, Nat.add_zero]; exact List.getElem?_eq_getElem hlt)
   have b1 : decide ((0 : Int) < ((x2.drop k).length : Int)) = true := decide_eq_true (by rw [List.length_drop]; omega)
   have b2 : inB 0 (x2.drop k).length = true := Yz.2 (by rw [List.length_drop]; omega)
   have b3 : decide ((k : Int) < (x2.length : Int)) = true := decide_eq_true (by omega)
   constructor
   ·rw [Zq]
    simp only [b1, b2, cond_true, hrd2, Quz, hy, Option.bind_some]
    rw [QM (by unfold maxLen; omega), H9 k _ _ hlt (by omega)]
    exact r1
   ·rw [Jj]
    simp only [b3, QB hlt, cond_true, hrd, hy, Option.bind_some]
    rw [QM (by unfold maxLen; omega), Qd5 _ _ (by omega), QA (len := maxLen) (Nat.le_refl _) (by unfold maxLen; omega)]
    exact r2
theorem QEQ (hc : ∀ a b : Qe, Xx a b = 0 → a = b) {a0 : List Qj} (h0 : a0.length ≤ maxLen) {U : List Qe} (hU : ∀ t ∈ a0, ∀ a ∈ t.2.1, a ∈ U) (hUl : U.length ≤ 400000) (hups : ∀ t ∈ a0, t.2.1.length ≤ 400000) (h : ZE) (x : Qe) (hx : x ∈ U) (hw : ∀ a ∈ U, wfD Qa a) :
  ∃ b, Zi a0 h x = some b ∧ Q1 a0 h x = some b := by
 obtain ⟨L, l1, l2, l3⟩ := QGb h0 hU hUl hups U.length 0 [x] (by omega) (by simp) (fun a ha => by rw [List.mem_singleton.1 ha]; exact hx) (by simp)
 have hLl := QoS l2 l1
 obtain ⟨zs, z1, z2, z3⟩ := Qyg hc (xs := L) (by omega) (fun a ha => hw a (l1 a ha))
 have e1 : Hr a0 x = some (L.map fun a => (a, true)) := XP ⟨U.length + 1, fun m hm => (l3 m hm).1⟩
 have e2 : QeQ a0 x = some zs := XP ⟨U.length + 1, fun m hm => by
  show Jj a0 m [x] 0 = some zs
  have := (l3 m hm).2
  rw [z3] at this
  exact this⟩
 have hin : decide (h.2.1 ∈ zs) = decide (h.2.1 ∈ L) := by rw [decide_eq_decide]; exact z1 _
 rw [Zi, Q1, e1, e2]
 have hg := QwD h.2.1 L
 simp only [Option.bind_some, Qqo (show zs.length ≤ maxLen by unfold maxLen; omega), hg, hin]
 cases decide (h.1 = 1) <;> cases decide (h.1 = 2) <;> cases decide (h.1 = 3) <;> cases decide (h.1 = 4) <;> exact ⟨_, rfl, rfl⟩
theorem Qz2 (a : List Int) (xs : List (List Int)) : JM a xs = some (decide (a ∈ xs)) := by
 induction xs with
 | nil => simp [JM]
 | cons e r ih =>
  rw [JM, ih]
  by_cases h : e = a
  ·subst h; simp
  ·have h' : ¬ a = e := fun q => h q.symm
   simp [h, h']
theorem QB4 {xs : List (List Int)} (h : xs.length ≤ maxLen) (a : List Int) : GD xs a = some (decide (a ∈ xs)) := by
 rw [GD, QM h, Qz2]
theorem QwZ (a : List Int) : ∀ (l : List (List Int)) (k : Nat), ∃ y : Int, QK a l k = some y ∧ decide (0 ≤ y) = decide (a ∈ l)
 | [], k => ⟨-1, rfl, by simp⟩
 | e :: r, k => by
  obtain ⟨y, h1, h2⟩ := QwZ a r (k + 1)
  rw [QK, h1]
  by_cases h : a = e
  ·subst h
   exact ⟨k, by simp, by simp⟩
  ·refine ⟨y, by simp [h], ?_⟩
   rw [h2]
   simp [h]
theorem Qz3 {l : List (List Int)} (h : l.length ≤ maxLen) (a : List Int) : QN l a = some (decide (a ∈ l)) := by
 obtain ⟨y, h1, h2⟩ := QwZ a l 0
 rw [QN, Zw, QM h, h1, Option.bind_some, h2]
def QCP (c : Int) : Bool := Qh9 c || Qka c || decide (c = 95) || decide (c = 45) || decide (c = 46)
def Qsg (s : List Int) : Bool := s.all QCP && decide (1 ≤ s.length) && decide (s.length ≤ 40)
theorem Qqp (xs : List Int) : ∀ s : List Int, Zu xs s = some (s.all QCP && (decide (1 ≤ xs.length) && decide (xs.length ≤ 40)))
 | [] => by
  rw [Zu]
  by_cases h : 1 ≤ xs.length
  ·have h' : (1 : Int) ≤ (xs.length : Int) := by omega
   simp [h, h']; omega
  ·have h' : ¬ (1 : Int) ≤ (xs.length : Int) := by omega
   simp [h, h']
 | e :: r => by
  rw [Zu, Qqp xs r, Ql0, Qge, List.all_cons, QCP]
  grind
theorem QCQ {s : List Int} (h : s.length ≤ maxLen) : HK s = some (Qsg s) := by
 rw [HK, QM h, Qqp, Qsg, Bool.and_assoc]
theorem QjA : ∀ s : List Int, ZG s = some (s.all QCP)
 | [] => rfl
 | e :: r => by
  rw [ZG, QjA r, Qjv, List.all_cons, QCP, QqQ]
  grind
theorem Qz4 {s : List Int} (h : s.length ≤ maxLen) : V6 s = some (Qsg s) := by
 rw [V6, QM h, QjA, Qsg]
 by_cases h1 : 1 ≤ s.length
 ·by_cases h2 : s.length ≤ 40
  ·have q1 : ¬ (s.length : Int) < 1 := by omega
   have q2 : ¬ (40 : Int) < (s.length : Int) := by omega
   simp [h1, h2, q1, q2]
  ·have q1 : ¬ (s.length : Int) < 1 := by omega
   have q2 : (40 : Int) < (s.length : Int) := by omega
   simp [h1, h2, q1, q2]
 ·have q1 : (s.length : Int) < 1 := by omega
  simp [h1, q1]
def QaS (st : Int) : List Int → List Int → List Int × Bool
 | [], acc => (acc, true)
 | x :: r, acc => bif decide (x = 42) then QaS st r (acc ++ [st]) else bif decide (x = 92) then (match r with
  | [] => ([], false)
  | c :: r' => bif decide (c = 42) || decide (c = 92) then QaS st r' (acc ++ [IntKind.wrap .i64 c]) else ([], false)) else QaS st r (acc ++ [IntKind.wrap .i64 x])
theorem QBc {st x : Int} (h : x = 42) (r acc : List Int) : QaS st (x :: r) acc = QaS st r (acc ++ [st]) := by rw [QaS.eq_def]; simp only [h]; rfl
theorem QCR {st x : Int} (h : x = 92) (acc : List Int) : QaS st (x :: []) acc = ([], false) := by rw [QaS.eq_def]; simp only [h]; rfl
theorem QCS {st x c : Int} (h : x = 92) (r acc : List Int) : QaS st (x :: c :: r) acc = bif decide (c = 42) || decide (c = 92) then QaS st r (acc ++ [IntKind.wrap .i64 c]) else ([], false) := by rw [QaS.eq_def]; simp only [h]; rfl
theorem QCT {st x : Int} (h : x ≠ 42) (h2 : x ≠ 92) (r acc : List Int) : QaS st (x :: r) acc = QaS st r (acc ++ [IntKind.wrap .i64 x]) := by rw [QaS.eq_def]; simp only [decide_eq_false h, decide_eq_false h2]; rfl
theorem Qyx (st st' : Int) : ∀ (n : Nat) (s acc acc' : List Int), s.length ≤ n → (QaS st s acc).2 = (QaS st' s acc').2
 | 0, s, acc, acc', h => by
  have : s = [] := List.length_eq_zero_iff.1 (by omega)
  subst this; rfl
 | n + 1, [], acc, acc', h => rfl
 | n + 1, x :: r, acc, acc', h => by
  have hr : r.length ≤ n := by simpa using h
  rw [QaS.eq_def, QaS.eq_def]
  simp only
  cases decide (x = 42) with
  | true => exact Qyx st st' n r _ _ hr
  | false =>
   cases decide (x = 92) with
   | false => exact Qyx st st' n r _ _ hr
   | true =>
    cases r with
    | nil => rfl
    | cons c r' =>
     simp only [cond_true, cond_false]
     cases decide (c = 42) || decide (c = 92) with
     | true => exact Qyx st st' n r' _ _ (by simp at hr; omega)
     | false => rfl
def QFM (s : List Int) : Bool := (QaS 256 s []).2
theorem Qyy {s : List Int} {k : Nat} {x : Int} {r : List Int} (h : s.drop k = x :: r) : k < s.length ∧ rd s (k : Int) 0 = x ∧ s.drop (k + 1) = r := by
 obtain ⟨h1, h2, h3⟩ := QE (d := (0 : Int)) h.symm
 exact ⟨h1, h2, h3.symm⟩
theorem Qz5 {α : Type} {xs ys : List α} {b : Nat} (hx : xs.length ≤ 3000000) (hy : ys.length ≤ 1) (hb : b ≤ 1000) : (decide (((xs.length : Int) + (ys.length : Int)) * (b : Int) ≤ QI) && decide ((xs.length : Int) + (ys.length : Int) ≤ QI)) = true := by
 have h : (xs.length + ys.length) * b ≤ 3000001 * 1000 := Nat.mul_le_mul (by omega) hb
 rw [Yv, Bool.and_eq_true, decide_eq_true_eq, decide_eq_true_eq]
 have h2 : ((xs.length : Int) + (ys.length : Int)) * (b : Int) = (((xs.length + ys.length) * b : Nat) : Int) := by push_cast; rfl
 rw [h2]
 omega
theorem QuB {s : List Int} (hs : s.length ≤ 2000000) : ∀ (n : Nat) (k : Nat), s.length - k ≤ n → k ≤ s.length → ∀ (m : Nat) (acc : List Int), n < m → acc.length ≤ k →
  QZ s m acc (k : Int) = some (QaS 256 (s.drop k) acc) := by
 intro n
 induction n using Nat.strongRecOn with
 | ind n ih =>
  intro k hn hk m acc hm ha
  obtain ⟨m, rfl⟩ : ∃ j, m = j + 1 := ⟨m - 1, by omega⟩
  rw [QZ]
  cases hd : s.drop k with
  | nil =>
   have : s.length ≤ k := List.drop_eq_nil_iff.1 hd
   rw [decide_eq_false (show ¬ (k : Int) < (s.length : Int) by omega)]
   rfl
  | cons x r =>
   obtain ⟨h1, h2, h3⟩ := Qyy hd
   have hw : IntKind.wrap .i64 ((k : Int) + 1) = ((k + 1 : Nat) : Int) := QA (show s.length ≤ maxLen by unfold maxLen; omega) h1
   have hg : ∀ z : List Int, z.length ≤ 1 → (decide (((acc.length : Int) + (z.length : Int)) * 8 ≤ QI) && decide ((acc.length : Int) + (z.length : Int) ≤ QI)) = true := fun z hz => Qz5 (b := 8) (by omega) hz (by omega)
   have go : ∀ z : Int, QZ s m (acc ++ [z]) ((k + 1 : Nat) : Int) = some (QaS 256 r (acc ++ [z])) := by
    intro z
    rw [← h3]
    exact ih (s.length - (k + 1)) (by omega) (k + 1) (by omega) (by omega) m _ (by omega) (by simp; omega)
   rw [decide_eq_true (show (k : Int) < (s.length : Int) by omega), QB h1, h2, hw]
   simp only [cond_true]
   by_cases e1 : x = 42
   ·rw [decide_eq_true e1]
    simp only [cond_true, hg [256] (by simp)]
    rw [go, QBc e1]
   ·rw [decide_eq_false e1]
    simp only [cond_false]
    by_cases e2 : x = 92
    ·rw [decide_eq_true e2]
     simp only [cond_true]
     cases hr : r with
     | nil =>
      have hl : s.length = k + 1 := by
       rw [hr] at h3
       have := List.drop_eq_nil_iff.1 h3
       omega
      rw [decide_eq_true (show ((k + 1 : Nat) : Int) = (s.length : Int) by omega)]
      rw [QCR e2]; rfl
     | cons c r' =>
      rw [hr] at h3
      obtain ⟨g1, g2, g3⟩ := Qyy h3
      have hw2 : IntKind.wrap .i64 (((k + 1 : Nat) : Int) + 1) = ((k + 1 + 1 : Nat) : Int) := QA (show s.length ≤ maxLen by unfold maxLen; omega) g1
      have fin : ∀ z : Int, QZ s m (acc ++ [z]) ((k + 1 + 1 : Nat) : Int) = some (QaS 256 r' (acc ++ [z])) := by
       intro z
       rw [← g3]
       exact ih (s.length - (k + 1 + 1)) (by omega) (k + 1 + 1) (by omega) (by omega) m _ (by omega) (by simp; omega)
      rw [decide_eq_false (show ¬ ((k + 1 : Nat) : Int) = (s.length : Int) by omega), QB g1, g2, hw2]
      simp only [cond_true, cond_false, hg _ (show ([IntKind.wrap .i64 c] : List Int).length ≤ 1 by simp)]
      rw [fin, QCS e2]
      cases decide (c = 42) <;> cases decide (c = 92) <;> rfl
    ·rw [decide_eq_false e2]
     simp only [cond_false, hg _ (show ([IntKind.wrap .i64 x] : List Int).length ≤ 1 by simp), cond_true]
     rw [go, QCT e1 e2]
theorem Qyh {s : List Int} (hs : s.length ≤ 2000000) : Wn s = some (QaS 256 s []) :=
 XP ⟨s.length + 1, fun m hm => QuB hs s.length 0 (by omega) (by omega) m [] (by omega) (by simp)⟩
theorem QuC {s : List Int} (hs : s.length ≤ 2000000) : ∀ (n : Nat) (k : Nat), s.length - k ≤ n → k ≤ s.length → ∀ (m : Nat) (acc : List Int), n < m → acc.length ≤ k →
  Q0 s m acc (k : Int) = some (QaS (-1) (s.drop k) acc) := by
 intro n
 induction n using Nat.strongRecOn with
 | ind n ih =>
  intro k hn hk m acc hm ha
  obtain ⟨m, rfl⟩ : ∃ j, m = j + 1 := ⟨m - 1, by omega⟩
  rw [Q0]
  cases hd : s.drop k with
  | nil =>
   have : s.length ≤ k := List.drop_eq_nil_iff.1 hd
   rw [decide_eq_false (show ¬ (k : Int) < (s.length : Int) by omega)]
   rfl
  | cons x r =>
   obtain ⟨h1, h2, h3⟩ := Qyy hd
   have hw : IntKind.wrap .i64 ((k : Int) + 1) = ((k + 1 : Nat) : Int) := QA (show s.length ≤ maxLen by unfold maxLen; omega) h1
   have hg : ∀ z : List Int, z.length ≤ 1 → (decide (((acc.length : Int) + (z.length : Int)) * 8 ≤ QI) && decide ((acc.length : Int) + (z.length : Int) ≤ QI)) = true := fun z hz => Qz5 (b := 8) (by omega) hz (by omega)
   have go : ∀ z : Int, Q0 s m (acc ++ [z]) ((k + 1 : Nat) : Int) = some (QaS (-1) r (acc ++ [z])) := by
    intro z
    rw [← h3]
    exact ih (s.length - (k + 1)) (by omega) (k + 1) (by omega) (by omega) m _ (by omega) (by simp; omega)
   rw [decide_eq_true (show (k : Int) < (s.length : Int) by omega), QB h1, h2, hw]
   simp only [cond_true]
   by_cases e1 : x = 42
   ·rw [decide_eq_true e1]
    simp only [cond_true, hg [-1] (by simp)]
    rw [go, QBc e1]
   ·rw [decide_eq_false e1]
    simp only [cond_false]
    by_cases e2 : x = 92
    ·rw [decide_eq_true e2]
     simp only [cond_true]
     cases hr : r with
     | nil =>
      have hl : s.length = k + 1 := by
       rw [hr] at h3
       have := List.drop_eq_nil_iff.1 h3
       omega
      rw [decide_eq_true (show (s.length : Int) ≤ ((k + 1 : Nat) : Int) by omega)]
      rw [QCR e2]; rfl
     | cons c r' =>
      rw [hr] at h3
      obtain ⟨g1, g2, g3⟩ := Qyy h3
      have hw2 : IntKind.wrap .i64 (((k + 1 : Nat) : Int) + 1) = ((k + 1 + 1 : Nat) : Int) := QA (show s.length ≤ maxLen by unfold maxLen; omega) g1
      have fin : ∀ z : Int, Q0 s m (acc ++ [z]) ((k + 1 + 1 : Nat) : Int) = some (QaS (-1) r' (acc ++ [z])) := by
       intro z
       rw [← g3]
       exact ih (s.length - (k + 1 + 1)) (by omega) (k + 1 + 1) (by omega) (by omega) m _ (by omega) (by simp; omega)
      rw [decide_eq_false (show ¬ (s.length : Int) ≤ ((k + 1 : Nat) : Int) by omega), QB g1, g2, hw2]
      simp only [cond_true, cond_false, hg _ (show ([IntKind.wrap .i64 c] : List Int).length ≤ 1 by simp)]
      rw [fin, QCS e2]
      cases decide (c = 42) <;> cases decide (c = 92) <;> rfl
    ·rw [decide_eq_false e2]
     simp only [cond_false, hg _ (show ([IntKind.wrap .i64 x] : List Int).length ≤ 1 by simp), cond_true]
     rw [go, QCT e1 e2]
theorem Qyi {s : List Int} (hs : s.length ≤ 2000000) : Ws s = some (QaS (-1) s []) :=
 XP ⟨s.length + 1, fun m hm => QuC hs s.length 0 (by omega) (by omega) m [] (by omega) (by simp)⟩
def Qg7 : List (List Int) := [[112, 114, 105, 110, 99, 105, 112, 97, 108], [97, 99, 116, 105, 111, 110], [114, 101, 115, 111, 117, 114, 99, 101], [99, 111, 110, 116, 101, 120, 116]]
def QBd (k : Int) : Int :=
 bif decide (k = 1) || decide (k = 3) then 0 else bif decide (k = 2) then -2 else bif decide (k = 4) || decide (k = 5) || decide (k = 6) || decide (k = 7) || decide (k = 20) || decide (k = 21) then 1
 else bif decide (k = 10) then 3 else bif decide (8 ≤ k) && decide (k ≤ 19) then 2 else -1
theorem Qyj (k : Int) : Vs k = some (QBd k) := by
 simp only [Vs, VD, Zz, QBd, Gz, EH, Zf]
 grind (splits := 30)
def QCU (a : Qe) : Bool := @decide (a = (0, 0, ([] : List Int), ([] : List Int))) (Ty.decEq Qa a (0, 0, ([] : List Int), ([] : List Int)))
def Qz6 (n : Qo) : Bool :=
 bif decide (n.1 = 1) then decide (n.2.1 = []) && V2 n.2.2.1 else bif decide (n.1 = 3) then decide (n.2.1 ∈ Qg7) else bif decide (n.1 = 4) || decide (n.1 = 5) || decide (n.1 = 21) then Gy n.2.1
 else bif decide (n.1 = 20) then QFM n.2.1 && (decide ((n.2.1.length : Int) ≤ 200) && Qcw n.2.1) else decide (n.2.1 = [])
def QCV (n : Qo) (c : Int) : Bool := !decide (QBd n.1 = -1) && (!decide (0 ≤ QBd n.1) || decide (c = QBd n.1)) && (decide (n.1 = 1) || QCU n.2.2.1) && Qz6 n
theorem Tree.eta {α : Type} (t : Tree α) : Tree.node t.val t.kids = t := by cases t; rfl
def QoC (k : Int) (t : Qv) : Bool := !decide (k = 2) || decide (t.val.1 = 1)
theorem Qg8 {Rc : Qv → Option Bool} {f : Qv → Bool} (n : Qo) : ∀ (l : List Qv) (x : Bool), (∀ t ∈ l, Rc t = some (f t)) → Qy Rc n l x = some (x && l.all fun t => f t && QoC n.1 t)
 | [], x, _ => by rw [Qy]; simp
 | e :: r, x, h => by
  have ih := fun x => Qg8 n r x (fun t ht => h t (by simp [ht]))
  rw [Qy, Tree.eta, h e (by simp), ih, ih, ih, List.all_cons, QoC]
  cases x <;> cases f e <;> cases decide (n.1 = 2) <;> cases decide (e.val.1 = 1) <;> simp
theorem QuD {Rc : Qv → Option Bool} {f : Qv → Bool} {t : Qv} (hw : wfD Ql t.val) (hx : t.val.2.1.length ≤ 2000000) (hk : t.kids.length ≤ maxLen) (h : ∀ k ∈ t.kids, Rc k = some (f k)) :
  Gl Rc t = some (QCV t.val (t.kids.length : Int) && t.kids.all fun k => f k && QoC t.val.1 k) := by
 have hL : ∀ b, Jg t.kids (Qy Rc t.val t.kids b) = some (b && t.kids.all fun k => f k && QoC t.val.1 k) := fun b => by rw [QM hk, Qg8 t.val t.kids b h]
 have h1 : wfD Qa t.val.2.2.1 := hw.2.2.1
 have h2 : t.val.2.1.length ≤ maxLen := GS hw.2.1
 have hv : GD HM t.val.2.1 = some (decide (t.val.2.1 ∈ Qg7)) := QB4 (xs := Qg7) (by show (4 : Nat) ≤ maxLen; unfold maxLen; omega) _
 have ht : (QaS 256 t.val.2.1 []).2 = QFM t.val.2.1 := rfl
 simp only [Gl, JU, Yq, Tree.eta, hL, Qyj, Gs h1, Gr h2, Qyh hx, Qju h2, hv, Option.bind_some, ht]
 generalize (t.kids.all fun k => f k && QoC t.val.1 k) = K
 simp only [QCV, Qz6, QCU, Gz, EH, Zf, Jh]
 clear hw h h1 h2 hv hL ht hx hk
 grind (splits := 40)
def QuE (k : Int) : Int × Int :=
 bif decide (k = 1) || decide (k = 3) then (0, 0) else bif decide (k = 2) then (0, 10) else bif decide (k = 4) || decide (k = 5) || decide (k = 6) || decide (k = 7) || decide (k = 20) || decide (k = 21) then (1, 1)
 else bif decide (k = 10) then (3, 3) else (2, 2)
theorem Qz7 (k : Int) : V8 k = some (QuE k) := by
 simp only [V8, V7, QuE, Gz, EH, Zf]
 grind (splits := 40)
def UW (n : Qo) : Bool := decide (1 ≤ n.1) && decide (n.1 ≤ 21) && (decide ((QuE n.1).1 ≤ n.2.2.2) && decide (n.2.2.2 ≤ (QuE n.1).2)) && (decide (n.1 = 1) || QCU n.2.2.1) && Qz6 n
theorem QoD {g : List (List Int)} (hg : g = Qg7) {n : Qo} (hw : wfD Ql n) (hx : n.2.1.length ≤ 2000000) : JG g n = some (UW n) := by
 subst hg
 have h1 : wfD Qa n.2.2.1 := hw.2.2.1
 have h2 : n.2.1.length ≤ maxLen := GS hw.2.1
 have hv : QN Qg7 n.2.1 = some (decide (n.2.1 ∈ Qg7)) := Qz3 (by show (4 : Nat) ≤ maxLen; unfold maxLen; omega) _
 have ht : (QaS (-1) n.2.1 []).2 = QFM n.2.1 := Qyx _ _ n.2.1.length _ _ _ (Nat.le_refl _)
 have hp : Qbp n.2.1 0 200 = (decide ((n.2.1.length : Int) ≤ 200) && Qcw n.2.1) := by
  unfold Qbp Qcw
  rw [decide_eq_false (show ¬ (n.2.1.length : Int) < 0 by omega)]
  by_cases q : (n.2.1.length : Int) ≤ 200
  ·rw [decide_eq_true q, decide_eq_false (show ¬ (200 : Int) < (n.2.1.length : Int) by omega)]; rfl
  ·rw [decide_eq_false q, decide_eq_true (show (200 : Int) < (n.2.1.length : Int) by omega)]; rfl
 simp only [JG, Y5, Yb, Z6, QH, Qz7, X2 h1, X1 h2, Qyi hx, QlZ _ _ h2, hv, Option.bind_some, ht, hp, UW, Qz6, QCU, Gz, EH, Zf, Jh]
 clear hw h1 h2 hv ht hx hp
 generalize QuE n.1 = K
 grind (splits := 40)
theorem QDN {n : Qo} {c : Int} (h : c = n.2.2.2) (h0 : 0 ≤ n.2.2.2) (h1 : n.2.2.2 ≤ 10) : QCV n c = UW n := by
 subst h
 unfold QCV UW QBd QuE
 generalize (decide (n.1 = 1) || QCU n.2.2.1) = A
 generalize Qz6 n = B
 generalize n.2.2.2 = c at *
 generalize n.1 = k at *
 cases A <;> cases B <;> simp
 grind (splits := 40)
def QaT (f : Nat → Option (Qv × Nat)) : Nat → Nat → Option (List Qv × Nat)
 | 0, a => some ([], a)
 | c + 1, a => match f a with
  | none => none
  | some (t, a2) => match QaT f c a2 with
   | none => none
   | some (l, a3) => some (t :: l, a3)
def Wa (e : List Qo) : Nat → Nat → Option (Qv × Nat)
 | 0, _ => none
 | d + 1, a => match e[a]? with
  | none => none
  | some n => bif decide (0 ≤ n.2.2.2) && decide (n.2.2.2 ≤ 10) then (match QaT (Wa e d) n.2.2.2.toNat (a + 1) with
   | none => none
   | some (l, a2) => some (.node n l, a2)) else none
def QEf : Qv := Tree.node (0, ([] : List Int), (0, 0, ([] : List Int), ([] : List Int)), 0) []
def QAG : Option (Qv × Nat) → Qv × Int
 | none => (QEf, -1)
 | some (t, a) => (t, (a : Int))
theorem QCW {f : Nat → Option (Qv × Nat)} (hf : ∀ a t a2, f a = some (t, a2) → a ≤ a2) : ∀ (c a : Nat) (l : List Qv) (a2 : Nat), QaT f c a = some (l, a2) → a ≤ a2 ∧ l.length = c
 | 0, a, l, a2, h => by simp only [QaT, Option.some.injEq, Prod.mk.injEq] at h; obtain ⟨rfl, rfl⟩ := h; exact ⟨Nat.le_refl _, rfl⟩
 | c + 1, a, l, a2, h => by
  simp only [QaT] at h
  split at h
  ·cases h
  ·rename_i t a3 ht
   split at h
   ·cases h
   ·rename_i l' a4 hl
    simp only [Option.some.injEq, Prod.mk.injEq] at h
    obtain ⟨rfl, rfl⟩ := h
    have h1 := hf _ _ _ ht
    obtain ⟨h2, h3⟩ := QCW hf c a3 l' a4 hl
    exact ⟨by omega, by simp [h3]⟩
theorem QjB {Rc : List Qo → Int → Int → Option (Qv × Int)} {e : List Qo} {deep : Int} {f : Nat → Option (Qv × Nat)} (hR : ∀ a : Nat, Rc e (a : Int) (IntKind.wrap .i64 (deep + 1)) = some (QAG (f a))) {n : Qo} (hn : n.2.2.2 ≤ 10) :
  ∀ (c i m a : Nat) (ks : List Qv), (i : Int) + c = n.2.2.2 → ks.length = i → c < m → JB Rc e deep m (a : Int) (i : Int) ks (Tree.node n ks) = some (match QaT f c a with
   | none => (QEf, -1)
   | some (l, a2) => (Tree.node n (ks ++ l), (a2 : Int)))
 | 0, i, m, a, ks, hc, hk, hm => by
  obtain ⟨m, rfl⟩ : ∃ j, m = j + 1 := ⟨m - 1, by omega⟩
  rw [JB, decide_eq_false (show ¬ (i : Int) < (Tree.node n ks).val.2.2.2 by show ¬ (i : Int) < n.2.2.2; omega)]
  simp [QaT, Tree.val]
 | c + 1, i, m, a, ks, hc, hk, hm => by
  obtain ⟨m, rfl⟩ : ∃ j, m = j + 1 := ⟨m - 1, by omega⟩
  rw [JB, decide_eq_true (show (i : Int) < (Tree.node n ks).val.2.2.2 by show (i : Int) < n.2.2.2; omega), hR a, Option.bind_some, QaT]
  cases hf : f a with
  | none => rfl
  | some q =>
   obtain ⟨t, a2⟩ := q
   have hw : IntKind.wrap .i64 ((i : Int) + 1) = ((i + 1 : Nat) : Int) := QA (len := 100) (by unfold maxLen; omega) (by omega)
   have ih := QjB hR hn c (i + 1) m a2 (ks ++ [t]) (by omega) (by simp; omega) (by omega)
   have hg := Qz5 (b := 104) (xs := ks) (ys := [t]) (by omega) (by simp) (by omega)
   have hg : (decide (((ks.length : Int) + (([t] : List Qv).length : Int)) * 104 ≤ QI) && decide ((ks.length : Int) + (([t] : List Qv).length : Int) ≤ QI)) = true := hg
   simp only [QAG, Tree.eta, hw]
   have h5 : ¬ (a2 : Int) < 0 := by omega
   simp only [h5, hg, decide_false, cond_true, cond_false]
   have hv : (Tree.node n ks).val = n := rfl
   rw [hv, ih]
   cases QaT f c a2 with
   | none => rfl
   | some q => obtain ⟨l, a3⟩ := q; simp
theorem Qz8 (e : List Qo) : ∀ (d a : Nat) (t : Qv) (a2 : Nat), Wa e d a = some (t, a2) → a < a2 ∧ ∃ n l, e[a]? = some n ∧ t = .node n l ∧ 0 ≤ n.2.2.2 ∧ n.2.2.2 ≤ 10 ∧ QaT (Wa e (d - 1)) n.2.2.2.toNat (a + 1) = some (l, a2)
 | 0, a, t, a2, h => by cases h
 | d + 1, a, t, a2, h => by
  simp only [Wa] at h
  split at h
  ·cases h
  ·rename_i n hn
   cases hc : (decide (0 ≤ n.2.2.2) && decide (n.2.2.2 ≤ 10)) with
   | false => rw [hc] at h; cases h
   | true =>
    rw [hc] at h
    simp only [cond_true] at h
    split at h
    ·cases h
    ·rename_i l a3 hl
     simp only [Option.some.injEq, Prod.mk.injEq] at h
     obtain ⟨rfl, rfl⟩ := h
     simp only [Bool.and_eq_true, decide_eq_true_eq] at hc
     obtain ⟨h2, _⟩ := QCW (fun a t a2 h => Nat.le_of_lt (Qz8 e d a t a2 h).1) _ _ _ _ hl
     exact ⟨by omega, n, l, hn, rfl, hc.1, hc.2, hl⟩
theorem QFN {e : List Qo} {a : Nat} {n : Qo} (h : e[a]? = some n) : rd e (a : Int) (Ty.dflt Ql) = n := Qdc h
theorem QjC {e : List Qo} (he : e.length ≤ maxLen) : ∀ (r d : Nat) (a : Nat), d ≤ 12 → d < r → V4 r e (a : Int) (13 - (d : Int)) = some (QAG (Wa e d a))
 | 0, d, a, h, hr => by omega
 | r + 1, d, a, h, hr => by
  show (QaY fun m => HL (V4 r) m e (a : Int) (13 - (d : Int))) = _
  refine XP ⟨12, fun m hm => ?_⟩
  unfold HL
  have zz : (Tree.node (0, ([] : List Int), (0, 0, ([] : List Int), ([] : List Int)), 0) [] : Qv) = QEf := rfl
  rw [zz]
  cases d with
  | zero =>
   rw [decide_eq_true (show (12 : Int) < 13 - ((0 : Nat) : Int) by omega)]
   cases decide ((e.length : Int) ≤ (a : Int)) <;> rfl
  | succ d =>
   rw [decide_eq_false (show ¬ (12 : Int) < 13 - ((d + 1 : Nat) : Int) by omega), Wa]
   cases hn : e[a]? with
   | none =>
    have := List.getElem?_eq_none_iff.1 hn
    rw [decide_eq_true (show (e.length : Int) ≤ (a : Int) by omega)]; rfl
   | some n =>
    have ha : a < e.length := (List.getElem?_eq_some_iff.1 hn).1
    rw [decide_eq_false (show ¬ (e.length : Int) ≤ (a : Int) by omega), QB ha, QFN hn]
    simp only [cond_true, cond_false]
    by_cases h0 : 0 ≤ n.2.2.2
    case neg => rw [decide_eq_true (show n.2.2.2 < 0 by omega), decide_eq_false h0]; rfl
    by_cases h1 : n.2.2.2 ≤ 10
    case neg => rw [decide_eq_false (show ¬ n.2.2.2 < 0 by omega), decide_eq_true (show 10 < n.2.2.2 by omega), decide_eq_true h0, decide_eq_false h1]; rfl
    rw [decide_eq_false (show ¬ n.2.2.2 < 0 by omega), decide_eq_false (show ¬ 10 < n.2.2.2 by omega), decide_eq_true h0, decide_eq_true h1, QA he ha]
    simp only [cond_true, cond_false, Bool.and_self]
    have hd : IntKind.wrap .i64 (13 - ((d + 1 : Nat) : Int) + 1) = 13 - (d : Int) := by
     rw [Qhk (by omega)]; omega
    have hR : ∀ a : Nat, V4 r e (a : Int) (IntKind.wrap .i64 (13 - ((d + 1 : Nat) : Int) + 1)) = some (QAG (Wa e d a)) := fun a => by
     rw [hd]; exact QjC he r d a (by omega) (by omega)
    have hl := QjB hR h1 n.2.2.2.toNat 0 m (a + 1) [] (by omega) rfl (by omega)
    rw [show ((0 : Nat) : Int) = 0 from rfl] at hl
    rw [hl]
    cases QaT (Wa e d) n.2.2.2.toNat (a + 1) with
    | none => rfl
    | some q => rfl
theorem Qz9 {e : List Qo} (he : e.length ≤ maxLen) : ET e 0 1 = some (QAG (Wa e 12 0)) :=
 XP ⟨13, fun r hr => QjC he r 12 0 (by omega) (by omega)⟩
mutual
def setOk : Qv → Bool
 | .node n ks => setOkL n.1 ks
def setOkL (k : Int) : List Qv → Bool
 | [] => true
 | t :: r => setOk t && QoC k t && setOkL k r
end
mutual
def flat : Qv → List Qo
 | .node n ks => n :: flatL ks
def flatL : List Qv → List Qo
 | [] => []
 | t :: r => flat t ++ flatL r
end
mutual
def rightB : Qv → Bool
 | .node n ks => QCV n (ks.length : Int) && rightL n.1 ks
def rightL (k : Int) : List Qv → Bool
 | [] => true
 | t :: r => (rightB t && QoC k t) && rightL k r
end
mutual
def hgt : Qv → Nat
 | .node _ ks => hgtL ks + 1
def hgtL : List Qv → Nat
 | [] => 0
 | t :: r => hgt t + hgtL r
end
mutual
def cntOk : Qv → Prop
 | .node n ks => (ks.length : Int) = n.2.2.2 ∧ n.2.2.2 ≤ 10 ∧ cntOkL ks
def cntOkL : List Qv → Prop
 | [] => True
 | t :: r => cntOk t ∧ cntOkL r
end
theorem QAa (k : Int) : ∀ l : List Qv, rightL k l = l.all fun t => rightB t && QoC k t
 | [] => rfl
 | t :: r => by rw [rightL, QAa k r, List.all_cons]
theorem QCX {t : Qv} : ∀ {l : List Qv}, t ∈ l → hgt t ≤ hgtL l
 | e :: r, h => by
  rw [hgtL]
  rcases List.mem_cons.1 h with rfl | h
  ·omega
  ·have := QCX h; omega
theorem QBe {t : Qv} {n : Qo} (hn : n ∈ flat t) : ∀ {l : List Qv}, t ∈ l → n ∈ flatL l
 | e :: r, h => by
  rw [flatL, List.mem_append]
  rcases List.mem_cons.1 h with rfl | h
  ·exact .inl hn
  ·exact .inr (QBe hn h)
theorem QAb {t : Qv} : ∀ {l : List Qv}, cntOkL l → t ∈ l → cntOk t
 | e :: r, hc, h => by
  rw [cntOkL] at hc
  rcases List.mem_cons.1 h with rfl | h
  ·exact hc.1
  ·exact QAb hc.2 h
theorem Qg9 : ∀ (r : Nat) (t : Qv), hgt t ≤ r → cntOk t → (∀ n ∈ flat t, wfD Ql n ∧ n.2.1.length ≤ 2000000) → Gm r t = some (rightB t)
 | 0, .node n ks, h, _, _ => by rw [hgt] at h; omega
 | r + 1, .node n ks, h, hc, hw => by
  rw [hgt] at h
  rw [cntOk] at hc
  have hn := hw n (by rw [flat]; simp)
  show Gl (Gm r) (.node n ks) = _
  rw [QuD (f := rightB) (t := .node n ks) hn.1 hn.2 (by show ks.length ≤ maxLen; unfold maxLen; omega) (fun k hk => Qg9 r k (by have : hgt k ≤ hgtL ks := QCX hk; omega) (QAb hc.2.2 hk) (fun n hn => hw n (by rw [flat, List.mem_cons]; exact .inr (QBe hn hk)))),
   rightB, QAa]
  rfl
theorem Qyk {t : Qv} (hc : cntOk t) (hw : ∀ n ∈ flat t, wfD Ql n ∧ n.2.1.length ≤ 2000000) : Wo t = some (rightB t) :=
 XP ⟨hgt t, fun r hr => Qg9 r t hr hc hw⟩
mutual
theorem right_flat : ∀ t : Qv, cntOk t → rightB t = ((flat t).all UW && setOk t)
 | .node n ks, hc => by
  rw [cntOk] at hc
  rw [rightB, flat, setOk, List.all_cons, right_flatL n.1 ks hc.2.2, QDN hc.1 (by omega) hc.2.1, Bool.and_assoc]
theorem right_flatL (k : Int) : ∀ l : List Qv, cntOkL l → rightL k l = ((flatL l).all UW && setOkL k l)
 | [], _ => rfl
 | t :: r, hc => by
  rw [cntOkL] at hc
  rw [rightL, flatL, setOkL, List.all_append, right_flat t hc.1, right_flatL k r hc.2]
  cases (flat t).all UW <;> cases (flatL r).all UW <;> cases setOk t <;> cases QoC k t <;> cases setOkL k r <;> rfl
end
theorem QER {α : Type} {e : List α} {a b c : Nat} (h1 : a ≤ b) (h2 : b ≤ c) : (e.drop a).take (b - a) ++ (e.drop b).take (c - b) = (e.drop a).take (c - a) := by
 rw [show c - a = (b - a) + (c - b) by omega, List.take_add, List.drop_drop, show a + (b - a) = b by omega]
theorem QAc {e : List Qo} {f : Nat → Option (Qv × Nat)} (hf : ∀ a t a2, f a = some (t, a2) → a ≤ a2 ∧ a2 ≤ e.length ∧ flat t = (e.drop a).take (a2 - a) ∧ cntOk t) :
  ∀ (c a : Nat) (l : List Qv) (a2 : Nat), a ≤ e.length → QaT f c a = some (l, a2) → a ≤ a2 ∧ a2 ≤ e.length ∧ flatL l = (e.drop a).take (a2 - a) ∧ cntOkL l ∧ l.length = c
 | 0, a, l, a2, ha, h => by simp only [QaT, Option.some.injEq, Prod.mk.injEq] at h; obtain ⟨rfl, rfl⟩ := h; exact ⟨Nat.le_refl _, ha, by simp [flatL], by rw [cntOkL]; trivial, rfl⟩
 | c + 1, a, l, a2, ha, h => by
  simp only [QaT] at h
  split at h
  ·cases h
  ·rename_i t a3 ht
   split at h
   ·cases h
   ·rename_i l' a4 hl
    simp only [Option.some.injEq, Prod.mk.injEq] at h
    obtain ⟨rfl, rfl⟩ := h
    obtain ⟨g1, g2, g3, g4⟩ := hf _ _ _ ht
    obtain ⟨k1, k2, k3, k4, k5⟩ := QAc hf c a3 l' a4 g2 hl
    exact ⟨by omega, k2, by rw [flatL, g3, k3, QER g1 k1], by rw [cntOkL]; exact ⟨g4, k4⟩, by simp [k5]⟩
theorem Qsh {e : List Qo} : ∀ (d a : Nat) (t : Qv) (a2 : Nat), Wa e d a = some (t, a2) → a ≤ a2 ∧ a2 ≤ e.length ∧ flat t = (e.drop a).take (a2 - a) ∧ cntOk t
 | 0, a, t, a2, h => by cases h
 | d + 1, a, t, a2, h => by
  obtain ⟨h1, n, l, hn, rfl, h2, h3, h4⟩ := Qz8 e (d + 1) a t a2 h
  have ha : a < e.length := (List.getElem?_eq_some_iff.1 hn).1
  obtain ⟨k1, k2, k3, k4, k5⟩ := QAc (e := e) (fun a t a2 h => Qsh d a t a2 h) _ _ _ _ (by omega) h4
  refine ⟨by omega, k2, ?_, ?_⟩
  ·have hd : e.drop a = n :: e.drop (a + 1) := by
    rw [List.drop_eq_getElem_cons ha]
    congr 1
    exact (List.getElem?_eq_some_iff.1 hn).2
   rw [flat, k3, hd, show a2 - a = (a2 - (a + 1)) + 1 by omega, List.take_succ_cons]
  ·rw [cntOk]
   exact ⟨by rw [k5]; omega, h3, k4⟩
def QwE : Option (Qv × Nat) → Int
 | none => -1
 | some (t, a) => bif setOk t then (a : Int) else -1
theorem Qha {Rc : List Qo → Int → Int → Option Int} {e : List Qo} {deep : Int} {f : Nat → Option (Qv × Nat)} (hR : ∀ a : Nat, Rc e (a : Int) (IntKind.wrap .i64 (deep + 1)) = some (QwE (f a))) {n : Qo} (hn : n.2.2.2 ≤ 10)
  (hf : ∀ a t a2, f a = some (t, a2) → e[a]? = some t.val) :
  ∀ (c i m a : Nat), (i : Int) + c = n.2.2.2 → c < m → ZP Rc e deep n.2.2.2 n m (a : Int) (i : Int) = some (match QaT f c a with
   | none => -1
   | some (l, a2) => bif setOkL n.1 l then (a2 : Int) else -1)
 | 0, i, m, a, hc, hm => by
  obtain ⟨m, rfl⟩ : ∃ j, m = j + 1 := ⟨m - 1, by omega⟩
  rw [ZP, decide_eq_false (show ¬ (i : Int) < n.2.2.2 by omega)]
  rfl
 | c + 1, i, m, a, hc, hm => by
  obtain ⟨m, rfl⟩ : ∃ j, m = j + 1 := ⟨m - 1, by omega⟩
  have hw : IntKind.wrap .i64 ((i : Int) + 1) = ((i + 1 : Nat) : Int) := QA (len := 100) (by unfold maxLen; omega) (by omega)
  have ih := fun a2 => Qha hR hn hf c (i + 1) m a2 (by omega) (by omega)
  rw [ZP, decide_eq_true (show (i : Int) < n.2.2.2 by omega), hR a, Option.bind_some, QaT, hw]
  cases hfa : f a with
  | none =>
   have hm1 : decide ((-1 : Int) < 0) = true := by decide
   simp only [QwE, hm1, cond_true]
   cases decide (n.1 = 2) with
   | false => rfl
   | true =>
    by_cases ha : a < e.length
    ·rw [decide_eq_false (show ¬ (e.length : Int) ≤ (a : Int) by omega), QB ha]
     cases decide ((rd e (a : Int) (Ty.dflt Ql)).1 = 1) <;> rfl
    ·rw [decide_eq_true (show (e.length : Int) ≤ (a : Int) by omega)]; rfl
  | some q =>
   obtain ⟨t, a2⟩ := q
   have hv := hf _ _ _ hfa
   have ha : a < e.length := (List.getElem?_eq_some_iff.1 hv).1
   rw [decide_eq_false (show ¬ (e.length : Int) ≤ (a : Int) by omega), QB ha, QFN hv]
   have h5 : ¬ (a2 : Int) < 0 := by omega
   have hk : ∀ l : List Qv, setOkL n.1 (t :: l) = (setOk t && QoC n.1 t && setOkL n.1 l) := fun l => by rw [setOkL]
   cases hs : setOk t with
   | false =>
    have hm1 : decide ((-1 : Int) < 0) = true := by decide
    simp only [QwE, hs, cond_false, cond_true, hm1]
    cases decide (n.1 = 2) <;> cases decide (t.val.1 = 1) <;> cases QaT f c a2 <;> simp [hk, hs]
   | true =>
    simp only [QwE, hs, cond_true, cond_false, h5, decide_false, ih a2]
    cases hl : QaT f c a2 with
    | none => cases decide (n.1 = 2) <;> cases decide (t.val.1 = 1) <;> rfl
    | some q =>
     obtain ⟨l, a3⟩ := q
     simp only [hk, hs, QoC, Bool.true_and]
     cases decide (n.1 = 2) <;> cases decide (t.val.1 = 1) <;> simp
theorem Qhb {e : List Qo} (he : e.length ≤ maxLen) (hg : ∀ n ∈ e, 0 ≤ n.2.2.2 ∧ n.2.2.2 ≤ 10) : ∀ (r d : Nat) (a : Nat), d ≤ 12 → d < r → Vw r e (a : Int) (13 - (d : Int)) = some (QwE (Wa e d a))
 | 0, d, a, h, hr => by omega
 | r + 1, d, a, h, hr => by
  show (QaY fun m => XV (Vw r) m e (a : Int) (13 - (d : Int))) = _
  refine XP ⟨12, fun m hm => ?_⟩
  unfold XV
  cases d with
  | zero =>
   rw [decide_eq_true (show (12 : Int) < 13 - ((0 : Nat) : Int) by omega)]
   cases decide ((e.length : Int) ≤ (a : Int)) <;> rfl
  | succ d =>
   rw [decide_eq_false (show ¬ (12 : Int) < 13 - ((d + 1 : Nat) : Int) by omega), Wa]
   cases hn : e[a]? with
   | none =>
    have := List.getElem?_eq_none_iff.1 hn
    rw [decide_eq_true (show (e.length : Int) ≤ (a : Int) by omega)]; rfl
   | some n =>
    have ha : a < e.length := (List.getElem?_eq_some_iff.1 hn).1
    obtain ⟨h0, h1⟩ := hg n (List.mem_of_getElem? hn)
    rw [decide_eq_false (show ¬ (e.length : Int) ≤ (a : Int) by omega), QB ha, QFN hn]
    simp only [cond_true, cond_false]
    rw [decide_eq_true h0, decide_eq_true h1, QA he ha]
    simp only [cond_true, Bool.and_self]
    have hd : IntKind.wrap .i64 (13 - ((d + 1 : Nat) : Int) + 1) = 13 - (d : Int) := by
     rw [Qhk (by omega)]; omega
    have hR : ∀ a : Nat, Vw r e (a : Int) (IntKind.wrap .i64 (13 - ((d + 1 : Nat) : Int) + 1)) = some (QwE (Wa e d a)) := fun a => by
     rw [hd]; exact Qhb he hg r d a (by omega) (by omega)
    have hl := Qha hR h1 (fun a t a2 h => by
     obtain ⟨_, n', l', q1, rfl, _⟩ := Qz8 e d a t a2 h
     exact q1) n.2.2.2.toNat 0 m (a + 1) (by omega) (by omega)
    rw [show ((0 : Nat) : Int) = 0 from rfl] at hl
    rw [hl]
    cases QaT (Wa e d) n.2.2.2.toNat (a + 1) with
    | none => rfl
    | some q => simp only [QwE, setOk]
theorem Qyl {e : List Qo} (he : e.length ≤ maxLen) (hg : ∀ n ∈ e, 0 ≤ n.2.2.2 ∧ n.2.2.2 ≤ 10) : Vx e 0 1 = some (QwE (Wa e 12 0)) :=
 XP ⟨13, fun r hr => Qhb he hg r 12 0 (by omega) (by omega)⟩
def Wb (e : List Qo) : Bool := decide (1 ≤ e.length) && decide (e.length ≤ 60) && (match Wa e 12 0 with
 | none => false
 | some (t, a) => decide (a = e.length) && rightB t)
def QEg (e : List Qo) : Qv := match Wa e 12 0 with
 | none => QEf
 | some (t, _) => t
def Qd6 (e : List Qo) : Prop := ∀ n ∈ e, wfD Ql n ∧ n.2.1.length ≤ 2000000
theorem QAd {e : List Qo} (hw : Qd6 e) (hl : e.length ≤ maxLen) : ∃ t, V5 e = some (t, Wb e) ∧ (Wb e = true → t = QEg e) := by
 unfold V5 Wb QEg
 by_cases h1 : 1 ≤ e.length
 case neg => rw [decide_eq_true (show (e.length : Int) < 1 by omega), decide_eq_false h1]; exact ⟨_, rfl, fun h => by simp at h⟩
 by_cases h2 : e.length ≤ 60
 case neg => rw [decide_eq_false (show ¬ (e.length : Int) < 1 by omega), decide_eq_true (show 60 < (e.length : Int) by omega), decide_eq_false h2, decide_eq_true h1]; exact ⟨_, rfl, fun h => by simp at h⟩
 rw [decide_eq_false (show ¬ (e.length : Int) < 1 by omega), decide_eq_false (show ¬ 60 < (e.length : Int) by omega), decide_eq_true h1, decide_eq_true h2, cond_false, cond_false, XC, Qz9 hl, Option.bind_some]
 cases ht : Wa e 12 0 with
 | none =>
  rw [decide_eq_false (show ¬ (QAG none).2 = (e.length : Int) by show ¬ (-1 : Int) = _; omega)]
  exact ⟨_, rfl, fun h => by simp at h⟩
 | some q =>
  obtain ⟨t, a⟩ := q
  obtain ⟨k1, k2, k3, k4⟩ := Qsh _ _ _ _ ht
  have het : Tree.node (QAG (some (t, a))).1.val (QAG (some (t, a))).1.kids = t := Tree.eta t
  rw [het]
  dsimp only
  by_cases ha : a = e.length
  ·have hf : ∀ n ∈ flat t, wfD Ql n ∧ n.2.1.length ≤ 2000000 := fun n hn => hw n (by rw [k3] at hn; exact List.mem_of_mem_drop (List.mem_of_mem_take hn))
   rw [decide_eq_true (show (QAG (some (t, a))).2 = (e.length : Int) by show (a : Int) = _; omega), decide_eq_true ha, Qyk k4 hf]
   exact ⟨t, by simp, fun _ => rfl⟩
  ·rw [decide_eq_false (show ¬ (QAG (some (t, a))).2 = (e.length : Int) by show ¬ (a : Int) = _; omega), decide_eq_false ha]
   exact ⟨t, by simp, fun h => by simp at h⟩
theorem QDO {n : Qo} (h : UW n = true) : 0 ≤ n.2.2.2 ∧ n.2.2.2 ≤ 10 := by
 unfold UW at h
 simp only [Bool.and_eq_true, decide_eq_true_eq] at h
 obtain ⟨⟨⟨_, h3, h4⟩, _⟩, _⟩ := h
 have : 0 ≤ (QuE n.1).1 ∧ (QuE n.1).2 ≤ 10 := by
  unfold QuE
  cases decide (n.1 = 1) || decide (n.1 = 3) with
  | true => simp
  | false =>
   cases decide (n.1 = 2) with
   | true => simp
   | false =>
    cases decide (n.1 = 4) || decide (n.1 = 5) || decide (n.1 = 6) || decide (n.1 = 7) || decide (n.1 = 20) || decide (n.1 = 21) with
    | true => simp
    | false => cases decide (n.1 = 10) <;> simp
 omega
theorem Qhc {g : List (List Int)} (hg : g = Qg7) {xs : List Qo} {T : Bool} (hT : xs.all UW = true → Option.bind (Vx xs 0 1) (fun y3 : Int => some (decide (y3 = (xs.length : Int)))) = some T) :
  ∀ (r : List Qo) (k : Nat), (∀ n ∈ r, wfD Ql n ∧ n.2.1.length ≤ 2000000) → (r.all UW = true → xs.all UW = true) → QL g xs r k = some (r.all UW && T)
 | [], k, _, h => by
  rw [QL, cond_false, hT (h rfl)]; rfl
 | e :: r, k, hw, h => by
  rw [QL, QoD hg (hw e (by simp)).1 (hw e (by simp)).2, Option.bind_some, List.all_cons]
  cases hn : UW e with
  | false => simp [QFL]
  | true =>
   rw [Qhc hg hT r (k + 1) (fun n h => hw n (by simp [h])) (fun h2 => h (by rw [List.all_cons, hn, h2]; rfl))]
   rfl
theorem QGc {t : Qv} {a n : Nat} (h : a ≠ n) : ¬ QwE (some (t, a)) = (n : Int) := by
 show ¬ (bif setOk t then (a : Int) else -1) = (n : Int)
 cases setOk t with
 | true => rw [cond_true]; omega
 | false => rw [cond_false]; omega
theorem QGd {t : Qv} {n : Nat} : decide (QwE (some (t, n)) = (n : Int)) = setOk t := by
 cases hs : setOk t with
 | true => exact decide_eq_true (show (bif setOk t then (n : Int) else -1) = (n : Int) by rw [hs]; rfl)
 | false => exact decide_eq_false (show ¬ (bif setOk t then (n : Int) else -1) = (n : Int) by rw [hs, cond_false]; omega)
theorem QCY {e : List Qo} : Wb e = (decide (1 ≤ e.length) && decide (e.length ≤ 60) && (e.all UW && decide (QwE (Wa e 12 0) = (e.length : Int)))) := by
 unfold Wb
 cases ht : Wa e 12 0 with
 | none => rw [decide_eq_false (show ¬ QwE none = (e.length : Int) by show ¬ (-1 : Int) = _; omega)]; simp
 | some q =>
  obtain ⟨t, a⟩ := q
  obtain ⟨k1, k2, k3, k4⟩ := Qsh _ _ _ _ ht
  dsimp only
  by_cases ha : a = e.length
  ·subst ha
   rw [decide_eq_true rfl, right_flat t k4, k3, QGd]
   simp only [Nat.sub_zero, List.drop_zero, List.take_length, Bool.true_and]
  ·rw [decide_eq_false ha, decide_eq_false (QGc ha)]
   simp
theorem Qym {g : List (List Int)} (hg : g = Qg7) {e : List Qo} (hw : Qd6 e) (hl : e.length ≤ maxLen) : Vy g e = some (Wb e) := by
 rw [QCY]
 unfold Vy
 by_cases h1 : 1 ≤ e.length
 case neg => rw [decide_eq_true (show (e.length : Int) = 0 by omega), decide_eq_false h1]; rfl
 by_cases h2 : e.length ≤ 60
 case neg => rw [decide_eq_false (show ¬ (e.length : Int) = 0 by omega), decide_eq_true (show 60 < (e.length : Int) by omega), decide_eq_true h1, decide_eq_false h2]; rfl
 rw [decide_eq_false (show ¬ (e.length : Int) = 0 by omega), decide_eq_false (show ¬ 60 < (e.length : Int) by omega), decide_eq_true h1, decide_eq_true h2, cond_false, cond_false, QM hl,
  Qhc hg (T := decide (QwE (Wa e 12 0) = (e.length : Int))) (fun ha => by rw [Qyl hl (fun n hn => QDO (List.all_eq_true.1 ha n hn)), Option.bind_some]) e 0 hw id]
 rfl
def QGB : List (List UInt8) := [[112, 114, 105, 110, 99, 105, 112, 97, 108], [97, 99, 116, 105, 111, 110], [114, 101, 115, 111, 117, 114, 99, 101], [99, 111, 110, 116, 101, 120, 116]]
theorem Qyn {P : Program} {W : World} {t e : TypeId} {fuel : Nat} {cs : List Value} {ps : List MemPlace} (hu : P.underlying t = some (.slice e)) (he : VK P Z8 e = some .str)
  (h : DataW.trod (fun _ => ()) P W 0 (fun _ => true) false fuel t cs = some (QBP QGB, ps)) : ∃ es : List (List Int), RelD (QeN W) (.list .str) es cs ∧ es = Qg7 :=
 ⟨_, QEL hu he (by decide) h, rfl⟩
def Qcr (h : ZE) : Bool := !decide (h.1 = 5) && !decide (h.1 = 6) && Xo h
theorem QoE {h : ZE} (hw : wfD Qs h) : QY h false = some (Qcr h) := by
 have h1 : wfD Qa h.2.1 := hw.2.1
 have h2 : wfD .str h.2.2 := hw.2.2
 simp only [QY, JL, Gs h1, Gr (GS h2), Option.bind_some, Qcr, Xo, GT, Gz, EH, Zf, Jh, cond_false]
 clear hw h1 h2
 grind (splits := 30)
theorem Qsi {h : ZE} (hw : wfD Qs h) : Zg h true = some (Qcr h) := by
 have h1 : wfD Qa h.2.1 := hw.2.1
 have h2 : wfD .str h.2.2 := hw.2.2
 simp only [Zg, Yt, J6, Gt h1, X1 (GS h2), QH, Option.bind_some, Qcr, Xo, Gz, EH, Zf, Jh, Bool.not_true]
 clear hw h1 h2
 grind (splits := 30)
def GP (p : Qd) : Bool := Qsg p.1 && Xo p.2.2.1 && Qcr p.2.2.2.1 && Xo p.2.2.2.2.1 && (decide ((p.2.2.2.2.2.length : Int) = 0) || Wb p.2.2.2.2.2)
theorem Qyo {e : List Qo} (hw : Qd6 e) (hl : e.length ≤ maxLen) : Vt e = some (Wb e) := by
 obtain ⟨t, h, _⟩ := QAd hw hl
 rw [Vt, h]; rfl
theorem QuF {p : Qd} (hw : wfD Qc p) (hx : Qd6 p.2.2.2.2.2) : YD p = some (GP p) := by
 have w : wfD .str p.1 ∧ wfD .bool p.2.1 ∧ wfD Qs p.2.2.1 ∧ wfD Qs p.2.2.2.1 ∧ wfD Qs p.2.2.2.2.1 ∧ wfD (.list Ql) p.2.2.2.2.2 := hw
 rw [YD, QCQ (GS w.1), Qgm w.2.2.1, QoE w.2.2.2.1, Qgm w.2.2.2.2.1, Qyo hx w.2.2.2.2.2.1]
 simp only [Option.bind_some, GP]
 cases Qsg p.1 <;> cases Xo p.2.2.1 <;> cases Qcr p.2.2.2.1 <;> cases Xo p.2.2.2.2.1 <;> cases decide ((p.2.2.2.2.2.length : Int) = 0) <;> cases Wb p.2.2.2.2.2 <;> rfl
theorem QuG {g : List (List Int)} (hg : g = Qg7) {p : Qd} (hw : wfD Qc p) (hx : Qd6 p.2.2.2.2.2) : YF g p = some (GP p) := by
 have w : wfD .str p.1 ∧ wfD .bool p.2.1 ∧ wfD Qs p.2.2.1 ∧ wfD Qs p.2.2.2.1 ∧ wfD Qs p.2.2.2.2.1 ∧ wfD (.list Ql) p.2.2.2.2.2 := hw
 rw [YF, Qz4 (GS w.1), Qjz w.2.2.1, Qsi w.2.2.2.1, Qjz w.2.2.2.2.1, Qym hg hx w.2.2.2.2.2.1]
 simp only [Option.bind_some, GP]
 cases Qsg p.1 <;> cases Xo p.2.2.1 <;> cases Qcr p.2.2.2.1 <;> cases Xo p.2.2.2.2.1 <;> cases decide ((p.2.2.2.2.2.length : Int) = 0) <;> cases Wb p.2.2.2.2.2 <;> rfl
theorem QB5 {l : List Nat} {x : Nat} (h : x ∈ l) : x ≤ l.sum := by
 induction l with
 | nil => cases h
 | cons y r ih =>
  rw [List.sum_cons]
  rcases List.mem_cons.1 h with rfl | h
  ·omega
  ·have := ih h; omega
theorem QGe {e : List Qo} (hw : wfD (.list Ql) e) (h : Ty.size (.list Ql) e ≤ 1048576) : Qd6 e := by
 intro n hn
 refine ⟨hw.2 n hn, ?_⟩
 have h1 : Ty.size (.list Ql) e = e.length + (e.map (Ty.size Ql)).sum := rfl
 have h2 := QB5 (List.mem_map.2 ⟨n, hn, rfl⟩ : Ty.size Ql n ∈ e.map (Ty.size Ql))
 have h3 : n.2.1.length ≤ Ty.size Ql n := by
  have : Ty.size Ql n = 0 + (n.2.1.length + (Ty.size Qa n.2.2.1 + 0)) := rfl
  omega
 omega
theorem QES {p : Qd} (hw : wfD Qc p) (h : Ty.size Qc p ≤ 1048576) : Qd6 p.2.2.2.2.2 := by
 have w : wfD .str p.1 ∧ wfD .bool p.2.1 ∧ wfD Qs p.2.2.1 ∧ wfD Qs p.2.2.2.1 ∧ wfD Qs p.2.2.2.2.1 ∧ wfD (.list Ql) p.2.2.2.2.2 := hw
 refine QGe w.2.2.2.2.2 ?_
 have : Ty.size Qc p = p.1.length + (0 + (Ty.size Qs p.2.2.1 + (Ty.size Qs p.2.2.2.1 + (Ty.size Qs p.2.2.2.2.1 + Ty.size (.list Ql) p.2.2.2.2.2)))) := rfl
 omega
theorem QFO {k : Int} (h0 : 0 ≤ k) (h1 : k ≤ 2199023255552) : IntKind.wrap .i64 k = k := Qhk (by omega)
theorem QwF {k : Int} (h0 : 0 ≤ k) (h1 : k ≤ 1099511627776) : Qx k = some (Hi k) := QzN k h0 (by unfold Zh; omega)
theorem QwG (b : Bool) : (b != b) = false := by cases b <;> rfl
theorem QwH {α : Type} (f : α → Int → Int × α) : ∀ (l : List α) (k : Int), (Gw f l k).2.length = l.length
 | [], _ => rfl
 | x :: l, k => by rw [Gw]; simp [QwH f l]
theorem QDP (e : Qo) : HH Ql e = (1 + (1 + ((1 + (1 + (1 + 1))) + 1))) := by kernel_rfl
theorem QDQ (e : Qo) (k : Int) : Yj Ql e k = ((k + 1 + 1 + 1 + 1 + 1 + 1 + 1), ((IntKind.wrap .i64 k), (Hi (k + 1), (((IntKind.wrap .i64 (k + 1 + 1)), ((IntKind.wrap .i64 (k + 1 + 1 + 1)), (Hi (k + 1 + 1 + 1 + 1), Hi (k + 1 + 1 + 1 + 1 + 1)))), (IntKind.wrap .i64 (k + 1 + 1 + 1 + 1 + 1 + 1)))))) := by kernel_rfl
theorem Qqq : ∀ (l : List Qo) (k : Int), (∀ e ∈ l, wfD Ql e) → 0 ≤ k → k + ((l.map (HH Ql)).sum : Nat) ≤ 1099511627776 → Z5 (Gw (Yj Ql) l k).2 k = some (Gw (Yj Ql) l k).1
 | [], k, _, _, _ => rfl
 | e :: l, k, hl, h0, h1 => by
  rw [List.map_cons, List.sum_cons, QDP] at h1
  have hw := hl e (by simp)
  have ih := Qqq l (k + 1 + 1 + 1 + 1 + 1 + 1 + 1) (fun p hp => hl p (by simp [hp])) (by omega) (by omega)
  rw [Gw, QDQ]
  simp only
  rw [Z5]
  simp (disch := omega) only [QFO, QwF, Option.bind_some, decide_true, Bool.not_true, cond_false, QwG]
  exact ih
theorem QCZ {l : List Qo} (hw : wfD (.list Ql) l) (k : Int) (h0 : 0 ≤ k) (h1 : k + Hj (.list Ql) l ≤ 1099511627776) : Yu (JY (.list Ql) l k).2 k = some (JY (.list Ql) l k).1 := by
 have hlen : (JY (.list Ql) l k).2.length = l.length := QwH (Yj Ql) l k
 rw [Yu, QM (by rw [hlen]; exact hw.1)]
 exact Qqq l k hw.2 h0 h1
theorem QB6 (e : Qd) : HH Qc e = (1 + (1 + ((1 + ((1 + (1 + (1 + 1))) + 1)) + ((1 + ((1 + (1 + (1 + 1))) + 1)) + ((1 + ((1 + (1 + (1 + 1))) + 1)) + Hj (.list Ql) e.2.2.2.2.2))))) := by kernel_rfl
theorem QB7 (e : Qd) (k : Int) : Yj Qc e k = ((Gw (Yj Ql) e.2.2.2.2.2 (k + 1 + 1 + 1 + 1 + 1 + 1 + 1 + 1 + 1 + 1 + 1 + 1 + 1 + 1 + 1 + 1 + 1 + 1 + 1 + 1)).1, (Hi k, (decide (Int.tmod (k + 1) 3 = 0), (((IntKind.wrap .i64 (k + 1 + 1)), (((IntKind.wrap .i64 (k + 1 + 1 + 1)), ((IntKind.wrap .i64 (k + 1 + 1 + 1 + 1)), (Hi (k + 1 + 1 + 1 + 1 + 1), Hi (k + 1 + 1 + 1 + 1 + 1 + 1)))), Hi (k + 1 + 1 + 1 + 1 + 1 + 1 + 1))), (((IntKind.wrap .i64 (k + 1 + 1 + 1 + 1 + 1 + 1 + 1 + 1)), (((IntKind.wrap .i64 (k + 1 + 1 + 1 + 1 + 1 + 1 + 1 + 1 + 1)), ((IntKind.wrap .i64 (k + 1 + 1 + 1 + 1 + 1 + 1 + 1 + 1 + 1 + 1)), (Hi (k + 1 + 1 + 1 + 1 + 1 + 1 + 1 + 1 + 1 + 1 + 1), Hi (k + 1 + 1 + 1 + 1 + 1 + 1 + 1 + 1 + 1 + 1 + 1 + 1)))), Hi (k + 1 + 1 + 1 + 1 + 1 + 1 + 1 + 1 + 1 + 1 + 1 + 1 + 1))), (((IntKind.wrap .i64 (k + 1 + 1 + 1 + 1 + 1 + 1 + 1 + 1 + 1 + 1 + 1 + 1 + 1 + 1)), (((IntKind.wrap .i64 (k + 1 + 1 + 1 + 1 + 1 + 1 + 1 + 1 + 1 + 1 + 1 + 1 + 1 + 1 + 1)), ((IntKind.wrap .i64 (k + 1 + 1 + 1 + 1 + 1 + 1 + 1 + 1 + 1 + 1 + 1 + 1 + 1 + 1 + 1 + 1)), (Hi (k + 1 + 1 + 1 + 1 + 1 + 1 + 1 + 1 + 1 + 1 + 1 + 1 + 1 + 1 + 1 + 1 + 1), Hi (k + 1 + 1 + 1 + 1 + 1 + 1 + 1 + 1 + 1 + 1 + 1 + 1 + 1 + 1 + 1 + 1 + 1 + 1)))), Hi (k + 1 + 1 + 1 + 1 + 1 + 1 + 1 + 1 + 1 + 1 + 1 + 1 + 1 + 1 + 1 + 1 + 1 + 1 + 1))), (Gw (Yj Ql) e.2.2.2.2.2 (k + 1 + 1 + 1 + 1 + 1 + 1 + 1 + 1 + 1 + 1 + 1 + 1 + 1 + 1 + 1 + 1 + 1 + 1 + 1 + 1)).2)))))) := by kernel_rfl
theorem Ql2 : ∀ (l : List Qd) (k : Int), (∀ e ∈ l, wfD Qc e) → 0 ≤ k → k + ((l.map (HH Qc)).sum : Nat) ≤ 1099511627776 → ZD (Gw (Yj Qc) l k).2 k = some (Gw (Yj Qc) l k).1
 | [], k, _, _, _ => rfl
 | e :: l, k, hl, h0, h1 => by
  rw [List.map_cons, List.sum_cons, QB6] at h1
  have hw := hl e (by simp)
  have q0 := G7 (.list Ql) e.2.2.2.2.2 (k + 1 + 1 + 1 + 1 + 1 + 1 + 1 + 1 + 1 + 1 + 1 + 1 + 1 + 1 + 1 + 1 + 1 + 1 + 1 + 1)
  have q0 : (Gw (Yj Ql) e.2.2.2.2.2 (k + 1 + 1 + 1 + 1 + 1 + 1 + 1 + 1 + 1 + 1 + 1 + 1 + 1 + 1 + 1 + 1 + 1 + 1 + 1 + 1)).1 = _ := q0
  have hh0 : Yu (Gw (Yj Ql) e.2.2.2.2.2 (k + 1 + 1 + 1 + 1 + 1 + 1 + 1 + 1 + 1 + 1 + 1 + 1 + 1 + 1 + 1 + 1 + 1 + 1 + 1 + 1)).2 (k + 1 + 1 + 1 + 1 + 1 + 1 + 1 + 1 + 1 + 1 + 1 + 1 + 1 + 1 + 1 + 1 + 1 + 1 + 1 + 1) = some (Gw (Yj Ql) e.2.2.2.2.2 (k + 1 + 1 + 1 + 1 + 1 + 1 + 1 + 1 + 1 + 1 + 1 + 1 + 1 + 1 + 1 + 1 + 1 + 1 + 1 + 1)).1 := QCZ (l := e.2.2.2.2.2) (show wfD (.list Ql) e.2.2.2.2.2 from (And.right (And.right (And.right (And.right (And.right hw)))))) (k + 1 + 1 + 1 + 1 + 1 + 1 + 1 + 1 + 1 + 1 + 1 + 1 + 1 + 1 + 1 + 1 + 1 + 1 + 1 + 1) (by omega) (by omega)
  have ih := Ql2 l (Gw (Yj Ql) e.2.2.2.2.2 (k + 1 + 1 + 1 + 1 + 1 + 1 + 1 + 1 + 1 + 1 + 1 + 1 + 1 + 1 + 1 + 1 + 1 + 1 + 1 + 1)).1 (fun p hp => hl p (by simp [hp])) (by omega) (by omega)
  rw [Gw, QB7]
  simp only
  rw [ZD]
  simp (disch := omega) only [QFO, QwF, Option.bind_some, decide_true, Bool.not_true, cond_false, QwG]
  rw [hh0]
  simp only [Option.bind_some]
  rw [decide_eq_false (show ¬ (Gw (Yj Ql) e.2.2.2.2.2 (k + 1 + 1 + 1 + 1 + 1 + 1 + 1 + 1 + 1 + 1 + 1 + 1 + 1 + 1 + 1 + 1 + 1 + 1 + 1 + 1)).1 < 0 from (by omega))]
  try simp only [cond_false]
  try simp (disch := omega) only [QFO, QwF, Option.bind_some, decide_true, Bool.not_true, cond_false, QwG]
  exact ih
theorem QAH {l : List Qd} (hw : wfD (.list Qc) l) (k : Int) (h0 : 0 ≤ k) (h1 : k + Hj (.list Qc) l ≤ 1099511627776) : Je (JY (.list Qc) l k).2 k = some (JY (.list Qc) l k).1 := by
 have hlen : (JY (.list Qc) l k).2.length = l.length := QwH (Yj Qc) l k
 rw [Je, QM (by rw [hlen]; exact hw.1)]
 exact Ql2 l k hw.2 h0 h1
def UF (l : List Qd) : Bool := decide (l.length ≤ 40) && (l.all GP && Vc (fun a b => Jn a.1 b.1) l)
theorem Qgo (xs : List Qd) (hw : wfD (.list Qc) xs) : ∀ (r : List Qd) (k : Nat), r = xs.drop k → Zd xs r k = some (decide (xs.length ≤ 40) && Z9 (fun a b => Jn a.1 b.1) (Ju xs k) r)
 | [], k, h => by rw [J9, Zd]; congr 1; rw [Bool.and_true, decide_eq_decide]; omega
 | e :: r, k, h => by
  obtain ⟨h1, h2, h3, h4, h5⟩ := X6 (d := Ty.dflt Qc) hw.1 h
  have we : wfD .str e.1 ∧ _ := hw.2 e h4
  rw [Zd, Qgo xs hw r (k + 1) h1, h2, JI]
  rcases h5 with rfl | ⟨h5, h6, h7, h8⟩
  ·simp only [JZ, Int.natCast_zero, Int.lt_irrefl, decide_false, cond_false, Bool.true_and]
  ·have w8 : wfD .str (rd xs (IntKind.wrap .i64 ((k : Int) - 1)) (Ty.dflt Qc)).1 ∧ _ := hw.2 _ h8
   rw [h6, h7, decide_eq_true (show (0 : Int) < (k : Int) by omega), Xn w8.1 we.1]
   simp only [Option.bind_some, Qia, cond_true]
   cases Jn (rd xs (IntKind.wrap .i64 ((k : Int) - 1)) (Ty.dflt Qc)).1 e.1 <;> simp
theorem QeH (xs : List Qd) (hw : wfD (.list Qc) xs) : ∀ (r : List Qd) (k : Nat), r = xs.drop k → Q7 xs r k = some (Z9 (fun a b => Jn a.1 b.1) (Ju xs k) r)
 | [], k, h => by rw [J9, Q7]
 | e :: r, k, h => by
  obtain ⟨h1, h2, h3, h4, h5⟩ := X6 (d := Ty.dflt Qc) hw.1 h
  rw [Q7, QeH xs hw r (k + 1) h1, h2, JI]
  rcases h5 with rfl | ⟨h5, h6, h7, h8⟩
  ·simp only [JZ, Int.natCast_zero, Int.lt_irrefl, decide_false, cond_false, Bool.true_and]
  ·rw [h6, h7, decide_eq_true (show (0 : Int) < (k : Int) by omega)]
   simp only [cond_true]
   cases Jn (rd xs (IntKind.wrap .i64 ((k : Int) - 1)) (Ty.dflt Qc)).1 e.1 <;> simp
theorem Wc {xs : List Qd} (hw : wfD (.list Qc) xs) : ∀ l : List Qd, (∀ p ∈ l, wfD Qc p ∧ Qd6 p.2.2.2.2.2) →
  QU xs l = some (l.all GP && (decide (xs.length ≤ 40) && Vc (fun a b => Jn a.1 b.1) xs))
 | [], _ => by rw [QU, VS, QM hw.1, Qgo xs hw xs 0 rfl, JZ]; rfl
 | e :: l, h => by
  obtain ⟨w1, w2⟩ := h e (by simp)
  rw [QU, QuF w1 w2, Wc hw l (fun p hp => h p (by simp [hp])), List.all_cons]
  simp only [Option.bind_some]
  cases GP e <;> simp
theorem QaU {g : List (List Int)} (hg : g = Qg7) : ∀ (l : List Qd) (k : Nat), (∀ p ∈ l, wfD Qc p ∧ Qd6 p.2.2.2.2.2) → QG g l k = some (l.all GP)
 | [], k, _ => rfl
 | e :: l, k, h => by
  obtain ⟨w1, w2⟩ := h e (by simp)
  rw [QG, QuG hg w1 w2, QaU hg l (k + 1) (fun p hp => h p (by simp [hp])), List.all_cons, decide_eq_true (show (0 : Int) ≤ (k : Int) by omega)]
  simp only [Option.bind_some]
  cases GP e <;> simp
theorem QkP {l : List Qd} (hw : wfD (.list Qc) l) (h : ∀ p ∈ l, wfD Qc p ∧ Qd6 p.2.2.2.2.2) : Jb l = some (UF l) := by
 rw [Jb, QM hw.1, Wc hw l h, UF]
 cases l.all GP <;> simp
theorem QoF {g : List (List Int)} (hg : g = Qg7) {l : List Qd} (hw : wfD (.list Qc) l) (h : ∀ p ∈ l, wfD Qc p ∧ Qd6 p.2.2.2.2.2) : Z4 g l = some (UF l) := by
 rw [Z4, Vp, QM hw.1, QM hw.1, QeH l hw l 0 rfl, JZ, QaU hg l 0 h, UF]
 have : decide ((l.length : Int) ≤ 40) = decide (l.length ≤ 40) := by rw [decide_eq_decide]; omega
 rw [this]
 simp only [Option.bind_some, Vc]
 cases decide (l.length ≤ 40) <;> cases Z9 (fun a b => Jn a.1 b.1) none l <;> simp
theorem QC0 {l : List Qd} (hw : wfD (.list Qc) l) (h : Ty.size (.list Qc) l ≤ 1048576) : ∀ p ∈ l, wfD Qc p ∧ Qd6 p.2.2.2.2.2 := by
 intro p hp
 have h1 : Ty.size (.list Qc) l = l.length + (l.map (Ty.size Qc)).sum := rfl
 have h2 := QB5 (List.mem_map.2 ⟨p, hp, rfl⟩ : Ty.size Qc p ∈ l.map (Ty.size Qc))
 exact ⟨hw.2 p hp, QES (hw.2 p hp) (by omega)⟩
theorem QGq {l : List Qj} (hg : Xy l = true) : l.length ≤ 200 ∧ ∀ t ∈ l, t.2.1.length ≤ 50 := by
 unfold Xy at hg
 rw [Bool.and_eq_true, Bool.and_eq_true, decide_eq_true_eq, List.all_eq_true] at hg
 obtain ⟨hg1, hg2, _⟩ := hg
 refine ⟨by omega, fun t ht => ?_⟩
 have := hg2 t ht
 unfold Qbr at this
 simp only [Bool.and_eq_true, decide_eq_true_eq] at this
 exact this.1.1.2
theorem QFP : ∀ l : List Qj, (∀ t ∈ l, t.2.1.length ≤ 50) → (l.flatMap fun t => t.2.1).length ≤ 50 * l.length := by
 intro l
 induction l with
 | nil => intro _; simp
 | cons t l ih =>
  intro h
  have h1 := h t (by simp)
  have h2 := ih (fun u hu => h u (by simp [hu]))
  rw [List.flatMap_cons, List.length_append, List.length_cons]
  omega
theorem Qsj {l : List Qj} (hg : Xy l = true) (hl : wfD (.list Qf) l) (h : ZE) {x : Qe} (hx : wfD Qa x) : ∃ b, Zi l h x = some b ∧ Q1 l h x = some b := by
 obtain ⟨hg1, hups⟩ := QGq hg
 have hU := QFP l hups
 exact QEQ (fun a b => QDM) (a0 := l) (by unfold maxLen; omega) (U := x :: l.flatMap fun t => t.2.1) (fun t ht a ha => List.mem_cons_of_mem _ (List.mem_flatMap.2 ⟨t, ht, ha⟩)) (by rw [List.length_cons]; omega) (fun t ht => by have := hups t ht; omega) h x (by simp) (by
   intro a ha
   rcases List.mem_cons.1 ha with rfl | ha
   ·exact hx
   ·obtain ⟨t, ht, ha⟩ := List.mem_flatMap.1 ha
    have wt : wfD Qa t.1 ∧ wfD (.list Qa) t.2.1 ∧ _ := hl.2 t ht
    exact wt.2.1.2 a ha)
theorem QFQ {l : List Qj} (hg : Xy l = true) (hl : wfD (.list Qf) l) {r : Qt} (hr : wfD Qr r) (p : Qd) : ∃ b, Yf l r p = some b ∧ ZH l r p = some b := by
 have wr : wfD Qa r.1 ∧ wfD Qa r.2.1 ∧ wfD Qa r.2.2.1 ∧ _ := hr
 obtain ⟨b1, s1, i1⟩ := Qsj hg hl p.2.2.1 wr.1
 obtain ⟨b2, s2, i2⟩ := Qsj hg hl p.2.2.2.1 wr.2.1
 obtain ⟨b3, s3, i3⟩ := Qsj hg hl p.2.2.2.2.1 wr.2.2.1
 rw [Yf, ZH, s1, s2, s3, i1, i2, i3]
 simp only [Option.bind_some]
 cases b1 <;> cases b2 <;> exact ⟨_, rfl, rfl⟩
theorem QwI {l : List Qo} (h : l.length ≤ 2000000) : YO l = some l := by
 rw [YO]
 have c1 : decide (((([] : List Qo).length : Int) + (l.length : Int)) * 80 ≤ QI) = true := decide_eq_true (by rw [Yv]; simp only [List.length_nil]; omega)
 have c2 : decide ((([] : List Qo).length : Int) + (l.length : Int) ≤ QI) = true := decide_eq_true (by rw [Yv]; simp only [List.length_nil]; omega)
 rw [c1, c2]
 cases l with
 | nil => simp [QuJ]
 | cons e l => rw [decide_eq_true (show 0 < (e :: l).length by simp)]; rfl
theorem QAe {p : Qd} (h : p.2.2.2.2.2.length ≤ 2000000) : JD p = some p ∧ Zl p = some p := by
 rw [JD, Zl, QwI h]
 have c1 : decide (((p.2.2.2.2.2.length : Int)) * 80 ≤ QI) = true := decide_eq_true (by rw [Yv]; omega)
 have c2 : decide ((p.2.2.2.2.2.length : Int) ≤ QI) = true := decide_eq_true (by rw [Yv]; omega)
 rw [c1, c2]
 exact ⟨rfl, rfl⟩
theorem QoG {g : List (List Int)} {a0 : List Qj} {r : Qt} (hh : ∀ p, ∃ b, Yf a0 r p = some b ∧ ZH a0 r p = some b) : ∀ (l x : List Qd), x.length + l.length ≤ 1000 → (∀ p ∈ l, p.2.2.2.2.2.length ≤ 2000000) →
  ∃ f : Qd → Bool, QT a0 r l x = some (x ++ l.filter f) ∧ QC g a0 r l x = some (x ++ l.filter f) := by
 have hc : ∃ f : Qd → Bool, ∀ p, Yf a0 r p = some (f p) ∧ ZH a0 r p = some (f p) := ⟨fun p => Classical.choose (hh p), fun p => Classical.choose_spec (hh p)⟩
 obtain ⟨f, hf⟩ := hc
 intro l x h1 h2
 refine ⟨f, ?_⟩
 induction l generalizing x with
 | nil => rw [QT, QC]; simp
 | cons e l ih =>
  simp only [List.length_cons] at h1
  obtain ⟨k1, k2⟩ := QAe (h2 e (by simp))
  rw [QT, QC, (hf e).1, (hf e).2, k1, k2]
  simp only [Option.bind_some]
  have c1 : decide (((x.length : Int) + (([e] : List Qd).length : Int)) * 264 ≤ QI) = true := decide_eq_true (by rw [Yv]; simp only [List.length_singleton]; omega)
  have c2 : decide ((x.length : Int) + (([e] : List Qd).length : Int) ≤ QI) = true := decide_eq_true (by rw [Yv]; simp only [List.length_singleton]; omega)
  rw [c1, c2]
  have h3 : ∀ p ∈ l, p.2.2.2.2.2.length ≤ 2000000 := fun p hp => h2 p (by simp [hp])
  cases hfe : f e with
  | true =>
   have := ih (x ++ [e]) (by simp; omega) h3
   simpa [List.filter_cons, hfe] using this
  | false =>
   have := ih x (by omega) h3
   simpa [List.filter_cons, hfe] using this
theorem QC1 (f : Qd → Bool) : ∀ l : List Qd, Ty.size (.list Qc) (l.filter f) ≤ Ty.size (.list Qc) l := by
 have h1 : ∀ l : List Qd, Ty.size (.list Qc) l = l.length + (l.map (Ty.size Qc)).sum := fun _ => rfl
 intro l
 rw [h1, h1]
 induction l with
 | nil => simp
 | cons e l ih =>
  rw [List.filter_cons, List.map_cons, List.sum_cons, List.length_cons]
  split
  ·rw [List.map_cons, List.sum_cons, List.length_cons]; omega
  ·omega
theorem QET (f : Qd → Bool) {l : List Qd} (h : wfD (.list Qc) l) : wfD (.list Qc) (l.filter f) :=
 ⟨Nat.le_trans (List.length_filter_le _ _) h.1, fun p hp => h.2 p (List.mem_filter.1 hp).1⟩
theorem Qsk {g : List (List Int)} (hg : g = Qg7) {a0 : List Qj} {a1 : Qt} {a2 : List Qd} (h0 : wfD (.list Qf) a0) (h1 : wfD Qr a1) (h2 : wfD (.list Qc) a2) (hs : Ty.size (.list Qc) a2 ≤ 1048576) :
  ∃ r, JE a0 a1 a2 = some r ∧ QV g a0 a1 a2 = some r ∧ wfD (.list Qc) r ∧ Ty.size (.list Qc) r ≤ 1048576 := by
 have hp := QC0 h2 hs
 have no : ∃ r : List Qd, some ([] : List Qd) = some r ∧ some ([] : List Qd) = some r ∧ wfD (.list Qc) r ∧ Ty.size (.list Qc) r ≤ 1048576 := ⟨[], rfl, rfl, ⟨by simp, by simp⟩, by decide⟩
 rw [JE, QV, Xg, Qux h0, Quw h0, Qsd h1, Qsc h1, QkP h2 hp, QoF hg h2 hp]
 simp only [Option.bind_some]
 cases hg0 : Xy a0 with
 | false => exact no
 | true =>
 cases QcP a1 with
 | false => exact no
 | true =>
 cases hg2 : UF a2 with
 | false => exact no
 | true =>
  have hl : a2.length ≤ 40 := by
   unfold UF at hg2
   rw [Bool.and_eq_true, decide_eq_true_eq] at hg2
   exact hg2.1
  have hsz : ∀ p ∈ a2, p.2.2.2.2.2.length ≤ 2000000 := by
   intro p hp
   have k1 : Ty.size (.list Qc) a2 = a2.length + (a2.map (Ty.size Qc)).sum := rfl
   have k2 := QB5 (List.mem_map.2 ⟨p, hp, rfl⟩ : Ty.size Qc p ∈ a2.map (Ty.size Qc))
   have k3 : Ty.size Qc p = p.1.length + (0 + (Ty.size Qs p.2.2.1 + (Ty.size Qs p.2.2.2.1 + (Ty.size Qs p.2.2.2.2.1 + Ty.size (.list Ql) p.2.2.2.2.2)))) := rfl
   have k4 : Ty.size (.list Ql) p.2.2.2.2.2 = p.2.2.2.2.2.length + (p.2.2.2.2.2.map (Ty.size Ql)).sum := rfl
   omega
  obtain ⟨f, f1, f2⟩ := QoG (g := g) (QFQ hg0 h0 h1) a2 [] (by simp; omega) hsz
  simp only [cond_true, Bool.not_true, cond_false, Option.bind_some]
  rw [QM h2.1, QM h2.1, f1, f2]
  exact ⟨_, rfl, rfl, QET f h2, Nat.le_trans (QC1 f a2) hs⟩
theorem QuH (g0 : List (List Int)) (hg0 : g0 = Qg7) (a0 : List Qj) (a1 : Qt) (a2 : List Qd) (h0 : wfD (.list Qf) a0) (h1 : wfD Qr a1) (h2 : wfD (.list Qc) a2) : Yx g0 a0 a1 a2 = some true := by
 rw [Yx, JQ h0 (by omega) (by omega)]
 simp only [Option.bind_some]
 cases d0 : decide (Qw 1048576 (Ty.size (.list Qf) a0) < 0) with
 | true => rfl
 | false =>
 obtain ⟨b1, b2, b3⟩ := QDL d0
 rw [JQ h1 b2 (by omega)]
 simp only [Option.bind_some, cond_false]
 cases d1 : decide (Qw (Qw 1048576 (Ty.size (.list Qf) a0)) (Ty.size Qr a1) < 0) with
 | true => rfl
 | false =>
 obtain ⟨c1, c2, c3⟩ := QDL d1
 rw [JQ h2 c2 (by omega)]
 simp only [Option.bind_some, cond_false]
 cases d2 : decide (Qw (Qw (Qw 1048576 (Ty.size (.list Qf) a0)) (Ty.size Qr a1)) (Ty.size (.list Qc) a2) < 0) with
 | true => rfl
 | false =>
 obtain ⟨e1, e2, e3⟩ := QDL d2
 obtain ⟨r, s1, s2, hr, hrs⟩ := Qsk hg0 h0 h1 h2 (by omega)
 have m0 := Qj9 (t := .list Qf) (x := a0) (n := 1048576) (by omega) (by decide)
 have m1 := Qj9 (t := Qr) (x := a1) (n := 1048576) (by omega) (by decide)
 have m2 := Qj9 (t := .list Qc) (x := a2) (n := 1048576) (by omega) (by decide)
 have m3 := Qj9 (t := .list Qc) (x := r) (n := 1048576) hrs (by decide)
 have k0 := G7 (.list Qf) a0 1
 have k1 := G7 Qr a1 (JY (.list Qf) a0 1).1
 have k2 := G7 (.list Qc) a2 (JY Qr a1 (JY (.list Qf) a0 1).1).1
 have k3 := G7 (.list Qc) r 1
 have hk2 : ¬ (JY (.list Qc) a2 (JY Qr a1 (JY (.list Qf) a0 1).1).1).1 < 0 := by omega
 have hk3 : ¬ (JY (.list Qc) r 1).1 < 0 := by omega
 have hh := QAH hr 1 (by omega) (by omega)
 simp only [cond_false, QD h0 (by omega), QD h1 (by omega), QD h2 (by omega), Option.bind_some, s1, s2, ZJ h0, ZJ h1, ZJ h2, ZJ hr, Bool.not_true,
  Qj8 (t := .list Qf) (x := a0) (k := 1) (by omega) (by unfold Zh; omega), Qj8 (t := Qr) (x := a1) (k := (JY (.list Qf) a0 1).1) (by omega) (by unfold Zh; omega),
  Qj8 (t := .list Qc) (x := a2) (k := (JY Qr a1 (JY (.list Qf) a0 1).1).1) (by omega) (by unfold Zh; omega), decide_eq_false hk2]
 rw [Jx]
 simp only [Qj8 (t := .list Qc) (x := r) (k := 1) (by omega) (by unfold Zh; omega), Option.bind_some, hh, decide_eq_false hk3, cond_false, decide_true, Bool.not_true, QD h0 (by omega), QD h1 (by omega), QD h2 (by omega), s2, ZJ hr]
end
end Go.Ab
