import Derived.Test.YtcoepmcddmnnhaaGenAns
import Derived.Test.YtcoepmcddmnnhaaPlain1
namespace Go.Ab
open Go.Proofs
noncomputable section
def Qff (a b m x : Int) : Int:=Int.tmod (a * m + x + 1 + b) 2147483579
def mix (s : Int × Int × Int × Int) (x : Int) : Int × Int × Int × Int :=
 let a:=Qff s.1 s.2.1 1103515245 x
 let b:=Qff s.2.1 s.2.2.1 69069 x
 let c:=Qff s.2.2.1 s.2.2.2 1664525 x
 (a,b,c,Qff s.2.2.2 a 22695477 x)
def okQ (s : Int × Int × Int × Int) : Prop:=(0 ≤ s.1 ∧ s.1 < 2147483579) ∧ (0 ≤ s.2.1 ∧ s.2.1 < 2147483579) ∧ (0 ≤ s.2.2.1 ∧ s.2.2.1 < 2147483579) ∧ (0 ≤ s.2.2.2 ∧ s.2.2.2 < 2147483579)
def okX (x : Int) : Prop:=0 ≤ x ∧ x ≤ 255
def ql (s : Int × Int × Int × Int) : List Int:=[s.1,s.2.1,s.2.2.1,s.2.2.2]
theorem Qie {x : Int} (h : 0 ≤ x) : 0 ≤ Int.tmod x 2147483579 ∧ Int.tmod x 2147483579 < 2147483579:=by
 rw [Int.tmod_eq_emod_of_nonneg h]; omega
theorem VN {a b m x : Int} (ha : 0 ≤ a) (hb : 0 ≤ b) (hm : 0 ≤ m) (hx : 0 ≤ x) : 0 ≤ Qff a b m x ∧ Qff a b m x < 2147483579:=by
 unfold Qff
 have:=Int.mul_nonneg ha hm
 exact Qie (by omega)
theorem Q9 {s : Int × Int × Int × Int} {x : Int} (hs : okQ s) (hx : okX x) : okQ (mix s x):=by
 obtain ⟨⟨h1,_⟩,⟨h2,_⟩,⟨h3,_⟩,h4,_⟩:=hs
 have ha:=VN (m:=1103515245) h1 h2 (by omega) hx.1
 exact ⟨ha,VN h2 h3 (by omega) hx.1,VN h3 h4 (by omega) hx.1,VN h4 ha.1 (by omega) hx.1⟩
theorem Yc {a b x : Int} (m : Int) (ha : 0 ≤ a ∧ a < 2147483579) (hb : 0 ≤ b ∧ b < 2147483579) (hx : okX x) (hm : 0 ≤ m ∧ m ≤ 1103515245) :
  Int.tmod (IntKind.wrap .i64 ((IntKind.wrap .i64 ((IntKind.wrap .i64 ((IntKind.wrap .i64 (a * m)) + x)) + 1)) + b)) 2147483579 = Qff a b m x:=by
 have h1:=Int.mul_nonneg ha.1 hm.1
 have h2 : a * m ≤ 2147483579 * 1103515245:=Int.mul_le_mul (by omega) hm.2 hm.1 (by omega)
 unfold okX at hx
 rw [Q5 (x:=a * m) (by omega),Q5 (x:=a * m + x) (by omega),Q5 (x:=a * m + x + 1) (by omega),Q5 (x:=a * m + x + 1 + b) (by omega)]
 rfl
theorem Je {x : Int} (h : okX x) : IntKind.wrap .i64 x = x:=by unfold okX at h; exact Q5 (by omega)
theorem wm (n : Int) (h : 0 ≤ n ∧ n ≤ 10) : IntKind.wrap .i64 n = n:=Q5 (by omega)
theorem QfY {K : List Int → Option (List Int)} {x : Int} (m : Nat) {s : Int × Int × Int × Int} (hs : okQ s) (hx : okX x) :
  Qi K x [1103515245,69069,1664525,22695477] (m + 5) (ql s) 0 = K (ql (mix s x)):=by
 obtain ⟨h1,h2,h3,h4⟩:=hs
 have ha:=VN (m:=1103515245) h1.1 h2.1 (by omega) hx.1
 simp only [Qi,ql,rd,inB,List.length_cons,List.length_nil,List.getD,List.set,wm (0 + 1) (by omega),wm (0 + 1 + 1) (by omega),wm (0 + 1 + 1 + 1) (by omega),wm (0 + 1 + 1 + 1 + 1) (by omega)]
 simp [Yc 1103515245 h1 h2 hx (by omega),Yc 69069 h2 h3 hx (by omega),Yc 1664525 h3 h4 hx (by omega),Yc 22695477 h4 ha hx (by omega),mix]
theorem QfZ {K : List Int → Option (List Int)} {x : Int} (m : Nat) {s : Int × Int × Int × Int} (hs : okQ s) (hx : okX x) :
  Qf K x [1103515245,69069,1664525,22695477] (m + 5) (ql s) 0 = K (ql (mix s x)):=by
 obtain ⟨h1,h2,h3,h4⟩:=hs
 have ha:=VN (m:=1103515245) h1.1 h2.1 (by omega) hx.1
 simp only [Qf,ql,rd,inB,List.length_cons,List.length_nil,List.getD,List.set,wm (0 + 1) (by omega),wm (0 + 1 + 1) (by omega),wm (0 + 1 + 1 + 1) (by omega),wm (0 + 1 + 1 + 1 + 1) (by omega)]
 simp [Yc 1103515245 h1 h2 hx (by omega),Yc 69069 h2 h3 hx (by omega),Yc 1664525 h3 h4 hx (by omega),Yc 22695477 h4 ha hx (by omega),mix]
theorem Qf0 {K : List Int → Int → Option (List Int)} (j : Int) (m : Nat) {s : Int × Int × Int × Int} (hs : okQ s) :
  Qg K j [1103515245,69069,1664525,22695477] (m + 5) (ql s) 0 = K (ql (mix s 0)) (IntKind.wrap .i64 (j + 1)):=by
 obtain ⟨h1,h2,h3,h4⟩:=hs
 have hx : okX 0:=⟨by omega,by omega⟩
 have ha:=VN (m:=1103515245) h1.1 h2.1 (by omega) hx.1
 simp only [Qg,ql,rd,inB,List.length_cons,List.length_nil,List.getD,List.set,wm (0 + 1) (by omega),wm (0 + 1 + 1) (by omega),wm (0 + 1 + 1 + 1) (by omega),wm (0 + 1 + 1 + 1 + 1) (by omega)]
 have k1:=Yc 1103515245 h1 h2 hx (by omega)
 have k2:=Yc 69069 h2 h3 hx (by omega)
 have k3:=Yc 1664525 h3 h4 hx (by omega)
 have k4:=Yc 22695477 h4 ha hx (by omega)
 simp only [Int.add_zero] at k1 k2 k3 k4
 simp [k1,k2,k3,k4,mix]
theorem Qf1 {K : Int → Int → Int → Int → Option (List Int)} {x : Int} (m : Nat) {s : Int × Int × Int × Int} (hs : okQ s) (hx : okX x) :
  Qv K x 1103515245 69069 1664525 22695477 (m + 5) 0 s.1 s.2.1 s.2.2.1 s.2.2.2 = K (mix s x).1 (mix s x).2.1 (mix s x).2.2.1 (mix s x).2.2.2:=by
 obtain ⟨h1,h2,h3,h4⟩:=hs
 have ha:=VN (m:=1103515245) h1.1 h2.1 (by omega) hx.1
 simp only [Qv,rd,inB,List.getD,Je hx,wm (0 + 1) (by omega),wm (0 + 1 + 1) (by omega),wm (0 + 1 + 1 + 1) (by omega),wm (0 + 1 + 1 + 1 + 1) (by omega)]
 simp [Yc 1103515245 h1 h2 hx (by omega),Yc 69069 h2 h3 hx (by omega),Yc 1664525 h3 h4 hx (by omega),Yc 22695477 h4 ha hx (by omega),mix]
theorem Qf2 {K : Int → Int → Int → Int → Option (List Int)} {x : Int} (m : Nat) {s : Int × Int × Int × Int} (hs : okQ s) (hx : okX x) :
  Qn K x 1103515245 69069 1664525 22695477 (m + 5) 0 s.1 s.2.1 s.2.2.1 s.2.2.2 = K (mix s x).1 (mix s x).2.1 (mix s x).2.2.1 (mix s x).2.2.2:=by
 obtain ⟨h1,h2,h3,h4⟩:=hs
 have ha:=VN (m:=1103515245) h1.1 h2.1 (by omega) hx.1
 simp only [Qn,rd,inB,List.getD,Je hx,wm (0 + 1) (by omega),wm (0 + 1 + 1) (by omega),wm (0 + 1 + 1 + 1) (by omega),wm (0 + 1 + 1 + 1 + 1) (by omega)]
 simp [Yc 1103515245 h1 h2 hx (by omega),Yc 69069 h2 h3 hx (by omega),Yc 1664525 h3 h4 hx (by omega),Yc 22695477 h4 ha hx (by omega),mix]
theorem Qf3 {K : Int → Int → Int → Int → Int → Option (List Int)} (j : Int) (m : Nat) {s : Int × Int × Int × Int} (hs : okQ s) :
  Qo K j 1103515245 69069 1664525 22695477 (m + 5) 0 s.1 s.2.1 s.2.2.1 s.2.2.2 = K (IntKind.wrap .i64 (j + 1)) (mix s 0).1 (mix s 0).2.1 (mix s 0).2.2.1 (mix s 0).2.2.2:=by
 obtain ⟨h1,h2,h3,h4⟩:=hs
 have hx : okX 0:=⟨by omega,by omega⟩
 have ha:=VN (m:=1103515245) h1.1 h2.1 (by omega) hx.1
 simp only [Qo,rd,inB,List.getD,Je hx,wm (0 + 1) (by omega),wm (0 + 1 + 1) (by omega),wm (0 + 1 + 1 + 1) (by omega),wm (0 + 1 + 1 + 1 + 1) (by omega)]
 have k1:=Yc 1103515245 h1 h2 hx (by omega)
 have k2:=Yc 69069 h2 h3 hx (by omega)
 have k3:=Yc 1664525 h3 h4 hx (by omega)
 have k4:=Yc 22695477 h4 ha hx (by omega)
 simp only [Int.add_zero] at k1 k2 k3 k4
 simp [k1,k2,k3,k4,mix]
def b4 (n : Int) : List Int:=Qb n
theorem G2 (n : Int) : (b4 n).length = 4:=rfl
theorem u8_in (y : Int) : okX (IntKind.wrap .u8 y):=by
 have h:=Jm.1 (JZ .u8 y)
 rw [H9,Ua] at h
 exact h
theorem QcW (n : Int) : ∀ x ∈ b4 n,okX x:=by
 intro x hx
 unfold b4 Qb at hx
 simp only [List.mem_cons,List.not_mem_nil,or_false] at hx
 rcases hx with rfl | rfl | rfl | rfl <;> exact u8_in _
theorem QcX (x : Int) : IntKind.wrap .u8 x = x % 256:=by
 unfold IntKind.wrap
 rw [if_neg (by simp [IntKind.signed])]
 rfl
theorem Qi8 {n : Int} (h0 : 0 ≤ n) (h1 : n < 4294967296) : b4 n = [n % 256,n / 256 % 256,n / 65536 % 256,n / 16777216 % 256]:=by
 unfold b4 Qb
 rw [QcX,QcX,QcX,QcX]
 have e1 : Int.fdiv n (2 ^ min (Int.toNat 8) 64) = n / 256:=by rw [Int.fdiv_eq_ediv_of_nonneg _ (by decide)]; rfl
 have e2 : Int.fdiv n (2 ^ min (Int.toNat 16) 64) = n / 65536:=by rw [Int.fdiv_eq_ediv_of_nonneg _ (by decide)]; rfl
 have e3 : Int.fdiv n (2 ^ min (Int.toNat 24) 64) = n / 16777216:=by rw [Int.fdiv_eq_ediv_of_nonneg _ (by decide)]; rfl
 rw [e1,e2,e3]
theorem QbL {n : Int} (h0 : 0 ≤ n) : IntKind.wrap .u8 (Int.tmod n 256) = n % 256:=by
 rw [Int.tmod_eq_emod_of_nonneg h0,QcX]; omega
theorem QeA {n : Int} (h0 : 0 ≤ n) (h1 : n < 4294967296) : IntKind.wrap .i64 (Int.tdiv n 256) = n / 256:=by
 rw [Int.tdiv_eq_ediv_of_nonneg h0,Q5 (by omega)]
theorem ZX {n : Int} (h0 : 0 ≤ n) (h1 : n < 4294967296) : QA n = some (b4 n):=by
 refine XJ ⟨5,fun m hm=>?_⟩
 obtain ⟨k,rfl⟩ : ∃ k,m = k + 5:=⟨m - 5,by omega⟩
 show Yl (k + 5) n = some (b4 n)
 have d1 : 0 ≤ n / 256 ∧ n / 256 < 4294967296:=by omega
 have d2 : 0 ≤ n / 256 / 256 ∧ n / 256 / 256 < 4294967296:=by omega
 have d3 : 0 ≤ n / 256 / 256 / 256 ∧ n / 256 / 256 / 256 < 4294967296:=by omega
 unfold Yl
 have c : (true && true && decide ((4 : Int) * 1 ≤ QI) && true) = true:=by rw [QV]; decide
 rw [c]
 simp only [cond_true,ZK,inB,List.length_replicate,List.length_set,QbL h0,QeA h0 h1,QbL d1.1,QeA d1.1 d1.2,QbL d2.1,QeA d2.1 d2.2,QbL d3.1,QeA d3.1 d3.2,wm (0 + 1) (by omega),wm (0 + 1 + 1) (by omega),wm (0 + 1 + 1 + 1) (by omega),wm (0 + 1 + 1 + 1 + 1) (by omega)]
 rw [Qi8 h0 h1]
 have e2 : n / 256 / 256 = n / 65536:=by omega
 have e3 : n / 256 / 256 / 256 = n / 16777216:=by omega
 have e4 : n / 65536 / 256 = n / 16777216:=by omega
 simp [e2,e3,e4,List.replicate]
def QcY (s : Int × Int × Int × Int) : Int × Int × Int × Int:=mix (mix (mix (mix (mix (mix (mix (mix s 0) 0) 0) 0) 0) 0) 0) 0
def E9 (s : Int × Int × Int × Int) : List Int:=b4 s.1 ++ b4 s.2.1 ++ b4 s.2.2.1 ++ b4 s.2.2.2
def dig (l : List Int) : List Int:=E9 (QcY ((b4 l.length).foldl mix (l.foldl mix (11,22,33,44))))
theorem Jy (l : List Int) : (dig l).length = 16:=rfl
theorem Ec (l : List Int) : ∀ x ∈ dig l,okX x:=by
 intro x hx
 unfold dig E9 at hx
 simp only [List.mem_append] at hx
 rcases hx with ((h | h) | h) | h <;> exact QcW _ x h
theorem QdX : okQ (11,22,33,44):=by unfold okQ; decide
theorem QhL {s : Int × Int × Int × Int} (h : okQ s) : okQ (QcY s):=by
 have z : okX 0:=⟨by omega,by omega⟩
 exact Q9 (Q9 (Q9 (Q9 (Q9 (Q9 (Q9 (Q9 h z) z) z) z) z) z) z) z
theorem QhM {s : Int × Int × Int × Int} (h : okQ s) : Qk (ql s) [] = some (E9 s):=by
 obtain ⟨h1,h2,h3,h4⟩:=h
 simp only [ql,Qk,ZX h1.1 (by omega),ZX h2.1 (by omega),ZX h3.1 (by omega),ZX h4.1 (by omega),Option.bind_some,List.length_append,List.length_nil,G2]
 simp [QV,E9]
theorem QiL {s : Int × Int × Int × Int} (h : okQ s) (m : Nat) : Qh (m + 14) (ql s) 0 = some (E9 (QcY s)):=by
 have z : okX 0:=⟨by omega,by omega⟩
 have step : ∀ (s : Int × Int × Int × Int) (j : Int) (n : Nat),okQ s → 0 ≤ j → j < 8 → Qh (n + 6) (ql s) j = Qh (n + 5) (ql (mix s 0)) (j + 1):=by
  intro s j n hs h0 h8
  rw [Qh,decide_eq_true h8]
  simp only [cond_true]
  rw [Qf0 j n hs,Q5 (x:=j + 1) (by omega)]
 have o1:=Q9 h z
 have o2:=Q9 o1 z
 have o3:=Q9 o2 z
 have o4:=Q9 o3 z
 have o5:=Q9 o4 z
 have o6:=Q9 o5 z
 have o7:=Q9 o6 z
 rw [step s 0 (m + 8) h (by omega) (by omega),step _ (0 + 1) (m + 7) o1 (by omega) (by omega),step _ (0 + 1 + 1) (m + 6) o2 (by omega) (by omega),step _ (0 + 1 + 1 + 1) (m + 5) o3 (by omega) (by omega),
  step _ (0 + 1 + 1 + 1 + 1) (m + 4) o4 (by omega) (by omega),step _ (0 + 1 + 1 + 1 + 1 + 1) (m + 3) o5 (by omega) (by omega),step _ (0 + 1 + 1 + 1 + 1 + 1 + 1) (m + 2) o6 (by omega) (by omega),step _ (0 + 1 + 1 + 1 + 1 + 1 + 1 + 1) (m + 1) o7 (by omega) (by omega)]
 rw [Qh,decide_eq_false (by omega)]
 simp only [cond_false]
 rw [VG (by show (4 : Nat) ≤ maxLen; unfold maxLen; omega)]
 exact QhM (QhL h)
theorem QhN (m : Nat) : ∀ (l : List Int) (s : Int × Int × Int × Int),okQ s → (∀ x ∈ l,okX x) → Qj (m + 14) l (ql s) = some (E9 (QcY (l.foldl mix s)))
 | [],s,h,_=>by rw [Qj,QiL h,List.foldl_nil]
 | x :: l,s,h,hl=>by
  have hx:=hl x (by simp)
  rw [Qj,Je hx,QfZ (m + 9) h hx,List.foldl_cons]
  exact QhN m l (mix s x) (Q9 h hx) (fun y hy=>hl y (by simp [hy]))
theorem Qif {xs : List Int} (hn : xs.length ≤ 3000000) : QA (xs.length : Int) = some (b4 (xs.length : Int)):=ZX (n:=(xs.length : Int)) (by omega) (by omega)
theorem Qig {xs : List Int} : (b4 (xs.length : Int)).length ≤ maxLen:=by rw [G2]; unfold maxLen; omega
theorem Qih (m : Nat) {xs y : List Int} {s : Int × Int × Int × Int} (h : okQ s) (e : QA (xs.length : Int) = some y) (hb : ∀ x ∈ y,okX x) (hb4 : y.length ≤ maxLen) : Qd (m + 14) xs [] (ql s) = some (E9 (QcY (y.foldl mix s))):=by
 rw [Qd,e]
 simp only [Option.bind_some]
 rw [VG hb4,QhN m y s h hb]
theorem Qii (m : Nat) {xs : List Int} (hn : xs.length ≤ 3000000) {s : Int × Int × Int × Int} (h : okQ s) : Qd (m + 14) xs [] (ql s) = some (E9 (QcY ((b4 (xs.length : Int)).foldl mix s))):=Qih m h (Qif hn) (QcW _) Qig
theorem Qij (m : Nat) {xs : List Int} {x : Int} {l : List Int} {s : Int × Int × Int × Int} (h : okQ s) (hx : okX x) : Qd (m + 14) xs (x :: l) (ql s) = Qd (m + 14) xs l (ql (mix s x)):=by
 rw [Qd,Je hx,QfY (m + 9) h hx]
theorem QiM (m : Nat) {xs : List Int} (hn : xs.length ≤ 3000000) (l : List Int) : ∀ (s : Int × Int × Int × Int),okQ s → (∀ x ∈ l,okX x) → Qd (m + 14) xs l (ql s) = some (E9 (QcY ((b4 (xs.length : Int)).foldl mix (l.foldl mix s)))):=by
 induction l with
 | nil=>intro s h _; rw [Qii m hn h,List.foldl_nil]
 | cons x l ih =>
  intro s h hl
  have hx:=hl x (by simp)
  rw [Qij m h hx,List.foldl_cons]
  exact ih (mix s x) (Q9 h hx) (fun y hy=>hl y (by simp [hy]))
theorem Z8 {l : List Int} (hn : l.length ≤ 3000000) (hl : ∀ x ∈ l,okX x) : Ql l = some (dig l):=by
 refine XJ ⟨14,fun m hm=>?_⟩
 obtain ⟨k,rfl⟩ : ∃ k,m = k + 14:=⟨m - 14,by omega⟩
 show Z6 (k + 14) l = some (dig l)
 unfold Z6
 rw [VG (by unfold maxLen; omega)]
 exact QiM k hn l (11,22,33,44) QdX hl
theorem QhO {s : Int × Int × Int × Int} (m : Nat) : QH s.1 s.2.1 s.2.2.1 s.2.2.2 (m + 5) [] 0 = some (E9 s):=by
 have e : ∀ n,Qb n = b4 n:=fun _=>rfl
 simp only [QH,rd,inB,List.getD,wm (0 + 1) (by omega),wm (0 + 1 + 1) (by omega),wm (0 + 1 + 1 + 1) (by omega),wm (0 + 1 + 1 + 1 + 1) (by omega),e,List.length_append,List.length_nil,G2]
 simp [QV,E9]
theorem QiN {s : Int × Int × Int × Int} (h : okQ s) (m : Nat) : Qr 1103515245 69069 1664525 22695477 (m + 14) 0 s.1 s.2.1 s.2.2.1 s.2.2.2 = some (E9 (QcY s)):=by
 have z : okX 0:=⟨by omega,by omega⟩
 have step : ∀ (s : Int × Int × Int × Int) (j : Int) (n : Nat),okQ s → 0 ≤ j → j < 8 → Qr 1103515245 69069 1664525 22695477 (n + 6) j s.1 s.2.1 s.2.2.1 s.2.2.2 = Qr 1103515245 69069 1664525 22695477 (n + 5) (j + 1) (mix s 0).1 (mix s 0).2.1 (mix s 0).2.2.1 (mix s 0).2.2.2:=by
  intro s j n hs h0 h8
  rw [Qr,decide_eq_true h8]
  simp only [cond_true]
  rw [Qf3 j n hs,Q5 (x:=j + 1) (by omega)]
 have o1:=Q9 h z
 have o2:=Q9 o1 z
 have o3:=Q9 o2 z
 have o4:=Q9 o3 z
 have o5:=Q9 o4 z
 have o6:=Q9 o5 z
 have o7:=Q9 o6 z
 rw [step s 0 (m + 8) h (by omega) (by omega),step _ (0 + 1) (m + 7) o1 (by omega) (by omega),step _ (0 + 1 + 1) (m + 6) o2 (by omega) (by omega),step _ (0 + 1 + 1 + 1) (m + 5) o3 (by omega) (by omega),
  step _ (0 + 1 + 1 + 1 + 1) (m + 4) o4 (by omega) (by omega),step _ (0 + 1 + 1 + 1 + 1 + 1) (m + 3) o5 (by omega) (by omega),step _ (0 + 1 + 1 + 1 + 1 + 1 + 1) (m + 2) o6 (by omega) (by omega),step _ (0 + 1 + 1 + 1 + 1 + 1 + 1 + 1) (m + 1) o7 (by omega) (by omega)]
 rw [Qr,decide_eq_false (by omega)]
 simp only [cond_false]
 exact QhO (s:=QcY s) m
theorem QhP (m : Nat) : ∀ (l : List Int) (s : Int × Int × Int × Int),okQ s → (∀ x ∈ l,okX x) → Qs (m + 14) 1103515245 69069 1664525 22695477 l s.1 s.2.1 s.2.2.1 s.2.2.2 = some (E9 (QcY (l.foldl mix s)))
 | [],s,h,_=>by rw [Qs,QiN h,List.foldl_nil]
 | x :: l,s,h,hl=>by
  have hx:=hl x (by simp)
  rw [Qs,Qf2 (m + 9) h hx,List.foldl_cons]
  exact QhP m l (mix s x) (Q9 h hx) (fun y hy=>hl y (by simp [hy]))
theorem QhQ (m : Nat) {xs : List Int} : ∀ (l : List Int) (s : Int × Int × Int × Int),okQ s → (∀ x ∈ l,okX x) → Qx (m + 14) xs l s.1 s.2.1 s.2.2.1 s.2.2.2 = some (E9 (QcY ((b4 xs.length).foldl mix (l.foldl mix s))))
 | [],s,h,_=>by
  rw [Qx,VG (by show (4 : Nat) ≤ maxLen; unfold maxLen; omega)]
  rw [List.foldl_nil]
  exact QhP m (b4 xs.length) s h (QcW _)
 | x :: l,s,h,hl=>by
  have hx:=hl x (by simp)
  rw [Qx,Qf1 (m + 9) h hx,List.foldl_cons]
  exact QhQ m l (mix s x) (Q9 h hx) (fun y hy=>hl y (by simp [hy]))
theorem JF {l : List Int} (hn : l.length ≤ 20000) (hl : ∀ x ∈ l,okX x) : QC l = some (dig l):=by
 refine XJ ⟨14,fun m hm=>?_⟩
 obtain ⟨k,rfl⟩ : ∃ k,m = k + 14:=⟨m - 14,by omega⟩
 show JE (k + 14) l = some (dig l)
 unfold JE
 rw [decide_eq_false (by omega)]
 simp only [cond_false]
 rw [VG (by unfold maxLen; omega)]
 exact QhQ k l (11,22,33,44) QdX hl
def mac (k d : List Int) : List Int:=dig (dig k ++ dig d)
theorem Qgt (k d : List Int) : (mac k d).length = 16:=rfl
theorem Qf4 (k d : List Int) : ∀ x ∈ mac k d,okX x:=Ec _
theorem QhR (k d : List Int) : ∀ x ∈ dig k ++ dig d,okX x:=by
 intro x hx
 rcases List.mem_append.1 hx with h | h <;> exact Ec _ x h
theorem Qgu (k d : List Int) : (dig k ++ dig d).length = 32:=by rw [List.length_append,Jy,Jy]
theorem QeB {k d : List Int} (hk : k.length ≤ 3000000) (hd : d.length ≤ 3000000) (ik : ∀ x ∈ k,okX x) (id_ : ∀ x ∈ d,okX x) : JV k d = some (mac k d):=by
 rw [JV,Z8 hk ik,Z8 hd id_]
 simp only [Option.bind_some]
 rw [Yt,Jy,Jy,decide_eq_true (show (((16 : Nat) : Int)) * 1 ≤ QI by rw [QV]; omega),decide_eq_true (show ((16 : Nat) : Int) ≤ QI by rw [QV]; omega),
  decide_eq_true (show (((16 : Nat) : Int) + ((16 : Nat) : Int)) * 1 ≤ QI by rw [QV]; omega),decide_eq_true (show ((16 : Nat) : Int) + ((16 : Nat) : Int) ≤ QI by rw [QV]; omega),Z8 (by rw [Qgu]; omega) (QhR k d)]
 rfl
theorem Qf5 {k d : List Int} (hk : k.length ≤ 20000) (hd : d.length ≤ 20000) (ik : ∀ x ∈ k,okX x) (id_ : ∀ x ∈ d,okX x) : YN k d = some (mac k d):=by
 rw [YN,decide_eq_false (by omega),decide_eq_false (by omega)]
 simp only [cond_false]
 rw [Yp,JF hk ik,JF hd id_]
 simp only [Option.bind_some,cond_false]
 rw [Jy,Jy,decide_eq_true (show (((16 : Nat) : Int) + ((16 : Nat) : Int)) * 1 ≤ QI by rw [QV]; omega),decide_eq_true (show ((16 : Nat) : Int) + ((16 : Nat) : Int) ≤ QI by rw [QV]; omega),JF (by rw [Qgu]; omega) (QhR k d)]
 rfl
def QaU (l : List Int) : Int:=l.getD 0 0 + 256 * l.getD 1 0 + 65536 * l.getD 2 0 + 16777216 * l.getD 3 0
theorem YJ {l : List Int} (h : ∀ x ∈ l,okX x) (i : Nat) : okX (l.getD i 0):=by
 rw [List.getD_eq_getElem?_getD]
 cases e : l[i]? with
 | none=>exact ⟨by decide,by decide⟩
 | some x=>exact h x (List.mem_of_getElem? e)
theorem Qik {l : List Int} (h : ∀ x ∈ l,okX x) : 0 ≤ QaU l ∧ QaU l < 4294967296:=by
 have k0:=YJ h 0
 have k1:=YJ h 1
 have k2:=YJ h 2
 have k3:=YJ h 3
 unfold okX at k0 k1 k2 k3
 unfold QaU
 omega
theorem HR {l : List Int} (hl : l.length = 16) (h : ∀ x ∈ l,okX x) : Ju l = some (QaU l):=by
 refine XJ ⟨5,fun m hm=>?_⟩
 obtain ⟨k,rfl⟩ : ∃ k,m = k + 5:=⟨m - 5,by omega⟩
 show J4 (k + 5) l = some (QaU l)
 have k0:=YJ h 0
 have k1:=YJ h 1
 have k2:=YJ h 2
 have k3:=YJ h 3
 have e0 : rd l 0 (Ty.dflt U8) = l.getD 0 0:=rfl
 have e1 : rd l 1 (Ty.dflt U8) = l.getD 1 0:=rfl
 have e2 : rd l 2 (Ty.dflt U8) = l.getD 2 0:=rfl
 have e3 : rd l 3 (Ty.dflt U8) = l.getD 3 0:=rfl
 have w0:=Je k0
 have w1:=Je k1
 have w2:=Je k2
 have w3:=Je k3
 unfold okX at k0 k1 k2 k3
 unfold J4
 simp only [Zz,inB,hl,Q5 (x:=3 - 1) (by omega),Q5 (x:=3 - 1 - 1) (by omega),Q5 (x:=3 - 1 - 1 - 1) (by omega),Q5 (x:=3 - 1 - 1 - 1 - 1) (by omega)]
 have f1 : (3 : Int) - 1 = 2:=rfl
 have f2 : (2 : Int) - 1 = 1:=rfl
 have f3 : (1 : Int) - 1 = 0:=rfl
 simp only [f1,f2,f3,e0,e1,e2,e3,w0,w1,w2,w3]
 rw [Q5 (x:=0 * 256) (by omega),Q5 (x:=0 * 256 + l.getD 3 0) (by omega),Q5 (x:=(0 * 256 + l.getD 3 0) * 256) (by omega),Q5 (x:=(0 * 256 + l.getD 3 0) * 256 + l.getD 2 0) (by omega),
  Q5 (x:=((0 * 256 + l.getD 3 0) * 256 + l.getD 2 0) * 256) (by omega),Q5 (x:=((0 * 256 + l.getD 3 0) * 256 + l.getD 2 0) * 256 + l.getD 1 0) (by omega),
  Q5 (x:=(((0 * 256 + l.getD 3 0) * 256 + l.getD 2 0) * 256 + l.getD 1 0) * 256) (by omega),Q5 (x:=(((0 * 256 + l.getD 3 0) * 256 + l.getD 2 0) * 256 + l.getD 1 0) * 256 + l.getD 0 0) (by omega)]
 have : (((0 * 256 + l.getD 3 0) * 256 + l.getD 2 0) * 256 + l.getD 1 0) * 256 + l.getD 0 0 = QaU l:=by unfold QaU; omega
 rw [this]
 simp
theorem QiO {a b : Nat} (k : Nat) (ha : a < 2 ^ k) (hb : b * 2 ^ k < 9223372036854775808) (hk : 2 ^ k ≤ 9223372036854775808) : IntKind.wrap .i64 (BitVec.toNat (BitVec.ofInt 64 (a : Int) ||| BitVec.ofInt 64 (IntKind.wrap .i64 ((b : Int) * ((2 ^ k : Nat) : Int))))) = ((a + b * 2 ^ k : Nat) : Int):=by
 have hlt : a + b * 2 ^ k < 9223372036854775808 ∨ 9223372036854775808 ≤ a + b * 2 ^ k:=by omega
 have e0 : ((b : Int) * ((2 ^ k : Nat) : Int)) = ((b * 2 ^ k : Nat) : Int):=by rw [Int.natCast_mul]
 have hor : a ||| b * 2 ^ k = a + b * 2 ^ k:=by rw [Nat.or_comm,Nat.mul_comm b,← Nat.two_pow_add_eq_or_of_lt ha]; omega
 have hlt2 : a ||| b * 2 ^ k < 2 ^ 63:=Nat.or_lt_two_pow (by omega) (by omega)
 rw [e0,Q5 (x:=((b * 2 ^ k : Nat) : Int)) (by omega),BitVec.toNat_or,BitVec.toNat_ofInt,BitVec.toNat_ofInt]
 have e1 : ((a : Int) % ((2 ^ 64 : Nat) : Int)).toNat = a:=by omega
 have e2 : (((b * 2 ^ k : Nat) : Int) % ((2 ^ 64 : Nat) : Int)).toNat = b * 2 ^ k:=by omega
 rw [e1,e2,hor,Q5 (by omega)]
theorem UV {l : List Int} (hl : l.length = 16) (h : ∀ x ∈ l,okX x) : Zv l = some (QaU l):=by
 have k0:=YJ h 0
 have k1:=YJ h 1
 have k2:=YJ h 2
 have k3:=YJ h 3
 have e0 : rd l 0 (Ty.dflt U8) = l.getD 0 0:=rfl
 have e1 : rd l 1 (Ty.dflt U8) = l.getD 1 0:=rfl
 have e2 : rd l 2 (Ty.dflt U8) = l.getD 2 0:=rfl
 have e3 : rd l 3 (Ty.dflt U8) = l.getD 3 0:=rfl
 have w0:=Je k0
 have w1:=Je k1
 have w2:=Je k2
 have w3:=Je k3
 rw [Zv,hl,decide_eq_false (by omega)]
 have q0 : inB 0 16 = true:=rfl
 have q1 : inB 1 16 = true:=rfl
 have q2 : inB 2 16 = true:=rfl
 have q3 : inB 3 16 = true:=rfl
 simp only [q0,q1,q2,q3,cond_true,cond_false,e0,e1,e2,e3,w0,w1,w2,w3]
 unfold QaU
 unfold okX at k0 k1 k2 k3
 obtain ⟨a,ha⟩:=Int.eq_ofNat_of_zero_le k0.1
 obtain ⟨b,hb⟩:=Int.eq_ofNat_of_zero_le k1.1
 obtain ⟨c,hc⟩:=Int.eq_ofNat_of_zero_le k2.1
 obtain ⟨d,hd⟩:=Int.eq_ofNat_of_zero_le k3.1
 have j0 : a ≤ 255:=by omega
 have j1 : b ≤ 255:=by omega
 have j2 : c ≤ 255:=by omega
 have j3 : d ≤ 255:=by omega
 rw [ha,hb,hc,hd]
 have p8 : ((2 : Int) ^ (min (Int.toNat 8) 64)) = ((2 ^ 8 : Nat) : Int):=rfl
 have p16 : ((2 : Int) ^ (min (Int.toNat 16) 64)) = ((2 ^ 16 : Nat) : Int):=rfl
 have p24 : ((2 : Int) ^ (min (Int.toNat 24) 64)) = ((2 ^ 24 : Nat) : Int):=rfl
 rw [p8,p16,p24,QiO 8 (by omega) (by omega) (by omega),QiO 16 (by omega) (by omega) (by omega),QiO 24 (by omega) (by omega) (by omega)]
 congr 1
 omega
theorem QhS {x : Nat} (h : x < 9223372036854775808) : IntKind.wrap .i64 (BitVec.toNat (BitVec.ofInt 64 (x : Int) &&& BitVec.ofInt 64 1)) = ((x % 2 : Nat) : Int):=by
 rw [BitVec.toNat_and,BitVec.toNat_ofInt,BitVec.toNat_ofInt]
 have e1 : ((x : Int) % ((2 ^ 64 : Nat) : Int)).toNat = x:=by omega
 have e2 : ((1 : Int) % ((2 ^ 64 : Nat) : Int)).toNat = 1:=rfl
 rw [e1,e2,Nat.and_one_is_mod,Q5 (by omega)]
theorem sqM (a q M : Nat) : a ^ q % M * (a ^ q % M) % M = a ^ (2 * q) % M:=by rw [← Nat.mul_mod,← Nat.pow_add,Nat.two_mul]
theorem muM (a q M : Nat) : a ^ q % M * a % M = a ^ (q + 1) % M:=by rw [Nat.pow_succ,Nat.mod_mul_mod]
theorem Qil {a b M : Nat} (hM : M ≤ 2147483579) (ha : a < M) (hb : b < M) : IntKind.wrap .i64 ((a : Int) * (b : Int)) = ((a * b : Nat) : Int):=by
 have : a * b ≤ 2147483579 * 2147483579:=Nat.mul_le_mul (by omega) (by omega)
 rw [← Int.natCast_mul,Q5 (by omega)]
theorem Qfg (a b : Nat) : Int.tmod (a : Int) (b : Int) = ((a % b : Nat) : Int):=rfl
theorem Qiw (n k : Nat) : Int.fdiv (n : Int) ((2 : Int) ^ k) = ((n / 2 ^ k : Nat) : Int):=by
 rw [show ((2 : Int) ^ k) = ((2 ^ k : Nat) : Int) by rw [Int.natCast_pow]; rfl,Int.fdiv_eq_ediv_of_nonneg _ (Int.natCast_nonneg _),← Int.natCast_ediv]
theorem Qfh {a n M : Nat} (hM : M ≤ 2147483579) (ha : a < M) (hn : n < 9223372036854775808) : ∀ (k m : Nat),k ≤ 41 → k < m → QQ (a : Int) (n : Int) (M : Int) m ((a ^ (n / 2 ^ k) % M : Nat) : Int) ((k : Int) - 1) = some ((a ^ n % M : Nat) : Int)
 | _,0,_,h=>by omega
 | 0,m + 1,_,_=>by
  rw [QQ,decide_eq_false (by omega)]
  simp
 | k + 1,m + 1,hk,h=>by
  have hM0 : 0 < M:=by omega
  have x5 : (((k + 1 : Nat) : Int) - 1) = (k : Int):=by omega
  have hq : n / 2 ^ k < 9223372036854775808:=Nat.lt_of_le_of_lt (Nat.div_le_self _ _) hn
  have hd : n / 2 ^ k = 2 * (n / 2 ^ (k + 1)) + n / 2 ^ k % 2:=by rw [Nat.pow_succ,← Nat.div_div_eq_div_mul]; omega
  have hlt : a ^ (n / 2 ^ (k + 1)) % M < M:=Nat.mod_lt _ hM0
  have hlt2 : a ^ (2 * (n / 2 ^ (k + 1))) % M < M:=Nat.mod_lt _ hM0
  have ih:=Qfh hM ha hn k m (by omega) (by omega)
  have hu : IntKind.wrap .u64 (k : Int) = (k : Int):=QeJ (by rw [Jm]; exact ⟨by show (0 : Int) ≤ _; omega,by show _ ≤ (18446744073709551615 : Int); omega⟩)
  rw [x5,QQ,decide_eq_true (show (0 : Int) ≤ (k : Int) by omega),decide_eq_false (show ¬ (M : Int) = 0 by omega),hu,decide_eq_true (show (0 : Int) ≤ (k : Int) by omega)]
  simp only [cond_true,cond_false]
  rw [show min (Int.toNat (k : Int)) 64 = k by omega,Qiw,QhS hq,Qil hM hlt hlt,Qfg,sqM]
  rw [Q5 (x:=(k : Int) - 1) (by omega)]
  by_cases hb : n / 2 ^ k % 2 = 1
  ·rw [decide_eq_true (show ((n / 2 ^ k % 2 : Nat) : Int) = 1 by omega)]
   simp only [cond_true]
   rw [Qil hM hlt2 ha,Qfg,muM,show 2 * (n / 2 ^ (k + 1)) + 1 = n / 2 ^ k by omega]
   exact ih
  ·rw [decide_eq_false (show ¬ ((n / 2 ^ k % 2 : Nat) : Int) = 1 by omega)]
   simp only [cond_false]
   rw [show 2 * (n / 2 ^ (k + 1)) = n / 2 ^ k by omega]
   exact ih
theorem QcZ {a n M : Nat} (hM : M ≤ 2147483579) (ha : a < M) (h1 : 1 < M) (hn : n < 2199023255552) : Yn (a : Int) (n : Int) (M : Int) = some ((a ^ n % M : Nat) : Int):=by
 refine XJ ⟨42,fun m hm=>?_⟩
 show Ym m (a : Int) (n : Int) (M : Int) = _
 rw [Ym]
 have:=Qfh (n:=n) hM ha (by omega) 41 m (by omega) (by omega)
 rw [Nat.div_eq_of_lt (show n < 2 ^ 41 by omega),Nat.pow_zero,Nat.mod_eq_of_lt h1] at this
 exact this
theorem Qc0 {M : Nat} (hM : M ≤ 2147483579) (h1 : 1 < M) : ∀ (k m b e o : Nat),e < 2 ^ k → k ≤ 62 → k < m → b < M → o < M → Zi (M : Int) m (b : Int) (e : Int) (o : Int) = some ((o * b ^ e % M : Nat) : Int)
 | _,0,_,_,_,_,_,h,_,_=>by omega
 | 0,m + 1,b,e,o,he,_,_,hb,ho=>by
  rw [Zi,decide_eq_false (by omega)]
  have : e = 0:=by omega
  subst this
  simp [Nat.mod_eq_of_lt ho]
 | k + 1,m + 1,b,e,o,he,hk,h,hb,ho=>by
  rw [Zi]
  by_cases h0 : e = 0
  ·subst h0
   rw [decide_eq_false (by omega)]
   simp [Nat.mod_eq_of_lt ho]
  have he2 : e < 9223372036854775808:=Nat.lt_of_lt_of_le he (Nat.le_trans (Nat.pow_le_pow_right (by omega) (show k + 1 ≤ 63 by omega)) (by omega))
  have hM0 : 0 < M:=by omega
  have p1 : ((2 : Int) ^ (min (Int.toNat 1) 64)) = (2 : Int) ^ 1:=rfl
  have hb2 : b * b % M < M:=Nat.mod_lt _ hM0
  have ho2 : o * b % M < M:=Nat.mod_lt _ hM0
  have he3 : e / 2 ^ 1 < 2 ^ k:=by rw [Nat.pow_succ] at he; omega
  rw [decide_eq_true (show (0 : Int) < (e : Int) by omega),QhS he2,p1,Qiw,Qil hM hb hb,Qil hM ho hb,Qfg,Qfg,decide_eq_false (show ¬ (M : Int) = 0 by omega)]
  simp only [cond_true,cond_false]
  rw [Qc0 hM h1 k m _ _ _ he3 (by omega) (by omega) hb2 ho2,Qc0 hM h1 k m _ _ _ he3 (by omega) (by omega) hb2 ho]
  have hsq : ∀ x,x * (b * b % M) ^ (e / 2 ^ 1) % M = x * b ^ (2 * (e / 2)) % M:=by
   intro x
   rw [Nat.mul_mod,← Nat.pow_mod,← Nat.mul_mod,Nat.pow_mul,Nat.pow_two]
  rw [hsq,hsq,Nat.mod_mul_mod]
  by_cases hc : e % 2 = 1
  ·rw [decide_eq_true (show ((e % 2 : Nat) : Int) = 1 by omega)]
   simp only [cond_true]
   rw [Nat.mul_assoc,← Nat.pow_succ',show (2 * (e / 2)).succ = e by omega]
  ·rw [decide_eq_false (show ¬ ((e % 2 : Nat) : Int) = 1 by omega)]
   simp only [cond_false]
   rw [show 2 * (e / 2) = e by omega]
theorem Qfi {a n M : Nat} (hM : M ≤ 2147483579) (ha : a < M) (h1 : 1 < M) (hn : n < 2199023255552) : VZ (a : Int) (n : Int) (M : Int) = some ((a ^ n % M : Nat) : Int):=by
 refine XJ ⟨42,fun m hm=>?_⟩
 show VY m (a : Int) (n : Int) (M : Int) = _
 rw [VY,decide_eq_false (by omega),Qfg,Nat.mod_eq_of_lt ha]
 have:=Qc0 hM h1 41 m a n 1 (by omega) (by omega) (by omega) ha h1
 rw [Nat.one_mul] at this
 exact this
theorem QaV (n : Int) : Qb n = b4 n:=rfl
def QeC (k : Int) : Int:=((4 ^ k.toNat % 2147483579 : Nat) : Int)
theorem QeD (k : Int) : 0 ≤ QeC k ∧ QeC k < 2147483579:=by
 have : 4 ^ k.toNat % 2147483579 < 2147483579:=Nat.mod_lt _ (by omega)
 unfold QeC
 omega
theorem Qim {k : Int} (h0 : 0 ≤ k) (h1 : k < 2199023255552) : Yn 4 k 2147483579 = some (QeC k):=by
 obtain ⟨n,rfl⟩:=Int.eq_ofNat_of_zero_le h0
 exact QcZ (a:=4) (n:=n) (M:=2147483579) (by omega) (by omega) (by omega) (by omega)
theorem Qin {k : Int} (h0 : 0 ≤ k) (h1 : k < 2199023255552) : VZ 4 k 2147483579 = some (QeC k):=by
 obtain ⟨n,rfl⟩:=Int.eq_ofNat_of_zero_le h0
 exact Qfi (a:=4) (n:=n) (M:=2147483579) (by omega) (by omega) (by omega) (by omega)
theorem Qf6 {a b : List Int} (ha : ∀ x ∈ a,okX x) (hb : ∀ x ∈ b,okX x) : ∀ x ∈ a ++ b,okX x:=by
 intro x hx
 rcases List.mem_append.1 hx with h | h
 ·exact ha x h
 ·exact hb x h
def Qio (r : Int) (l : List Int) : Int:=Int.tmod (QaU (dig (b4 r ++ dig l))) 1073741789
theorem Qix (r : Int) (l : List Int) : ∀ x ∈ b4 r ++ dig l,okX x:=Qf6 (QcW _) (Ec _)
theorem QhT (r : Int) (l : List Int) : (b4 r ++ dig l).length = 20:=by rw [List.length_append,G2,Jy]
theorem Qf7 {r : Int} {l : List Int} (h0 : 0 ≤ r) (h1 : r < 4294967296) (hl : l.length ≤ 3000000) (il : ∀ x ∈ l,okX x) : YM r l = some (Qio r l):=by
 rw [YM,ZX h0 h1,Z8 hl il]
 simp only [Option.bind_some]
 rw [G2,Jy]
 rw [decide_eq_true (show (((4 : Nat) : Int)) * 1 ≤ QI by rw [QV]; omega),decide_eq_true (show ((4 : Nat) : Int) ≤ QI by rw [QV]; omega),
  decide_eq_true (show (((4 : Nat) : Int) + ((16 : Nat) : Int)) * 1 ≤ QI by rw [QV]; omega),decide_eq_true (show ((4 : Nat) : Int) + ((16 : Nat) : Int) ≤ QI by rw [QV]; omega),Z8 (by rw [QhT]; omega) (Qix r l)]
 simp only [Option.bind_some,Bool.and_self,cond_true]
 rw [HR (Jy _) (Ec _)]
 rfl
theorem Qaa {r : Int} {l : List Int} (hl : l.length ≤ 20000) (il : ∀ x ∈ l,okX x) : Zw r l = some (Qio r l):=by
 rw [Zw,JF hl il,QaV]
 simp only [Option.bind_some]
 rw [G2,Jy]
 rw [decide_eq_true (show (((4 : Nat) : Int) + ((16 : Nat) : Int)) * 1 ≤ QI by rw [QV]; omega),decide_eq_true (show ((4 : Nat) : Int) + ((16 : Nat) : Int) ≤ QI by rw [QV]; omega),JF (by rw [QhT]; omega) (Qix r l)]
 simp only [Option.bind_some,Bool.and_self,cond_true]
 rw [UV (Jy _) (Ec _)]
 rfl
def kOf (s : Int) (l : List Int) : Int:=1 + Int.tmod (QaU (mac (b4 s) l)) 1073741788
theorem QhU (s : Int) (l : List Int) : 1 ≤ kOf s l ∧ kOf s l < 2147483648:=by
 have h:=Qik (Qf4 (b4 s) l)
 unfold kOf
 rw [Int.tmod_eq_emod_of_nonneg h.1]
 omega
def QiP (s : Int) (l : List Int) : GL:=(QeC (kOf s l),Int.tmod (IntKind.wrap .i64 (kOf s l + IntKind.wrap .i64 (Qio (QeC (kOf s l)) l * s))) 1073741789)
theorem Qdx {s : Int} {l : List Int} (h0 : 0 ≤ s) (h1 : s < 1073741789) (hl : l.length ≤ 20000) (il : ∀ x ∈ l,okX x) : JD s l = some (QiP s l):=by
 have hk:=QhU s l
 have hp:=QeD (kOf s l)
 have e : IntKind.wrap .i64 (1 + Int.tmod (QaU (mac (b4 s) l)) 1073741788) = kOf s l:=Q5 (x:=kOf s l) (by omega)
 rw [JD,ZX h0 (by omega)]
 simp only [Option.bind_some]
 rw [QeB (by rw [G2]; omega) (by omega) (QcW _) il]
 simp only [Option.bind_some]
 rw [HR (Qgt _ _) (Qf4 _ _)]
 simp only [Option.bind_some,e]
 rw [Qim (by omega) (by omega)]
 simp only [Option.bind_some]
 rw [Qf7 hp.1 (by omega) (by omega) il]
 rfl
theorem Qfj {s : Int} {l : List Int} (h0 : 1 ≤ s) (h1 : s < 1073741789) (hl : l.length ≤ 20000) (il : ∀ x ∈ l,okX x) : Yq s l = some (QiP s l):=by
 have hk:=QhU s l
 have hp:=QeD (kOf s l)
 have e : IntKind.wrap .i64 (1 + Int.tmod (QaU (mac (b4 s) l)) 1073741788) = kOf s l:=Q5 (x:=kOf s l) (by omega)
 have ht : QN s = true:=by unfold QN; rw [decide_eq_true h0,decide_eq_true h1]; rfl
 rw [Yq,ht,decide_eq_false (by omega)]
 simp only [Bool.not_true,cond_false]
 rw [YF,QaV,Qf5 (by rw [G2]; omega) (by omega) (QcW _) il]
 simp only [Option.bind_some]
 rw [UV (Qgt _ _) (Qf4 _ _)]
 simp only [Option.bind_some,e]
 rw [Qin (by omega) (by omega)]
 simp only [Option.bind_some]
 rw [Qaa hl il]
 rfl
def G3 (o c : List Int) (n : Int) : List Int:=dig o ++ dig c ++ b4 n
theorem QhV (o c : List Int) (n : Int) : (G3 o c n).length = 36:=by unfold G3; rw [List.length_append,List.length_append,G2,Jy,Jy]
theorem Qiy (o c : List Int) (n : Int) : ∀ x ∈ G3 o c n,okX x:=Qf6 (Qf6 (Ec _) (Ec _)) (QcW _)
theorem QbB {o c : List Int} {n : Int} (ho : o.length ≤ 100) (hc : c.length ≤ 100) (io : ∀ x ∈ o,okX x) (ic : ∀ x ∈ c,okX x) (h0 : 0 ≤ n) (h1 : n ≤ 1000000000) : Z7 o c n = some (G3 o c n):=by
 rw [Z7,Z8 (by omega) io,Z8 (by omega) ic,ZX h0 (by omega)]
 simp only [Option.bind_some]
 rw [List.length_append,G2,Jy,Jy]
 rw [decide_eq_true (show (((16 : Nat) : Int) + ((16 : Nat) : Int)) * 1 ≤ QI by rw [QV]; omega),decide_eq_true (show ((16 : Nat) : Int) + ((16 : Nat) : Int) ≤ QI by rw [QV]; omega),
  decide_eq_true (show (((16 + 16 : Nat) : Int) + ((4 : Nat) : Int)) * 1 ≤ QI by rw [QV]; omega),decide_eq_true (show ((16 + 16 : Nat) : Int) + ((4 : Nat) : Int) ≤ QI by rw [QV]; omega)]
 rfl
theorem Qip {a b c : List Int} (ha : a.length = 16) (hb : b.length = 16) (hc : c.length = 4) : Qy [a,b,c] = some (a ++ b ++ c):=by
 rw [Qy,VG (by show 3 ≤ maxLen; unfold maxLen; omega)]
 simp only [Qw,ha,hb,hc,Q5 (x:=0 + ((16 : Nat) : Int)) (by omega),Q5 (x:=0 + ((16 : Nat) : Int) + ((16 : Nat) : Int)) (by omega),Q5 (x:=0 + ((16 : Nat) : Int) + ((16 : Nat) : Int) + ((4 : Nat) : Int)) (by omega)]
 rw [VG (by show 3 ≤ maxLen; unfold maxLen; omega)]
 simp only [Qt,List.length_append,List.length_nil,ha,hb,hc]
 simp [QV]
theorem Wg {o c : List Int} {n : Int} (ho : o.length ≤ 100) (hc : c.length ≤ 100) (io : ∀ x ∈ o,okX x) (ic : ∀ x ∈ c,okX x) : Q6 o c n = some (G3 o c n):=by
 rw [Q6,JF (by omega) io,JF (by omega) ic,QaV]
 simp only [Option.bind_some]
 rw [Qip (Jy _) (Jy _) (G2 _)]
 rfl
def Qc1 (o c : List Int) (n : Int) : Bool:=decide (1 ≤ o.length) && (decide (o.length ≤ 100) && (decide (c.length ≤ 100) && (decide (0 ≤ n) && decide (n ≤ 1000000000))))
theorem Qc2 (o c : List Int) (n : Int) : Js o c n = Qc1 o c n:=by
 unfold Js Qc1
 have e1 : decide ((1 : Int) ≤ (o.length : Int)) = decide (1 ≤ o.length):=by rw [decide_eq_decide]; omega
 have e2 : decide ((o.length : Int) ≤ 100) = decide (o.length ≤ 100):=by rw [decide_eq_decide]; omega
 have e3 : decide ((c.length : Int) ≤ 100) = decide (c.length ≤ 100):=by rw [decide_eq_decide]; omega
 rw [e1,e2,e3]
 cases decide (1 ≤ o.length) <;> cases decide (o.length ≤ 100) <;> cases decide (c.length ≤ 100) <;> cases decide (0 ≤ n) <;> rfl
theorem Qf8 (o c : List Int) (n : Int) : ZJ o c n = Qc1 o c n:=Qc2 o c n
def Qc3 (s : Int) (o c : List Int) (n : Int) : Jx:=bif QN s && Qc1 o c n then (o,n,QiP s (G3 o c n)) else (([] : List Int),0,0,0)
theorem QgV {s : Int} {o c : List Int} {n : Int} (io : ∀ x ∈ o,okX x) (ic : ∀ x ∈ c,okX x) : QR s o c n = some (Qc3 s o c n) ∧ QS s o c n = some (Qc3 s o c n):=by
 rw [QR,QS,Qc2,Qf8,Qc3,show J2 s = QN s from rfl]
 cases hs : QN s with
 | false=>exact ⟨rfl,rfl⟩
 | true =>
 cases ha : Qc1 o c n with
 | false=>exact ⟨rfl,rfl⟩
 | true =>
 have h1 : 1 ≤ s ∧ s < 1073741789:=by
  unfold QN at hs
  by_cases a : (1 : Int) ≤ s
  ·by_cases b : s < 1073741789
   ·exact ⟨a,b⟩
   ·rw [decide_eq_true a,decide_eq_false b] at hs; cases hs
  ·rw [decide_eq_false a] at hs; cases hs
 unfold Qc1 at ha
 simp only [Bool.and_eq_true,decide_eq_true_eq] at ha
 obtain ⟨_,a2,a3,a4,a5⟩:=ha
 simp only [Bool.not_true,cond_false,Bool.and_self,cond_true]
 rw [QbB a2 a3 io ic a4 a5,Wg a2 a3 io ic]
 simp only [Option.bind_some]
 rw [Qdx (by omega) h1.2 (by rw [QhV]; omega) (Qiy _ _ _),Qfj h1.1 h1.2 (by rw [QhV]; omega) (Qiy _ _ _)]
 exact ⟨rfl,rfl⟩
theorem QiQ {x : Int} : inK .i64 (Int.tmod (IntKind.wrap .i64 x) 1073741789) = true:=by
 have h:=Jm.1 (JZ .i64 x)
 rw [Jm]
 rw [UZ,Xc] at *
 have h1:=Int.tmod_lt_of_pos (IntKind.wrap .i64 x) (show (0 : Int) < 1073741789 by omega)
 have h2:=Int.lt_tmod_of_pos (IntKind.wrap .i64 x) (show (0 : Int) < 1073741789 by omega)
 omega
theorem QiR {o : List Int} {n a b : Int} (ho : wfD .str o) (hn : wfD I64 n) (ha : inK .i64 a = true) (hb : inK .i64 b = true) : wfD Jw (o,n,a,b):=⟨ho,hn,ha,hb⟩
theorem QgW {s : Int} {o c : List Int} {n : Int} (ho : wfD .str o) (hn : wfD I64 n) : wfD Jw (Qc3 s o c n):=by
 unfold Qc3
 cases QN s && Qc1 o c n with
 | false=>exact ⟨⟨Nat.zero_le _,fun x hx=>nomatch hx⟩,rfl,rfl,rfl⟩
 | true =>
  have hp:=QeD (kOf s (G3 o c n))
  have hk : inK .i64 (QeC (kOf s (G3 o c n))) = true:=Jm.2 (by rw [UZ,Xc]; omega)
  have hm : inK .i64 (Int.tmod (IntKind.wrap .i64 (kOf s (G3 o c n) + IntKind.wrap .i64 (Qio (QeC (kOf s (G3 o c n))) (G3 o c n) * s))) 1073741789) = true:=QiQ
  simp only [cond_true]
  exact QiR ho hn hk hm
theorem QgX {l : List Int} (h : wfD (.list U8) l) : ∀ x ∈ l,okX x:=by
 intro x hx
 have:=Jm.1 (h.2 x hx)
 rw [H9,Ua] at this
 exact this
theorem Qiq {l : List Int} (h : wfD .str l) : ∀ x ∈ l,okX x:=by
 intro x hx
 have:=Jm.1 (h.2 x hx)
 rw [H9,Ua] at this
 exact this
theorem Qbb : ∀ l : List Int,(l.map (Ty.size U8)).sum = 0
 | []=>rfl
 | x :: l=>by rw [List.map_cons,List.sum_cons,Qbb l]; rfl
theorem Wh (a0 : Int) (a1 : List Int) (a2 : List Int) (a3 : Int) (h0 : wfD I64 a0) (h1 : wfD .str a1) (h2 : wfD (.list U8) a2) (h3 : wfD I64 a3) : Q8 a0 a1 a2 a3 = some true:=by
 rw [Q8]
 cases d0 : decide ((1048576 : Int) < (a1.length : Int)) with
 | true=>rfl
 | false =>
 cases d1 : decide ((1048576 : Int) < (a2.length : Int)) with
 | true=>rfl
 | false =>
 have d1:=of_decide_eq_false d1
 have hsz : Ty.size (.list U8) a2 = a2.length:=by
  have e : Ty.size (.list U8) a2 = a2.length + (a2.map (Ty.size U8)).sum:=rfl
  rw [e,Qbb]
  rfl
 obtain ⟨p1,p2⟩:=QgV (s:=a0) (n:=a3) (Qiq h1) (QgX h2)
 simp only [cond_false,QhD h2 (by omega),Option.bind_some,p1,p2,QcF (QgW h1 h3),QcF h2,Bool.not_true,decide_true]
end
end Go.Ab
