/-
  What the functions come to, in plain words.
-/
import Derived.Test.YtcoepmcddmnnhaaGenPassC
import Derived.Test.YtcoepmcddmnnhaaPlain1
namespace Go.Ab
open Go.Proofs
noncomputable section
def mixS (a b m x : Int) : Int := Int.tmod (a * m + x + 1 + b) 2147483579
/-- A byte taken into the four numbers. -/
def mix (s : Int × Int × Int × Int) (x : Int) : Int × Int × Int × Int :=
  let a := mixS s.1 s.2.1 1103515245 x
  let b := mixS s.2.1 s.2.2.1 69069 x
  let c := mixS s.2.2.1 s.2.2.2 1664525 x
  (a, b, c, mixS s.2.2.2 a 22695477 x)
def okQ (s : Int × Int × Int × Int) : Prop := (0 ≤ s.1 ∧ s.1 < 2147483579) ∧ (0 ≤ s.2.1 ∧ s.2.1 < 2147483579) ∧ (0 ≤ s.2.2.1 ∧ s.2.2.1 < 2147483579) ∧ (0 ≤ s.2.2.2 ∧ s.2.2.2 < 2147483579)
def okX (x : Int) : Prop := 0 ≤ x ∧ x ≤ 255
def ql (s : Int × Int × Int × Int) : List Int := [s.1, s.2.1, s.2.2.1, s.2.2.2]
theorem tmod_in {x : Int} (h : 0 ≤ x) : 0 ≤ Int.tmod x 2147483579 ∧ Int.tmod x 2147483579 < 2147483579 := by
  rw [Int.tmod_eq_emod_of_nonneg h]; omega
theorem mixS_in {a b m x : Int} (ha : 0 ≤ a) (hb : 0 ≤ b) (hm : 0 ≤ m) (hx : 0 ≤ x) : 0 ≤ mixS a b m x ∧ mixS a b m x < 2147483579 := by
  unfold mixS
  have := Int.mul_nonneg ha hm
  exact tmod_in (by omega)
theorem okQ_mix {s : Int × Int × Int × Int} {x : Int} (hs : okQ s) (hx : okX x) : okQ (mix s x) := by
  obtain ⟨⟨h1, _⟩, ⟨h2, _⟩, ⟨h3, _⟩, h4, _⟩ := hs
  have ha := mixS_in (m := 1103515245) h1 h2 (by omega) hx.1
  exact ⟨ha, mixS_in h2 h3 (by omega) hx.1, mixS_in h3 h4 (by omega) hx.1, mixS_in h4 ha.1 (by omega) hx.1⟩
theorem okQ_fold : ∀ {l : List Int} {s : Int × Int × Int × Int}, okQ s → (∀ x ∈ l, okX x) → okQ (l.foldl mix s)
  | [], _, h, _ => h
  | x :: l, s, h, hl => okQ_fold (l := l) (s := mix s x) (okQ_mix h (hl x (by simp))) (fun y hy => hl y (by simp [hy]))
/-- One round, wrapped. -/
theorem mix_w {a b x : Int} (m : Int) (ha : 0 ≤ a ∧ a < 2147483579) (hb : 0 ≤ b ∧ b < 2147483579) (hx : okX x) (hm : 0 ≤ m ∧ m ≤ 1103515245) :
    Int.tmod (IntKind.wrap .i64 ((IntKind.wrap .i64 ((IntKind.wrap .i64 ((IntKind.wrap .i64 (a * m)) + x)) + 1)) + b)) 2147483579 = mixS a b m x := by
  have h1 := Int.mul_nonneg ha.1 hm.1
  have h2 : a * m ≤ 2147483579 * 1103515245 := Int.mul_le_mul (by omega) hm.2 hm.1 (by omega)
  unfold okX at hx
  rw [wrap64 (x := a * m) (by omega), wrap64 (x := a * m + x) (by omega), wrap64 (x := a * m + x + 1) (by omega), wrap64 (x := a * m + x + 1 + b) (by omega)]
  rfl
theorem wrap_byte {x : Int} (h : okX x) : IntKind.wrap .i64 x = x := by unfold okX at h; exact wrap64 (by omega)
theorem wm (n : Int) (h : 0 ≤ n ∧ n ≤ 10) : IntKind.wrap .i64 n = n := wrap64 (by omega)
theorem spec_mix_a {K : List Int → Option (List Int)} {x : Int} (m : Nat) {s : Int × Int × Int × Int} (hs : okQ s) (hx : okX x) :
    P_spec_l2Digest_0_2_5003 K x [1103515245, 69069, 1664525, 22695477] (m + 5) (ql s) 0 = K (ql (mix s x)) := by
  obtain ⟨h1, h2, h3, h4⟩ := hs
  have ha := mixS_in (m := 1103515245) h1.1 h2.1 (by omega) hx.1
  simp only [P_spec_l2Digest_0_2_5003, ql, rd, inB, List.length_cons, List.length_nil, List.getD, List.set, wm (0 + 1) (by omega), wm (0 + 1 + 1) (by omega), wm (0 + 1 + 1 + 1) (by omega), wm (0 + 1 + 1 + 1 + 1) (by omega)]
  simp [mix_w 1103515245 h1 h2 hx (by omega), mix_w 69069 h2 h3 hx (by omega), mix_w 1664525 h3 h4 hx (by omega), mix_w 22695477 h4 ha hx (by omega), mix]
theorem spec_mix_b {K : List Int → Option (List Int)} {x : Int} (m : Nat) {s : Int × Int × Int × Int} (hs : okQ s) (hx : okX x) :
    P_spec_l2Digest_0_2_10003 K x [1103515245, 69069, 1664525, 22695477] (m + 5) (ql s) 0 = K (ql (mix s x)) := by
  obtain ⟨h1, h2, h3, h4⟩ := hs
  have ha := mixS_in (m := 1103515245) h1.1 h2.1 (by omega) hx.1
  simp only [P_spec_l2Digest_0_2_10003, ql, rd, inB, List.length_cons, List.length_nil, List.getD, List.set, wm (0 + 1) (by omega), wm (0 + 1 + 1) (by omega), wm (0 + 1 + 1 + 1) (by omega), wm (0 + 1 + 1 + 1 + 1) (by omega)]
  simp [mix_w 1103515245 h1 h2 hx (by omega), mix_w 69069 h2 h3 hx (by omega), mix_w 1664525 h3 h4 hx (by omega), mix_w 22695477 h4 ha hx (by omega), mix]
theorem spec_mix_c {K : List Int → Int → Option (List Int)} (j : Int) (m : Nat) {s : Int × Int × Int × Int} (hs : okQ s) :
    P_spec_l2Digest_0_2_15001 K j [1103515245, 69069, 1664525, 22695477] (m + 5) (ql s) 0 = K (ql (mix s 0)) (IntKind.wrap .i64 (j + 1)) := by
  obtain ⟨h1, h2, h3, h4⟩ := hs
  have hx : okX 0 := ⟨by omega, by omega⟩
  have ha := mixS_in (m := 1103515245) h1.1 h2.1 (by omega) hx.1
  simp only [P_spec_l2Digest_0_2_15001, ql, rd, inB, List.length_cons, List.length_nil, List.getD, List.set, wm (0 + 1) (by omega), wm (0 + 1 + 1) (by omega), wm (0 + 1 + 1 + 1) (by omega), wm (0 + 1 + 1 + 1 + 1) (by omega)]
  have k1 := mix_w 1103515245 h1 h2 hx (by omega)
  have k2 := mix_w 69069 h2 h3 hx (by omega)
  have k3 := mix_w 1664525 h3 h4 hx (by omega)
  have k4 := mix_w 22695477 h4 ha hx (by omega)
  simp only [Int.add_zero] at k1 k2 k3 k4
  simp [k1, k2, k3, k4, mix]
theorem impl_mix_a {K : Int → Int → Int → Int → Option (List Int)} {x : Int} (m : Nat) {s : Int × Int × Int × Int} (hs : okQ s) (hx : okX x) :
    P_impl_Digest_0_1_9002 K x 1103515245 69069 1664525 22695477 (m + 5) 0 s.1 s.2.1 s.2.2.1 s.2.2.2 = K (mix s x).1 (mix s x).2.1 (mix s x).2.2.1 (mix s x).2.2.2 := by
  obtain ⟨h1, h2, h3, h4⟩ := hs
  have ha := mixS_in (m := 1103515245) h1.1 h2.1 (by omega) hx.1
  simp only [P_impl_Digest_0_1_9002, rd, inB, List.getD, wrap_byte hx, wm (0 + 1) (by omega), wm (0 + 1 + 1) (by omega), wm (0 + 1 + 1 + 1) (by omega), wm (0 + 1 + 1 + 1 + 1) (by omega)]
  simp [mix_w 1103515245 h1 h2 hx (by omega), mix_w 69069 h2 h3 hx (by omega), mix_w 1664525 h3 h4 hx (by omega), mix_w 22695477 h4 ha hx (by omega), mix]
theorem impl_mix_b {K : Int → Int → Int → Int → Option (List Int)} {x : Int} (m : Nat) {s : Int × Int × Int × Int} (hs : okQ s) (hx : okX x) :
    P_impl_Digest_0_1_14002 K x 1103515245 69069 1664525 22695477 (m + 5) 0 s.1 s.2.1 s.2.2.1 s.2.2.2 = K (mix s x).1 (mix s x).2.1 (mix s x).2.2.1 (mix s x).2.2.2 := by
  obtain ⟨h1, h2, h3, h4⟩ := hs
  have ha := mixS_in (m := 1103515245) h1.1 h2.1 (by omega) hx.1
  simp only [P_impl_Digest_0_1_14002, rd, inB, List.getD, wrap_byte hx, wm (0 + 1) (by omega), wm (0 + 1 + 1) (by omega), wm (0 + 1 + 1 + 1) (by omega), wm (0 + 1 + 1 + 1 + 1) (by omega)]
  simp [mix_w 1103515245 h1 h2 hx (by omega), mix_w 69069 h2 h3 hx (by omega), mix_w 1664525 h3 h4 hx (by omega), mix_w 22695477 h4 ha hx (by omega), mix]
theorem impl_mix_c {K : Int → Int → Int → Int → Int → Option (List Int)} (j : Int) (m : Nat) {s : Int × Int × Int × Int} (hs : okQ s) :
    P_impl_Digest_0_1_18001 K j 1103515245 69069 1664525 22695477 (m + 5) 0 s.1 s.2.1 s.2.2.1 s.2.2.2 = K (IntKind.wrap .i64 (j + 1)) (mix s 0).1 (mix s 0).2.1 (mix s 0).2.2.1 (mix s 0).2.2.2 := by
  obtain ⟨h1, h2, h3, h4⟩ := hs
  have hx : okX 0 := ⟨by omega, by omega⟩
  have ha := mixS_in (m := 1103515245) h1.1 h2.1 (by omega) hx.1
  simp only [P_impl_Digest_0_1_18001, rd, inB, List.getD, wrap_byte hx, wm (0 + 1) (by omega), wm (0 + 1 + 1) (by omega), wm (0 + 1 + 1 + 1) (by omega), wm (0 + 1 + 1 + 1 + 1) (by omega)]
  have k1 := mix_w 1103515245 h1 h2 hx (by omega)
  have k2 := mix_w 69069 h2 h3 hx (by omega)
  have k3 := mix_w 1664525 h3 h4 hx (by omega)
  have k4 := mix_w 22695477 h4 ha hx (by omega)
  simp only [Int.add_zero] at k1 k2 k3 k4
  simp [k1, k2, k3, k4, mix]
/-- A number's four bytes. -/
def b4 (n : Int) : List Int := T_impl_ybytes n
theorem b4_len (n : Int) : (b4 n).length = 4 := rfl
theorem u8_in (y : Int) : okX (IntKind.wrap .u8 y) := by
  have h := inK_iff.1 (inK_wrap .u8 y)
  rw [min_u8, max_u8] at h
  exact h
theorem b4_in (n : Int) : ∀ x ∈ b4 n, okX x := by
  intro x hx
  unfold b4 T_impl_ybytes at hx
  simp only [List.mem_cons, List.not_mem_nil, or_false] at hx
  rcases hx with rfl | rfl | rfl | rfl <;> exact u8_in _
theorem u8_mod (x : Int) : IntKind.wrap .u8 x = x % 256 := by
  unfold IntKind.wrap
  rw [if_neg (by simp [IntKind.signed])]
  rfl
theorem b4_eq {n : Int} (h0 : 0 ≤ n) (h1 : n < 4294967296) : b4 n = [n % 256, n / 256 % 256, n / 65536 % 256, n / 16777216 % 256] := by
  unfold b4 T_impl_ybytes
  rw [u8_mod, u8_mod, u8_mod, u8_mod]
  have e1 : Int.fdiv n (2 ^ min (Int.toNat 8) 64) = n / 256 := by rw [Int.fdiv_eq_ediv_of_nonneg _ (by decide)]; rfl
  have e2 : Int.fdiv n (2 ^ min (Int.toNat 16) 64) = n / 65536 := by rw [Int.fdiv_eq_ediv_of_nonneg _ (by decide)]; rfl
  have e3 : Int.fdiv n (2 ^ min (Int.toNat 24) 64) = n / 16777216 := by rw [Int.fdiv_eq_ediv_of_nonneg _ (by decide)]; rfl
  rw [e1, e2, e3]
theorem l2_step {n : Int} (h0 : 0 ≤ n) : IntKind.wrap .u8 (Int.tmod n 256) = n % 256 := by
  rw [Int.tmod_eq_emod_of_nonneg h0, u8_mod]; omega
theorem l2_div {n : Int} (h0 : 0 ≤ n) (h1 : n < 4294967296) : IntKind.wrap .i64 (Int.tdiv n 256) = n / 256 := by
  rw [Int.tdiv_eq_ediv_of_nonneg h0, wrap64 (by omega)]
theorem p_spec_l2Bytes {n : Int} (h0 : 0 ≤ n) (h1 : n < 4294967296) : E_spec_l2Bytes n = some (b4 n) := by
  refine evOpt_of ⟨5, fun m hm => ?_⟩
  obtain ⟨k, rfl⟩ : ∃ k, m = k + 5 := ⟨m - 5, by omega⟩
  show P_spec_l2Bytes (k + 5) n = some (b4 n)
  have d1 : 0 ≤ n / 256 ∧ n / 256 < 4294967296 := by omega
  have d2 : 0 ≤ n / 256 / 256 ∧ n / 256 / 256 < 4294967296 := by omega
  have d3 : 0 ≤ n / 256 / 256 / 256 ∧ n / 256 / 256 / 256 < 4294967296 := by omega
  unfold P_spec_l2Bytes
  have c : (true && true && decide ((4 : Int) * 1 ≤ room) && true) = true := by rw [room_eq]; decide
  rw [c]
  simp only [cond_true, P_spec_l2Bytes_0_3, inB, List.length_replicate, List.length_set, l2_step h0, l2_div h0 h1, l2_step d1.1, l2_div d1.1 d1.2, l2_step d2.1, l2_div d2.1 d2.2, l2_step d3.1, l2_div d3.1 d3.2, wm (0 + 1) (by omega), wm (0 + 1 + 1) (by omega), wm (0 + 1 + 1 + 1) (by omega), wm (0 + 1 + 1 + 1 + 1) (by omega)]
  rw [b4_eq h0 h1]
  have e2 : n / 256 / 256 = n / 65536 := by omega
  have e3 : n / 256 / 256 / 256 = n / 16777216 := by omega
  have e4 : n / 65536 / 256 = n / 16777216 := by omega
  simp [e2, e3, e4, List.replicate]
/-- The digest of some bytes. -/
def fin8 (s : Int × Int × Int × Int) : Int × Int × Int × Int := mix (mix (mix (mix (mix (mix (mix (mix s 0) 0) 0) 0) 0) 0) 0) 0
def outQ (s : Int × Int × Int × Int) : List Int := b4 s.1 ++ b4 s.2.1 ++ b4 s.2.2.1 ++ b4 s.2.2.2
def dig (l : List Int) : List Int := outQ (fin8 ((b4 l.length).foldl mix (l.foldl mix (11, 22, 33, 44))))
theorem dig_len (l : List Int) : (dig l).length = 16 := rfl
theorem dig_in (l : List Int) : ∀ x ∈ dig l, okX x := by
  intro x hx
  unfold dig outQ at hx
  simp only [List.mem_append] at hx
  rcases hx with ((h | h) | h) | h <;> exact b4_in _ x h
theorem okQ_start : okQ (11, 22, 33, 44) := by unfold okQ; decide
theorem okQ_fin8 {s : Int × Int × Int × Int} (h : okQ s) : okQ (fin8 s) := by
  have z : okX 0 := ⟨by omega, by omega⟩
  exact okQ_mix (okQ_mix (okQ_mix (okQ_mix (okQ_mix (okQ_mix (okQ_mix (okQ_mix h z) z) z) z) z) z) z) z
theorem spec_out {s : Int × Int × Int × Int} (h : okQ s) : P_spec_l2Digest_0_18 (ql s) [] = some (outQ s) := by
  obtain ⟨h1, h2, h3, h4⟩ := h
  simp only [ql, P_spec_l2Digest_0_18, p_spec_l2Bytes h1.1 (by omega), p_spec_l2Bytes h2.1 (by omega), p_spec_l2Bytes h3.1 (by omega), p_spec_l2Bytes h4.1 (by omega), Option.bind_some, List.length_append, List.length_nil, b4_len]
  simp [room_eq, outQ]
theorem spec_8 {s : Int × Int × Int × Int} (h : okQ s) (m : Nat) : P_spec_l2Digest_0_13 (m + 14) (ql s) 0 = some (outQ (fin8 s)) := by
  have z : okX 0 := ⟨by omega, by omega⟩
  have step : ∀ (s : Int × Int × Int × Int) (j : Int) (n : Nat), okQ s → 0 ≤ j → j < 8 → P_spec_l2Digest_0_13 (n + 6) (ql s) j = P_spec_l2Digest_0_13 (n + 5) (ql (mix s 0)) (j + 1) := by
    intro s j n hs h0 h8
    rw [P_spec_l2Digest_0_13, decide_eq_true h8]
    simp only [cond_true]
    rw [spec_mix_c j n hs, wrap64 (x := j + 1) (by omega)]
  have o1 := okQ_mix h z
  have o2 := okQ_mix o1 z
  have o3 := okQ_mix o2 z
  have o4 := okQ_mix o3 z
  have o5 := okQ_mix o4 z
  have o6 := okQ_mix o5 z
  have o7 := okQ_mix o6 z
  rw [step s 0 (m + 8) h (by omega) (by omega), step _ (0 + 1) (m + 7) o1 (by omega) (by omega), step _ (0 + 1 + 1) (m + 6) o2 (by omega) (by omega), step _ (0 + 1 + 1 + 1) (m + 5) o3 (by omega) (by omega),
    step _ (0 + 1 + 1 + 1 + 1) (m + 4) o4 (by omega) (by omega), step _ (0 + 1 + 1 + 1 + 1 + 1) (m + 3) o5 (by omega) (by omega), step _ (0 + 1 + 1 + 1 + 1 + 1 + 1) (m + 2) o6 (by omega) (by omega), step _ (0 + 1 + 1 + 1 + 1 + 1 + 1 + 1) (m + 1) o7 (by omega) (by omega)]
  rw [P_spec_l2Digest_0_13, decide_eq_false (by omega)]
  simp only [cond_false]
  rw [lenOk_pos (by show (4 : Nat) ≤ maxLen; unfold maxLen; omega)]
  exact spec_out (okQ_fin8 h)
theorem spec_b (m : Nat) : ∀ (l : List Int) (s : Int × Int × Int × Int), okQ s → (∀ x ∈ l, okX x) → P_spec_l2Digest_0_8 (m + 14) l (ql s) = some (outQ (fin8 (l.foldl mix s)))
  | [], s, h, _ => by rw [P_spec_l2Digest_0_8, spec_8 h, List.foldl_nil]
  | x :: l, s, h, hl => by
    have hx := hl x (by simp)
    rw [P_spec_l2Digest_0_8, wrap_byte hx, spec_mix_b (m + 9) h hx, List.foldl_cons]
    exact spec_b m l (mix s x) (okQ_mix h hx) (fun y hy => hl y (by simp [hy]))
theorem spec_aA {xs : List Int} (hn : xs.length ≤ 3000000) : E_spec_l2Bytes (xs.length : Int) = some (b4 (xs.length : Int)) := p_spec_l2Bytes (n := (xs.length : Int)) (by omega) (by omega)
theorem spec_aB {xs : List Int} : (b4 (xs.length : Int)).length ≤ maxLen := by rw [b4_len]; unfold maxLen; omega
theorem spec_aC (m : Nat) {xs y : List Int} {s : Int × Int × Int × Int} (h : okQ s) (e : E_spec_l2Bytes (xs.length : Int) = some y) (hb : ∀ x ∈ y, okX x) (hb4 : y.length ≤ maxLen) : P_spec_l2Digest_0_3 (m + 14) xs [] (ql s) = some (outQ (fin8 (y.foldl mix s))) := by
  rw [P_spec_l2Digest_0_3, e]
  simp only [Option.bind_some]
  rw [lenOk_pos hb4, spec_b m y s h hb]
theorem spec_a0 (m : Nat) {xs : List Int} (hn : xs.length ≤ 3000000) {s : Int × Int × Int × Int} (h : okQ s) : P_spec_l2Digest_0_3 (m + 14) xs [] (ql s) = some (outQ (fin8 ((b4 (xs.length : Int)).foldl mix s))) := spec_aC m h (spec_aA hn) (b4_in _) spec_aB
theorem spec_a1 (m : Nat) {xs : List Int} {x : Int} {l : List Int} {s : Int × Int × Int × Int} (h : okQ s) (hx : okX x) : P_spec_l2Digest_0_3 (m + 14) xs (x :: l) (ql s) = P_spec_l2Digest_0_3 (m + 14) xs l (ql (mix s x)) := by
  rw [P_spec_l2Digest_0_3, wrap_byte hx, spec_mix_a (m + 9) h hx]
theorem spec_a (m : Nat) {xs : List Int} (hn : xs.length ≤ 3000000) (l : List Int) : ∀ (s : Int × Int × Int × Int), okQ s → (∀ x ∈ l, okX x) → P_spec_l2Digest_0_3 (m + 14) xs l (ql s) = some (outQ (fin8 ((b4 (xs.length : Int)).foldl mix (l.foldl mix s)))) := by
  induction l with
  | nil => intro s h _; rw [spec_a0 m hn h, List.foldl_nil]
  | cons x l ih =>
    intro s h hl
    have hx := hl x (by simp)
    rw [spec_a1 m h hx, List.foldl_cons]
    exact ih (mix s x) (okQ_mix h hx) (fun y hy => hl y (by simp [hy]))
theorem p_spec_l2Digest {l : List Int} (hn : l.length ≤ 3000000) (hl : ∀ x ∈ l, okX x) : E_spec_l2Digest l = some (dig l) := by
  refine evOpt_of ⟨14, fun m hm => ?_⟩
  obtain ⟨k, rfl⟩ : ∃ k, m = k + 14 := ⟨m - 14, by omega⟩
  show P_spec_l2Digest (k + 14) l = some (dig l)
  unfold P_spec_l2Digest
  rw [lenOk_pos (by unfold maxLen; omega)]
  exact spec_a k hn l (11, 22, 33, 44) okQ_start hl
theorem impl_out {s : Int × Int × Int × Int} (m : Nat) : P_impl_Digest_0_22 s.1 s.2.1 s.2.2.1 s.2.2.2 (m + 5) [] 0 = some (outQ s) := by
  have e : ∀ n, T_impl_ybytes n = b4 n := fun _ => rfl
  simp only [P_impl_Digest_0_22, rd, inB, List.getD, wm (0 + 1) (by omega), wm (0 + 1 + 1) (by omega), wm (0 + 1 + 1 + 1) (by omega), wm (0 + 1 + 1 + 1 + 1) (by omega), e, List.length_append, List.length_nil, b4_len]
  simp [room_eq, outQ]
theorem impl_8 {s : Int × Int × Int × Int} (h : okQ s) (m : Nat) : P_impl_Digest_0_17 1103515245 69069 1664525 22695477 (m + 14) 0 s.1 s.2.1 s.2.2.1 s.2.2.2 = some (outQ (fin8 s)) := by
  have z : okX 0 := ⟨by omega, by omega⟩
  have step : ∀ (s : Int × Int × Int × Int) (j : Int) (n : Nat), okQ s → 0 ≤ j → j < 8 → P_impl_Digest_0_17 1103515245 69069 1664525 22695477 (n + 6) j s.1 s.2.1 s.2.2.1 s.2.2.2 = P_impl_Digest_0_17 1103515245 69069 1664525 22695477 (n + 5) (j + 1) (mix s 0).1 (mix s 0).2.1 (mix s 0).2.2.1 (mix s 0).2.2.2 := by
    intro s j n hs h0 h8
    rw [P_impl_Digest_0_17, decide_eq_true h8]
    simp only [cond_true]
    rw [impl_mix_c j n hs, wrap64 (x := j + 1) (by omega)]
  have o1 := okQ_mix h z
  have o2 := okQ_mix o1 z
  have o3 := okQ_mix o2 z
  have o4 := okQ_mix o3 z
  have o5 := okQ_mix o4 z
  have o6 := okQ_mix o5 z
  have o7 := okQ_mix o6 z
  rw [step s 0 (m + 8) h (by omega) (by omega), step _ (0 + 1) (m + 7) o1 (by omega) (by omega), step _ (0 + 1 + 1) (m + 6) o2 (by omega) (by omega), step _ (0 + 1 + 1 + 1) (m + 5) o3 (by omega) (by omega),
    step _ (0 + 1 + 1 + 1 + 1) (m + 4) o4 (by omega) (by omega), step _ (0 + 1 + 1 + 1 + 1 + 1) (m + 3) o5 (by omega) (by omega), step _ (0 + 1 + 1 + 1 + 1 + 1 + 1) (m + 2) o6 (by omega) (by omega), step _ (0 + 1 + 1 + 1 + 1 + 1 + 1 + 1) (m + 1) o7 (by omega) (by omega)]
  rw [P_impl_Digest_0_17, decide_eq_false (by omega)]
  simp only [cond_false]
  exact impl_out (s := fin8 s) m
theorem impl_b (m : Nat) : ∀ (l : List Int) (s : Int × Int × Int × Int), okQ s → (∀ x ∈ l, okX x) → P_impl_Digest_0_12 (m + 14) 1103515245 69069 1664525 22695477 l s.1 s.2.1 s.2.2.1 s.2.2.2 = some (outQ (fin8 (l.foldl mix s)))
  | [], s, h, _ => by rw [P_impl_Digest_0_12, impl_8 h, List.foldl_nil]
  | x :: l, s, h, hl => by
    have hx := hl x (by simp)
    rw [P_impl_Digest_0_12, impl_mix_b (m + 9) h hx, List.foldl_cons]
    exact impl_b m l (mix s x) (okQ_mix h hx) (fun y hy => hl y (by simp [hy]))
theorem impl_a (m : Nat) {xs : List Int} : ∀ (l : List Int) (s : Int × Int × Int × Int), okQ s → (∀ x ∈ l, okX x) → P_impl_Digest_0_7 (m + 14) xs l s.1 s.2.1 s.2.2.1 s.2.2.2 = some (outQ (fin8 ((b4 xs.length).foldl mix (l.foldl mix s))))
  | [], s, h, _ => by
    rw [P_impl_Digest_0_7, lenOk_pos (by show (4 : Nat) ≤ maxLen; unfold maxLen; omega)]
    rw [List.foldl_nil]
    exact impl_b m (b4 xs.length) s h (b4_in _)
  | x :: l, s, h, hl => by
    have hx := hl x (by simp)
    rw [P_impl_Digest_0_7, impl_mix_a (m + 9) h hx, List.foldl_cons]
    exact impl_a m l (mix s x) (okQ_mix h hx) (fun y hy => hl y (by simp [hy]))
theorem p_impl_Digest {l : List Int} (hn : l.length ≤ 20000) (hl : ∀ x ∈ l, okX x) : E_impl_Digest l = some (dig l) := by
  refine evOpt_of ⟨14, fun m hm => ?_⟩
  obtain ⟨k, rfl⟩ : ∃ k, m = k + 14 := ⟨m - 14, by omega⟩
  show P_impl_Digest (k + 14) l = some (dig l)
  unfold P_impl_Digest
  rw [decide_eq_false (by omega)]
  simp only [cond_false]
  rw [lenOk_pos (by unfold maxLen; omega)]
  exact impl_a k l (11, 22, 33, 44) okQ_start hl
def mac (k d : List Int) : List Int := dig (dig k ++ dig d)
theorem mac_len (k d : List Int) : (mac k d).length = 16 := rfl
theorem mac_in (k d : List Int) : ∀ x ∈ mac k d, okX x := dig_in _
theorem two_in (k d : List Int) : ∀ x ∈ dig k ++ dig d, okX x := by
  intro x hx
  rcases List.mem_append.1 hx with h | h <;> exact dig_in _ x h
theorem two_len (k d : List Int) : (dig k ++ dig d).length = 32 := by rw [List.length_append, dig_len, dig_len]
theorem p_spec_l2Mac {k d : List Int} (hk : k.length ≤ 3000000) (hd : d.length ≤ 3000000) (ik : ∀ x ∈ k, okX x) (id_ : ∀ x ∈ d, okX x) : P_spec_l2Mac k d = some (mac k d) := by
  rw [P_spec_l2Mac, p_spec_l2Digest hk ik, p_spec_l2Digest hd id_]
  simp only [Option.bind_some]
  rw [P_spec_l2Two, dig_len, dig_len, decide_eq_true (show (((16 : Nat) : Int)) * 1 ≤ room by rw [room_eq]; omega), decide_eq_true (show ((16 : Nat) : Int) ≤ room by rw [room_eq]; omega),
    decide_eq_true (show (((16 : Nat) : Int) + ((16 : Nat) : Int)) * 1 ≤ room by rw [room_eq]; omega), decide_eq_true (show ((16 : Nat) : Int) + ((16 : Nat) : Int) ≤ room by rw [room_eq]; omega), p_spec_l2Digest (by rw [two_len]; omega) (two_in k d)]
  rfl
theorem p_impl_Mac {k d : List Int} (hk : k.length ≤ 20000) (hd : d.length ≤ 20000) (ik : ∀ x ∈ k, okX x) (id_ : ∀ x ∈ d, okX x) : P_impl_Mac k d = some (mac k d) := by
  rw [P_impl_Mac, decide_eq_false (by omega), decide_eq_false (by omega)]
  simp only [cond_false]
  rw [P_impl_Mac_1_2, p_impl_Digest hk ik, p_impl_Digest hd id_]
  simp only [Option.bind_some, cond_false]
  rw [dig_len, dig_len, decide_eq_true (show (((16 : Nat) : Int) + ((16 : Nat) : Int)) * 1 ≤ room by rw [room_eq]; omega), decide_eq_true (show ((16 : Nat) : Int) + ((16 : Nat) : Int) ≤ room by rw [room_eq]; omega), p_impl_Digest (by rw [two_len]; omega) (two_in k d)]
  rfl
def macs (p : List Int) : Nat → List Int → List Int
  | 0, h => h
  | n + 1, h => macs p n (mac p h)
theorem macs_in (p : List Int) : ∀ (n : Nat) {h : List Int}, h.length = 16 → (∀ x ∈ h, okX x) → (macs p n h).length = 16 ∧ ∀ x ∈ macs p n h, okX x
  | 0, _, h1, h2 => ⟨h1, h2⟩
  | n + 1, h, _, _ => macs_in p n (mac_len p h) (mac_in p h)
theorem spec_rounds {p : List Int} (hp : p.length ≤ 64) (ip : ∀ x ∈ p, okX x) {R : Int} (hR : R ≤ 1000) : ∀ (n m : Nat) (j : Int) (h : List Int), h.length = 16 → (∀ x ∈ h, okX x) → 0 ≤ j → R - j = n → n < m → P_spec_l16Hash_0_4 R p m h j = some (macs p n h)
  | 0, 0, _, _, _, _, _, _, hm => by omega
  | 0, m + 1, j, h, _, _, _, hj, _ => by
    rw [P_spec_l16Hash_0_4, decide_eq_false (by omega)]; rfl
  | n + 1, 0, _, _, _, _, _, _, hm => by omega
  | n + 1, m + 1, j, h, h1, h2, h0, hj, hm => by
    rw [P_spec_l16Hash_0_4, decide_eq_true (by omega), p_spec_l2Mac (by omega) (by omega) ip h2]
    simp only [cond_true, Option.bind_some]
    rw [wrap64 (x := j + 1) (by omega)]
    exact spec_rounds hp ip hR n m (j + 1) _ (mac_len p h) (mac_in p h) (by omega) (by omega) (by omega)
theorem bytes_ok {l : List Int} (h : wfD (.list U8) l) : ∀ x ∈ l, okX x := by
  intro x hx
  have := inK_iff.1 (h.2 x hx)
  rw [min_u8, max_u8] at this
  exact this
theorem str_ok {l : List Int} (h : wfD .str l) : ∀ x ∈ l, okX x := by
  intro x hx
  have := inK_iff.1 (h.2 x hx)
  rw [min_u8, max_u8] at this
  exact this
def passHash (p s : List Int) (R : Int) : List Int := bif decide (p.length ≤ 64) && (decide (s.length ≤ 64) && (decide (1 ≤ R) && decide (R ≤ 1000))) then macs p (R - 1).toNat (mac p s) else []
theorem p_spec_PassHash {p s : List Int} (ip : ∀ x ∈ p, okX x) (is : ∀ x ∈ s, okX x) (R : Int) : P_spec_PassHash p s R = some (passHash p s R) := by
  rw [P_spec_PassHash, passHash]
  by_cases h1 : p.length ≤ 64
  case neg => rw [decide_eq_true (by omega), decide_eq_false h1]; rfl
  by_cases h2 : s.length ≤ 64
  case neg => rw [decide_eq_false (by omega), decide_eq_true (by omega), decide_eq_false h2, decide_eq_true h1]; rfl
  by_cases h3 : 1 ≤ R
  case neg => rw [decide_eq_false (by omega), decide_eq_false (by omega), decide_eq_true (by omega), decide_eq_true h1, decide_eq_true h2, decide_eq_false h3]; rfl
  by_cases h4 : R ≤ 1000
  case neg => rw [decide_eq_false (by omega), decide_eq_false (by omega), decide_eq_false (by omega), decide_eq_true (by omega), decide_eq_true h1, decide_eq_true h2, decide_eq_true h3, decide_eq_false h4]; rfl
  rw [decide_eq_false (by omega), decide_eq_false (by omega), decide_eq_false (by omega), decide_eq_false (by omega), decide_eq_true h1, decide_eq_true h2, decide_eq_true h3, decide_eq_true h4]
  simp only [cond_false, cond_true, Bool.and_self]
  have e : E_spec_l16Hash p s R = some (macs p (R - 1).toNat (mac p s)) := by
    refine evOpt_of ⟨1001, fun m hm => ?_⟩
    show P_spec_l16Hash m p s R = _
    rw [P_spec_l16Hash, p_spec_l2Mac (by omega) (by omega) ip is]
    simp only [Option.bind_some]
    exact spec_rounds h1 ip h4 (R - 1).toNat m 1 _ (mac_len p s) (mac_in p s) (by omega) (by omega) (by omega)
  rw [e]
  rfl
theorem passHash_in (p s : List Int) (R : Int) : (passHash p s R).length ≤ 16 ∧ ∀ x ∈ passHash p s R, okX x := by
  unfold passHash
  cases decide (p.length ≤ 64) && (decide (s.length ≤ 64) && (decide (1 ≤ R) && decide (R ≤ 1000))) with
  | true => obtain ⟨k1, k2⟩ := macs_in p (R - 1).toNat (mac_len p s) (mac_in p s); exact ⟨by simp only [cond_true]; omega, k2⟩
  | false => exact ⟨by simp, by simp⟩
theorem check_rounds {p : List Int} (hp : p.length ≤ 64) (ip : ∀ x ∈ p, okX x) {R : Int} (hR : R ≤ 1000) (st : DStored) (hst : st.2.2.length ≤ 1048576) : ∀ (n m : Nat) (j : Int) (h : List Int), h.length = 16 → (∀ x ∈ h, okX x) → 0 ≤ j → R - j = n → n < m → P_impl_PassCheck_0_5_1005 p R st m h j = some (decide (macs p n h = st.2.2))
  | 0, 0, _, _, _, _, _, _, hm => by omega
  | 0, m + 1, j, h, h1, _, _, hj, _ => by
    rw [P_impl_PassCheck_0_5_1005, decide_eq_false (by omega), decide_eq_true (by omega), P_bytes_Equal, decide_eq_true (by rw [room_eq]; omega), decide_eq_true (by rw [room_eq]; omega)]
    rfl
  | n + 1, 0, _, _, _, _, _, _, hm => by omega
  | n + 1, m + 1, j, h, h1, h2, h0, hj, hm => by
    rw [P_impl_PassCheck_0_5_1005, decide_eq_true (by omega), p_impl_Mac (by omega) (by omega) ip h2]
    simp only [cond_true, Option.bind_some]
    rw [wrap64 (x := j + 1) (by omega)]
    exact check_rounds hp ip hR st hst n m (j + 1) _ (mac_len p h) (mac_in p h) (by omega) (by omega) (by omega)
def passCheck (st : DStored) (p : List Int) : Bool := decide (0 < (passHash p st.1 st.2.1).length) && decide (passHash p st.1 st.2.1 = st.2.2)
theorem p_spec_PassCheck {st : DStored} {p : List Int} (ip : ∀ x ∈ p, okX x) (is : ∀ x ∈ st.1, okX x) (hst : st.2.2.length ≤ 1048576) : P_spec_PassCheck st p = some (passCheck st p) := by
  obtain ⟨k1, _⟩ := passHash_in p st.1 st.2.1
  rw [P_spec_PassCheck, p_spec_PassHash ip is, passCheck]
  simp only [Option.bind_some]
  rw [decide_eq_true (show ((passHash p st.1 st.2.1).length : Int) ≤ room by rw [room_eq]; omega), decide_eq_true (show (st.2.2.length : Int) ≤ room by rw [room_eq]; omega)]
  have : decide ((0 : Int) < ((passHash p st.1 st.2.1).length : Int)) = decide (0 < (passHash p st.1 st.2.1).length) := by rw [decide_eq_decide]; omega
  rw [this]
  cases decide (0 < (passHash p st.1 st.2.1).length) <;> rfl
theorem p_impl_PassCheck {st : DStored} {p : List Int} (ip : ∀ x ∈ p, okX x) (is : ∀ x ∈ st.1, okX x) (hst : st.2.2.length ≤ 1048576) : E_impl_PassCheck st p = some (passCheck st p) := by
  refine evOpt_of ⟨1001, fun m hm => ?_⟩
  show P_impl_PassCheck m st p = _
  rw [P_impl_PassCheck, passCheck, passHash]
  have no : ∀ R, P_impl_PassCheck_1_2_1005 m p st.1 R true st = some false := fun R => by rw [P_impl_PassCheck_1_2_1005]; rfl
  simp only [no]
  by_cases h1 : p.length ≤ 64
  case neg => rw [decide_eq_true (by omega), decide_eq_false h1]; rfl
  by_cases h2 : st.1.length ≤ 64
  case neg => rw [decide_eq_false (by omega), decide_eq_true (by omega), decide_eq_false h2, decide_eq_true h1]; rfl
  by_cases h3 : 1 ≤ st.2.1
  case neg => rw [decide_eq_false (by omega), decide_eq_false (by omega), decide_eq_true (by omega), decide_eq_true h1, decide_eq_true h2, decide_eq_false h3]; rfl
  by_cases h4 : st.2.1 ≤ 1000
  case neg => rw [decide_eq_false (by omega), decide_eq_false (by omega), decide_eq_false (by omega), decide_eq_true (by omega), decide_eq_true h1, decide_eq_true h2, decide_eq_true h3, decide_eq_false h4]; simp only [no]; rfl
  rw [decide_eq_false (by omega), decide_eq_false (by omega), decide_eq_false (by omega), decide_eq_false (by omega), decide_eq_true h1, decide_eq_true h2, decide_eq_true h3, decide_eq_true h4]
  simp only [cond_false, cond_true, Bool.and_self]
  rw [P_impl_PassCheck_1_2_1005, p_impl_Mac (by omega) (by omega) ip is]
  simp only [cond_false, Option.bind_some]
  rw [wrap64 (x := st.2.1 - 1) (by omega), check_rounds h1 ip (by omega) st hst (st.2.1 - 1).toNat m 0 _ (mac_len p st.1) (mac_in p st.1) (by omega) (by omega) (by omega)]
  obtain ⟨k1, _⟩ := macs_in p (st.2.1 - 1).toNat (mac_len p st.1) (mac_in p st.1)
  rw [k1]
  rfl
theorem law_PassCheck (a0 : DStored) (a1 : List Int) (h0 : wfD TyStored a0) (h1 : wfD .str a1) : P_laws_FnExactPassCheck a0 a1 = some true := by
  rw [P_laws_FnExactPassCheck]
  cases d0 : decide ((1048576 : Int) < (a1.length : Int)) with
  | true => rfl
  | false =>
  have d0 := of_decide_eq_false d0
  rw [szC_some h0 (by omega) (by omega)]
  simp only [Option.bind_some, cond_false]
  cases d1 : decide (lessZ 1048576 (Ty.size TyStored a0) < 0) with
  | true => rfl
  | false =>
  obtain ⟨b1, b2, b3⟩ := bud_of d1
  have w : wfD (.list U8) a0.1 ∧ wfD I64 a0.2.1 ∧ wfD (.list U8) a0.2.2 := h0
  have hsz : Ty.size TyStored a0 = Ty.size (.list U8) a0.1 + (0 + Ty.size (.list U8) a0.2.2) := rfl
  have hs2 : Ty.size (.list U8) a0.2.2 = a0.2.2.length + (a0.2.2.map (Ty.size U8)).sum := rfl
  have hst : a0.2.2.length ≤ 1048576 := by omega
  simp only [cond_false, toC_some h0 (by omega), Option.bind_some, p_spec_PassCheck (str_ok h1) (bytes_ok w.1) hst, p_impl_PassCheck (str_ok h1) (bytes_ok w.1) hst, eqC_some h0]
  cases passCheck a0 a1 <;> rfl

end
end Go.Ab
