/- generated -/
import Derived.Test.YtcoepmcddmnnhaaAb31
import Derived.Test.YtcoepmcddmnnhaaProg
import Derived.KernelRfl
namespace Go.Ab
open Go.Proofs
set_option maxRecDepth 20000
abbrev I64 : Ty := .int .i64
abbrev U8 : Ty := .int .u8
abbrev TyboundsError : Ty := (.pair I64 (.pair I64 (.pair .bool U8)))
abbrev DboundsError : Type := (Int × (Int × (Bool × Int)))
abbrev TyerrorAddressString : Ty := (.pair .str (.int .u64))
abbrev DerrorAddressString : Type := ((List Int) × Int)
abbrev TyStored : Ty := (.pair (.list U8) (.pair I64 (.list U8)))
abbrev DStored : Type := ((List Int) × (Int × (List Int)))
abbrev TySig : Ty := (.pair I64 I64)
abbrev DSig : Type := (Int × Int)
abbrev TyAnswer : Ty := (.pair .str (.pair I64 (.pair I64 I64)))
abbrev DAnswer : Type := ((List Int) × (Int × (Int × Int)))
/-! ## spec.l2Bytes (36) -/
noncomputable def P_spec_l2Bytes_0_3 (x2 : Int) : Nat → Int → Int → (List Int) → Option (List Int)
  | 0, _, _, _ => none
  | m + 1, x1, x3, x4 =>
      bif decide (x3 < x2) then
        bif inB x3 x4.length then
          bif inB x3 x4.length && true && true && true && true then
            P_spec_l2Bytes_0_3 x2 m (IntKind.wrap .i64 (Int.tdiv x1 256)) (IntKind.wrap .i64 (x3 + 1)) (x4.set (Int.toNat x3) (IntKind.wrap .u8 (Int.tmod x1 256)))
          else none
        else none
      else
        some x4
noncomputable def P_spec_l2Bytes (m : Nat) (a0 : Int) : Option (List Int) :=
  bif true && true && decide ((4 : Int) * 1 ≤ room) && true then
    P_spec_l2Bytes_0_3 ((List.replicate (Int.toNat 4) 0).length : Int) m a0 0 (List.replicate (Int.toNat 4) 0)
  else none
noncomputable def E_spec_l2Bytes (a0 : Int) : Option (List Int) := evOpt fun m => P_spec_l2Bytes m a0
noncomputable def c_spec_l2Bytes : Ctr := ⟨36, [I64], [(.list U8)], fun x => E_spec_l2Bytes x.1⟩
def A_spec_l2Bytes : List (List Nat × Ann) := [([0, 3], [.keep 0 0, .keep 0 3, .keep 0 7, .keep 0 8, .rows 0 5 U8])]
def In_spec_l2Bytes : List (List Nat × Nat) := []
noncomputable def cs_spec_l2Bytes : List Ctr := []
noncomputable def F_spec_l2Bytes (n : Nat) (a0 : Int) : Option (List Int) := run Try.prog A_spec_l2Bytes In_spec_l2Bytes (conOf cs_spec_l2Bytes) Try.f36 (Try.f36.body.getD .skip) (packT [(.list U8)]) n (argsV [I64] (a0, ()))
noncomputable abbrev L_spec_l2Bytes_0_3 (n : Nat) (x1 : Int) (x2 : Int) (x3 : Int) (x4 : (List Int)) : Option (List Int) := lam Try.prog A_spec_l2Bytes In_spec_l2Bytes (conOf cs_spec_l2Bytes) Try.f36 (Try.f36.body.getD .skip) (packT [(.list U8)]) n [0, 3] [.d I64 x1, .msl 0 5, .d I64 x2, .d I64 x3, .d (.list U8) x4]
theorem F_spec_l2Bytes_eq (n : Nat) (a0 : Int) : F_spec_l2Bytes n a0 =
    bif true && true && decide ((4 : Int) * 1 ≤ room) && true then
      L_spec_l2Bytes_0_3 n a0 ((List.replicate (Int.toNat 4) 0).length : Int) 0 (List.replicate (Int.toNat 4) 0)
    else none := by kernel_rfl
theorem L_spec_l2Bytes_0_3_eq (n : Nat) (x1 : Int) (x2 : Int) (x3 : Int) (x4 : (List Int)) : L_spec_l2Bytes_0_3 (n + 1) x1 x2 x3 x4 =
    bif decide (x3 < x2) then
      bif inB x3 x4.length then
        bif inB x3 x4.length && true && true && true && true then
          L_spec_l2Bytes_0_3 n (IntKind.wrap .i64 (Int.tdiv x1 256)) x2 (IntKind.wrap .i64 (x3 + 1)) (x4.set (Int.toNat x3) (IntKind.wrap .u8 (Int.tmod x1 256)))
        else none
      else none
    else
      some x4 := by kernel_rfl
theorem S_spec_l2Bytes_0_3 {x2 : Int} : ∀ (m : Nat) (x1 : Int) (x3 : Int) (x4 : (List Int)) (r : (List Int)), P_spec_l2Bytes_0_3 x2 m x1 x3 x4 = some r → Ev (fun n => L_spec_l2Bytes_0_3 n x1 x2 x3 x4) r := by
  intro m
  induction m with
  | zero => intro x1 x3 x4 r h; rw [P_spec_l2Bytes_0_3] at h; exact Ev.ofNone h
  | succ m ih2 =>
    intro x1 x3 x4 r h
    rw [P_spec_l2Bytes_0_3] at h
    refine Ev.step ?_ (fun n => L_spec_l2Bytes_0_3_eq n x1 x2 x3 x4)
    exact (Ev.ofBif h (fun h => (Ev.ofBif h (fun h => (Ev.ofBif h (fun h => (ih2 _ _ _ _ h)) (fun h => (Ev.ofNone h)))) (fun h => (Ev.ofNone h)))) (fun h => (Ev.ofSome h)))
theorem S_spec_l2Bytes {m : Nat} (a0 : Int) {r : (List Int)} (h : P_spec_l2Bytes m a0 = some r) : Ev (fun n => F_spec_l2Bytes n a0) r := by
  rw [P_spec_l2Bytes] at h
  refine Ev.of_eq ?_ (fun n => F_spec_l2Bytes_eq n a0)
  exact (Ev.ofBif h (fun h => (S_spec_l2Bytes_0_3 _ _ _ _ _ h)) (fun h => (Ev.ofNone h)))
theorem hcs_spec_l2Bytes : ∀ x ∈ cs_spec_l2Bytes, CtrOk Try.prog x := conOf_nil
theorem ok_spec_l2Bytes : CtrOk Try.prog (c_spec_l2Bytes) := by
  refine ctr_of_run (c := c_spec_l2Bytes) (by kernel_rfl) (by kernel_rfl : Try.prog.funcs[36]? = some Try.f36) (code := Try.f36.body.getD .skip) (by kernel_rfl) (by kernel_rfl) (by kernel_rfl) (A := A_spec_l2Bytes) (I := In_spec_l2Bytes) (hcs_spec_l2Bytes) ?_
  rintro ⟨a0, u⟩ y hy
  exact let ⟨_, h⟩ := (evOpt_get hy).get; (S_spec_l2Bytes a0 h).get

/-! ## spec.l2Digest (39) -/
noncomputable def P_spec_l2Digest_0_2_5003 (K0 : (List Int) → Option (List Int)) (x6 : Int) (x7 : (List Int)) : Nat → (List Int) → Int → Option (List Int)
  | 0, _, _ => none
  | m + 1, x2, x8 =>
      bif decide (x8 < 4) then
        bif inB x8 x2.length then
          bif inB x8 x2.length then
            bif inB x8 x7.length then
              bif inB (Int.tmod (IntKind.wrap .i64 (x8 + 1)) 4) x2.length then
                bif inB (Int.tmod (IntKind.wrap .i64 (x8 + 1)) 4) x2.length then
                  bif inB x8 x2.length then
                    bif inB x8 x2.length && true && true && true && true then
                      P_spec_l2Digest_0_2_5003 K0 x6 x7 m (x2.set (Int.toNat x8) (Int.tmod (IntKind.wrap .i64 ((IntKind.wrap .i64 ((IntKind.wrap .i64 ((IntKind.wrap .i64 ((rd x2 x8 (Ty.dflt I64)) * (rd x7 x8 (Ty.dflt I64)))) + x6)) + 1)) + (rd x2 (Int.tmod (IntKind.wrap .i64 (x8 + 1)) 4) (Ty.dflt I64)))) 2147483579)) (IntKind.wrap .i64 (x8 + 1))
                    else none
                  else none
                else none
              else none
            else none
          else none
        else none
      else
        K0 x2
noncomputable def P_spec_l2Digest_0_2_10003 (K2 : (List Int) → Option (List Int)) (x5 : Int) (x6 : (List Int)) : Nat → (List Int) → Int → Option (List Int)
  | 0, _, _ => none
  | m + 1, x1, x7 =>
      bif decide (x7 < 4) then
        bif inB x7 x1.length then
          bif inB x7 x1.length then
            bif inB x7 x6.length then
              bif inB (Int.tmod (IntKind.wrap .i64 (x7 + 1)) 4) x1.length then
                bif inB (Int.tmod (IntKind.wrap .i64 (x7 + 1)) 4) x1.length then
                  bif inB x7 x1.length then
                    bif inB x7 x1.length && true && true && true && true then
                      P_spec_l2Digest_0_2_10003 K2 x5 x6 m (x1.set (Int.toNat x7) (Int.tmod (IntKind.wrap .i64 ((IntKind.wrap .i64 ((IntKind.wrap .i64 ((IntKind.wrap .i64 ((rd x1 x7 (Ty.dflt I64)) * (rd x6 x7 (Ty.dflt I64)))) + x5)) + 1)) + (rd x1 (Int.tmod (IntKind.wrap .i64 (x7 + 1)) 4) (Ty.dflt I64)))) 2147483579)) (IntKind.wrap .i64 (x7 + 1))
                    else none
                  else none
                else none
              else none
            else none
          else none
        else none
      else
        K2 x1
noncomputable def P_spec_l2Digest_0_2_15001 (K4 : (List Int) → Int → Option (List Int)) (x2 : Int) (x4 : (List Int)) : Nat → (List Int) → Int → Option (List Int)
  | 0, _, _ => none
  | m + 1, x1, x5 =>
      bif decide (x5 < 4) then
        bif inB x5 x1.length then
          bif inB x5 x1.length then
            bif inB x5 x4.length then
              bif inB (Int.tmod (IntKind.wrap .i64 (x5 + 1)) 4) x1.length then
                bif inB (Int.tmod (IntKind.wrap .i64 (x5 + 1)) 4) x1.length then
                  bif inB x5 x1.length then
                    bif inB x5 x1.length && true && true && true && true then
                      P_spec_l2Digest_0_2_15001 K4 x2 x4 m (x1.set (Int.toNat x5) (Int.tmod (IntKind.wrap .i64 ((IntKind.wrap .i64 ((IntKind.wrap .i64 ((IntKind.wrap .i64 ((rd x1 x5 (Ty.dflt I64)) * (rd x4 x5 (Ty.dflt I64)))) + (0 : Int))) + 1)) + (rd x1 (Int.tmod (IntKind.wrap .i64 (x5 + 1)) 4) (Ty.dflt I64)))) 2147483579)) (IntKind.wrap .i64 (x5 + 1))
                    else none
                  else none
                else none
              else none
            else none
          else none
        else none
      else
        K4 x1 (IntKind.wrap .i64 (x2 + 1))
noncomputable def P_spec_l2Digest_0_18 : List Int → (List Int) → Option (List Int)
  | [], x1 =>
      some x1
  | e :: rest, x1 =>
      Option.bind (E_spec_l2Bytes (e)) fun (y2 : (List Int)) =>
      bif decide (((x1.length : Int) + (y2.length : Int)) * 1 ≤ room) && decide ((x1.length : Int) + (y2.length : Int) ≤ room) then
        P_spec_l2Digest_0_18 rest (x1 ++ y2)
      else none
noncomputable def P_spec_l2Digest_0_13 : Nat → (List Int) → Int → Option (List Int)
  | 0, _, _ => none
  | m + 1, x1, x2 =>
      bif decide (x2 < 8) then
        P_spec_l2Digest_0_2_15001 (fun s0 s1 => P_spec_l2Digest_0_13 m s0 s1) x2 ([1103515245, 69069, 1664525, 22695477] : List Int) m x1 0
      else
        lenOk x1 (P_spec_l2Digest_0_18 x1 [])
noncomputable def P_spec_l2Digest_0_8 (m : Nat) : List Int → (List Int) → Option (List Int)
  | [], x1 =>
      P_spec_l2Digest_0_13 m x1 0
  | e :: rest, x1 =>
      P_spec_l2Digest_0_2_10003 (fun s0 => P_spec_l2Digest_0_8 m rest s0) (IntKind.wrap .i64 (e)) ([1103515245, 69069, 1664525, 22695477] : List Int) m x1 0
noncomputable def P_spec_l2Digest_0_3 (m : Nat) (x1 : (List Int)) : List Int → (List Int) → Option (List Int)
  | [], x2 =>
      Option.bind (E_spec_l2Bytes (x1.length : Int)) fun (y1 : (List Int)) =>
      lenOk y1 (P_spec_l2Digest_0_8 m y1 x2)
  | e :: rest, x2 =>
      P_spec_l2Digest_0_2_5003 (fun s0 => P_spec_l2Digest_0_3 m x1 rest s0) (IntKind.wrap .i64 (e)) ([1103515245, 69069, 1664525, 22695477] : List Int) m x2 0
noncomputable def P_spec_l2Digest (m : Nat) (a0 : (List Int)) : Option (List Int) :=
  lenOk a0 (P_spec_l2Digest_0_3 m a0 a0 ([11, 22, 33, 44] : List Int))
noncomputable def E_spec_l2Digest (a0 : (List Int)) : Option (List Int) := evOpt fun m => P_spec_l2Digest m a0
noncomputable def c_spec_l2Digest : Ctr := ⟨39, [(.list U8)], [(.list U8)], fun x => E_spec_l2Digest x.1⟩
def A_spec_l2Digest : List (List Nat × Ann) := [([0, 3], [.keep 0 0, .raw 0 3 I64, .keep 0 13, .keep 0 14, .keep 0 15]), ([0, 2, 5003], [.same 1 0 0 3, .keep 0 0, .raw 0 3 I64, .keep 0 13, .keep 0 14, .keep 0 15, .keep 1 1, .own 1 4 I64, .keep 1 5]), ([0, 8], [.raw 0 3 I64, .keep 0 26, .keep 0 27, .keep 0 28]), ([0, 2, 10003], [.same 1 0 0 3, .raw 0 3 I64, .keep 0 26, .keep 0 27, .keep 0 28, .keep 1 1, .own 1 4 I64, .keep 1 5]), ([0, 13], [.raw 0 3 I64, .keep 0 8]), ([0, 2, 15001], [.same 1 0 0 3, .raw 0 3 I64, .keep 0 8, .keep 1 1, .own 1 4 I64, .keep 1 5]), ([0, 18], [.own 0 9 U8, .raw 0 43 I64, .keep 0 44, .keep 0 45])]
def In_spec_l2Digest : List (List Nat × Nat) := [([1000], 1), ([5003], 47), ([10003], 47), ([15001], 47)]
noncomputable def cs_spec_l2Digest : List Ctr := [c_spec_l2Bytes]
noncomputable def F_spec_l2Digest (n : Nat) (a0 : (List Int)) : Option (List Int) := run Try.prog A_spec_l2Digest In_spec_l2Digest (conOf cs_spec_l2Digest) Try.f39 (Try.f39.body.getD .skip) (packT [(.list U8)]) n (argsV [(.list U8)] (a0, ()))
noncomputable abbrev L_spec_l2Digest_0_3 (n : Nat) (x1 : (List Int)) (x2 : (List Int)) (x3 : (List Int)) (x4 : Int) (x5 : Int) : Option (List Int) := lam Try.prog A_spec_l2Digest In_spec_l2Digest (conOf cs_spec_l2Digest) Try.f39 (Try.f39.body.getD .skip) (packT [(.list U8)]) n [0, 3] [.d (.list U8) x1, .own 0 I64 x2, .d (.list U8) x3, .d I64 x4, .d I64 x5]
noncomputable abbrev L_spec_l2Digest_0_2_5003 (n : Nat) (x1 : (List Int)) (x2 : (List Int)) (x3 : (List Int)) (x4 : Int) (x5 : Int) (x6 : Int) (x7 : (List Int)) (x8 : Int) : Option (List Int) := lam Try.prog A_spec_l2Digest In_spec_l2Digest (conOf cs_spec_l2Digest) Try.f39 (Try.f39.body.getD .skip) (packT [(.list U8)]) n [0, 2, 5003] [.nils, .d (.list U8) x1, .own 0 I64 x2, .d (.list U8) x3, .d I64 x4, .d I64 x5, .d I64 x6, .own 0 I64 x7, .d I64 x8]
noncomputable abbrev L_spec_l2Digest_0_8 (n : Nat) (x1 : (List Int)) (x2 : (List Int)) (x3 : Int) (x4 : Int) : Option (List Int) := lam Try.prog A_spec_l2Digest In_spec_l2Digest (conOf cs_spec_l2Digest) Try.f39 (Try.f39.body.getD .skip) (packT [(.list U8)]) n [0, 8] [.own 0 I64 x1, .d (.list U8) x2, .d I64 x3, .d I64 x4]
noncomputable abbrev L_spec_l2Digest_0_2_10003 (n : Nat) (x1 : (List Int)) (x2 : (List Int)) (x3 : Int) (x4 : Int) (x5 : Int) (x6 : (List Int)) (x7 : Int) : Option (List Int) := lam Try.prog A_spec_l2Digest In_spec_l2Digest (conOf cs_spec_l2Digest) Try.f39 (Try.f39.body.getD .skip) (packT [(.list U8)]) n [0, 2, 10003] [.nils, .own 0 I64 x1, .d (.list U8) x2, .d I64 x3, .d I64 x4, .d I64 x5, .own 0 I64 x6, .d I64 x7]
noncomputable abbrev L_spec_l2Digest_0_13 (n : Nat) (x1 : (List Int)) (x2 : Int) : Option (List Int) := lam Try.prog A_spec_l2Digest In_spec_l2Digest (conOf cs_spec_l2Digest) Try.f39 (Try.f39.body.getD .skip) (packT [(.list U8)]) n [0, 13] [.own 0 I64 x1, .d I64 x2]
noncomputable abbrev L_spec_l2Digest_0_2_15001 (n : Nat) (x1 : (List Int)) (x2 : Int) (x3 : Int) (x4 : (List Int)) (x5 : Int) : Option (List Int) := lam Try.prog A_spec_l2Digest In_spec_l2Digest (conOf cs_spec_l2Digest) Try.f39 (Try.f39.body.getD .skip) (packT [(.list U8)]) n [0, 2, 15001] [.nils, .own 0 I64 x1, .d I64 x2, .d I64 x3, .own 0 I64 x4, .d I64 x5]
noncomputable abbrev L_spec_l2Digest_0_18 (n : Nat) (x1 : (List Int)) (x2 : (List Int)) (x3 : Int) (x4 : Int) : Option (List Int) := lam Try.prog A_spec_l2Digest In_spec_l2Digest (conOf cs_spec_l2Digest) Try.f39 (Try.f39.body.getD .skip) (packT [(.list U8)]) n [0, 18] [.own 0 U8 x1, .own 0 I64 x2, .d I64 x3, .d I64 x4]
theorem F_spec_l2Digest_eq (n : Nat) (a0 : (List Int)) : F_spec_l2Digest n a0 =
    L_spec_l2Digest_0_3 n a0 ([11, 22, 33, 44] : List Int) a0 (a0.length : Int) 0 := by kernel_rfl
theorem L_spec_l2Digest_0_3_eq (n : Nat) (x1 : (List Int)) (x2 : (List Int)) (x3 : (List Int)) (x4 : Int) (x5 : Int) : L_spec_l2Digest_0_3 (n + 1) x1 x2 x3 x4 x5 =
    bif decide (x5 < x4) then
      bif inB x5 x3.length then
        L_spec_l2Digest_0_2_5003 n x1 x2 x3 x4 x5 (IntKind.wrap .i64 (rd x3 x5 (Ty.dflt U8))) ([1103515245, 69069, 1664525, 22695477] : List Int) 0
      else none
    else
      Option.bind (E_spec_l2Bytes (x1.length : Int)) fun (y1 : (List Int)) =>
      L_spec_l2Digest_0_8 n x2 y1 (y1.length : Int) 0 := by kernel_rfl
theorem L_spec_l2Digest_0_2_5003_eq (n : Nat) (x1 : (List Int)) (x2 : (List Int)) (x3 : (List Int)) (x4 : Int) (x5 : Int) (x6 : Int) (x7 : (List Int)) (x8 : Int) : L_spec_l2Digest_0_2_5003 (n + 1) x1 x2 x3 x4 x5 x6 x7 x8 =
    bif decide (x8 < 4) then
      bif inB x8 x2.length then
        bif inB x8 x2.length then
          bif inB x8 x7.length then
            bif inB (Int.tmod (IntKind.wrap .i64 (x8 + 1)) 4) x2.length then
              bif inB (Int.tmod (IntKind.wrap .i64 (x8 + 1)) 4) x2.length then
                bif inB x8 x2.length then
                  bif inB x8 x2.length && true && true && true && true then
                    L_spec_l2Digest_0_2_5003 n x1 (x2.set (Int.toNat x8) (Int.tmod (IntKind.wrap .i64 ((IntKind.wrap .i64 ((IntKind.wrap .i64 ((IntKind.wrap .i64 ((rd x2 x8 (Ty.dflt I64)) * (rd x7 x8 (Ty.dflt I64)))) + x6)) + 1)) + (rd x2 (Int.tmod (IntKind.wrap .i64 (x8 + 1)) 4) (Ty.dflt I64)))) 2147483579)) x3 x4 x5 x6 x7 (IntKind.wrap .i64 (x8 + 1))
                  else none
                else none
              else none
            else none
          else none
        else none
      else none
    else
      L_spec_l2Digest_0_3 n x1 x2 x3 x4 (IntKind.wrap .i64 (x5 + 1)) := by kernel_rfl
theorem L_spec_l2Digest_0_8_eq (n : Nat) (x1 : (List Int)) (x2 : (List Int)) (x3 : Int) (x4 : Int) : L_spec_l2Digest_0_8 (n + 1) x1 x2 x3 x4 =
    bif decide (x4 < x3) then
      bif inB x4 x2.length then
        L_spec_l2Digest_0_2_10003 n x1 x2 x3 x4 (IntKind.wrap .i64 (rd x2 x4 (Ty.dflt U8))) ([1103515245, 69069, 1664525, 22695477] : List Int) 0
      else none
    else
      L_spec_l2Digest_0_13 n x1 0 := by kernel_rfl
theorem L_spec_l2Digest_0_2_10003_eq (n : Nat) (x1 : (List Int)) (x2 : (List Int)) (x3 : Int) (x4 : Int) (x5 : Int) (x6 : (List Int)) (x7 : Int) : L_spec_l2Digest_0_2_10003 (n + 1) x1 x2 x3 x4 x5 x6 x7 =
    bif decide (x7 < 4) then
      bif inB x7 x1.length then
        bif inB x7 x1.length then
          bif inB x7 x6.length then
            bif inB (Int.tmod (IntKind.wrap .i64 (x7 + 1)) 4) x1.length then
              bif inB (Int.tmod (IntKind.wrap .i64 (x7 + 1)) 4) x1.length then
                bif inB x7 x1.length then
                  bif inB x7 x1.length && true && true && true && true then
                    L_spec_l2Digest_0_2_10003 n (x1.set (Int.toNat x7) (Int.tmod (IntKind.wrap .i64 ((IntKind.wrap .i64 ((IntKind.wrap .i64 ((IntKind.wrap .i64 ((rd x1 x7 (Ty.dflt I64)) * (rd x6 x7 (Ty.dflt I64)))) + x5)) + 1)) + (rd x1 (Int.tmod (IntKind.wrap .i64 (x7 + 1)) 4) (Ty.dflt I64)))) 2147483579)) x2 x3 x4 x5 x6 (IntKind.wrap .i64 (x7 + 1))
                  else none
                else none
              else none
            else none
          else none
        else none
      else none
    else
      L_spec_l2Digest_0_8 n x1 x2 x3 (IntKind.wrap .i64 (x4 + 1)) := by kernel_rfl
theorem L_spec_l2Digest_0_13_eq (n : Nat) (x1 : (List Int)) (x2 : Int) : L_spec_l2Digest_0_13 (n + 1) x1 x2 =
    bif decide (x2 < 8) then
      L_spec_l2Digest_0_2_15001 n x1 x2 0 ([1103515245, 69069, 1664525, 22695477] : List Int) 0
    else
      L_spec_l2Digest_0_18 n [] x1 (x1.length : Int) 0 := by kernel_rfl
theorem L_spec_l2Digest_0_2_15001_eq (n : Nat) (x1 : (List Int)) (x2 : Int) (x3 : Int) (x4 : (List Int)) (x5 : Int) : L_spec_l2Digest_0_2_15001 (n + 1) x1 x2 x3 x4 x5 =
    bif decide (x5 < 4) then
      bif inB x5 x1.length then
        bif inB x5 x1.length then
          bif inB x5 x4.length then
            bif inB (Int.tmod (IntKind.wrap .i64 (x5 + 1)) 4) x1.length then
              bif inB (Int.tmod (IntKind.wrap .i64 (x5 + 1)) 4) x1.length then
                bif inB x5 x1.length then
                  bif inB x5 x1.length && true && true && true && true then
                    L_spec_l2Digest_0_2_15001 n (x1.set (Int.toNat x5) (Int.tmod (IntKind.wrap .i64 ((IntKind.wrap .i64 ((IntKind.wrap .i64 ((IntKind.wrap .i64 ((rd x1 x5 (Ty.dflt I64)) * (rd x4 x5 (Ty.dflt I64)))) + x3)) + 1)) + (rd x1 (Int.tmod (IntKind.wrap .i64 (x5 + 1)) 4) (Ty.dflt I64)))) 2147483579)) x2 x3 x4 (IntKind.wrap .i64 (x5 + 1))
                  else none
                else none
              else none
            else none
          else none
        else none
      else none
    else
      L_spec_l2Digest_0_13 n x1 (IntKind.wrap .i64 (x2 + 1)) := by kernel_rfl
theorem L_spec_l2Digest_0_18_eq (n : Nat) (x1 : (List Int)) (x2 : (List Int)) (x3 : Int) (x4 : Int) : L_spec_l2Digest_0_18 (n + 1) x1 x2 x3 x4 =
    bif decide (x4 < x3) then
      bif inB x4 x2.length then
        bif inB x4 x2.length then
          Option.bind (E_spec_l2Bytes (rd x2 x4 (Ty.dflt I64))) fun (y2 : (List Int)) =>
          bif decide (((x1.length : Int) + (y2.length : Int)) * 1 ≤ room) && decide ((x1.length : Int) + (y2.length : Int) ≤ room) then
            L_spec_l2Digest_0_18 n (x1 ++ y2) x2 x3 (IntKind.wrap .i64 (x4 + 1))
          else none
        else none
      else none
    else
      some x1 := by kernel_rfl
theorem S_spec_l2Digest_0_2_5003 {K0 : (List Int) → Option (List Int)} {x1 : (List Int)} {x4 : Int} {x5 : Int} {x6 : Int} {x7 : (List Int)} (hK0 : ∀ (z2 : (List Int)) (r : (List Int)), K0 z2 = some r → Ev (fun n => L_spec_l2Digest_0_3 n x1 z2 x1 x4 (IntKind.wrap .i64 (x5 + 1))) r) : ∀ (m : Nat) (x2 : (List Int)) (x8 : Int) (r : (List Int)), P_spec_l2Digest_0_2_5003 K0 x6 x7 m x2 x8 = some r → Ev (fun n => L_spec_l2Digest_0_2_5003 n x1 x2 x1 x4 x5 x6 x7 x8) r := by
  intro m
  induction m with
  | zero => intro x2 x8 r h; rw [P_spec_l2Digest_0_2_5003] at h; exact Ev.ofNone h
  | succ m ih2 =>
    intro x2 x8 r h
    rw [P_spec_l2Digest_0_2_5003] at h
    refine Ev.step ?_ (fun n => L_spec_l2Digest_0_2_5003_eq n x1 x2 x1 x4 x5 x6 x7 x8)
    exact (Ev.ofBif h (fun h => (Ev.ofBif h (fun h => (Ev.ofBif h (fun h => (Ev.ofBif h (fun h => (Ev.ofBif h (fun h => (Ev.ofBif h (fun h => (Ev.ofBif h (fun h => (Ev.ofBif h (fun h => (ih2 _ _ _ h)) (fun h => (Ev.ofNone h)))) (fun h => (Ev.ofNone h)))) (fun h => (Ev.ofNone h)))) (fun h => (Ev.ofNone h)))) (fun h => (Ev.ofNone h)))) (fun h => (Ev.ofNone h)))) (fun h => (Ev.ofNone h)))) (fun h => (hK0 _ _ h)))
theorem S_spec_l2Digest_0_2_10003 {K2 : (List Int) → Option (List Int)} {x2 : (List Int)} {x3 : Int} {x4 : Int} {x5 : Int} {x6 : (List Int)} (hK2 : ∀ (z1 : (List Int)) (r : (List Int)), K2 z1 = some r → Ev (fun n => L_spec_l2Digest_0_8 n z1 x2 x3 (IntKind.wrap .i64 (x4 + 1))) r) : ∀ (m : Nat) (x1 : (List Int)) (x7 : Int) (r : (List Int)), P_spec_l2Digest_0_2_10003 K2 x5 x6 m x1 x7 = some r → Ev (fun n => L_spec_l2Digest_0_2_10003 n x1 x2 x3 x4 x5 x6 x7) r := by
  intro m
  induction m with
  | zero => intro x1 x7 r h; rw [P_spec_l2Digest_0_2_10003] at h; exact Ev.ofNone h
  | succ m ih2 =>
    intro x1 x7 r h
    rw [P_spec_l2Digest_0_2_10003] at h
    refine Ev.step ?_ (fun n => L_spec_l2Digest_0_2_10003_eq n x1 x2 x3 x4 x5 x6 x7)
    exact (Ev.ofBif h (fun h => (Ev.ofBif h (fun h => (Ev.ofBif h (fun h => (Ev.ofBif h (fun h => (Ev.ofBif h (fun h => (Ev.ofBif h (fun h => (Ev.ofBif h (fun h => (Ev.ofBif h (fun h => (ih2 _ _ _ h)) (fun h => (Ev.ofNone h)))) (fun h => (Ev.ofNone h)))) (fun h => (Ev.ofNone h)))) (fun h => (Ev.ofNone h)))) (fun h => (Ev.ofNone h)))) (fun h => (Ev.ofNone h)))) (fun h => (Ev.ofNone h)))) (fun h => (hK2 _ _ h)))
theorem S_spec_l2Digest_0_2_15001 {K4 : (List Int) → Int → Option (List Int)} {x2 : Int} {x4 : (List Int)} (hK4 : ∀ (z1 : (List Int)) (z2 : Int) (r : (List Int)), K4 z1 z2 = some r → Ev (fun n => L_spec_l2Digest_0_13 n z1 z2) r) : ∀ (m : Nat) (x1 : (List Int)) (x5 : Int) (r : (List Int)), P_spec_l2Digest_0_2_15001 K4 x2 x4 m x1 x5 = some r → Ev (fun n => L_spec_l2Digest_0_2_15001 n x1 x2 (0 : Int) x4 x5) r := by
  intro m
  induction m with
  | zero => intro x1 x5 r h; rw [P_spec_l2Digest_0_2_15001] at h; exact Ev.ofNone h
  | succ m ih2 =>
    intro x1 x5 r h
    rw [P_spec_l2Digest_0_2_15001] at h
    refine Ev.step ?_ (fun n => L_spec_l2Digest_0_2_15001_eq n x1 x2 (0 : Int) x4 x5)
    exact (Ev.ofBif h (fun h => (Ev.ofBif h (fun h => (Ev.ofBif h (fun h => (Ev.ofBif h (fun h => (Ev.ofBif h (fun h => (Ev.ofBif h (fun h => (Ev.ofBif h (fun h => (Ev.ofBif h (fun h => (ih2 _ _ _ h)) (fun h => (Ev.ofNone h)))) (fun h => (Ev.ofNone h)))) (fun h => (Ev.ofNone h)))) (fun h => (Ev.ofNone h)))) (fun h => (Ev.ofNone h)))) (fun h => (Ev.ofNone h)))) (fun h => (Ev.ofNone h)))) (fun h => (hK4 _ _ _ h)))
theorem S_spec_l2Digest_0_18 {x2 : (List Int)} (hl : x2.length ≤ maxLen) : ∀ (rest : List Int) (k : Nat) (x1 : (List Int)) (r : (List Int)), rest = x2.drop k → P_spec_l2Digest_0_18 rest x1 = some r → Ev (fun n => L_spec_l2Digest_0_18 n x1 x2 (x2.length : Int) (k : Int)) r := by
  intro rest
  induction rest with
  | nil =>
    intro k x1 r hr h
    have hk := drop_nil hr
    rw [P_spec_l2Digest_0_18] at h
    refine Ev.step ?_ (fun n => L_spec_l2Digest_0_18_eq n x1 x2 (x2.length : Int) (k : Int))
    rw [show decide ((k : Int) < (x2.length : Int)) = false from decide_eq_false (by omega)]
    exact Ev.neg rfl (Ev.ofSome h)
  | cons e rest ih =>
    intro k x1 r hr h
    obtain ⟨hk, hx, hr2⟩ := drop_cons (d := (Ty.dflt I64)) hr
    have hw := wrap_succ hl hk
    have ih2 : ∀ (z1 : (List Int)) (r : (List Int)), P_spec_l2Digest_0_18 rest z1 = some r → Ev (fun n => L_spec_l2Digest_0_18 n z1 x2 (x2.length : Int) (IntKind.wrap .i64 ((k : Int) + 1))) r := by
      intro z1 r h; rw [hw]; exact ih (k + 1) z1 r hr2 h
    rw [P_spec_l2Digest_0_18] at h
    refine Ev.step ?_ (fun n => L_spec_l2Digest_0_18_eq n x1 x2 (x2.length : Int) (k : Int))
    rw [show decide ((k : Int) < (x2.length : Int)) = true from decide_eq_true (by omega), inB_nat2 hk, hx]
    exact Ev.pos rfl (Ev.pos rfl (Ev.pos rfl (Ev.ofBind h fun y2 h => (Ev.ofBif h (fun h => (ih2 _ _ h)) (fun h => (Ev.ofNone h))))))
theorem S_spec_l2Digest_0_13 : ∀ (m : Nat) (x1 : (List Int)) (x2 : Int) (r : (List Int)), P_spec_l2Digest_0_13 m x1 x2 = some r → Ev (fun n => L_spec_l2Digest_0_13 n x1 x2) r := by
  intro m
  induction m with
  | zero => intro x1 x2 r h; rw [P_spec_l2Digest_0_13] at h; exact Ev.ofNone h
  | succ m ih2 =>
    intro x1 x2 r h
    rw [P_spec_l2Digest_0_13] at h
    refine Ev.step ?_ (fun n => L_spec_l2Digest_0_13_eq n x1 x2)
    exact (Ev.ofBif h (fun h => (S_spec_l2Digest_0_2_15001 ih2 _ _ _ _ h)) (fun h => (Ev.ofLen h fun hl h => S_spec_l2Digest_0_18 hl _ (0 : Nat) _ _ rfl h)))
theorem S_spec_l2Digest_0_8 {m : Nat} {x2 : (List Int)} (hl : x2.length ≤ maxLen) : ∀ (rest : List Int) (k : Nat) (x1 : (List Int)) (r : (List Int)), rest = x2.drop k → P_spec_l2Digest_0_8 m rest x1 = some r → Ev (fun n => L_spec_l2Digest_0_8 n x1 x2 (x2.length : Int) (k : Int)) r := by
  intro rest
  induction rest with
  | nil =>
    intro k x1 r hr h
    have hk := drop_nil hr
    rw [P_spec_l2Digest_0_8] at h
    refine Ev.step ?_ (fun n => L_spec_l2Digest_0_8_eq n x1 x2 (x2.length : Int) (k : Int))
    rw [show decide ((k : Int) < (x2.length : Int)) = false from decide_eq_false (by omega)]
    exact Ev.neg rfl (S_spec_l2Digest_0_13 _ _ _ _ h)
  | cons e rest ih =>
    intro k x1 r hr h
    obtain ⟨hk, hx, hr2⟩ := drop_cons (d := (Ty.dflt U8)) hr
    have hw := wrap_succ hl hk
    have ih2 : ∀ (z1 : (List Int)) (r : (List Int)), P_spec_l2Digest_0_8 m rest z1 = some r → Ev (fun n => L_spec_l2Digest_0_8 n z1 x2 (x2.length : Int) (IntKind.wrap .i64 ((k : Int) + 1))) r := by
      intro z1 r h; rw [hw]; exact ih (k + 1) z1 r hr2 h
    rw [P_spec_l2Digest_0_8] at h
    refine Ev.step ?_ (fun n => L_spec_l2Digest_0_8_eq n x1 x2 (x2.length : Int) (k : Int))
    rw [show decide ((k : Int) < (x2.length : Int)) = true from decide_eq_true (by omega), inB_nat2 hk, hx]
    exact Ev.pos rfl (Ev.pos rfl (S_spec_l2Digest_0_2_10003 ih2 _ _ _ _ h))
theorem S_spec_l2Digest_0_3 {m : Nat} {x1 : (List Int)} (hl : x1.length ≤ maxLen) : ∀ (rest : List Int) (k : Nat) (x2 : (List Int)) (r : (List Int)), rest = x1.drop k → P_spec_l2Digest_0_3 m x1 rest x2 = some r → Ev (fun n => L_spec_l2Digest_0_3 n x1 x2 x1 (x1.length : Int) (k : Int)) r := by
  intro rest
  induction rest with
  | nil =>
    intro k x2 r hr h
    have hk := drop_nil hr
    rw [P_spec_l2Digest_0_3] at h
    refine Ev.step ?_ (fun n => L_spec_l2Digest_0_3_eq n x1 x2 x1 (x1.length : Int) (k : Int))
    rw [show decide ((k : Int) < (x1.length : Int)) = false from decide_eq_false (by omega)]
    exact Ev.neg rfl (Ev.ofBind h fun y1 h => (Ev.ofLen h fun hl h => S_spec_l2Digest_0_8 hl _ (0 : Nat) _ _ rfl h))
  | cons e rest ih =>
    intro k x2 r hr h
    obtain ⟨hk, hx, hr2⟩ := drop_cons (d := (Ty.dflt U8)) hr
    have hw := wrap_succ hl hk
    have ih2 : ∀ (z2 : (List Int)) (r : (List Int)), P_spec_l2Digest_0_3 m x1 rest z2 = some r → Ev (fun n => L_spec_l2Digest_0_3 n x1 z2 x1 (x1.length : Int) (IntKind.wrap .i64 ((k : Int) + 1))) r := by
      intro z2 r h; rw [hw]; exact ih (k + 1) z2 r hr2 h
    rw [P_spec_l2Digest_0_3] at h
    refine Ev.step ?_ (fun n => L_spec_l2Digest_0_3_eq n x1 x2 x1 (x1.length : Int) (k : Int))
    rw [show decide ((k : Int) < (x1.length : Int)) = true from decide_eq_true (by omega), inB_nat2 hk, hx]
    exact Ev.pos rfl (Ev.pos rfl (S_spec_l2Digest_0_2_5003 ih2 _ _ _ _ h))
theorem S_spec_l2Digest {m : Nat} (a0 : (List Int)) {r : (List Int)} (h : P_spec_l2Digest m a0 = some r) : Ev (fun n => F_spec_l2Digest n a0) r := by
  rw [P_spec_l2Digest] at h
  refine Ev.of_eq ?_ (fun n => F_spec_l2Digest_eq n a0)
  exact (Ev.ofLen h fun hl h => S_spec_l2Digest_0_3 hl _ (0 : Nat) _ _ rfl h)
theorem hcs_spec_l2Digest : ∀ x ∈ cs_spec_l2Digest, CtrOk Try.prog x := (conOf_cons ok_spec_l2Bytes conOf_nil)
theorem ok_spec_l2Digest : CtrOk Try.prog (c_spec_l2Digest) := by
  refine ctr_of_run (c := c_spec_l2Digest) (by kernel_rfl) (by kernel_rfl : Try.prog.funcs[39]? = some Try.f39) (code := Try.f39.body.getD .skip) (by kernel_rfl) (by kernel_rfl) (by kernel_rfl) (A := A_spec_l2Digest) (I := In_spec_l2Digest) (hcs_spec_l2Digest) ?_
  rintro ⟨a0, u⟩ y hy
  exact let ⟨_, h⟩ := (evOpt_get hy).get; (S_spec_l2Digest a0 h).get

/-! ## spec.l2Two (45) -/
noncomputable def P_spec_l2Two (a0 : (List Int)) (a1 : (List Int)) : Option (List Int) :=
  bif decide ((a0.length : Int) * 1 ≤ room) && decide ((a0.length : Int) ≤ room) then
    bif decide (((a0.length : Int) + (a1.length : Int)) * 1 ≤ room) && decide ((a0.length : Int) + (a1.length : Int) ≤ room) then
      Option.bind (E_spec_l2Digest (a0 ++ a1)) fun (y1 : (List Int)) =>
      some y1
    else none
  else none
noncomputable def c_spec_l2Two : Ctr := ⟨45, [(.list U8), (.list U8)], [(.list U8)], fun x => P_spec_l2Two x.1 x.2.1⟩
def A_spec_l2Two : List (List Nat × Ann) := []
def In_spec_l2Two : List (List Nat × Nat) := []
noncomputable def cs_spec_l2Two : List Ctr := [c_spec_l2Digest]
noncomputable def F_spec_l2Two (n : Nat) (a0 : (List Int)) (a1 : (List Int)) : Option (List Int) := run Try.prog A_spec_l2Two In_spec_l2Two (conOf cs_spec_l2Two) Try.f45 (Try.f45.body.getD .skip) (packT [(.list U8)]) n (argsV [(.list U8), (.list U8)] (a0, a1, ()))
theorem F_spec_l2Two_eq (n : Nat) (a0 : (List Int)) (a1 : (List Int)) : F_spec_l2Two n a0 a1 =
    bif decide ((a0.length : Int) * 1 ≤ room) && decide ((a0.length : Int) ≤ room) then
      bif decide (((a0.length : Int) + (a1.length : Int)) * 1 ≤ room) && decide ((a0.length : Int) + (a1.length : Int) ≤ room) then
        Option.bind (E_spec_l2Digest (a0 ++ a1)) fun (y1 : (List Int)) =>
        some y1
      else none
    else none := by kernel_rfl
theorem S_spec_l2Two (a0 : (List Int)) (a1 : (List Int)) {r : (List Int)} (h : P_spec_l2Two a0 a1 = some r) : Ev (fun n => F_spec_l2Two n a0 a1) r := by
  rw [P_spec_l2Two] at h
  refine Ev.of_eq ?_ (fun n => F_spec_l2Two_eq n a0 a1)
  exact (Ev.ofBif h (fun h => (Ev.ofBif h (fun h => (Ev.ofBind h fun y1 h => (Ev.ofSome h))) (fun h => (Ev.ofNone h)))) (fun h => (Ev.ofNone h)))
theorem hcs_spec_l2Two : ∀ x ∈ cs_spec_l2Two, CtrOk Try.prog x := (conOf_cons ok_spec_l2Digest conOf_nil)
theorem ok_spec_l2Two : CtrOk Try.prog (c_spec_l2Two) := by
  refine ctr_of_run (c := c_spec_l2Two) (by kernel_rfl) (by kernel_rfl : Try.prog.funcs[45]? = some Try.f45) (code := Try.f45.body.getD .skip) (by kernel_rfl) (by kernel_rfl) (by kernel_rfl) (A := A_spec_l2Two) (I := In_spec_l2Two) (hcs_spec_l2Two) ?_
  rintro ⟨a0, a1, u⟩ y hy
  exact (S_spec_l2Two a0 a1 hy).get

/-! ## spec.l2Mac (33) -/
noncomputable def P_spec_l2Mac (a0 : (List Int)) (a1 : (List Int)) : Option (List Int) :=
  Option.bind (E_spec_l2Digest a0) fun (y1 : (List Int)) =>
  Option.bind (E_spec_l2Digest a1) fun (y2 : (List Int)) =>
  Option.bind (P_spec_l2Two y1 y2) fun (y3 : (List Int)) =>
  some y3
noncomputable def c_spec_l2Mac : Ctr := ⟨33, [(.list U8), (.list U8)], [(.list U8)], fun x => P_spec_l2Mac x.1 x.2.1⟩
def A_spec_l2Mac : List (List Nat × Ann) := []
def In_spec_l2Mac : List (List Nat × Nat) := []
noncomputable def cs_spec_l2Mac : List Ctr := [c_spec_l2Digest, c_spec_l2Two]
noncomputable def F_spec_l2Mac (n : Nat) (a0 : (List Int)) (a1 : (List Int)) : Option (List Int) := run Try.prog A_spec_l2Mac In_spec_l2Mac (conOf cs_spec_l2Mac) Try.f33 (Try.f33.body.getD .skip) (packT [(.list U8)]) n (argsV [(.list U8), (.list U8)] (a0, a1, ()))
theorem F_spec_l2Mac_eq (n : Nat) (a0 : (List Int)) (a1 : (List Int)) : F_spec_l2Mac n a0 a1 =
    Option.bind (E_spec_l2Digest a0) fun (y1 : (List Int)) =>
    Option.bind (E_spec_l2Digest a1) fun (y2 : (List Int)) =>
    Option.bind (P_spec_l2Two y1 y2) fun (y3 : (List Int)) =>
    some y3 := by kernel_rfl
theorem S_spec_l2Mac (a0 : (List Int)) (a1 : (List Int)) {r : (List Int)} (h : P_spec_l2Mac a0 a1 = some r) : Ev (fun n => F_spec_l2Mac n a0 a1) r := by
  rw [P_spec_l2Mac] at h
  refine Ev.of_eq ?_ (fun n => F_spec_l2Mac_eq n a0 a1)
  exact (Ev.ofBind h fun y1 h => (Ev.ofBind h fun y2 h => (Ev.ofBind h fun y3 h => (Ev.ofSome h))))
theorem hcs_spec_l2Mac : ∀ x ∈ cs_spec_l2Mac, CtrOk Try.prog x := (conOf_cons ok_spec_l2Digest (conOf_cons ok_spec_l2Two conOf_nil))
theorem ok_spec_l2Mac : CtrOk Try.prog (c_spec_l2Mac) := by
  refine ctr_of_run (c := c_spec_l2Mac) (by kernel_rfl) (by kernel_rfl : Try.prog.funcs[33]? = some Try.f33) (code := Try.f33.body.getD .skip) (by kernel_rfl) (by kernel_rfl) (by kernel_rfl) (A := A_spec_l2Mac) (I := In_spec_l2Mac) (hcs_spec_l2Mac) ?_
  rintro ⟨a0, a1, u⟩ y hy
  exact (S_spec_l2Mac a0 a1 hy).get

/-! ## spec.l16Hash (20) -/
noncomputable def P_spec_l16Hash_0_4 (x1 : Int) (x2 : (List Int)) : Nat → (List Int) → Int → Option (List Int)
  | 0, _, _ => none
  | m + 1, x3, x4 =>
      bif decide (x4 < x1) then
        Option.bind (P_spec_l2Mac x2 x3) fun (y2 : (List Int)) =>
        P_spec_l16Hash_0_4 x1 x2 m y2 (IntKind.wrap .i64 (x4 + 1))
      else
        some x3
noncomputable def P_spec_l16Hash (m : Nat) (a0 : (List Int)) (a1 : (List Int)) (a2 : Int) : Option (List Int) :=
  Option.bind (P_spec_l2Mac a0 a1) fun (y1 : (List Int)) =>
  P_spec_l16Hash_0_4 a2 a0 m y1 1
noncomputable def E_spec_l16Hash (a0 : (List Int)) (a1 : (List Int)) (a2 : Int) : Option (List Int) := evOpt fun m => P_spec_l16Hash m a0 a1 a2
noncomputable def c_spec_l16Hash : Ctr := ⟨20, [.str, (.list U8), I64], [(.list U8)], fun x => E_spec_l16Hash x.1 x.2.1 x.2.2.1⟩
def A_spec_l16Hash : List (List Nat × Ann) := [([0, 4], [.keep 0 2, .keep 0 7, .keep 0 8, .keep 0 9])]
def In_spec_l16Hash : List (List Nat × Nat) := []
noncomputable def cs_spec_l16Hash : List Ctr := [c_spec_l2Mac]
noncomputable def F_spec_l16Hash (n : Nat) (a0 : (List Int)) (a1 : (List Int)) (a2 : Int) : Option (List Int) := run Try.prog A_spec_l16Hash In_spec_l16Hash (conOf cs_spec_l16Hash) Try.f20 (Try.f20.body.getD .skip) (packT [(.list U8)]) n (argsV [.str, (.list U8), I64] (a0, a1, a2, ()))
noncomputable abbrev L_spec_l16Hash_0_4 (n : Nat) (x1 : Int) (x2 : (List Int)) (x3 : (List Int)) (x4 : Int) : Option (List Int) := lam Try.prog A_spec_l16Hash In_spec_l16Hash (conOf cs_spec_l16Hash) Try.f20 (Try.f20.body.getD .skip) (packT [(.list U8)]) n [0, 4] [.d I64 x1, .d (.list U8) x2, .d (.list U8) x3, .d I64 x4]
theorem F_spec_l16Hash_eq (n : Nat) (a0 : (List Int)) (a1 : (List Int)) (a2 : Int) : F_spec_l16Hash n a0 a1 a2 =
    Option.bind (P_spec_l2Mac a0 a1) fun (y1 : (List Int)) =>
    L_spec_l16Hash_0_4 n a2 a0 y1 1 := by kernel_rfl
theorem L_spec_l16Hash_0_4_eq (n : Nat) (x1 : Int) (x2 : (List Int)) (x3 : (List Int)) (x4 : Int) : L_spec_l16Hash_0_4 (n + 1) x1 x2 x3 x4 =
    bif decide (x4 < x1) then
      Option.bind (P_spec_l2Mac x2 x3) fun (y2 : (List Int)) =>
      L_spec_l16Hash_0_4 n x1 x2 y2 (IntKind.wrap .i64 (x4 + 1))
    else
      some x3 := by kernel_rfl
theorem S_spec_l16Hash_0_4 {x1 : Int} {x2 : (List Int)} : ∀ (m : Nat) (x3 : (List Int)) (x4 : Int) (r : (List Int)), P_spec_l16Hash_0_4 x1 x2 m x3 x4 = some r → Ev (fun n => L_spec_l16Hash_0_4 n x1 x2 x3 x4) r := by
  intro m
  induction m with
  | zero => intro x3 x4 r h; rw [P_spec_l16Hash_0_4] at h; exact Ev.ofNone h
  | succ m ih2 =>
    intro x3 x4 r h
    rw [P_spec_l16Hash_0_4] at h
    refine Ev.step ?_ (fun n => L_spec_l16Hash_0_4_eq n x1 x2 x3 x4)
    exact (Ev.ofBif h (fun h => (Ev.ofBind h fun y2 h => (ih2 _ _ _ h))) (fun h => (Ev.ofSome h)))
theorem S_spec_l16Hash {m : Nat} (a0 : (List Int)) (a1 : (List Int)) (a2 : Int) {r : (List Int)} (h : P_spec_l16Hash m a0 a1 a2 = some r) : Ev (fun n => F_spec_l16Hash n a0 a1 a2) r := by
  rw [P_spec_l16Hash] at h
  refine Ev.of_eq ?_ (fun n => F_spec_l16Hash_eq n a0 a1 a2)
  exact (Ev.ofBind h fun y1 h => (S_spec_l16Hash_0_4 _ _ _ _ h))
theorem hcs_spec_l16Hash : ∀ x ∈ cs_spec_l16Hash, CtrOk Try.prog x := (conOf_cons ok_spec_l2Mac conOf_nil)
theorem ok_spec_l16Hash : CtrOk Try.prog (c_spec_l16Hash) := by
  refine ctr_of_run (c := c_spec_l16Hash) (by kernel_rfl) (by kernel_rfl : Try.prog.funcs[20]? = some Try.f20) (code := Try.f20.body.getD .skip) (by kernel_rfl) (by kernel_rfl) (by kernel_rfl) (A := A_spec_l16Hash) (I := In_spec_l16Hash) (hcs_spec_l16Hash) ?_
  rintro ⟨a0, a1, a2, u⟩ y hy
  exact let ⟨_, h⟩ := (evOpt_get hy).get; (S_spec_l16Hash a0 a1 a2 h).get

/-! ## spec.PassHash (6) -/
noncomputable def P_spec_PassHash (a0 : (List Int)) (a1 : (List Int)) (a2 : Int) : Option (List Int) :=
  bif decide ((64 : Int) < (a0.length : Int)) then
    some ([])
  else
    bif decide ((64 : Int) < (a1.length : Int)) then
      some ([])
    else
      bif decide (a2 < 1) then
        some ([])
      else
        bif decide ((1000 : Int) < a2) then
          some ([])
        else
          Option.bind (E_spec_l16Hash a0 a1 a2) fun (y1 : (List Int)) =>
          some y1
noncomputable def c_spec_PassHash : Ctr := ⟨6, [.str, (.list U8), I64], [(.list U8)], fun x => P_spec_PassHash x.1 x.2.1 x.2.2.1⟩
def A_spec_PassHash : List (List Nat × Ann) := []
def In_spec_PassHash : List (List Nat × Nat) := []
noncomputable def cs_spec_PassHash : List Ctr := [c_spec_l16Hash]
noncomputable def F_spec_PassHash (n : Nat) (a0 : (List Int)) (a1 : (List Int)) (a2 : Int) : Option (List Int) := run Try.prog A_spec_PassHash In_spec_PassHash (conOf cs_spec_PassHash) Try.f6 (Try.f6.body.getD .skip) (packT [(.list U8)]) n (argsV [.str, (.list U8), I64] (a0, a1, a2, ()))
theorem F_spec_PassHash_eq (n : Nat) (a0 : (List Int)) (a1 : (List Int)) (a2 : Int) : F_spec_PassHash n a0 a1 a2 =
    bif decide ((64 : Int) < (a0.length : Int)) then
      some ([])
    else
      bif decide ((64 : Int) < (a1.length : Int)) then
        some ([])
      else
        bif decide (a2 < 1) then
          some ([])
        else
          bif decide ((1000 : Int) < a2) then
            some ([])
          else
            Option.bind (E_spec_l16Hash a0 a1 a2) fun (y1 : (List Int)) =>
            some y1 := by kernel_rfl
theorem S_spec_PassHash (a0 : (List Int)) (a1 : (List Int)) (a2 : Int) {r : (List Int)} (h : P_spec_PassHash a0 a1 a2 = some r) : Ev (fun n => F_spec_PassHash n a0 a1 a2) r := by
  rw [P_spec_PassHash] at h
  refine Ev.of_eq ?_ (fun n => F_spec_PassHash_eq n a0 a1 a2)
  exact (Ev.ofBif h (fun h => (Ev.ofSome h)) (fun h => (Ev.ofBif h (fun h => (Ev.ofSome h)) (fun h => (Ev.ofBif h (fun h => (Ev.ofSome h)) (fun h => (Ev.ofBif h (fun h => (Ev.ofSome h)) (fun h => (Ev.ofBind h fun y1 h => (Ev.ofSome h))))))))))
theorem hcs_spec_PassHash : ∀ x ∈ cs_spec_PassHash, CtrOk Try.prog x := (conOf_cons ok_spec_l16Hash conOf_nil)
theorem ok_spec_PassHash : CtrOk Try.prog (c_spec_PassHash) := by
  refine ctr_of_run (c := c_spec_PassHash) (by kernel_rfl) (by kernel_rfl : Try.prog.funcs[6]? = some Try.f6) (code := Try.f6.body.getD .skip) (by kernel_rfl) (by kernel_rfl) (by kernel_rfl) (A := A_spec_PassHash) (I := In_spec_PassHash) (hcs_spec_PassHash) ?_
  rintro ⟨a0, a1, a2, u⟩ y hy
  exact (S_spec_PassHash a0 a1 a2 hy).get

/-! ## spec.PassCheck (13) -/
noncomputable def P_spec_PassCheck (a0 : DStored) (a1 : (List Int)) : Option Bool :=
  Option.bind (P_spec_PassHash a1 a0.1 a0.2.1) fun (y1 : (List Int)) =>
  bif decide ((0 : Int) < (y1.length : Int)) then
    bif decide ((y1.length : Int) ≤ room) then
      bif decide ((a0.2.2.length : Int) ≤ room) then
        some (decide (y1 = a0.2.2))
      else none
    else none
  else
    some false
noncomputable def c_spec_PassCheck : Ctr := ⟨13, [TyStored, .str], [.bool], fun x => P_spec_PassCheck x.1 x.2.1⟩
def A_spec_PassCheck : List (List Nat × Ann) := []
def In_spec_PassCheck : List (List Nat × Nat) := []
noncomputable def cs_spec_PassCheck : List Ctr := [c_spec_PassHash]
noncomputable def F_spec_PassCheck (n : Nat) (a0 : DStored) (a1 : (List Int)) : Option Bool := run Try.prog A_spec_PassCheck In_spec_PassCheck (conOf cs_spec_PassCheck) Try.f13 (Try.f13.body.getD .skip) (packT [.bool]) n (argsV [TyStored, .str] (a0, a1, ()))
theorem F_spec_PassCheck_eq (n : Nat) (a0 : DStored) (a1 : (List Int)) : F_spec_PassCheck n a0 a1 =
    Option.bind (P_spec_PassHash a1 a0.1 a0.2.1) fun (y1 : (List Int)) =>
    bif decide ((0 : Int) < (y1.length : Int)) then
      bif decide ((y1.length : Int) ≤ room) then
        bif decide ((a0.2.2.length : Int) ≤ room) then
          some (decide (y1 = a0.2.2))
        else none
      else none
    else
      some false := by kernel_rfl
theorem S_spec_PassCheck (a0 : DStored) (a1 : (List Int)) {r : Bool} (h : P_spec_PassCheck a0 a1 = some r) : Ev (fun n => F_spec_PassCheck n a0 a1) r := by
  rw [P_spec_PassCheck] at h
  refine Ev.of_eq ?_ (fun n => F_spec_PassCheck_eq n a0 a1)
  exact (Ev.ofBind h fun y1 h => (Ev.ofBif h (fun h => (Ev.ofBif h (fun h => (Ev.ofBif h (fun h => (Ev.ofSome h)) (fun h => (Ev.ofNone h)))) (fun h => (Ev.ofNone h)))) (fun h => (Ev.ofSome h))))
theorem hcs_spec_PassCheck : ∀ x ∈ cs_spec_PassCheck, CtrOk Try.prog x := (conOf_cons ok_spec_PassHash conOf_nil)
theorem ok_spec_PassCheck : CtrOk Try.prog (c_spec_PassCheck) := by
  refine ctr_of_run (c := c_spec_PassCheck) (by kernel_rfl) (by kernel_rfl : Try.prog.funcs[13]? = some Try.f13) (code := Try.f13.body.getD .skip) (by kernel_rfl) (by kernel_rfl) (by kernel_rfl) (A := A_spec_PassCheck) (I := In_spec_PassCheck) (hcs_spec_PassCheck) ?_
  rintro ⟨a0, a1, u⟩ y hy
  exact (S_spec_PassCheck a0 a1 hy).get

/-! ## impl.ybytes (41) -/
noncomputable def T_impl_ybytes (a0 : Int) : (List Int) :=
  ([IntKind.wrap .u8 a0, IntKind.wrap .u8 (Int.fdiv a0 (2 ^ (min (Int.toNat 8) 64))), IntKind.wrap .u8 (Int.fdiv a0 (2 ^ (min (Int.toNat 16) 64))), IntKind.wrap .u8 (Int.fdiv a0 (2 ^ (min (Int.toNat 24) 64)))] : List Int)
noncomputable def c_impl_ybytes : Ctr := ⟨41, [I64], [(.list U8)], fun x => some (T_impl_ybytes x.1)⟩
def A_impl_ybytes : List (List Nat × Ann) := []
def In_impl_ybytes : List (List Nat × Nat) := []
noncomputable def cs_impl_ybytes : List Ctr := []
noncomputable def F_impl_ybytes (n : Nat) (a0 : Int) : Option (List Int) := run Try.prog A_impl_ybytes In_impl_ybytes (conOf cs_impl_ybytes) Try.f41 (Try.f41.body.getD .skip) (packT [(.list U8)]) n (argsV [I64] (a0, ()))
theorem F_impl_ybytes_eq (n : Nat) (a0 : Int) : F_impl_ybytes n a0 =
    some ([IntKind.wrap .u8 a0, IntKind.wrap .u8 (Int.fdiv a0 (2 ^ (min (Int.toNat 8) 64))), IntKind.wrap .u8 (Int.fdiv a0 (2 ^ (min (Int.toNat 16) 64))), IntKind.wrap .u8 (Int.fdiv a0 (2 ^ (min (Int.toNat 24) 64)))] : List Int) := by kernel_rfl
theorem S_impl_ybytes (n : Nat) (a0 : Int) : F_impl_ybytes n a0 = some (T_impl_ybytes a0) := (F_impl_ybytes_eq n a0).trans rfl
theorem hcs_impl_ybytes : ∀ x ∈ cs_impl_ybytes, CtrOk Try.prog x := conOf_nil
theorem ok_impl_ybytes : CtrOk Try.prog (c_impl_ybytes) := by
  refine ctr_of_run (c := c_impl_ybytes) (by kernel_rfl) (by kernel_rfl : Try.prog.funcs[41]? = some Try.f41) (code := Try.f41.body.getD .skip) (by kernel_rfl) (by kernel_rfl) (by kernel_rfl) (A := A_impl_ybytes) (I := In_impl_ybytes) (hcs_impl_ybytes) ?_
  rintro ⟨a0, u⟩ y hy
  exact ⟨0, (S_impl_ybytes 0 a0).trans hy⟩

/-! ## impl.Digest (34) -/
noncomputable def P_impl_Digest_0_1_9002 (K0 : Int → Int → Int → Int → Option (List Int)) (x5 : Int) (x11 : Int) (x12 : Int) (x13 : Int) (x14 : Int) : Nat → Int → Int → Int → Int → Int → Option (List Int)
  | 0, _, _, _, _, _ => none
  | m + 1, x6, x7, x8, x9, x10 =>
      bif decide (x6 < 4) then
        bif inB x6 4 then
          bif inB x6 4 then
            bif inB x6 4 then
              bif inB x6 4 then
                bif inB (Int.tmod (IntKind.wrap .i64 (x6 + 1)) 4) 4 then
                  bif inB (Int.tmod (IntKind.wrap .i64 (x6 + 1)) 4) 4 then
                    bif inB x6 4 then
                      bif inB x6 4 then
                        P_impl_Digest_0_1_9002 K0 x5 x11 x12 x13 x14 m (IntKind.wrap .i64 (x6 + 1)) (bif decide (x6 = 0) then (Int.tmod (IntKind.wrap .i64 ((IntKind.wrap .i64 ((IntKind.wrap .i64 ((IntKind.wrap .i64 ((rd ([x7, x8, x9, x10] : List Int) x6 (Ty.dflt I64)) * (rd ([x11, x12, x13, x14] : List Int) x6 (Ty.dflt I64)))) + (IntKind.wrap .i64 x5))) + 1)) + (rd ([x7, x8, x9, x10] : List Int) (Int.tmod (IntKind.wrap .i64 (x6 + 1)) 4) (Ty.dflt I64)))) 2147483579) else x7) (bif decide (x6 = 1) then (Int.tmod (IntKind.wrap .i64 ((IntKind.wrap .i64 ((IntKind.wrap .i64 ((IntKind.wrap .i64 ((rd ([x7, x8, x9, x10] : List Int) x6 (Ty.dflt I64)) * (rd ([x11, x12, x13, x14] : List Int) x6 (Ty.dflt I64)))) + (IntKind.wrap .i64 x5))) + 1)) + (rd ([x7, x8, x9, x10] : List Int) (Int.tmod (IntKind.wrap .i64 (x6 + 1)) 4) (Ty.dflt I64)))) 2147483579) else x8) (bif decide (x6 = 2) then (Int.tmod (IntKind.wrap .i64 ((IntKind.wrap .i64 ((IntKind.wrap .i64 ((IntKind.wrap .i64 ((rd ([x7, x8, x9, x10] : List Int) x6 (Ty.dflt I64)) * (rd ([x11, x12, x13, x14] : List Int) x6 (Ty.dflt I64)))) + (IntKind.wrap .i64 x5))) + 1)) + (rd ([x7, x8, x9, x10] : List Int) (Int.tmod (IntKind.wrap .i64 (x6 + 1)) 4) (Ty.dflt I64)))) 2147483579) else x9) (bif decide (x6 = 3) then (Int.tmod (IntKind.wrap .i64 ((IntKind.wrap .i64 ((IntKind.wrap .i64 ((IntKind.wrap .i64 ((rd ([x7, x8, x9, x10] : List Int) x6 (Ty.dflt I64)) * (rd ([x11, x12, x13, x14] : List Int) x6 (Ty.dflt I64)))) + (IntKind.wrap .i64 x5))) + 1)) + (rd ([x7, x8, x9, x10] : List Int) (Int.tmod (IntKind.wrap .i64 (x6 + 1)) 4) (Ty.dflt I64)))) 2147483579) else x10)
                      else none
                    else none
                  else none
                else none
              else none
            else none
          else none
        else none
      else
        K0 x7 x8 x9 x10
noncomputable def P_impl_Digest_0_1_14002 (K2 : Int → Int → Int → Int → Option (List Int)) (x4 : Int) (x10 : Int) (x11 : Int) (x12 : Int) (x13 : Int) : Nat → Int → Int → Int → Int → Int → Option (List Int)
  | 0, _, _, _, _, _ => none
  | m + 1, x5, x6, x7, x8, x9 =>
      bif decide (x5 < 4) then
        bif inB x5 4 then
          bif inB x5 4 then
            bif inB x5 4 then
              bif inB x5 4 then
                bif inB (Int.tmod (IntKind.wrap .i64 (x5 + 1)) 4) 4 then
                  bif inB (Int.tmod (IntKind.wrap .i64 (x5 + 1)) 4) 4 then
                    bif inB x5 4 then
                      bif inB x5 4 then
                        P_impl_Digest_0_1_14002 K2 x4 x10 x11 x12 x13 m (IntKind.wrap .i64 (x5 + 1)) (bif decide (x5 = 0) then (Int.tmod (IntKind.wrap .i64 ((IntKind.wrap .i64 ((IntKind.wrap .i64 ((IntKind.wrap .i64 ((rd ([x6, x7, x8, x9] : List Int) x5 (Ty.dflt I64)) * (rd ([x10, x11, x12, x13] : List Int) x5 (Ty.dflt I64)))) + (IntKind.wrap .i64 x4))) + 1)) + (rd ([x6, x7, x8, x9] : List Int) (Int.tmod (IntKind.wrap .i64 (x5 + 1)) 4) (Ty.dflt I64)))) 2147483579) else x6) (bif decide (x5 = 1) then (Int.tmod (IntKind.wrap .i64 ((IntKind.wrap .i64 ((IntKind.wrap .i64 ((IntKind.wrap .i64 ((rd ([x6, x7, x8, x9] : List Int) x5 (Ty.dflt I64)) * (rd ([x10, x11, x12, x13] : List Int) x5 (Ty.dflt I64)))) + (IntKind.wrap .i64 x4))) + 1)) + (rd ([x6, x7, x8, x9] : List Int) (Int.tmod (IntKind.wrap .i64 (x5 + 1)) 4) (Ty.dflt I64)))) 2147483579) else x7) (bif decide (x5 = 2) then (Int.tmod (IntKind.wrap .i64 ((IntKind.wrap .i64 ((IntKind.wrap .i64 ((IntKind.wrap .i64 ((rd ([x6, x7, x8, x9] : List Int) x5 (Ty.dflt I64)) * (rd ([x10, x11, x12, x13] : List Int) x5 (Ty.dflt I64)))) + (IntKind.wrap .i64 x4))) + 1)) + (rd ([x6, x7, x8, x9] : List Int) (Int.tmod (IntKind.wrap .i64 (x5 + 1)) 4) (Ty.dflt I64)))) 2147483579) else x8) (bif decide (x5 = 3) then (Int.tmod (IntKind.wrap .i64 ((IntKind.wrap .i64 ((IntKind.wrap .i64 ((IntKind.wrap .i64 ((rd ([x6, x7, x8, x9] : List Int) x5 (Ty.dflt I64)) * (rd ([x10, x11, x12, x13] : List Int) x5 (Ty.dflt I64)))) + (IntKind.wrap .i64 x4))) + 1)) + (rd ([x6, x7, x8, x9] : List Int) (Int.tmod (IntKind.wrap .i64 (x5 + 1)) 4) (Ty.dflt I64)))) 2147483579) else x9)
                      else none
                    else none
                  else none
                else none
              else none
            else none
          else none
        else none
      else
        K2 x6 x7 x8 x9
noncomputable def P_impl_Digest_0_1_18001 (K4 : Int → Int → Int → Int → Int → Option (List Int)) (x1 : Int) (x8 : Int) (x9 : Int) (x10 : Int) (x11 : Int) : Nat → Int → Int → Int → Int → Int → Option (List Int)
  | 0, _, _, _, _, _ => none
  | m + 1, x3, x4, x5, x6, x7 =>
      bif decide (x3 < 4) then
        bif inB x3 4 then
          bif inB x3 4 then
            bif inB x3 4 then
              bif inB x3 4 then
                bif inB (Int.tmod (IntKind.wrap .i64 (x3 + 1)) 4) 4 then
                  bif inB (Int.tmod (IntKind.wrap .i64 (x3 + 1)) 4) 4 then
                    bif inB x3 4 then
                      bif inB x3 4 then
                        P_impl_Digest_0_1_18001 K4 x1 x8 x9 x10 x11 m (IntKind.wrap .i64 (x3 + 1)) (bif decide (x3 = 0) then (Int.tmod (IntKind.wrap .i64 ((IntKind.wrap .i64 ((IntKind.wrap .i64 ((IntKind.wrap .i64 ((rd ([x4, x5, x6, x7] : List Int) x3 (Ty.dflt I64)) * (rd ([x8, x9, x10, x11] : List Int) x3 (Ty.dflt I64)))) + (IntKind.wrap .i64 (0 : Int)))) + 1)) + (rd ([x4, x5, x6, x7] : List Int) (Int.tmod (IntKind.wrap .i64 (x3 + 1)) 4) (Ty.dflt I64)))) 2147483579) else x4) (bif decide (x3 = 1) then (Int.tmod (IntKind.wrap .i64 ((IntKind.wrap .i64 ((IntKind.wrap .i64 ((IntKind.wrap .i64 ((rd ([x4, x5, x6, x7] : List Int) x3 (Ty.dflt I64)) * (rd ([x8, x9, x10, x11] : List Int) x3 (Ty.dflt I64)))) + (IntKind.wrap .i64 (0 : Int)))) + 1)) + (rd ([x4, x5, x6, x7] : List Int) (Int.tmod (IntKind.wrap .i64 (x3 + 1)) 4) (Ty.dflt I64)))) 2147483579) else x5) (bif decide (x3 = 2) then (Int.tmod (IntKind.wrap .i64 ((IntKind.wrap .i64 ((IntKind.wrap .i64 ((IntKind.wrap .i64 ((rd ([x4, x5, x6, x7] : List Int) x3 (Ty.dflt I64)) * (rd ([x8, x9, x10, x11] : List Int) x3 (Ty.dflt I64)))) + (IntKind.wrap .i64 (0 : Int)))) + 1)) + (rd ([x4, x5, x6, x7] : List Int) (Int.tmod (IntKind.wrap .i64 (x3 + 1)) 4) (Ty.dflt I64)))) 2147483579) else x6) (bif decide (x3 = 3) then (Int.tmod (IntKind.wrap .i64 ((IntKind.wrap .i64 ((IntKind.wrap .i64 ((IntKind.wrap .i64 ((rd ([x4, x5, x6, x7] : List Int) x3 (Ty.dflt I64)) * (rd ([x8, x9, x10, x11] : List Int) x3 (Ty.dflt I64)))) + (IntKind.wrap .i64 (0 : Int)))) + 1)) + (rd ([x4, x5, x6, x7] : List Int) (Int.tmod (IntKind.wrap .i64 (x3 + 1)) 4) (Ty.dflt I64)))) 2147483579) else x7)
                      else none
                    else none
                  else none
                else none
              else none
            else none
          else none
        else none
      else
        K4 (IntKind.wrap .i64 (x1 + 1)) x4 x5 x6 x7
noncomputable def P_impl_Digest_0_22 (x2 : Int) (x3 : Int) (x4 : Int) (x5 : Int) : Nat → (List Int) → Int → Option (List Int)
  | 0, _, _ => none
  | m + 1, x1, x6 =>
      bif decide (x6 < 4) then
        bif inB x6 4 then
          bif decide (((x1.length : Int) + ((T_impl_ybytes (rd ([x2, x3, x4, x5] : List Int) x6 (Ty.dflt I64))).length : Int)) * 1 ≤ room) && decide ((x1.length : Int) + ((T_impl_ybytes (rd ([x2, x3, x4, x5] : List Int) x6 (Ty.dflt I64))).length : Int) ≤ room) then
            P_impl_Digest_0_22 x2 x3 x4 x5 m (x1 ++ (T_impl_ybytes (rd ([x2, x3, x4, x5] : List Int) x6 (Ty.dflt I64)))) (IntKind.wrap .i64 (x6 + 1))
          else none
        else none
      else
        some x1
noncomputable def P_impl_Digest_0_17 (x6 : Int) (x7 : Int) (x8 : Int) (x9 : Int) : Nat → Int → Int → Int → Int → Int → Option (List Int)
  | 0, _, _, _, _, _ => none
  | m + 1, x1, x2, x3, x4, x5 =>
      bif decide (x1 < 8) then
        P_impl_Digest_0_1_18001 (fun s0 s1 s2 s3 s4 => P_impl_Digest_0_17 x6 x7 x8 x9 m s0 s1 s2 s3 s4) x1 x6 x7 x8 x9 m 0 x2 x3 x4 x5
      else
        P_impl_Digest_0_22 x2 x3 x4 x5 m [] 0
noncomputable def P_impl_Digest_0_12 (m : Nat) (x8 : Int) (x9 : Int) (x10 : Int) (x11 : Int) : List Int → Int → Int → Int → Int → Option (List Int)
  | [], x4, x5, x6, x7 =>
      P_impl_Digest_0_17 x8 x9 x10 x11 m 0 x4 x5 x6 x7
  | e :: rest, x4, x5, x6, x7 =>
      P_impl_Digest_0_1_14002 (fun s0 s1 s2 s3 => P_impl_Digest_0_12 m x8 x9 x10 x11 rest s0 s1 s2 s3) (e) x8 x9 x10 x11 m 0 x4 x5 x6 x7
noncomputable def P_impl_Digest_0_7 (m : Nat) (x1 : (List Int)) : List Int → Int → Int → Int → Int → Option (List Int)
  | [], x5, x6, x7, x8 =>
      lenOk (T_impl_ybytes (x1.length : Int)) (P_impl_Digest_0_12 m (1103515245 : Int) (69069 : Int) (1664525 : Int) (22695477 : Int) (T_impl_ybytes (x1.length : Int)) x5 x6 x7 x8)
  | e :: rest, x5, x6, x7, x8 =>
      P_impl_Digest_0_1_9002 (fun s0 s1 s2 s3 => P_impl_Digest_0_7 m x1 rest s0 s1 s2 s3) (e) (1103515245 : Int) (69069 : Int) (1664525 : Int) (22695477 : Int) m 0 x5 x6 x7 x8
noncomputable def P_impl_Digest (m : Nat) (a0 : (List Int)) : Option (List Int) :=
  bif decide ((20000 : Int) < (a0.length : Int)) then
    some ([])
  else
    lenOk a0 (P_impl_Digest_0_7 m a0 a0 11 22 33 44)
noncomputable def E_impl_Digest (a0 : (List Int)) : Option (List Int) := evOpt fun m => P_impl_Digest m a0
noncomputable def c_impl_Digest : Ctr := ⟨34, [(.list U8)], [(.list U8)], fun x => E_impl_Digest x.1⟩
def A_impl_Digest : List (List Nat × Ann) := [([0, 7], [.keep 0 0, .keep 0 3, .keep 0 5, .keep 0 19, .keep 0 20, .keep 0 21, .box 0 3 4, .box 0 4 4]), ([0, 1, 9002], [.keep 0 0, .keep 0 3, .keep 0 5, .keep 0 19, .keep 0 20, .keep 0 21, .keep 1 0, .keep 1 1, .keep 1 2, .keep 1 5, .box 0 3 4, .box 0 4 4]), ([0, 12], [.keep 0 3, .keep 0 5, .keep 0 31, .keep 0 32, .keep 0 33, .box 0 3 4, .box 0 4 4]), ([0, 1, 14002], [.keep 0 3, .keep 0 5, .keep 0 31, .keep 0 32, .keep 0 33, .keep 1 0, .keep 1 1, .keep 1 2, .keep 1 5, .box 0 3 4, .box 0 4 4]), ([0, 17], [.keep 0 3, .keep 0 5, .keep 0 41, .box 0 3 4, .box 0 4 4]), ([0, 1, 18001], [.keep 0 3, .keep 0 5, .keep 0 41, .keep 1 0, .keep 1 1, .keep 1 2, .keep 1 5, .box 0 3 4, .box 0 4 4]), ([0, 22], [.own 0 10 U8, .keep 0 46, .keep 0 47])]
def In_impl_Digest : List (List Nat × Nat) := [([9002], 46), ([14002], 46), ([18001], 46)]
noncomputable def cs_impl_Digest : List Ctr := [c_impl_ybytes]
noncomputable def F_impl_Digest (n : Nat) (a0 : (List Int)) : Option (List Int) := run Try.prog A_impl_Digest In_impl_Digest (conOf cs_impl_Digest) Try.f34 (Try.f34.body.getD .skip) (packT [(.list U8)]) n (argsV [(.list U8)] (a0, ()))
noncomputable abbrev L_impl_Digest_0_7 (n : Nat) (x1 : (List Int)) (x2 : (List Int)) (x3 : Int) (x4 : Int) (x5 : Int) (x6 : Int) (x7 : Int) (x8 : Int) (x9 : Int) (x10 : Int) (x11 : Int) (x12 : Int) : Option (List Int) := lam Try.prog A_impl_Digest In_impl_Digest (conOf cs_impl_Digest) Try.f34 (Try.f34.body.getD .skip) (packT [(.list U8)]) n [0, 7] [.d (.list U8) x1, .ptr 0 3 0, .fn 46 [.ptr 0 3 0, .ptr 0 4 0], .d (.list U8) x2, .d I64 x3, .d I64 x4, .agg [.d I64 x5, .d I64 x6, .d I64 x7, .d I64 x8], .agg [.d I64 x9, .d I64 x10, .d I64 x11, .d I64 x12]]
noncomputable abbrev L_impl_Digest_0_1_9002 (n : Nat) (x1 : (List Int)) (x2 : (List Int)) (x3 : Int) (x4 : Int) (x5 : Int) (x6 : Int) (x7 : Int) (x8 : Int) (x9 : Int) (x10 : Int) (x11 : Int) (x12 : Int) (x13 : Int) (x14 : Int) : Option (List Int) := lam Try.prog A_impl_Digest In_impl_Digest (conOf cs_impl_Digest) Try.f34 (Try.f34.body.getD .skip) (packT [(.list U8)]) n [0, 1, 9002] [.d (.list U8) x1, .ptr 0 3 0, .fn 46 [.ptr 0 3 0, .ptr 0 4 0], .d (.list U8) x2, .d I64 x3, .d I64 x4, .d U8 x5, .ptr 0 3 0, .ptr 0 4 0, .d I64 x6, .agg [.d I64 x7, .d I64 x8, .d I64 x9, .d I64 x10], .agg [.d I64 x11, .d I64 x12, .d I64 x13, .d I64 x14]]
noncomputable abbrev L_impl_Digest_0_12 (n : Nat) (x1 : (List Int)) (x2 : Int) (x3 : Int) (x4 : Int) (x5 : Int) (x6 : Int) (x7 : Int) (x8 : Int) (x9 : Int) (x10 : Int) (x11 : Int) : Option (List Int) := lam Try.prog A_impl_Digest In_impl_Digest (conOf cs_impl_Digest) Try.f34 (Try.f34.body.getD .skip) (packT [(.list U8)]) n [0, 12] [.ptr 0 3 0, .fn 46 [.ptr 0 3 0, .ptr 0 4 0], .d (.list U8) x1, .d I64 x2, .d I64 x3, .agg [.d I64 x4, .d I64 x5, .d I64 x6, .d I64 x7], .agg [.d I64 x8, .d I64 x9, .d I64 x10, .d I64 x11]]
noncomputable abbrev L_impl_Digest_0_1_14002 (n : Nat) (x1 : (List Int)) (x2 : Int) (x3 : Int) (x4 : Int) (x5 : Int) (x6 : Int) (x7 : Int) (x8 : Int) (x9 : Int) (x10 : Int) (x11 : Int) (x12 : Int) (x13 : Int) : Option (List Int) := lam Try.prog A_impl_Digest In_impl_Digest (conOf cs_impl_Digest) Try.f34 (Try.f34.body.getD .skip) (packT [(.list U8)]) n [0, 1, 14002] [.ptr 0 3 0, .fn 46 [.ptr 0 3 0, .ptr 0 4 0], .d (.list U8) x1, .d I64 x2, .d I64 x3, .d U8 x4, .ptr 0 3 0, .ptr 0 4 0, .d I64 x5, .agg [.d I64 x6, .d I64 x7, .d I64 x8, .d I64 x9], .agg [.d I64 x10, .d I64 x11, .d I64 x12, .d I64 x13]]
noncomputable abbrev L_impl_Digest_0_17 (n : Nat) (x1 : Int) (x2 : Int) (x3 : Int) (x4 : Int) (x5 : Int) (x6 : Int) (x7 : Int) (x8 : Int) (x9 : Int) : Option (List Int) := lam Try.prog A_impl_Digest In_impl_Digest (conOf cs_impl_Digest) Try.f34 (Try.f34.body.getD .skip) (packT [(.list U8)]) n [0, 17] [.ptr 0 3 0, .fn 46 [.ptr 0 3 0, .ptr 0 4 0], .d I64 x1, .agg [.d I64 x2, .d I64 x3, .d I64 x4, .d I64 x5], .agg [.d I64 x6, .d I64 x7, .d I64 x8, .d I64 x9]]
noncomputable abbrev L_impl_Digest_0_1_18001 (n : Nat) (x1 : Int) (x2 : Int) (x3 : Int) (x4 : Int) (x5 : Int) (x6 : Int) (x7 : Int) (x8 : Int) (x9 : Int) (x10 : Int) (x11 : Int) : Option (List Int) := lam Try.prog A_impl_Digest In_impl_Digest (conOf cs_impl_Digest) Try.f34 (Try.f34.body.getD .skip) (packT [(.list U8)]) n [0, 1, 18001] [.ptr 0 3 0, .fn 46 [.ptr 0 3 0, .ptr 0 4 0], .d I64 x1, .d U8 x2, .ptr 0 3 0, .ptr 0 4 0, .d I64 x3, .agg [.d I64 x4, .d I64 x5, .d I64 x6, .d I64 x7], .agg [.d I64 x8, .d I64 x9, .d I64 x10, .d I64 x11]]
noncomputable abbrev L_impl_Digest_0_22 (n : Nat) (x1 : (List Int)) (x2 : Int) (x3 : Int) (x4 : Int) (x5 : Int) (x6 : Int) : Option (List Int) := lam Try.prog A_impl_Digest In_impl_Digest (conOf cs_impl_Digest) Try.f34 (Try.f34.body.getD .skip) (packT [(.list U8)]) n [0, 22] [.own 0 U8 x1, .agg [.d I64 x2, .d I64 x3, .d I64 x4, .d I64 x5], .d I64 x6]
theorem F_impl_Digest_eq (n : Nat) (a0 : (List Int)) : F_impl_Digest n a0 =
    bif decide ((20000 : Int) < (a0.length : Int)) then
      some ([])
    else
      L_impl_Digest_0_7 n a0 a0 (a0.length : Int) 0 11 22 33 44 1103515245 69069 1664525 22695477 := by kernel_rfl
theorem L_impl_Digest_0_7_eq (n : Nat) (x1 : (List Int)) (x2 : (List Int)) (x3 : Int) (x4 : Int) (x5 : Int) (x6 : Int) (x7 : Int) (x8 : Int) (x9 : Int) (x10 : Int) (x11 : Int) (x12 : Int) : L_impl_Digest_0_7 (n + 1) x1 x2 x3 x4 x5 x6 x7 x8 x9 x10 x11 x12 =
    bif decide (x4 < x3) then
      bif inB x4 x2.length then
        L_impl_Digest_0_1_9002 n x1 x2 x3 x4 (rd x2 x4 (Ty.dflt U8)) 0 x5 x6 x7 x8 x9 x10 x11 x12
      else none
    else
      L_impl_Digest_0_12 n (T_impl_ybytes (x1.length : Int)) ((T_impl_ybytes (x1.length : Int)).length : Int) 0 x5 x6 x7 x8 x9 x10 x11 x12 := by kernel_rfl
theorem L_impl_Digest_0_1_9002_eq (n : Nat) (x1 : (List Int)) (x2 : (List Int)) (x3 : Int) (x4 : Int) (x5 : Int) (x6 : Int) (x7 : Int) (x8 : Int) (x9 : Int) (x10 : Int) (x11 : Int) (x12 : Int) (x13 : Int) (x14 : Int) : L_impl_Digest_0_1_9002 (n + 1) x1 x2 x3 x4 x5 x6 x7 x8 x9 x10 x11 x12 x13 x14 =
    bif decide (x6 < 4) then
      bif inB x6 4 then
        bif inB x6 4 then
          bif inB x6 4 then
            bif inB x6 4 then
              bif inB (Int.tmod (IntKind.wrap .i64 (x6 + 1)) 4) 4 then
                bif inB (Int.tmod (IntKind.wrap .i64 (x6 + 1)) 4) 4 then
                  bif inB x6 4 then
                    bif inB x6 4 then
                      L_impl_Digest_0_1_9002 n x1 x2 x3 x4 x5 (IntKind.wrap .i64 (x6 + 1)) (bif decide (x6 = 0) then (Int.tmod (IntKind.wrap .i64 ((IntKind.wrap .i64 ((IntKind.wrap .i64 ((IntKind.wrap .i64 ((rd ([x7, x8, x9, x10] : List Int) x6 (Ty.dflt I64)) * (rd ([x11, x12, x13, x14] : List Int) x6 (Ty.dflt I64)))) + (IntKind.wrap .i64 x5))) + 1)) + (rd ([x7, x8, x9, x10] : List Int) (Int.tmod (IntKind.wrap .i64 (x6 + 1)) 4) (Ty.dflt I64)))) 2147483579) else x7) (bif decide (x6 = 1) then (Int.tmod (IntKind.wrap .i64 ((IntKind.wrap .i64 ((IntKind.wrap .i64 ((IntKind.wrap .i64 ((rd ([x7, x8, x9, x10] : List Int) x6 (Ty.dflt I64)) * (rd ([x11, x12, x13, x14] : List Int) x6 (Ty.dflt I64)))) + (IntKind.wrap .i64 x5))) + 1)) + (rd ([x7, x8, x9, x10] : List Int) (Int.tmod (IntKind.wrap .i64 (x6 + 1)) 4) (Ty.dflt I64)))) 2147483579) else x8) (bif decide (x6 = 2) then (Int.tmod (IntKind.wrap .i64 ((IntKind.wrap .i64 ((IntKind.wrap .i64 ((IntKind.wrap .i64 ((rd ([x7, x8, x9, x10] : List Int) x6 (Ty.dflt I64)) * (rd ([x11, x12, x13, x14] : List Int) x6 (Ty.dflt I64)))) + (IntKind.wrap .i64 x5))) + 1)) + (rd ([x7, x8, x9, x10] : List Int) (Int.tmod (IntKind.wrap .i64 (x6 + 1)) 4) (Ty.dflt I64)))) 2147483579) else x9) (bif decide (x6 = 3) then (Int.tmod (IntKind.wrap .i64 ((IntKind.wrap .i64 ((IntKind.wrap .i64 ((IntKind.wrap .i64 ((rd ([x7, x8, x9, x10] : List Int) x6 (Ty.dflt I64)) * (rd ([x11, x12, x13, x14] : List Int) x6 (Ty.dflt I64)))) + (IntKind.wrap .i64 x5))) + 1)) + (rd ([x7, x8, x9, x10] : List Int) (Int.tmod (IntKind.wrap .i64 (x6 + 1)) 4) (Ty.dflt I64)))) 2147483579) else x10) x11 x12 x13 x14
                    else none
                  else none
                else none
              else none
            else none
          else none
        else none
      else none
    else
      L_impl_Digest_0_7 n x1 x2 x3 (IntKind.wrap .i64 (x4 + 1)) x7 x8 x9 x10 x11 x12 x13 x14 := by kernel_rfl
theorem L_impl_Digest_0_12_eq (n : Nat) (x1 : (List Int)) (x2 : Int) (x3 : Int) (x4 : Int) (x5 : Int) (x6 : Int) (x7 : Int) (x8 : Int) (x9 : Int) (x10 : Int) (x11 : Int) : L_impl_Digest_0_12 (n + 1) x1 x2 x3 x4 x5 x6 x7 x8 x9 x10 x11 =
    bif decide (x3 < x2) then
      bif inB x3 x1.length then
        L_impl_Digest_0_1_14002 n x1 x2 x3 (rd x1 x3 (Ty.dflt U8)) 0 x4 x5 x6 x7 x8 x9 x10 x11
      else none
    else
      L_impl_Digest_0_17 n 0 x4 x5 x6 x7 x8 x9 x10 x11 := by kernel_rfl
theorem L_impl_Digest_0_1_14002_eq (n : Nat) (x1 : (List Int)) (x2 : Int) (x3 : Int) (x4 : Int) (x5 : Int) (x6 : Int) (x7 : Int) (x8 : Int) (x9 : Int) (x10 : Int) (x11 : Int) (x12 : Int) (x13 : Int) : L_impl_Digest_0_1_14002 (n + 1) x1 x2 x3 x4 x5 x6 x7 x8 x9 x10 x11 x12 x13 =
    bif decide (x5 < 4) then
      bif inB x5 4 then
        bif inB x5 4 then
          bif inB x5 4 then
            bif inB x5 4 then
              bif inB (Int.tmod (IntKind.wrap .i64 (x5 + 1)) 4) 4 then
                bif inB (Int.tmod (IntKind.wrap .i64 (x5 + 1)) 4) 4 then
                  bif inB x5 4 then
                    bif inB x5 4 then
                      L_impl_Digest_0_1_14002 n x1 x2 x3 x4 (IntKind.wrap .i64 (x5 + 1)) (bif decide (x5 = 0) then (Int.tmod (IntKind.wrap .i64 ((IntKind.wrap .i64 ((IntKind.wrap .i64 ((IntKind.wrap .i64 ((rd ([x6, x7, x8, x9] : List Int) x5 (Ty.dflt I64)) * (rd ([x10, x11, x12, x13] : List Int) x5 (Ty.dflt I64)))) + (IntKind.wrap .i64 x4))) + 1)) + (rd ([x6, x7, x8, x9] : List Int) (Int.tmod (IntKind.wrap .i64 (x5 + 1)) 4) (Ty.dflt I64)))) 2147483579) else x6) (bif decide (x5 = 1) then (Int.tmod (IntKind.wrap .i64 ((IntKind.wrap .i64 ((IntKind.wrap .i64 ((IntKind.wrap .i64 ((rd ([x6, x7, x8, x9] : List Int) x5 (Ty.dflt I64)) * (rd ([x10, x11, x12, x13] : List Int) x5 (Ty.dflt I64)))) + (IntKind.wrap .i64 x4))) + 1)) + (rd ([x6, x7, x8, x9] : List Int) (Int.tmod (IntKind.wrap .i64 (x5 + 1)) 4) (Ty.dflt I64)))) 2147483579) else x7) (bif decide (x5 = 2) then (Int.tmod (IntKind.wrap .i64 ((IntKind.wrap .i64 ((IntKind.wrap .i64 ((IntKind.wrap .i64 ((rd ([x6, x7, x8, x9] : List Int) x5 (Ty.dflt I64)) * (rd ([x10, x11, x12, x13] : List Int) x5 (Ty.dflt I64)))) + (IntKind.wrap .i64 x4))) + 1)) + (rd ([x6, x7, x8, x9] : List Int) (Int.tmod (IntKind.wrap .i64 (x5 + 1)) 4) (Ty.dflt I64)))) 2147483579) else x8) (bif decide (x5 = 3) then (Int.tmod (IntKind.wrap .i64 ((IntKind.wrap .i64 ((IntKind.wrap .i64 ((IntKind.wrap .i64 ((rd ([x6, x7, x8, x9] : List Int) x5 (Ty.dflt I64)) * (rd ([x10, x11, x12, x13] : List Int) x5 (Ty.dflt I64)))) + (IntKind.wrap .i64 x4))) + 1)) + (rd ([x6, x7, x8, x9] : List Int) (Int.tmod (IntKind.wrap .i64 (x5 + 1)) 4) (Ty.dflt I64)))) 2147483579) else x9) x10 x11 x12 x13
                    else none
                  else none
                else none
              else none
            else none
          else none
        else none
      else none
    else
      L_impl_Digest_0_12 n x1 x2 (IntKind.wrap .i64 (x3 + 1)) x6 x7 x8 x9 x10 x11 x12 x13 := by kernel_rfl
theorem L_impl_Digest_0_17_eq (n : Nat) (x1 : Int) (x2 : Int) (x3 : Int) (x4 : Int) (x5 : Int) (x6 : Int) (x7 : Int) (x8 : Int) (x9 : Int) : L_impl_Digest_0_17 (n + 1) x1 x2 x3 x4 x5 x6 x7 x8 x9 =
    bif decide (x1 < 8) then
      L_impl_Digest_0_1_18001 n x1 0 0 x2 x3 x4 x5 x6 x7 x8 x9
    else
      L_impl_Digest_0_22 n [] x2 x3 x4 x5 0 := by kernel_rfl
theorem L_impl_Digest_0_1_18001_eq (n : Nat) (x1 : Int) (x2 : Int) (x3 : Int) (x4 : Int) (x5 : Int) (x6 : Int) (x7 : Int) (x8 : Int) (x9 : Int) (x10 : Int) (x11 : Int) : L_impl_Digest_0_1_18001 (n + 1) x1 x2 x3 x4 x5 x6 x7 x8 x9 x10 x11 =
    bif decide (x3 < 4) then
      bif inB x3 4 then
        bif inB x3 4 then
          bif inB x3 4 then
            bif inB x3 4 then
              bif inB (Int.tmod (IntKind.wrap .i64 (x3 + 1)) 4) 4 then
                bif inB (Int.tmod (IntKind.wrap .i64 (x3 + 1)) 4) 4 then
                  bif inB x3 4 then
                    bif inB x3 4 then
                      L_impl_Digest_0_1_18001 n x1 x2 (IntKind.wrap .i64 (x3 + 1)) (bif decide (x3 = 0) then (Int.tmod (IntKind.wrap .i64 ((IntKind.wrap .i64 ((IntKind.wrap .i64 ((IntKind.wrap .i64 ((rd ([x4, x5, x6, x7] : List Int) x3 (Ty.dflt I64)) * (rd ([x8, x9, x10, x11] : List Int) x3 (Ty.dflt I64)))) + (IntKind.wrap .i64 x2))) + 1)) + (rd ([x4, x5, x6, x7] : List Int) (Int.tmod (IntKind.wrap .i64 (x3 + 1)) 4) (Ty.dflt I64)))) 2147483579) else x4) (bif decide (x3 = 1) then (Int.tmod (IntKind.wrap .i64 ((IntKind.wrap .i64 ((IntKind.wrap .i64 ((IntKind.wrap .i64 ((rd ([x4, x5, x6, x7] : List Int) x3 (Ty.dflt I64)) * (rd ([x8, x9, x10, x11] : List Int) x3 (Ty.dflt I64)))) + (IntKind.wrap .i64 x2))) + 1)) + (rd ([x4, x5, x6, x7] : List Int) (Int.tmod (IntKind.wrap .i64 (x3 + 1)) 4) (Ty.dflt I64)))) 2147483579) else x5) (bif decide (x3 = 2) then (Int.tmod (IntKind.wrap .i64 ((IntKind.wrap .i64 ((IntKind.wrap .i64 ((IntKind.wrap .i64 ((rd ([x4, x5, x6, x7] : List Int) x3 (Ty.dflt I64)) * (rd ([x8, x9, x10, x11] : List Int) x3 (Ty.dflt I64)))) + (IntKind.wrap .i64 x2))) + 1)) + (rd ([x4, x5, x6, x7] : List Int) (Int.tmod (IntKind.wrap .i64 (x3 + 1)) 4) (Ty.dflt I64)))) 2147483579) else x6) (bif decide (x3 = 3) then (Int.tmod (IntKind.wrap .i64 ((IntKind.wrap .i64 ((IntKind.wrap .i64 ((IntKind.wrap .i64 ((rd ([x4, x5, x6, x7] : List Int) x3 (Ty.dflt I64)) * (rd ([x8, x9, x10, x11] : List Int) x3 (Ty.dflt I64)))) + (IntKind.wrap .i64 x2))) + 1)) + (rd ([x4, x5, x6, x7] : List Int) (Int.tmod (IntKind.wrap .i64 (x3 + 1)) 4) (Ty.dflt I64)))) 2147483579) else x7) x8 x9 x10 x11
                    else none
                  else none
                else none
              else none
            else none
          else none
        else none
      else none
    else
      L_impl_Digest_0_17 n (IntKind.wrap .i64 (x1 + 1)) x4 x5 x6 x7 x8 x9 x10 x11 := by kernel_rfl
theorem L_impl_Digest_0_22_eq (n : Nat) (x1 : (List Int)) (x2 : Int) (x3 : Int) (x4 : Int) (x5 : Int) (x6 : Int) : L_impl_Digest_0_22 (n + 1) x1 x2 x3 x4 x5 x6 =
    bif decide (x6 < 4) then
      bif inB x6 4 then
        bif decide (((x1.length : Int) + ((T_impl_ybytes (rd ([x2, x3, x4, x5] : List Int) x6 (Ty.dflt I64))).length : Int)) * 1 ≤ room) && decide ((x1.length : Int) + ((T_impl_ybytes (rd ([x2, x3, x4, x5] : List Int) x6 (Ty.dflt I64))).length : Int) ≤ room) then
          L_impl_Digest_0_22 n (x1 ++ (T_impl_ybytes (rd ([x2, x3, x4, x5] : List Int) x6 (Ty.dflt I64)))) x2 x3 x4 x5 (IntKind.wrap .i64 (x6 + 1))
        else none
      else none
    else
      some x1 := by kernel_rfl
theorem S_impl_Digest_0_1_9002 {K0 : Int → Int → Int → Int → Option (List Int)} {x1 : (List Int)} {x3 : Int} {x4 : Int} {x5 : Int} {x11 : Int} {x12 : Int} {x13 : Int} {x14 : Int} (hK0 : ∀ (z5 : Int) (z6 : Int) (z7 : Int) (z8 : Int) (r : (List Int)), K0 z5 z6 z7 z8 = some r → Ev (fun n => L_impl_Digest_0_7 n x1 x1 x3 (IntKind.wrap .i64 (x4 + 1)) z5 z6 z7 z8 x11 x12 x13 x14) r) : ∀ (m : Nat) (x6 : Int) (x7 : Int) (x8 : Int) (x9 : Int) (x10 : Int) (r : (List Int)), P_impl_Digest_0_1_9002 K0 x5 x11 x12 x13 x14 m x6 x7 x8 x9 x10 = some r → Ev (fun n => L_impl_Digest_0_1_9002 n x1 x1 x3 x4 x5 x6 x7 x8 x9 x10 x11 x12 x13 x14) r := by
  intro m
  induction m with
  | zero => intro x6 x7 x8 x9 x10 r h; rw [P_impl_Digest_0_1_9002] at h; exact Ev.ofNone h
  | succ m ih2 =>
    intro x6 x7 x8 x9 x10 r h
    rw [P_impl_Digest_0_1_9002] at h
    refine Ev.step ?_ (fun n => L_impl_Digest_0_1_9002_eq n x1 x1 x3 x4 x5 x6 x7 x8 x9 x10 x11 x12 x13 x14)
    exact (Ev.ofBif h (fun h => (Ev.ofBif h (fun h => (Ev.ofBif h (fun h => (Ev.ofBif h (fun h => (Ev.ofBif h (fun h => (Ev.ofBif h (fun h => (Ev.ofBif h (fun h => (Ev.ofBif h (fun h => (Ev.ofBif h (fun h => (ih2 _ _ _ _ _ _ h)) (fun h => (Ev.ofNone h)))) (fun h => (Ev.ofNone h)))) (fun h => (Ev.ofNone h)))) (fun h => (Ev.ofNone h)))) (fun h => (Ev.ofNone h)))) (fun h => (Ev.ofNone h)))) (fun h => (Ev.ofNone h)))) (fun h => (Ev.ofNone h)))) (fun h => (hK0 _ _ _ _ _ h)))
theorem S_impl_Digest_0_1_14002 {K2 : Int → Int → Int → Int → Option (List Int)} {x1 : (List Int)} {x2 : Int} {x3 : Int} {x4 : Int} {x10 : Int} {x11 : Int} {x12 : Int} {x13 : Int} (hK2 : ∀ (z4 : Int) (z5 : Int) (z6 : Int) (z7 : Int) (r : (List Int)), K2 z4 z5 z6 z7 = some r → Ev (fun n => L_impl_Digest_0_12 n x1 x2 (IntKind.wrap .i64 (x3 + 1)) z4 z5 z6 z7 x10 x11 x12 x13) r) : ∀ (m : Nat) (x5 : Int) (x6 : Int) (x7 : Int) (x8 : Int) (x9 : Int) (r : (List Int)), P_impl_Digest_0_1_14002 K2 x4 x10 x11 x12 x13 m x5 x6 x7 x8 x9 = some r → Ev (fun n => L_impl_Digest_0_1_14002 n x1 x2 x3 x4 x5 x6 x7 x8 x9 x10 x11 x12 x13) r := by
  intro m
  induction m with
  | zero => intro x5 x6 x7 x8 x9 r h; rw [P_impl_Digest_0_1_14002] at h; exact Ev.ofNone h
  | succ m ih2 =>
    intro x5 x6 x7 x8 x9 r h
    rw [P_impl_Digest_0_1_14002] at h
    refine Ev.step ?_ (fun n => L_impl_Digest_0_1_14002_eq n x1 x2 x3 x4 x5 x6 x7 x8 x9 x10 x11 x12 x13)
    exact (Ev.ofBif h (fun h => (Ev.ofBif h (fun h => (Ev.ofBif h (fun h => (Ev.ofBif h (fun h => (Ev.ofBif h (fun h => (Ev.ofBif h (fun h => (Ev.ofBif h (fun h => (Ev.ofBif h (fun h => (Ev.ofBif h (fun h => (ih2 _ _ _ _ _ _ h)) (fun h => (Ev.ofNone h)))) (fun h => (Ev.ofNone h)))) (fun h => (Ev.ofNone h)))) (fun h => (Ev.ofNone h)))) (fun h => (Ev.ofNone h)))) (fun h => (Ev.ofNone h)))) (fun h => (Ev.ofNone h)))) (fun h => (Ev.ofNone h)))) (fun h => (hK2 _ _ _ _ _ h)))
theorem S_impl_Digest_0_1_18001 {K4 : Int → Int → Int → Int → Int → Option (List Int)} {x1 : Int} {x8 : Int} {x9 : Int} {x10 : Int} {x11 : Int} (hK4 : ∀ (z1 : Int) (z2 : Int) (z3 : Int) (z4 : Int) (z5 : Int) (r : (List Int)), K4 z1 z2 z3 z4 z5 = some r → Ev (fun n => L_impl_Digest_0_17 n z1 z2 z3 z4 z5 x8 x9 x10 x11) r) : ∀ (m : Nat) (x3 : Int) (x4 : Int) (x5 : Int) (x6 : Int) (x7 : Int) (r : (List Int)), P_impl_Digest_0_1_18001 K4 x1 x8 x9 x10 x11 m x3 x4 x5 x6 x7 = some r → Ev (fun n => L_impl_Digest_0_1_18001 n x1 (0 : Int) x3 x4 x5 x6 x7 x8 x9 x10 x11) r := by
  intro m
  induction m with
  | zero => intro x3 x4 x5 x6 x7 r h; rw [P_impl_Digest_0_1_18001] at h; exact Ev.ofNone h
  | succ m ih2 =>
    intro x3 x4 x5 x6 x7 r h
    rw [P_impl_Digest_0_1_18001] at h
    refine Ev.step ?_ (fun n => L_impl_Digest_0_1_18001_eq n x1 (0 : Int) x3 x4 x5 x6 x7 x8 x9 x10 x11)
    exact (Ev.ofBif h (fun h => (Ev.ofBif h (fun h => (Ev.ofBif h (fun h => (Ev.ofBif h (fun h => (Ev.ofBif h (fun h => (Ev.ofBif h (fun h => (Ev.ofBif h (fun h => (Ev.ofBif h (fun h => (Ev.ofBif h (fun h => (ih2 _ _ _ _ _ _ h)) (fun h => (Ev.ofNone h)))) (fun h => (Ev.ofNone h)))) (fun h => (Ev.ofNone h)))) (fun h => (Ev.ofNone h)))) (fun h => (Ev.ofNone h)))) (fun h => (Ev.ofNone h)))) (fun h => (Ev.ofNone h)))) (fun h => (Ev.ofNone h)))) (fun h => (hK4 _ _ _ _ _ _ h)))
theorem S_impl_Digest_0_22 {x2 : Int} {x3 : Int} {x4 : Int} {x5 : Int} : ∀ (m : Nat) (x1 : (List Int)) (x6 : Int) (r : (List Int)), P_impl_Digest_0_22 x2 x3 x4 x5 m x1 x6 = some r → Ev (fun n => L_impl_Digest_0_22 n x1 x2 x3 x4 x5 x6) r := by
  intro m
  induction m with
  | zero => intro x1 x6 r h; rw [P_impl_Digest_0_22] at h; exact Ev.ofNone h
  | succ m ih2 =>
    intro x1 x6 r h
    rw [P_impl_Digest_0_22] at h
    refine Ev.step ?_ (fun n => L_impl_Digest_0_22_eq n x1 x2 x3 x4 x5 x6)
    exact (Ev.ofBif h (fun h => (Ev.ofBif h (fun h => (Ev.ofBif h (fun h => (ih2 _ _ _ h)) (fun h => (Ev.ofNone h)))) (fun h => (Ev.ofNone h)))) (fun h => (Ev.ofSome h)))
theorem S_impl_Digest_0_17 {x6 : Int} {x7 : Int} {x8 : Int} {x9 : Int} : ∀ (m : Nat) (x1 : Int) (x2 : Int) (x3 : Int) (x4 : Int) (x5 : Int) (r : (List Int)), P_impl_Digest_0_17 x6 x7 x8 x9 m x1 x2 x3 x4 x5 = some r → Ev (fun n => L_impl_Digest_0_17 n x1 x2 x3 x4 x5 x6 x7 x8 x9) r := by
  intro m
  induction m with
  | zero => intro x1 x2 x3 x4 x5 r h; rw [P_impl_Digest_0_17] at h; exact Ev.ofNone h
  | succ m ih2 =>
    intro x1 x2 x3 x4 x5 r h
    rw [P_impl_Digest_0_17] at h
    refine Ev.step ?_ (fun n => L_impl_Digest_0_17_eq n x1 x2 x3 x4 x5 x6 x7 x8 x9)
    exact (Ev.ofBif h (fun h => (S_impl_Digest_0_1_18001 ih2 _ _ _ _ _ _ _ h)) (fun h => (S_impl_Digest_0_22 _ _ _ _ h)))
theorem S_impl_Digest_0_12 {m : Nat} {x1 : (List Int)} {x8 : Int} {x9 : Int} {x10 : Int} {x11 : Int} (hl : x1.length ≤ maxLen) : ∀ (rest : List Int) (k : Nat) (x4 : Int) (x5 : Int) (x6 : Int) (x7 : Int) (r : (List Int)), rest = x1.drop k → P_impl_Digest_0_12 m x8 x9 x10 x11 rest x4 x5 x6 x7 = some r → Ev (fun n => L_impl_Digest_0_12 n x1 (x1.length : Int) (k : Int) x4 x5 x6 x7 x8 x9 x10 x11) r := by
  intro rest
  induction rest with
  | nil =>
    intro k x4 x5 x6 x7 r hr h
    have hk := drop_nil hr
    rw [P_impl_Digest_0_12] at h
    refine Ev.step ?_ (fun n => L_impl_Digest_0_12_eq n x1 (x1.length : Int) (k : Int) x4 x5 x6 x7 x8 x9 x10 x11)
    rw [show decide ((k : Int) < (x1.length : Int)) = false from decide_eq_false (by omega)]
    exact Ev.neg rfl (S_impl_Digest_0_17 _ _ _ _ _ _ _ h)
  | cons e rest ih =>
    intro k x4 x5 x6 x7 r hr h
    obtain ⟨hk, hx, hr2⟩ := drop_cons (d := (Ty.dflt U8)) hr
    have hw := wrap_succ hl hk
    have ih2 : ∀ (z4 : Int) (z5 : Int) (z6 : Int) (z7 : Int) (r : (List Int)), P_impl_Digest_0_12 m x8 x9 x10 x11 rest z4 z5 z6 z7 = some r → Ev (fun n => L_impl_Digest_0_12 n x1 (x1.length : Int) (IntKind.wrap .i64 ((k : Int) + 1)) z4 z5 z6 z7 x8 x9 x10 x11) r := by
      intro z4 z5 z6 z7 r h; rw [hw]; exact ih (k + 1) z4 z5 z6 z7 r hr2 h
    rw [P_impl_Digest_0_12] at h
    refine Ev.step ?_ (fun n => L_impl_Digest_0_12_eq n x1 (x1.length : Int) (k : Int) x4 x5 x6 x7 x8 x9 x10 x11)
    rw [show decide ((k : Int) < (x1.length : Int)) = true from decide_eq_true (by omega), inB_nat2 hk, hx]
    exact Ev.pos rfl (Ev.pos rfl (S_impl_Digest_0_1_14002 ih2 _ _ _ _ _ _ _ h))
theorem S_impl_Digest_0_7 {m : Nat} {x1 : (List Int)} (hl : x1.length ≤ maxLen) : ∀ (rest : List Int) (k : Nat) (x5 : Int) (x6 : Int) (x7 : Int) (x8 : Int) (r : (List Int)), rest = x1.drop k → P_impl_Digest_0_7 m x1 rest x5 x6 x7 x8 = some r → Ev (fun n => L_impl_Digest_0_7 n x1 x1 (x1.length : Int) (k : Int) x5 x6 x7 x8 (1103515245 : Int) (69069 : Int) (1664525 : Int) (22695477 : Int)) r := by
  intro rest
  induction rest with
  | nil =>
    intro k x5 x6 x7 x8 r hr h
    have hk := drop_nil hr
    rw [P_impl_Digest_0_7] at h
    refine Ev.step ?_ (fun n => L_impl_Digest_0_7_eq n x1 x1 (x1.length : Int) (k : Int) x5 x6 x7 x8 (1103515245 : Int) (69069 : Int) (1664525 : Int) (22695477 : Int))
    rw [show decide ((k : Int) < (x1.length : Int)) = false from decide_eq_false (by omega)]
    exact Ev.neg rfl (Ev.ofLen h fun hl h => S_impl_Digest_0_12 hl _ (0 : Nat) _ _ _ _ _ rfl h)
  | cons e rest ih =>
    intro k x5 x6 x7 x8 r hr h
    obtain ⟨hk, hx, hr2⟩ := drop_cons (d := (Ty.dflt U8)) hr
    have hw := wrap_succ hl hk
    have ih2 : ∀ (z5 : Int) (z6 : Int) (z7 : Int) (z8 : Int) (r : (List Int)), P_impl_Digest_0_7 m x1 rest z5 z6 z7 z8 = some r → Ev (fun n => L_impl_Digest_0_7 n x1 x1 (x1.length : Int) (IntKind.wrap .i64 ((k : Int) + 1)) z5 z6 z7 z8 (1103515245 : Int) (69069 : Int) (1664525 : Int) (22695477 : Int)) r := by
      intro z5 z6 z7 z8 r h; rw [hw]; exact ih (k + 1) z5 z6 z7 z8 r hr2 h
    rw [P_impl_Digest_0_7] at h
    refine Ev.step ?_ (fun n => L_impl_Digest_0_7_eq n x1 x1 (x1.length : Int) (k : Int) x5 x6 x7 x8 (1103515245 : Int) (69069 : Int) (1664525 : Int) (22695477 : Int))
    rw [show decide ((k : Int) < (x1.length : Int)) = true from decide_eq_true (by omega), inB_nat2 hk, hx]
    exact Ev.pos rfl (Ev.pos rfl (S_impl_Digest_0_1_9002 ih2 _ _ _ _ _ _ _ h))
theorem S_impl_Digest {m : Nat} (a0 : (List Int)) {r : (List Int)} (h : P_impl_Digest m a0 = some r) : Ev (fun n => F_impl_Digest n a0) r := by
  rw [P_impl_Digest] at h
  refine Ev.of_eq ?_ (fun n => F_impl_Digest_eq n a0)
  exact (Ev.ofBif h (fun h => (Ev.ofSome h)) (fun h => (Ev.ofLen h fun hl h => S_impl_Digest_0_7 hl _ (0 : Nat) _ _ _ _ _ rfl h)))
theorem hcs_impl_Digest : ∀ x ∈ cs_impl_Digest, CtrOk Try.prog x := (conOf_cons ok_impl_ybytes conOf_nil)
theorem ok_impl_Digest : CtrOk Try.prog (c_impl_Digest) := by
  refine ctr_of_run (c := c_impl_Digest) (by kernel_rfl) (by kernel_rfl : Try.prog.funcs[34]? = some Try.f34) (code := Try.f34.body.getD .skip) (by kernel_rfl) (by kernel_rfl) (by kernel_rfl) (A := A_impl_Digest) (I := In_impl_Digest) (hcs_impl_Digest) ?_
  rintro ⟨a0, u⟩ y hy
  exact let ⟨_, h⟩ := (evOpt_get hy).get; (S_impl_Digest a0 h).get

/-! ## impl.Digest (34) -/
noncomputable def co_impl_Digest : Ctr := ownOf 34 [(.list U8)] U8 fun x => E_impl_Digest x.1
def Ao_impl_Digest : List (List Nat × Ann) := [([0, 7], [.keep 0 0, .keep 0 3, .keep 0 5, .keep 0 19, .keep 0 20, .keep 0 21, .box 0 3 4, .box 0 4 4]), ([0, 1, 9002], [.keep 0 0, .keep 0 3, .keep 0 5, .keep 0 19, .keep 0 20, .keep 0 21, .keep 1 0, .keep 1 1, .keep 1 2, .keep 1 5, .box 0 3 4, .box 0 4 4]), ([0, 12], [.keep 0 3, .keep 0 5, .keep 0 31, .keep 0 32, .keep 0 33, .box 0 3 4, .box 0 4 4]), ([0, 1, 14002], [.keep 0 3, .keep 0 5, .keep 0 31, .keep 0 32, .keep 0 33, .keep 1 0, .keep 1 1, .keep 1 2, .keep 1 5, .box 0 3 4, .box 0 4 4]), ([0, 17], [.keep 0 3, .keep 0 5, .keep 0 41, .box 0 3 4, .box 0 4 4]), ([0, 1, 18001], [.keep 0 3, .keep 0 5, .keep 0 41, .keep 1 0, .keep 1 1, .keep 1 2, .keep 1 5, .box 0 3 4, .box 0 4 4]), ([0, 22], [.own 0 10 U8, .keep 0 46, .keep 0 47])]
def Ino_impl_Digest : List (List Nat × Nat) := [([9002], 46), ([14002], 46), ([18001], 46)]
noncomputable def cso_impl_Digest : List Ctr := [c_impl_ybytes]
noncomputable def Fo_impl_Digest (n : Nat) (a0 : (List Int)) : Option (List Int) := runE Try.prog noG Ao_impl_Digest Ino_impl_Digest (conOf cso_impl_Digest) Try.f34 (Try.f34.body.getD .skip) (endO Try.prog Try.f34 U8) n (argsV [(.list U8)] (a0, ()))
noncomputable abbrev Lo_impl_Digest_0_7 (n : Nat) (x1 : (List Int)) (x2 : (List Int)) (x3 : Int) (x4 : Int) (x5 : Int) (x6 : Int) (x7 : Int) (x8 : Int) (x9 : Int) (x10 : Int) (x11 : Int) (x12 : Int) : Option (List Int) := lamE Try.prog noG Ao_impl_Digest Ino_impl_Digest (conOf cso_impl_Digest) Try.f34 (Try.f34.body.getD .skip) (endO Try.prog Try.f34 U8) n [0, 7] [.d (.list U8) x1, .ptr 0 3 0, .fn 46 [.ptr 0 3 0, .ptr 0 4 0], .d (.list U8) x2, .d I64 x3, .d I64 x4, .agg [.d I64 x5, .d I64 x6, .d I64 x7, .d I64 x8], .agg [.d I64 x9, .d I64 x10, .d I64 x11, .d I64 x12]]
noncomputable abbrev Lo_impl_Digest_0_1_9002 (n : Nat) (x1 : (List Int)) (x2 : (List Int)) (x3 : Int) (x4 : Int) (x5 : Int) (x6 : Int) (x7 : Int) (x8 : Int) (x9 : Int) (x10 : Int) (x11 : Int) (x12 : Int) (x13 : Int) (x14 : Int) : Option (List Int) := lamE Try.prog noG Ao_impl_Digest Ino_impl_Digest (conOf cso_impl_Digest) Try.f34 (Try.f34.body.getD .skip) (endO Try.prog Try.f34 U8) n [0, 1, 9002] [.d (.list U8) x1, .ptr 0 3 0, .fn 46 [.ptr 0 3 0, .ptr 0 4 0], .d (.list U8) x2, .d I64 x3, .d I64 x4, .d U8 x5, .ptr 0 3 0, .ptr 0 4 0, .d I64 x6, .agg [.d I64 x7, .d I64 x8, .d I64 x9, .d I64 x10], .agg [.d I64 x11, .d I64 x12, .d I64 x13, .d I64 x14]]
noncomputable abbrev Lo_impl_Digest_0_12 (n : Nat) (x1 : (List Int)) (x2 : Int) (x3 : Int) (x4 : Int) (x5 : Int) (x6 : Int) (x7 : Int) (x8 : Int) (x9 : Int) (x10 : Int) (x11 : Int) : Option (List Int) := lamE Try.prog noG Ao_impl_Digest Ino_impl_Digest (conOf cso_impl_Digest) Try.f34 (Try.f34.body.getD .skip) (endO Try.prog Try.f34 U8) n [0, 12] [.ptr 0 3 0, .fn 46 [.ptr 0 3 0, .ptr 0 4 0], .d (.list U8) x1, .d I64 x2, .d I64 x3, .agg [.d I64 x4, .d I64 x5, .d I64 x6, .d I64 x7], .agg [.d I64 x8, .d I64 x9, .d I64 x10, .d I64 x11]]
noncomputable abbrev Lo_impl_Digest_0_1_14002 (n : Nat) (x1 : (List Int)) (x2 : Int) (x3 : Int) (x4 : Int) (x5 : Int) (x6 : Int) (x7 : Int) (x8 : Int) (x9 : Int) (x10 : Int) (x11 : Int) (x12 : Int) (x13 : Int) : Option (List Int) := lamE Try.prog noG Ao_impl_Digest Ino_impl_Digest (conOf cso_impl_Digest) Try.f34 (Try.f34.body.getD .skip) (endO Try.prog Try.f34 U8) n [0, 1, 14002] [.ptr 0 3 0, .fn 46 [.ptr 0 3 0, .ptr 0 4 0], .d (.list U8) x1, .d I64 x2, .d I64 x3, .d U8 x4, .ptr 0 3 0, .ptr 0 4 0, .d I64 x5, .agg [.d I64 x6, .d I64 x7, .d I64 x8, .d I64 x9], .agg [.d I64 x10, .d I64 x11, .d I64 x12, .d I64 x13]]
noncomputable abbrev Lo_impl_Digest_0_17 (n : Nat) (x1 : Int) (x2 : Int) (x3 : Int) (x4 : Int) (x5 : Int) (x6 : Int) (x7 : Int) (x8 : Int) (x9 : Int) : Option (List Int) := lamE Try.prog noG Ao_impl_Digest Ino_impl_Digest (conOf cso_impl_Digest) Try.f34 (Try.f34.body.getD .skip) (endO Try.prog Try.f34 U8) n [0, 17] [.ptr 0 3 0, .fn 46 [.ptr 0 3 0, .ptr 0 4 0], .d I64 x1, .agg [.d I64 x2, .d I64 x3, .d I64 x4, .d I64 x5], .agg [.d I64 x6, .d I64 x7, .d I64 x8, .d I64 x9]]
noncomputable abbrev Lo_impl_Digest_0_1_18001 (n : Nat) (x1 : Int) (x2 : Int) (x3 : Int) (x4 : Int) (x5 : Int) (x6 : Int) (x7 : Int) (x8 : Int) (x9 : Int) (x10 : Int) (x11 : Int) : Option (List Int) := lamE Try.prog noG Ao_impl_Digest Ino_impl_Digest (conOf cso_impl_Digest) Try.f34 (Try.f34.body.getD .skip) (endO Try.prog Try.f34 U8) n [0, 1, 18001] [.ptr 0 3 0, .fn 46 [.ptr 0 3 0, .ptr 0 4 0], .d I64 x1, .d U8 x2, .ptr 0 3 0, .ptr 0 4 0, .d I64 x3, .agg [.d I64 x4, .d I64 x5, .d I64 x6, .d I64 x7], .agg [.d I64 x8, .d I64 x9, .d I64 x10, .d I64 x11]]
noncomputable abbrev Lo_impl_Digest_0_22 (n : Nat) (x1 : (List Int)) (x2 : Int) (x3 : Int) (x4 : Int) (x5 : Int) (x6 : Int) : Option (List Int) := lamE Try.prog noG Ao_impl_Digest Ino_impl_Digest (conOf cso_impl_Digest) Try.f34 (Try.f34.body.getD .skip) (endO Try.prog Try.f34 U8) n [0, 22] [.own 0 U8 x1, .agg [.d I64 x2, .d I64 x3, .d I64 x4, .d I64 x5], .d I64 x6]
theorem Fo_impl_Digest_eq (n : Nat) (a0 : (List Int)) : Fo_impl_Digest n a0 =
    bif decide ((20000 : Int) < (a0.length : Int)) then
      some ([])
    else
      Lo_impl_Digest_0_7 n a0 a0 (a0.length : Int) 0 11 22 33 44 1103515245 69069 1664525 22695477 := by kernel_rfl
theorem Lo_impl_Digest_0_7_eq (n : Nat) (x1 : (List Int)) (x2 : (List Int)) (x3 : Int) (x4 : Int) (x5 : Int) (x6 : Int) (x7 : Int) (x8 : Int) (x9 : Int) (x10 : Int) (x11 : Int) (x12 : Int) : Lo_impl_Digest_0_7 (n + 1) x1 x2 x3 x4 x5 x6 x7 x8 x9 x10 x11 x12 =
    bif decide (x4 < x3) then
      bif inB x4 x2.length then
        Lo_impl_Digest_0_1_9002 n x1 x2 x3 x4 (rd x2 x4 (Ty.dflt U8)) 0 x5 x6 x7 x8 x9 x10 x11 x12
      else none
    else
      Lo_impl_Digest_0_12 n (T_impl_ybytes (x1.length : Int)) ((T_impl_ybytes (x1.length : Int)).length : Int) 0 x5 x6 x7 x8 x9 x10 x11 x12 := by kernel_rfl
theorem Lo_impl_Digest_0_1_9002_eq (n : Nat) (x1 : (List Int)) (x2 : (List Int)) (x3 : Int) (x4 : Int) (x5 : Int) (x6 : Int) (x7 : Int) (x8 : Int) (x9 : Int) (x10 : Int) (x11 : Int) (x12 : Int) (x13 : Int) (x14 : Int) : Lo_impl_Digest_0_1_9002 (n + 1) x1 x2 x3 x4 x5 x6 x7 x8 x9 x10 x11 x12 x13 x14 =
    bif decide (x6 < 4) then
      bif inB x6 4 then
        bif inB x6 4 then
          bif inB x6 4 then
            bif inB x6 4 then
              bif inB (Int.tmod (IntKind.wrap .i64 (x6 + 1)) 4) 4 then
                bif inB (Int.tmod (IntKind.wrap .i64 (x6 + 1)) 4) 4 then
                  bif inB x6 4 then
                    bif inB x6 4 then
                      Lo_impl_Digest_0_1_9002 n x1 x2 x3 x4 x5 (IntKind.wrap .i64 (x6 + 1)) (bif decide (x6 = 0) then (Int.tmod (IntKind.wrap .i64 ((IntKind.wrap .i64 ((IntKind.wrap .i64 ((IntKind.wrap .i64 ((rd ([x7, x8, x9, x10] : List Int) x6 (Ty.dflt I64)) * (rd ([x11, x12, x13, x14] : List Int) x6 (Ty.dflt I64)))) + (IntKind.wrap .i64 x5))) + 1)) + (rd ([x7, x8, x9, x10] : List Int) (Int.tmod (IntKind.wrap .i64 (x6 + 1)) 4) (Ty.dflt I64)))) 2147483579) else x7) (bif decide (x6 = 1) then (Int.tmod (IntKind.wrap .i64 ((IntKind.wrap .i64 ((IntKind.wrap .i64 ((IntKind.wrap .i64 ((rd ([x7, x8, x9, x10] : List Int) x6 (Ty.dflt I64)) * (rd ([x11, x12, x13, x14] : List Int) x6 (Ty.dflt I64)))) + (IntKind.wrap .i64 x5))) + 1)) + (rd ([x7, x8, x9, x10] : List Int) (Int.tmod (IntKind.wrap .i64 (x6 + 1)) 4) (Ty.dflt I64)))) 2147483579) else x8) (bif decide (x6 = 2) then (Int.tmod (IntKind.wrap .i64 ((IntKind.wrap .i64 ((IntKind.wrap .i64 ((IntKind.wrap .i64 ((rd ([x7, x8, x9, x10] : List Int) x6 (Ty.dflt I64)) * (rd ([x11, x12, x13, x14] : List Int) x6 (Ty.dflt I64)))) + (IntKind.wrap .i64 x5))) + 1)) + (rd ([x7, x8, x9, x10] : List Int) (Int.tmod (IntKind.wrap .i64 (x6 + 1)) 4) (Ty.dflt I64)))) 2147483579) else x9) (bif decide (x6 = 3) then (Int.tmod (IntKind.wrap .i64 ((IntKind.wrap .i64 ((IntKind.wrap .i64 ((IntKind.wrap .i64 ((rd ([x7, x8, x9, x10] : List Int) x6 (Ty.dflt I64)) * (rd ([x11, x12, x13, x14] : List Int) x6 (Ty.dflt I64)))) + (IntKind.wrap .i64 x5))) + 1)) + (rd ([x7, x8, x9, x10] : List Int) (Int.tmod (IntKind.wrap .i64 (x6 + 1)) 4) (Ty.dflt I64)))) 2147483579) else x10) x11 x12 x13 x14
                    else none
                  else none
                else none
              else none
            else none
          else none
        else none
      else none
    else
      Lo_impl_Digest_0_7 n x1 x2 x3 (IntKind.wrap .i64 (x4 + 1)) x7 x8 x9 x10 x11 x12 x13 x14 := by kernel_rfl
theorem Lo_impl_Digest_0_12_eq (n : Nat) (x1 : (List Int)) (x2 : Int) (x3 : Int) (x4 : Int) (x5 : Int) (x6 : Int) (x7 : Int) (x8 : Int) (x9 : Int) (x10 : Int) (x11 : Int) : Lo_impl_Digest_0_12 (n + 1) x1 x2 x3 x4 x5 x6 x7 x8 x9 x10 x11 =
    bif decide (x3 < x2) then
      bif inB x3 x1.length then
        Lo_impl_Digest_0_1_14002 n x1 x2 x3 (rd x1 x3 (Ty.dflt U8)) 0 x4 x5 x6 x7 x8 x9 x10 x11
      else none
    else
      Lo_impl_Digest_0_17 n 0 x4 x5 x6 x7 x8 x9 x10 x11 := by kernel_rfl
theorem Lo_impl_Digest_0_1_14002_eq (n : Nat) (x1 : (List Int)) (x2 : Int) (x3 : Int) (x4 : Int) (x5 : Int) (x6 : Int) (x7 : Int) (x8 : Int) (x9 : Int) (x10 : Int) (x11 : Int) (x12 : Int) (x13 : Int) : Lo_impl_Digest_0_1_14002 (n + 1) x1 x2 x3 x4 x5 x6 x7 x8 x9 x10 x11 x12 x13 =
    bif decide (x5 < 4) then
      bif inB x5 4 then
        bif inB x5 4 then
          bif inB x5 4 then
            bif inB x5 4 then
              bif inB (Int.tmod (IntKind.wrap .i64 (x5 + 1)) 4) 4 then
                bif inB (Int.tmod (IntKind.wrap .i64 (x5 + 1)) 4) 4 then
                  bif inB x5 4 then
                    bif inB x5 4 then
                      Lo_impl_Digest_0_1_14002 n x1 x2 x3 x4 (IntKind.wrap .i64 (x5 + 1)) (bif decide (x5 = 0) then (Int.tmod (IntKind.wrap .i64 ((IntKind.wrap .i64 ((IntKind.wrap .i64 ((IntKind.wrap .i64 ((rd ([x6, x7, x8, x9] : List Int) x5 (Ty.dflt I64)) * (rd ([x10, x11, x12, x13] : List Int) x5 (Ty.dflt I64)))) + (IntKind.wrap .i64 x4))) + 1)) + (rd ([x6, x7, x8, x9] : List Int) (Int.tmod (IntKind.wrap .i64 (x5 + 1)) 4) (Ty.dflt I64)))) 2147483579) else x6) (bif decide (x5 = 1) then (Int.tmod (IntKind.wrap .i64 ((IntKind.wrap .i64 ((IntKind.wrap .i64 ((IntKind.wrap .i64 ((rd ([x6, x7, x8, x9] : List Int) x5 (Ty.dflt I64)) * (rd ([x10, x11, x12, x13] : List Int) x5 (Ty.dflt I64)))) + (IntKind.wrap .i64 x4))) + 1)) + (rd ([x6, x7, x8, x9] : List Int) (Int.tmod (IntKind.wrap .i64 (x5 + 1)) 4) (Ty.dflt I64)))) 2147483579) else x7) (bif decide (x5 = 2) then (Int.tmod (IntKind.wrap .i64 ((IntKind.wrap .i64 ((IntKind.wrap .i64 ((IntKind.wrap .i64 ((rd ([x6, x7, x8, x9] : List Int) x5 (Ty.dflt I64)) * (rd ([x10, x11, x12, x13] : List Int) x5 (Ty.dflt I64)))) + (IntKind.wrap .i64 x4))) + 1)) + (rd ([x6, x7, x8, x9] : List Int) (Int.tmod (IntKind.wrap .i64 (x5 + 1)) 4) (Ty.dflt I64)))) 2147483579) else x8) (bif decide (x5 = 3) then (Int.tmod (IntKind.wrap .i64 ((IntKind.wrap .i64 ((IntKind.wrap .i64 ((IntKind.wrap .i64 ((rd ([x6, x7, x8, x9] : List Int) x5 (Ty.dflt I64)) * (rd ([x10, x11, x12, x13] : List Int) x5 (Ty.dflt I64)))) + (IntKind.wrap .i64 x4))) + 1)) + (rd ([x6, x7, x8, x9] : List Int) (Int.tmod (IntKind.wrap .i64 (x5 + 1)) 4) (Ty.dflt I64)))) 2147483579) else x9) x10 x11 x12 x13
                    else none
                  else none
                else none
              else none
            else none
          else none
        else none
      else none
    else
      Lo_impl_Digest_0_12 n x1 x2 (IntKind.wrap .i64 (x3 + 1)) x6 x7 x8 x9 x10 x11 x12 x13 := by kernel_rfl
theorem Lo_impl_Digest_0_17_eq (n : Nat) (x1 : Int) (x2 : Int) (x3 : Int) (x4 : Int) (x5 : Int) (x6 : Int) (x7 : Int) (x8 : Int) (x9 : Int) : Lo_impl_Digest_0_17 (n + 1) x1 x2 x3 x4 x5 x6 x7 x8 x9 =
    bif decide (x1 < 8) then
      Lo_impl_Digest_0_1_18001 n x1 0 0 x2 x3 x4 x5 x6 x7 x8 x9
    else
      Lo_impl_Digest_0_22 n [] x2 x3 x4 x5 0 := by kernel_rfl
theorem Lo_impl_Digest_0_1_18001_eq (n : Nat) (x1 : Int) (x2 : Int) (x3 : Int) (x4 : Int) (x5 : Int) (x6 : Int) (x7 : Int) (x8 : Int) (x9 : Int) (x10 : Int) (x11 : Int) : Lo_impl_Digest_0_1_18001 (n + 1) x1 x2 x3 x4 x5 x6 x7 x8 x9 x10 x11 =
    bif decide (x3 < 4) then
      bif inB x3 4 then
        bif inB x3 4 then
          bif inB x3 4 then
            bif inB x3 4 then
              bif inB (Int.tmod (IntKind.wrap .i64 (x3 + 1)) 4) 4 then
                bif inB (Int.tmod (IntKind.wrap .i64 (x3 + 1)) 4) 4 then
                  bif inB x3 4 then
                    bif inB x3 4 then
                      Lo_impl_Digest_0_1_18001 n x1 x2 (IntKind.wrap .i64 (x3 + 1)) (bif decide (x3 = 0) then (Int.tmod (IntKind.wrap .i64 ((IntKind.wrap .i64 ((IntKind.wrap .i64 ((IntKind.wrap .i64 ((rd ([x4, x5, x6, x7] : List Int) x3 (Ty.dflt I64)) * (rd ([x8, x9, x10, x11] : List Int) x3 (Ty.dflt I64)))) + (IntKind.wrap .i64 x2))) + 1)) + (rd ([x4, x5, x6, x7] : List Int) (Int.tmod (IntKind.wrap .i64 (x3 + 1)) 4) (Ty.dflt I64)))) 2147483579) else x4) (bif decide (x3 = 1) then (Int.tmod (IntKind.wrap .i64 ((IntKind.wrap .i64 ((IntKind.wrap .i64 ((IntKind.wrap .i64 ((rd ([x4, x5, x6, x7] : List Int) x3 (Ty.dflt I64)) * (rd ([x8, x9, x10, x11] : List Int) x3 (Ty.dflt I64)))) + (IntKind.wrap .i64 x2))) + 1)) + (rd ([x4, x5, x6, x7] : List Int) (Int.tmod (IntKind.wrap .i64 (x3 + 1)) 4) (Ty.dflt I64)))) 2147483579) else x5) (bif decide (x3 = 2) then (Int.tmod (IntKind.wrap .i64 ((IntKind.wrap .i64 ((IntKind.wrap .i64 ((IntKind.wrap .i64 ((rd ([x4, x5, x6, x7] : List Int) x3 (Ty.dflt I64)) * (rd ([x8, x9, x10, x11] : List Int) x3 (Ty.dflt I64)))) + (IntKind.wrap .i64 x2))) + 1)) + (rd ([x4, x5, x6, x7] : List Int) (Int.tmod (IntKind.wrap .i64 (x3 + 1)) 4) (Ty.dflt I64)))) 2147483579) else x6) (bif decide (x3 = 3) then (Int.tmod (IntKind.wrap .i64 ((IntKind.wrap .i64 ((IntKind.wrap .i64 ((IntKind.wrap .i64 ((rd ([x4, x5, x6, x7] : List Int) x3 (Ty.dflt I64)) * (rd ([x8, x9, x10, x11] : List Int) x3 (Ty.dflt I64)))) + (IntKind.wrap .i64 x2))) + 1)) + (rd ([x4, x5, x6, x7] : List Int) (Int.tmod (IntKind.wrap .i64 (x3 + 1)) 4) (Ty.dflt I64)))) 2147483579) else x7) x8 x9 x10 x11
                    else none
                  else none
                else none
              else none
            else none
          else none
        else none
      else none
    else
      Lo_impl_Digest_0_17 n (IntKind.wrap .i64 (x1 + 1)) x4 x5 x6 x7 x8 x9 x10 x11 := by kernel_rfl
theorem Lo_impl_Digest_0_22_eq (n : Nat) (x1 : (List Int)) (x2 : Int) (x3 : Int) (x4 : Int) (x5 : Int) (x6 : Int) : Lo_impl_Digest_0_22 (n + 1) x1 x2 x3 x4 x5 x6 =
    bif decide (x6 < 4) then
      bif inB x6 4 then
        bif decide (((x1.length : Int) + ((T_impl_ybytes (rd ([x2, x3, x4, x5] : List Int) x6 (Ty.dflt I64))).length : Int)) * 1 ≤ room) && decide ((x1.length : Int) + ((T_impl_ybytes (rd ([x2, x3, x4, x5] : List Int) x6 (Ty.dflt I64))).length : Int) ≤ room) then
          Lo_impl_Digest_0_22 n (x1 ++ (T_impl_ybytes (rd ([x2, x3, x4, x5] : List Int) x6 (Ty.dflt I64)))) x2 x3 x4 x5 (IntKind.wrap .i64 (x6 + 1))
        else none
      else none
    else
      some x1 := by kernel_rfl
theorem So_impl_Digest_0_1_9002 {K0 : Int → Int → Int → Int → Option (List Int)} {x1 : (List Int)} {x3 : Int} {x4 : Int} {x5 : Int} {x11 : Int} {x12 : Int} {x13 : Int} {x14 : Int} (hK0 : ∀ (z5 : Int) (z6 : Int) (z7 : Int) (z8 : Int) (r : (List Int)), K0 z5 z6 z7 z8 = some r → Ev (fun n => Lo_impl_Digest_0_7 n x1 x1 x3 (IntKind.wrap .i64 (x4 + 1)) z5 z6 z7 z8 x11 x12 x13 x14) r) : ∀ (m : Nat) (x6 : Int) (x7 : Int) (x8 : Int) (x9 : Int) (x10 : Int) (r : (List Int)), P_impl_Digest_0_1_9002 K0 x5 x11 x12 x13 x14 m x6 x7 x8 x9 x10 = some r → Ev (fun n => Lo_impl_Digest_0_1_9002 n x1 x1 x3 x4 x5 x6 x7 x8 x9 x10 x11 x12 x13 x14) r := by
  intro m
  induction m with
  | zero => intro x6 x7 x8 x9 x10 r h; rw [P_impl_Digest_0_1_9002] at h; exact Ev.ofNone h
  | succ m ih2 =>
    intro x6 x7 x8 x9 x10 r h
    rw [P_impl_Digest_0_1_9002] at h
    refine Ev.step ?_ (fun n => Lo_impl_Digest_0_1_9002_eq n x1 x1 x3 x4 x5 x6 x7 x8 x9 x10 x11 x12 x13 x14)
    exact (Ev.ofBif h (fun h => (Ev.ofBif h (fun h => (Ev.ofBif h (fun h => (Ev.ofBif h (fun h => (Ev.ofBif h (fun h => (Ev.ofBif h (fun h => (Ev.ofBif h (fun h => (Ev.ofBif h (fun h => (Ev.ofBif h (fun h => (ih2 _ _ _ _ _ _ h)) (fun h => (Ev.ofNone h)))) (fun h => (Ev.ofNone h)))) (fun h => (Ev.ofNone h)))) (fun h => (Ev.ofNone h)))) (fun h => (Ev.ofNone h)))) (fun h => (Ev.ofNone h)))) (fun h => (Ev.ofNone h)))) (fun h => (Ev.ofNone h)))) (fun h => (hK0 _ _ _ _ _ h)))
theorem So_impl_Digest_0_1_14002 {K2 : Int → Int → Int → Int → Option (List Int)} {x1 : (List Int)} {x2 : Int} {x3 : Int} {x4 : Int} {x10 : Int} {x11 : Int} {x12 : Int} {x13 : Int} (hK2 : ∀ (z4 : Int) (z5 : Int) (z6 : Int) (z7 : Int) (r : (List Int)), K2 z4 z5 z6 z7 = some r → Ev (fun n => Lo_impl_Digest_0_12 n x1 x2 (IntKind.wrap .i64 (x3 + 1)) z4 z5 z6 z7 x10 x11 x12 x13) r) : ∀ (m : Nat) (x5 : Int) (x6 : Int) (x7 : Int) (x8 : Int) (x9 : Int) (r : (List Int)), P_impl_Digest_0_1_14002 K2 x4 x10 x11 x12 x13 m x5 x6 x7 x8 x9 = some r → Ev (fun n => Lo_impl_Digest_0_1_14002 n x1 x2 x3 x4 x5 x6 x7 x8 x9 x10 x11 x12 x13) r := by
  intro m
  induction m with
  | zero => intro x5 x6 x7 x8 x9 r h; rw [P_impl_Digest_0_1_14002] at h; exact Ev.ofNone h
  | succ m ih2 =>
    intro x5 x6 x7 x8 x9 r h
    rw [P_impl_Digest_0_1_14002] at h
    refine Ev.step ?_ (fun n => Lo_impl_Digest_0_1_14002_eq n x1 x2 x3 x4 x5 x6 x7 x8 x9 x10 x11 x12 x13)
    exact (Ev.ofBif h (fun h => (Ev.ofBif h (fun h => (Ev.ofBif h (fun h => (Ev.ofBif h (fun h => (Ev.ofBif h (fun h => (Ev.ofBif h (fun h => (Ev.ofBif h (fun h => (Ev.ofBif h (fun h => (Ev.ofBif h (fun h => (ih2 _ _ _ _ _ _ h)) (fun h => (Ev.ofNone h)))) (fun h => (Ev.ofNone h)))) (fun h => (Ev.ofNone h)))) (fun h => (Ev.ofNone h)))) (fun h => (Ev.ofNone h)))) (fun h => (Ev.ofNone h)))) (fun h => (Ev.ofNone h)))) (fun h => (Ev.ofNone h)))) (fun h => (hK2 _ _ _ _ _ h)))
theorem So_impl_Digest_0_1_18001 {K4 : Int → Int → Int → Int → Int → Option (List Int)} {x1 : Int} {x8 : Int} {x9 : Int} {x10 : Int} {x11 : Int} (hK4 : ∀ (z1 : Int) (z2 : Int) (z3 : Int) (z4 : Int) (z5 : Int) (r : (List Int)), K4 z1 z2 z3 z4 z5 = some r → Ev (fun n => Lo_impl_Digest_0_17 n z1 z2 z3 z4 z5 x8 x9 x10 x11) r) : ∀ (m : Nat) (x3 : Int) (x4 : Int) (x5 : Int) (x6 : Int) (x7 : Int) (r : (List Int)), P_impl_Digest_0_1_18001 K4 x1 x8 x9 x10 x11 m x3 x4 x5 x6 x7 = some r → Ev (fun n => Lo_impl_Digest_0_1_18001 n x1 (0 : Int) x3 x4 x5 x6 x7 x8 x9 x10 x11) r := by
  intro m
  induction m with
  | zero => intro x3 x4 x5 x6 x7 r h; rw [P_impl_Digest_0_1_18001] at h; exact Ev.ofNone h
  | succ m ih2 =>
    intro x3 x4 x5 x6 x7 r h
    rw [P_impl_Digest_0_1_18001] at h
    refine Ev.step ?_ (fun n => Lo_impl_Digest_0_1_18001_eq n x1 (0 : Int) x3 x4 x5 x6 x7 x8 x9 x10 x11)
    exact (Ev.ofBif h (fun h => (Ev.ofBif h (fun h => (Ev.ofBif h (fun h => (Ev.ofBif h (fun h => (Ev.ofBif h (fun h => (Ev.ofBif h (fun h => (Ev.ofBif h (fun h => (Ev.ofBif h (fun h => (Ev.ofBif h (fun h => (ih2 _ _ _ _ _ _ h)) (fun h => (Ev.ofNone h)))) (fun h => (Ev.ofNone h)))) (fun h => (Ev.ofNone h)))) (fun h => (Ev.ofNone h)))) (fun h => (Ev.ofNone h)))) (fun h => (Ev.ofNone h)))) (fun h => (Ev.ofNone h)))) (fun h => (Ev.ofNone h)))) (fun h => (hK4 _ _ _ _ _ _ h)))
theorem So_impl_Digest_0_22 {x2 : Int} {x3 : Int} {x4 : Int} {x5 : Int} : ∀ (m : Nat) (x1 : (List Int)) (x6 : Int) (r : (List Int)), P_impl_Digest_0_22 x2 x3 x4 x5 m x1 x6 = some r → Ev (fun n => Lo_impl_Digest_0_22 n x1 x2 x3 x4 x5 x6) r := by
  intro m
  induction m with
  | zero => intro x1 x6 r h; rw [P_impl_Digest_0_22] at h; exact Ev.ofNone h
  | succ m ih2 =>
    intro x1 x6 r h
    rw [P_impl_Digest_0_22] at h
    refine Ev.step ?_ (fun n => Lo_impl_Digest_0_22_eq n x1 x2 x3 x4 x5 x6)
    exact (Ev.ofBif h (fun h => (Ev.ofBif h (fun h => (Ev.ofBif h (fun h => (ih2 _ _ _ h)) (fun h => (Ev.ofNone h)))) (fun h => (Ev.ofNone h)))) (fun h => (Ev.ofSome h)))
theorem So_impl_Digest_0_17 {x6 : Int} {x7 : Int} {x8 : Int} {x9 : Int} : ∀ (m : Nat) (x1 : Int) (x2 : Int) (x3 : Int) (x4 : Int) (x5 : Int) (r : (List Int)), P_impl_Digest_0_17 x6 x7 x8 x9 m x1 x2 x3 x4 x5 = some r → Ev (fun n => Lo_impl_Digest_0_17 n x1 x2 x3 x4 x5 x6 x7 x8 x9) r := by
  intro m
  induction m with
  | zero => intro x1 x2 x3 x4 x5 r h; rw [P_impl_Digest_0_17] at h; exact Ev.ofNone h
  | succ m ih2 =>
    intro x1 x2 x3 x4 x5 r h
    rw [P_impl_Digest_0_17] at h
    refine Ev.step ?_ (fun n => Lo_impl_Digest_0_17_eq n x1 x2 x3 x4 x5 x6 x7 x8 x9)
    exact (Ev.ofBif h (fun h => (So_impl_Digest_0_1_18001 ih2 _ _ _ _ _ _ _ h)) (fun h => (So_impl_Digest_0_22 _ _ _ _ h)))
theorem So_impl_Digest_0_12 {m : Nat} {x1 : (List Int)} {x8 : Int} {x9 : Int} {x10 : Int} {x11 : Int} (hl : x1.length ≤ maxLen) : ∀ (rest : List Int) (k : Nat) (x4 : Int) (x5 : Int) (x6 : Int) (x7 : Int) (r : (List Int)), rest = x1.drop k → P_impl_Digest_0_12 m x8 x9 x10 x11 rest x4 x5 x6 x7 = some r → Ev (fun n => Lo_impl_Digest_0_12 n x1 (x1.length : Int) (k : Int) x4 x5 x6 x7 x8 x9 x10 x11) r := by
  intro rest
  induction rest with
  | nil =>
    intro k x4 x5 x6 x7 r hr h
    have hk := drop_nil hr
    rw [P_impl_Digest_0_12] at h
    refine Ev.step ?_ (fun n => Lo_impl_Digest_0_12_eq n x1 (x1.length : Int) (k : Int) x4 x5 x6 x7 x8 x9 x10 x11)
    rw [show decide ((k : Int) < (x1.length : Int)) = false from decide_eq_false (by omega)]
    exact Ev.neg rfl (So_impl_Digest_0_17 _ _ _ _ _ _ _ h)
  | cons e rest ih =>
    intro k x4 x5 x6 x7 r hr h
    obtain ⟨hk, hx, hr2⟩ := drop_cons (d := (Ty.dflt U8)) hr
    have hw := wrap_succ hl hk
    have ih2 : ∀ (z4 : Int) (z5 : Int) (z6 : Int) (z7 : Int) (r : (List Int)), P_impl_Digest_0_12 m x8 x9 x10 x11 rest z4 z5 z6 z7 = some r → Ev (fun n => Lo_impl_Digest_0_12 n x1 (x1.length : Int) (IntKind.wrap .i64 ((k : Int) + 1)) z4 z5 z6 z7 x8 x9 x10 x11) r := by
      intro z4 z5 z6 z7 r h; rw [hw]; exact ih (k + 1) z4 z5 z6 z7 r hr2 h
    rw [P_impl_Digest_0_12] at h
    refine Ev.step ?_ (fun n => Lo_impl_Digest_0_12_eq n x1 (x1.length : Int) (k : Int) x4 x5 x6 x7 x8 x9 x10 x11)
    rw [show decide ((k : Int) < (x1.length : Int)) = true from decide_eq_true (by omega), inB_nat2 hk, hx]
    exact Ev.pos rfl (Ev.pos rfl (So_impl_Digest_0_1_14002 ih2 _ _ _ _ _ _ _ h))
theorem So_impl_Digest_0_7 {m : Nat} {x1 : (List Int)} (hl : x1.length ≤ maxLen) : ∀ (rest : List Int) (k : Nat) (x5 : Int) (x6 : Int) (x7 : Int) (x8 : Int) (r : (List Int)), rest = x1.drop k → P_impl_Digest_0_7 m x1 rest x5 x6 x7 x8 = some r → Ev (fun n => Lo_impl_Digest_0_7 n x1 x1 (x1.length : Int) (k : Int) x5 x6 x7 x8 (1103515245 : Int) (69069 : Int) (1664525 : Int) (22695477 : Int)) r := by
  intro rest
  induction rest with
  | nil =>
    intro k x5 x6 x7 x8 r hr h
    have hk := drop_nil hr
    rw [P_impl_Digest_0_7] at h
    refine Ev.step ?_ (fun n => Lo_impl_Digest_0_7_eq n x1 x1 (x1.length : Int) (k : Int) x5 x6 x7 x8 (1103515245 : Int) (69069 : Int) (1664525 : Int) (22695477 : Int))
    rw [show decide ((k : Int) < (x1.length : Int)) = false from decide_eq_false (by omega)]
    exact Ev.neg rfl (Ev.ofLen h fun hl h => So_impl_Digest_0_12 hl _ (0 : Nat) _ _ _ _ _ rfl h)
  | cons e rest ih =>
    intro k x5 x6 x7 x8 r hr h
    obtain ⟨hk, hx, hr2⟩ := drop_cons (d := (Ty.dflt U8)) hr
    have hw := wrap_succ hl hk
    have ih2 : ∀ (z5 : Int) (z6 : Int) (z7 : Int) (z8 : Int) (r : (List Int)), P_impl_Digest_0_7 m x1 rest z5 z6 z7 z8 = some r → Ev (fun n => Lo_impl_Digest_0_7 n x1 x1 (x1.length : Int) (IntKind.wrap .i64 ((k : Int) + 1)) z5 z6 z7 z8 (1103515245 : Int) (69069 : Int) (1664525 : Int) (22695477 : Int)) r := by
      intro z5 z6 z7 z8 r h; rw [hw]; exact ih (k + 1) z5 z6 z7 z8 r hr2 h
    rw [P_impl_Digest_0_7] at h
    refine Ev.step ?_ (fun n => Lo_impl_Digest_0_7_eq n x1 x1 (x1.length : Int) (k : Int) x5 x6 x7 x8 (1103515245 : Int) (69069 : Int) (1664525 : Int) (22695477 : Int))
    rw [show decide ((k : Int) < (x1.length : Int)) = true from decide_eq_true (by omega), inB_nat2 hk, hx]
    exact Ev.pos rfl (Ev.pos rfl (So_impl_Digest_0_1_9002 ih2 _ _ _ _ _ _ _ h))
theorem So_impl_Digest {m : Nat} (a0 : (List Int)) {r : (List Int)} (h : P_impl_Digest m a0 = some r) : Ev (fun n => Fo_impl_Digest n a0) r := by
  rw [P_impl_Digest] at h
  refine Ev.of_eq ?_ (fun n => Fo_impl_Digest_eq n a0)
  exact (Ev.ofBif h (fun h => (Ev.ofSome h)) (fun h => (Ev.ofLen h fun hl h => So_impl_Digest_0_7 hl _ (0 : Nat) _ _ _ _ _ rfl h)))
theorem hcso_impl_Digest : ∀ x ∈ cso_impl_Digest, CtrOk Try.prog x := (conOf_cons ok_impl_ybytes conOf_nil)
theorem oko_impl_Digest : CtrOk Try.prog (co_impl_Digest) := by
  refine ctr_of_own (by kernel_rfl) (by kernel_rfl : Try.prog.funcs[34]? = some Try.f34) (code := Try.f34.body.getD .skip) (by kernel_rfl) (by kernel_rfl) (A := Ao_impl_Digest) (I := Ino_impl_Digest) (hcso_impl_Digest) ?_
  rintro ⟨a0, u⟩ y hy
  exact let ⟨_, h⟩ := (evOpt_get hy).get; (So_impl_Digest a0 h).get

/-! ## impl.Mac (21) -/
noncomputable def P_impl_Mac_1_2 (x1 : (List Int)) (x2 : (List Int)) (x3 : Bool) : Option (List Int) :=
  bif x3 then
    some ([])
  else
    Option.bind (E_impl_Digest x1) fun (y1 : (List Int)) =>
    Option.bind (E_impl_Digest x2) fun (y2 : (List Int)) =>
    bif decide (((y1.length : Int) + (y2.length : Int)) * 1 ≤ room) && decide ((y1.length : Int) + (y2.length : Int) ≤ room) then
      Option.bind (E_impl_Digest (y1 ++ y2)) fun (y3 : (List Int)) =>
      some y3
    else none
noncomputable def P_impl_Mac (a0 : (List Int)) (a1 : (List Int)) : Option (List Int) :=
  bif decide ((20000 : Int) < (a0.length : Int)) then
    P_impl_Mac_1_2 a0 a1 true
  else
    P_impl_Mac_1_2 a0 a1 (decide ((20000 : Int) < (a1.length : Int)))
noncomputable def c_impl_Mac : Ctr := ⟨21, [(.list U8), (.list U8)], [(.list U8)], fun x => P_impl_Mac x.1 x.2.1⟩
def A_impl_Mac : List (List Nat × Ann) := [([1, 2], [.keep 0 0, .keep 0 1, .keep 0 12])]
def In_impl_Mac : List (List Nat × Nat) := [([3001], 1000034)]
noncomputable def cs_impl_Mac : List Ctr := [co_impl_Digest, c_impl_Digest]
noncomputable def F_impl_Mac (n : Nat) (a0 : (List Int)) (a1 : (List Int)) : Option (List Int) := run Try.prog A_impl_Mac In_impl_Mac (conOf cs_impl_Mac) Try.f21 (Try.f21.body.getD .skip) (packT [(.list U8)]) n (argsV [(.list U8), (.list U8)] (a0, a1, ()))
noncomputable abbrev L_impl_Mac_1_2 (n : Nat) (x1 : (List Int)) (x2 : (List Int)) (x3 : Bool) : Option (List Int) := lam Try.prog A_impl_Mac In_impl_Mac (conOf cs_impl_Mac) Try.f21 (Try.f21.body.getD .skip) (packT [(.list U8)]) n [1, 2] [.d (.list U8) x1, .d (.list U8) x2, .d .bool x3]
theorem F_impl_Mac_eq (n : Nat) (a0 : (List Int)) (a1 : (List Int)) : F_impl_Mac n a0 a1 =
    bif decide ((20000 : Int) < (a0.length : Int)) then
      L_impl_Mac_1_2 n a0 a1 true
    else
      L_impl_Mac_1_2 n a0 a1 (decide ((20000 : Int) < (a1.length : Int))) := by kernel_rfl
theorem L_impl_Mac_1_2_eq (n : Nat) (x1 : (List Int)) (x2 : (List Int)) (x3 : Bool) : L_impl_Mac_1_2 (n + 1) x1 x2 x3 =
    bif x3 then
      some ([])
    else
      Option.bind (E_impl_Digest x1) fun (y1 : (List Int)) =>
      Option.bind (E_impl_Digest x2) fun (y2 : (List Int)) =>
      bif decide (((y1.length : Int) + (y2.length : Int)) * 1 ≤ room) && decide ((y1.length : Int) + (y2.length : Int) ≤ room) then
        Option.bind (E_impl_Digest (y1 ++ y2)) fun (y3 : (List Int)) =>
        some y3
      else none := by kernel_rfl
theorem S_impl_Mac_1_2 {x1 : (List Int)} {x2 : (List Int)} {x3 : Bool} {r : (List Int)} (h : P_impl_Mac_1_2 x1 x2 x3 = some r) : Ev (fun n => L_impl_Mac_1_2 n x1 x2 x3) r := by
  rw [P_impl_Mac_1_2] at h
  refine Ev.step ?_ (fun n => L_impl_Mac_1_2_eq n x1 x2 x3)
  exact (Ev.ofBif h (fun h => (Ev.ofSome h)) (fun h => (Ev.ofBind h fun y1 h => (Ev.ofBind h fun y2 h => (Ev.ofBif h (fun h => (Ev.ofBind h fun y3 h => (Ev.ofSome h))) (fun h => (Ev.ofNone h)))))))
theorem S_impl_Mac (a0 : (List Int)) (a1 : (List Int)) {r : (List Int)} (h : P_impl_Mac a0 a1 = some r) : Ev (fun n => F_impl_Mac n a0 a1) r := by
  rw [P_impl_Mac] at h
  refine Ev.of_eq ?_ (fun n => F_impl_Mac_eq n a0 a1)
  exact (Ev.ofBif h (fun h => (S_impl_Mac_1_2 h)) (fun h => (S_impl_Mac_1_2 h)))
theorem hcs_impl_Mac : ∀ x ∈ cs_impl_Mac, CtrOk Try.prog x := (conOf_cons oko_impl_Digest (conOf_cons ok_impl_Digest conOf_nil))
theorem ok_impl_Mac : CtrOk Try.prog (c_impl_Mac) := by
  refine ctr_of_run (c := c_impl_Mac) (by kernel_rfl) (by kernel_rfl : Try.prog.funcs[21]? = some Try.f21) (code := Try.f21.body.getD .skip) (by kernel_rfl) (by kernel_rfl) (by kernel_rfl) (A := A_impl_Mac) (I := In_impl_Mac) (hcs_impl_Mac) ?_
  rintro ⟨a0, a1, u⟩ y hy
  exact (S_impl_Mac a0 a1 hy).get

/-! ## bytes.Equal (23) -/
noncomputable def P_bytes_Equal (a0 : (List Int)) (a1 : (List Int)) : Option Bool :=
  bif decide ((a0.length : Int) ≤ room) then
    bif decide ((a1.length : Int) ≤ room) then
      some (decide (a0 = a1))
    else none
  else none
noncomputable def c_bytes_Equal : Ctr := ⟨23, [(.list U8), (.list U8)], [.bool], fun x => P_bytes_Equal x.1 x.2.1⟩
def A_bytes_Equal : List (List Nat × Ann) := []
def In_bytes_Equal : List (List Nat × Nat) := []
noncomputable def cs_bytes_Equal : List Ctr := []
noncomputable def F_bytes_Equal (n : Nat) (a0 : (List Int)) (a1 : (List Int)) : Option Bool := run Try.prog A_bytes_Equal In_bytes_Equal (conOf cs_bytes_Equal) Try.f23 (Try.f23.body.getD .skip) (packT [.bool]) n (argsV [(.list U8), (.list U8)] (a0, a1, ()))
theorem F_bytes_Equal_eq (n : Nat) (a0 : (List Int)) (a1 : (List Int)) : F_bytes_Equal n a0 a1 =
    bif decide ((a0.length : Int) ≤ room) then
      bif decide ((a1.length : Int) ≤ room) then
        some (decide (a0 = a1))
      else none
    else none := by kernel_rfl
theorem S_bytes_Equal (a0 : (List Int)) (a1 : (List Int)) {r : Bool} (h : P_bytes_Equal a0 a1 = some r) : Ev (fun n => F_bytes_Equal n a0 a1) r := by
  rw [P_bytes_Equal] at h
  refine Ev.of_eq ?_ (fun n => F_bytes_Equal_eq n a0 a1)
  exact (Ev.ofBif h (fun h => (Ev.ofBif h (fun h => (Ev.ofSome h)) (fun h => (Ev.ofNone h)))) (fun h => (Ev.ofNone h)))
theorem hcs_bytes_Equal : ∀ x ∈ cs_bytes_Equal, CtrOk Try.prog x := conOf_nil
theorem ok_bytes_Equal : CtrOk Try.prog (c_bytes_Equal) := by
  refine ctr_of_run (c := c_bytes_Equal) (by kernel_rfl) (by kernel_rfl : Try.prog.funcs[23]? = some Try.f23) (code := Try.f23.body.getD .skip) (by kernel_rfl) (by kernel_rfl) (by kernel_rfl) (A := A_bytes_Equal) (I := In_bytes_Equal) (hcs_bytes_Equal) ?_
  rintro ⟨a0, a1, u⟩ y hy
  exact (S_bytes_Equal a0 a1 hy).get

/-! ## impl.PassCheck (15) -/
noncomputable def P_impl_PassCheck_0_5_1005 (x1 : (List Int)) (x3 : Int) (x5 : DStored) : Nat → (List Int) → Int → Option Bool
  | 0, _, _ => none
  | m + 1, x2, x4 =>
      bif decide (x4 < x3) then
        Option.bind (P_impl_Mac x1 x2) fun (y2 : (List Int)) =>
        P_impl_PassCheck_0_5_1005 x1 x3 x5 m y2 (IntKind.wrap .i64 (x4 + 1))
      else
        bif decide (0 < x2.length) then
          Option.bind (P_bytes_Equal x2 x5.2.2) fun (y3 : Bool) =>
          some y3
        else
          both
            (some false)
            (Option.bind (P_bytes_Equal x2 x5.2.2) fun (y4 : Bool) =>
            some y4)
noncomputable def P_impl_PassCheck_1_2_1005 (m : Nat) (x1 : (List Int)) (x2 : (List Int)) (x3 : Int) (x4 : Bool) (x5 : DStored) : Option Bool :=
  bif x4 then
    some false
  else
    Option.bind (P_impl_Mac x1 x2) fun (y1 : (List Int)) =>
    P_impl_PassCheck_0_5_1005 x1 (IntKind.wrap .i64 (x3 - 1)) x5 m y1 0
noncomputable def P_impl_PassCheck (m : Nat) (a0 : DStored) (a1 : (List Int)) : Option Bool :=
  bif decide ((64 : Int) < (a1.length : Int)) then
    P_impl_PassCheck_1_2_1005 m a1 a0.1 a0.2.1 true a0
  else
    bif decide ((64 : Int) < (a0.1.length : Int)) then
      P_impl_PassCheck_1_2_1005 m a1 a0.1 a0.2.1 true a0
    else
      bif decide (a0.2.1 < 1) then
        P_impl_PassCheck_1_2_1005 m a1 a0.1 a0.2.1 true a0
      else
        P_impl_PassCheck_1_2_1005 m a1 a0.1 a0.2.1 (decide ((1000 : Int) < a0.2.1)) a0
noncomputable def E_impl_PassCheck (a0 : DStored) (a1 : (List Int)) : Option Bool := evOpt fun m => P_impl_PassCheck m a0 a1
noncomputable def c_impl_PassCheck : Ctr := ⟨15, [TyStored, .str], [.bool], fun x => E_impl_PassCheck x.1 x.2.1⟩
def A_impl_PassCheck : List (List Nat × Ann) := [([1, 2, 1005], [.keep 0 2, .keep 1 0, .keep 1 1, .keep 1 2, .keep 1 23, .boxd 0 2 TyStored]), ([0, 5, 1005], [.keep 0 2, .keep 1 0, .keep 1 7, .keep 1 29, .keep 1 30, .boxd 0 2 TyStored])]
def In_impl_PassCheck : List (List Nat × Nat) := [([1005], 8)]
noncomputable def cs_impl_PassCheck : List Ctr := [c_impl_Mac, c_bytes_Equal]
noncomputable def F_impl_PassCheck (n : Nat) (a0 : DStored) (a1 : (List Int)) : Option Bool := run Try.prog A_impl_PassCheck In_impl_PassCheck (conOf cs_impl_PassCheck) Try.f15 (Try.f15.body.getD .skip) (packT [.bool]) n (argsV [TyStored, .str] (a0, a1, ()))
noncomputable abbrev L_impl_PassCheck_1_2_1005 (n : Nat) (x1 : (List Int)) (x2 : (List Int)) (x3 : Int) (x4 : Bool) (x5 : DStored) : Option Bool := lam Try.prog A_impl_PassCheck In_impl_PassCheck (conOf cs_impl_PassCheck) Try.f15 (Try.f15.body.getD .skip) (packT [.bool]) n [1, 2, 1005] [.ptr 0 2 0, .d .str x1, .d (.list U8) x2, .d I64 x3, .d .bool x4, .agg (explode TyStored x5)]
noncomputable abbrev L_impl_PassCheck_0_5_1005 (n : Nat) (x1 : (List Int)) (x2 : (List Int)) (x3 : Int) (x4 : Int) (x5 : DStored) : Option Bool := lam Try.prog A_impl_PassCheck In_impl_PassCheck (conOf cs_impl_PassCheck) Try.f15 (Try.f15.body.getD .skip) (packT [.bool]) n [0, 5, 1005] [.ptr 0 2 0, .d .str x1, .d (.list U8) x2, .d I64 x3, .d I64 x4, .agg (explode TyStored x5)]
theorem F_impl_PassCheck_eq (n : Nat) (a0 : DStored) (a1 : (List Int)) : F_impl_PassCheck n a0 a1 =
    bif decide ((64 : Int) < (a1.length : Int)) then
      L_impl_PassCheck_1_2_1005 n a1 a0.1 a0.2.1 true a0
    else
      bif decide ((64 : Int) < (a0.1.length : Int)) then
        L_impl_PassCheck_1_2_1005 n a1 a0.1 a0.2.1 true a0
      else
        bif decide (a0.2.1 < 1) then
          L_impl_PassCheck_1_2_1005 n a1 a0.1 a0.2.1 true a0
        else
          L_impl_PassCheck_1_2_1005 n a1 a0.1 a0.2.1 (decide ((1000 : Int) < a0.2.1)) a0 := by kernel_rfl
theorem L_impl_PassCheck_1_2_1005_eq (n : Nat) (x1 : (List Int)) (x2 : (List Int)) (x3 : Int) (x4 : Bool) (x5 : DStored) : L_impl_PassCheck_1_2_1005 (n + 1) x1 x2 x3 x4 x5 =
    bif x4 then
      some false
    else
      Option.bind (P_impl_Mac x1 x2) fun (y1 : (List Int)) =>
      L_impl_PassCheck_0_5_1005 n x1 y1 (IntKind.wrap .i64 (x3 - 1)) 0 x5 := by kernel_rfl
theorem L_impl_PassCheck_0_5_1005_eq (n : Nat) (x1 : (List Int)) (x2 : (List Int)) (x3 : Int) (x4 : Int) (x5 : DStored) : L_impl_PassCheck_0_5_1005 (n + 1) x1 x2 x3 x4 x5 =
    bif decide (x4 < x3) then
      Option.bind (P_impl_Mac x1 x2) fun (y2 : (List Int)) =>
      L_impl_PassCheck_0_5_1005 n x1 y2 x3 (IntKind.wrap .i64 (x4 + 1)) x5
    else
      bif decide (0 < x2.length) then
        Option.bind (P_bytes_Equal x2 x5.2.2) fun (y3 : Bool) =>
        some y3
      else
        both
          (some false)
          (Option.bind (P_bytes_Equal x2 x5.2.2) fun (y4 : Bool) =>
          some y4) := by kernel_rfl
theorem S_impl_PassCheck_0_5_1005 {x1 : (List Int)} {x3 : Int} {x5 : DStored} : ∀ (m : Nat) (x2 : (List Int)) (x4 : Int) (r : Bool), P_impl_PassCheck_0_5_1005 x1 x3 x5 m x2 x4 = some r → Ev (fun n => L_impl_PassCheck_0_5_1005 n x1 x2 x3 x4 x5) r := by
  intro m
  induction m with
  | zero => intro x2 x4 r h; rw [P_impl_PassCheck_0_5_1005] at h; exact Ev.ofNone h
  | succ m ih2 =>
    intro x2 x4 r h
    rw [P_impl_PassCheck_0_5_1005] at h
    refine Ev.step ?_ (fun n => L_impl_PassCheck_0_5_1005_eq n x1 x2 x3 x4 x5)
    exact (Ev.ofBif h (fun h => (Ev.ofBind h fun y2 h => (ih2 _ _ _ h))) (fun h => (Ev.ofBif h (fun h => (Ev.ofBind h fun y3 h => (Ev.ofSome h))) (fun h => (Ev.ofBoth h (fun h => (Ev.ofSome h)) (fun h => (Ev.ofBind h fun y4 h => (Ev.ofSome h))))))))
theorem S_impl_PassCheck_1_2_1005 {m : Nat} {x1 : (List Int)} {x2 : (List Int)} {x3 : Int} {x4 : Bool} {x5 : DStored} {r : Bool} (h : P_impl_PassCheck_1_2_1005 m x1 x2 x3 x4 x5 = some r) : Ev (fun n => L_impl_PassCheck_1_2_1005 n x1 x2 x3 x4 x5) r := by
  rw [P_impl_PassCheck_1_2_1005] at h
  refine Ev.step ?_ (fun n => L_impl_PassCheck_1_2_1005_eq n x1 x2 x3 x4 x5)
  exact (Ev.ofBif h (fun h => (Ev.ofSome h)) (fun h => (Ev.ofBind h fun y1 h => (S_impl_PassCheck_0_5_1005 _ _ _ _ h))))
theorem S_impl_PassCheck {m : Nat} (a0 : DStored) (a1 : (List Int)) {r : Bool} (h : P_impl_PassCheck m a0 a1 = some r) : Ev (fun n => F_impl_PassCheck n a0 a1) r := by
  rw [P_impl_PassCheck] at h
  refine Ev.of_eq ?_ (fun n => F_impl_PassCheck_eq n a0 a1)
  exact (Ev.ofBif h (fun h => (S_impl_PassCheck_1_2_1005 h)) (fun h => (Ev.ofBif h (fun h => (S_impl_PassCheck_1_2_1005 h)) (fun h => (Ev.ofBif h (fun h => (S_impl_PassCheck_1_2_1005 h)) (fun h => (S_impl_PassCheck_1_2_1005 h)))))))
theorem hcs_impl_PassCheck : ∀ x ∈ cs_impl_PassCheck, CtrOk Try.prog x := (conOf_cons ok_impl_Mac (conOf_cons ok_bytes_Equal conOf_nil))
theorem ok_impl_PassCheck : CtrOk Try.prog (c_impl_PassCheck) := by
  refine ctr_of_run (c := c_impl_PassCheck) (by kernel_rfl) (by kernel_rfl : Try.prog.funcs[15]? = some Try.f15) (code := Try.f15.body.getD .skip) (by kernel_rfl) (by kernel_rfl) (by kernel_rfl) (A := A_impl_PassCheck) (I := In_impl_PassCheck) (hcs_impl_PassCheck) ?_
  rintro ⟨a0, a1, u⟩ y hy
  exact let ⟨_, h⟩ := (evOpt_get hy).get; (S_impl_PassCheck a0 a1 h).get

/-! ## laws.szByteS (22) -/
noncomputable def c_laws_szByteS : Ctr := ⟨22, [(.list U8), I64], [I64], fun x => szC (.list U8) x.1 x.2.1⟩
def A_laws_szByteS : List (List Nat × Ann) := []
def In_laws_szByteS : List (List Nat × Nat) := []
noncomputable def cs_laws_szByteS : List Ctr := []
noncomputable def F_laws_szByteS (n : Nat) (a0 : (List Int)) (a1 : Int) : Option Int := run Try.prog A_laws_szByteS In_laws_szByteS (conOf cs_laws_szByteS) Try.f22 (Try.f22.body.getD .skip) (packT [I64]) n (argsV [(.list U8), I64] (a0, a1, ()))
theorem F_laws_szByteS_eq (n : Nat) (a0 : (List Int)) (a1 : Int) : F_laws_szByteS n a0 a1 =
    bif decide (IntKind.wrap .i64 (a1 - (a0.length : Int)) < 0) then
      some (-1)
    else
      some (IntKind.wrap .i64 (a1 - (a0.length : Int))) := by kernel_rfl
theorem mk_laws_szByteS (hcs : ∀ x ∈ cs_laws_szByteS, CtrOk Try.prog x) (h : ∀ (a0 : (List Int)) (a1 : Int) y, szC (.list U8) a0 a1 = some y → ∃ n, F_laws_szByteS n a0 a1 = some y) : CtrOk Try.prog c_laws_szByteS := by
  refine ctr_of_run (c := c_laws_szByteS) (by kernel_rfl) (by kernel_rfl : Try.prog.funcs[22]? = some Try.f22) (code := Try.f22.body.getD .skip) (by kernel_rfl) (by kernel_rfl) (by kernel_rfl) (A := A_laws_szByteS) (I := In_laws_szByteS) hcs ?_
  rintro ⟨a0, a1, u⟩ y hy
  exact h a0 a1 y hy

theorem hcs_laws_szByteS : ∀ x ∈ cs_laws_szByteS, CtrOk Try.prog x := conOf_nil
theorem ok_laws_szByteS : CtrOk Try.prog c_laws_szByteS := mk_laws_szByteS hcs_laws_szByteS fun a0 a1 y hy => by
  exact ⟨0, (F_laws_szByteS_eq 0 a0 a1).trans (szS_flat (t := U8) (fun _ => rfl) hy)⟩
/-! ## laws.szStored (12) -/
noncomputable def c_laws_szStored : Ctr := ⟨12, [TyStored, I64], [I64], fun x => szC TyStored x.1 x.2.1⟩
def A_laws_szStored : List (List Nat × Ann) := []
def In_laws_szStored : List (List Nat × Nat) := []
noncomputable def cs_laws_szStored : List Ctr := [c_laws_szByteS]
noncomputable def F_laws_szStored (n : Nat) (a0 : DStored) (a1 : Int) : Option Int := run Try.prog A_laws_szStored In_laws_szStored (conOf cs_laws_szStored) Try.f12 (Try.f12.body.getD .skip) (packT [I64]) n (argsV [TyStored, I64] (a0, a1, ()))
theorem F_laws_szStored_eq (n : Nat) (a0 : DStored) (a1 : Int) : F_laws_szStored n a0 a1 =
    Option.bind (szC (.list U8) a0.1 a1) fun (y1 : Int) =>
    bif decide (y1 < 0) then
      some (-1)
    else
      Option.bind (szC (.list U8) a0.2.2 y1) fun (y2 : Int) =>
      bif decide (y2 < 0) then
        some (-1)
      else
        some y2 := by kernel_rfl
theorem mk_laws_szStored (hcs : ∀ x ∈ cs_laws_szStored, CtrOk Try.prog x) (h : ∀ (a0 : DStored) (a1 : Int) y, szC TyStored a0 a1 = some y → ∃ n, F_laws_szStored n a0 a1 = some y) : CtrOk Try.prog c_laws_szStored := by
  refine ctr_of_run (c := c_laws_szStored) (by kernel_rfl) (by kernel_rfl : Try.prog.funcs[12]? = some Try.f12) (code := Try.f12.body.getD .skip) (by kernel_rfl) (by kernel_rfl) (by kernel_rfl) (A := A_laws_szStored) (I := In_laws_szStored) hcs ?_
  rintro ⟨a0, a1, u⟩ y hy
  exact h a0 a1 y hy

theorem hcs_laws_szStored : ∀ x ∈ cs_laws_szStored, CtrOk Try.prog x := (conOf_cons ok_laws_szByteS conOf_nil)
theorem ok_laws_szStored : CtrOk Try.prog c_laws_szStored := mk_laws_szStored hcs_laws_szStored fun a0 a1 y hy => by
  obtain ⟨hw, h0, h1, rfl⟩ := szC_inv hy
  have hw2 : wfD (.list U8) a0.1 ∧ wfD I64 a0.2.1 ∧ wfD (.list U8) a0.2.2 := hw
  have hsz : Ty.size TyStored a0 = Ty.size (.list U8) a0.1 + (Ty.size I64 a0.2.1 + (Ty.size (.list U8) a0.2.2)) := rfl
  have z1 : Ty.size I64 a0.2.1 = 0 := rfl
  refine ⟨0, ?_⟩
  rw [F_laws_szStored_eq, hsz]
  rw [szC_some hw2.1 (show 0 ≤ a1 by omega) (by omega)]
  simp only [Option.bind_some]
  rcases Int.lt_or_le (a1) ((Ty.size (.list U8) a0.1 : Nat) : Int) with h | h
  · rw [show lessZ (a1) (Ty.size (.list U8) a0.1) = -1 by unfold lessZ; rw [if_neg (by omega)]]; rw [decide_eq_true (show (-1 : Int) < 0 by omega)]; simp only [cond_true]; unfold lessZ; rw [if_neg (by omega)]
  rw [show lessZ (a1) (Ty.size (.list U8) a0.1) = (a1 - ((Ty.size (.list U8) a0.1 : Nat) : Int)) by unfold lessZ; rw [if_pos h]]; rw [decide_eq_false (show ¬ (a1 - ((Ty.size (.list U8) a0.1 : Nat) : Int)) < 0 by omega)]; simp only [cond_false]
  have h_0 := h; clear h
  rw [szC_some hw2.2.2 (show 0 ≤ (a1 - ((Ty.size (.list U8) a0.1 : Nat) : Int)) by omega) (by omega)]
  simp only [Option.bind_some]
  rcases Int.lt_or_le ((a1 - ((Ty.size (.list U8) a0.1 : Nat) : Int))) ((Ty.size (.list U8) a0.2.2 : Nat) : Int) with h | h
  · rw [show lessZ ((a1 - ((Ty.size (.list U8) a0.1 : Nat) : Int))) (Ty.size (.list U8) a0.2.2) = -1 by unfold lessZ; rw [if_neg (by omega)]]; rw [decide_eq_true (show (-1 : Int) < 0 by omega)]; simp only [cond_true]; unfold lessZ; rw [if_neg (by omega)]
  rw [show lessZ ((a1 - ((Ty.size (.list U8) a0.1 : Nat) : Int))) (Ty.size (.list U8) a0.2.2) = ((a1 - ((Ty.size (.list U8) a0.1 : Nat) : Int)) - ((Ty.size (.list U8) a0.2.2 : Nat) : Int)) by unfold lessZ; rw [if_pos h]]; rw [decide_eq_false (show ¬ ((a1 - ((Ty.size (.list U8) a0.1 : Nat) : Int)) - ((Ty.size (.list U8) a0.2.2 : Nat) : Int)) < 0 by omega)]; simp only [cond_false]
  have h_2 := h; clear h
  unfold lessZ; rw [if_pos (by omega)]; congr 1 <;> omega
/-! ## laws.toByteS (7) -/
noncomputable def c_laws_toByteS : Ctr := ⟨7, [(.list U8)], [(.list U8)], fun x => toC (.list U8) x.1⟩
def A_laws_toByteS : List (List Nat × Ann) := [([0, 3], [.keep 0 0, .keep 0 3, .keep 0 4, .rows 0 7 U8])]
def In_laws_toByteS : List (List Nat × Nat) := []
noncomputable def cs_laws_toByteS : List Ctr := []
noncomputable def F_laws_toByteS (n : Nat) (a0 : (List Int)) : Option (List Int) := run Try.prog A_laws_toByteS In_laws_toByteS (conOf cs_laws_toByteS) Try.f7 (Try.f7.body.getD .skip) (packT [(.list U8)]) n (argsV [(.list U8)] (a0, ()))
noncomputable abbrev L_laws_toByteS_0_3 (n : Nat) (x1 : (List Int)) (x2 : Int) (x3 : (List Int)) : Option (List Int) := lam Try.prog A_laws_toByteS In_laws_toByteS (conOf cs_laws_toByteS) Try.f7 (Try.f7.body.getD .skip) (packT [(.list U8)]) n [0, 3] [.d (.list U8) x1, .msl 0 7, .d I64 x2, .d (.list U8) x3]
theorem F_laws_toByteS_eq (n : Nat) (a0 : (List Int)) : F_laws_toByteS n a0 =
    bif decide ((a0.length : Int) = (a0.length : Int)) && decide ((0 : Int) ≤ (a0.length : Int)) && decide ((a0.length : Int) * 1 ≤ room) && true then
      L_laws_toByteS_0_3 n a0 0 (List.replicate (Int.toNat (a0.length : Int)) 0)
    else none := by kernel_rfl
theorem L_laws_toByteS_0_3_eq (n : Nat) (x1 : (List Int)) (x2 : Int) (x3 : (List Int)) : L_laws_toByteS_0_3 (n + 1) x1 x2 x3 =
    bif decide (x2 < (x1.length : Int)) then
      bif inB x2 x1.length then
        bif inB x2 x3.length then
          bif inB x2 x3.length && true && true && true && true then
            L_laws_toByteS_0_3 n x1 (IntKind.wrap .i64 (x2 + 1)) (x3.set (Int.toNat x2) (rd x1 x2 (Ty.dflt U8)))
          else none
        else none
      else none
    else
      some x3 := by kernel_rfl
theorem mk_laws_toByteS (hcs : ∀ x ∈ cs_laws_toByteS, CtrOk Try.prog x) (h : ∀ (a0 : (List Int)) y, toC (.list U8) a0 = some y → ∃ n, F_laws_toByteS n a0 = some y) : CtrOk Try.prog c_laws_toByteS := by
  refine ctr_of_run (c := c_laws_toByteS) (by kernel_rfl) (by kernel_rfl : Try.prog.funcs[7]? = some Try.f7) (code := Try.f7.body.getD .skip) (by kernel_rfl) (by kernel_rfl) (by kernel_rfl) (A := A_laws_toByteS) (I := In_laws_toByteS) hcs ?_
  rintro ⟨a0, u⟩ y hy
  exact h a0 y hy

theorem hcs_laws_toByteS : ∀ x ∈ cs_laws_toByteS, CtrOk Try.prog x := conOf_nil
theorem ok_laws_toByteS : CtrOk Try.prog c_laws_toByteS := mk_laws_toByteS hcs_laws_toByteS fun a0 y hy => by
  obtain ⟨n, hn⟩ := toS_ok (t := U8) (f := fun x => some x) (fun x _ _ => rfl) (by_ := 1) (by omega) (fun n xs i out => L_laws_toByteS_0_3_eq n xs i out) hy
  exact ⟨n, (F_laws_toByteS_eq n a0).trans hn⟩
/-! ## laws.toStored (14) -/
noncomputable def c_laws_toStored : Ctr := ⟨14, [TyStored], [TyStored], fun x => toC TyStored x.1⟩
def A_laws_toStored : List (List Nat × Ann) := []
def In_laws_toStored : List (List Nat × Nat) := []
noncomputable def cs_laws_toStored : List Ctr := [c_laws_toByteS]
noncomputable def F_laws_toStored (n : Nat) (a0 : DStored) : Option DStored := run Try.prog A_laws_toStored In_laws_toStored (conOf cs_laws_toStored) Try.f14 (Try.f14.body.getD .skip) (packT [TyStored]) n (argsV [TyStored] (a0, ()))
theorem F_laws_toStored_eq (n : Nat) (a0 : DStored) : F_laws_toStored n a0 =
    Option.bind (toC (.list U8) a0.1) fun (y1 : (List Int)) =>
    Option.bind (toC (.list U8) a0.2.2) fun (y2 : (List Int)) =>
    some (y1, a0.2.1, y2) := by kernel_rfl
theorem mk_laws_toStored (hcs : ∀ x ∈ cs_laws_toStored, CtrOk Try.prog x) (h : ∀ (a0 : DStored) y, toC TyStored a0 = some y → ∃ n, F_laws_toStored n a0 = some y) : CtrOk Try.prog c_laws_toStored := by
  refine ctr_of_run (c := c_laws_toStored) (by kernel_rfl) (by kernel_rfl : Try.prog.funcs[14]? = some Try.f14) (code := Try.f14.body.getD .skip) (by kernel_rfl) (by kernel_rfl) (by kernel_rfl) (A := A_laws_toStored) (I := In_laws_toStored) hcs ?_
  rintro ⟨a0, u⟩ y hy
  exact h a0 y hy

theorem hcs_laws_toStored : ∀ x ∈ cs_laws_toStored, CtrOk Try.prog x := (conOf_cons ok_laws_toByteS conOf_nil)
theorem ok_laws_toStored : CtrOk Try.prog c_laws_toStored := mk_laws_toStored hcs_laws_toStored fun a0 y hy => by
  obtain ⟨hw, hs, rfl⟩ := toC_inv hy
  have hw2 : wfD (.list U8) y.1 ∧ wfD I64 y.2.1 ∧ wfD (.list U8) y.2.2 := hw
  have hs2 : Ty.size (.list U8) y.1 + (Ty.size I64 y.2.1 + (Ty.size (.list U8) y.2.2)) ≤ 1073741824 := hs
  refine ⟨0, ?_⟩
  rw [F_laws_toStored_eq]
  try (rw [toC_some hw2.1 (by omega)]; simp only [Option.bind_some])
  try (rw [toC_some hw2.2.2 (by omega)]; simp only [Option.bind_some])
  try rfl
/-! ## laws.eqByteS (9) -/
noncomputable def c_laws_eqByteS : Ctr := ⟨9, [(.list U8), (.list U8)], [.bool], fun x => eqC (.list U8) x.1 x.2.1⟩
def A_laws_eqByteS : List (List Nat × Ann) := [([0, 4], [.keep 0 0, .keep 0 1, .keep 0 5])]
def In_laws_eqByteS : List (List Nat × Nat) := []
noncomputable def cs_laws_eqByteS : List Ctr := []
noncomputable def F_laws_eqByteS (n : Nat) (a0 : (List Int)) (a1 : (List Int)) : Option Bool := run Try.prog A_laws_eqByteS In_laws_eqByteS (conOf cs_laws_eqByteS) Try.f9 (Try.f9.body.getD .skip) (packT [.bool]) n (argsV [(.list U8), (.list U8)] (a0, a1, ()))
noncomputable abbrev L_laws_eqByteS_0_4 (n : Nat) (x1 : (List Int)) (x2 : (List Int)) (x3 : Int) : Option Bool := lam Try.prog A_laws_eqByteS In_laws_eqByteS (conOf cs_laws_eqByteS) Try.f9 (Try.f9.body.getD .skip) (packT [.bool]) n [0, 4] [.d (.list U8) x1, .d (.list U8) x2, .d I64 x3]
theorem F_laws_eqByteS_eq (n : Nat) (a0 : (List Int)) (a1 : (List Int)) : F_laws_eqByteS n a0 a1 =
    bif !decide ((a0.length : Int) = (a1.length : Int)) then
      some false
    else
      L_laws_eqByteS_0_4 n a0 a1 0 := by kernel_rfl
theorem L_laws_eqByteS_0_4_eq (n : Nat) (x1 : (List Int)) (x2 : (List Int)) (x3 : Int) : L_laws_eqByteS_0_4 (n + 1) x1 x2 x3 =
    bif decide (x3 < (x1.length : Int)) then
      bif inB x3 x1.length then
        bif inB x3 x2.length then
          bif !decide (rd x1 x3 (Ty.dflt U8) = rd x2 x3 (Ty.dflt U8)) then
            some false
          else
            L_laws_eqByteS_0_4 n x1 x2 (IntKind.wrap .i64 (x3 + 1))
        else none
      else none
    else
      some true := by kernel_rfl
theorem mk_laws_eqByteS (hcs : ∀ x ∈ cs_laws_eqByteS, CtrOk Try.prog x) (h : ∀ (a0 : (List Int)) (a1 : (List Int)) y, eqC (.list U8) a0 a1 = some y → ∃ n, F_laws_eqByteS n a0 a1 = some y) : CtrOk Try.prog c_laws_eqByteS := by
  refine ctr_of_run (c := c_laws_eqByteS) (by kernel_rfl) (by kernel_rfl : Try.prog.funcs[9]? = some Try.f9) (code := Try.f9.body.getD .skip) (by kernel_rfl) (by kernel_rfl) (by kernel_rfl) (A := A_laws_eqByteS) (I := In_laws_eqByteS) hcs ?_
  rintro ⟨a0, a1, u⟩ y hy
  exact h a0 a1 y hy

theorem hcs_laws_eqByteS : ∀ x ∈ cs_laws_eqByteS, CtrOk Try.prog x := conOf_nil
theorem ok_laws_eqByteS : CtrOk Try.prog c_laws_eqByteS := mk_laws_eqByteS hcs_laws_eqByteS fun a0 a1 y hy => by
  obtain ⟨n, hn⟩ := eqS_ok (t := U8) (body := fun x y K => bif !decide (x = y) then some false else K ()) (fun x K h => by simp) (fun n xs ys i => L_laws_eqByteS_0_4_eq n xs ys i) hy
  exact ⟨n, (F_laws_eqByteS_eq n a0 a1).trans hn⟩
/-! ## laws.eqStored (16) -/
noncomputable def c_laws_eqStored : Ctr := ⟨16, [TyStored, TyStored], [.bool], fun x => eqC TyStored x.1 x.2.1⟩
def A_laws_eqStored : List (List Nat × Ann) := []
def In_laws_eqStored : List (List Nat × Nat) := []
noncomputable def cs_laws_eqStored : List Ctr := [c_laws_eqByteS]
noncomputable def F_laws_eqStored (n : Nat) (a0 : DStored) (a1 : DStored) : Option Bool := run Try.prog A_laws_eqStored In_laws_eqStored (conOf cs_laws_eqStored) Try.f16 (Try.f16.body.getD .skip) (packT [.bool]) n (argsV [TyStored, TyStored] (a0, a1, ()))
theorem F_laws_eqStored_eq (n : Nat) (a0 : DStored) (a1 : DStored) : F_laws_eqStored n a0 a1 =
    Option.bind (eqC (.list U8) a0.1 a1.1) fun (y1 : Bool) =>
    bif !(y1) then
      some false
    else
      bif !decide (a0.2.1 = a1.2.1) then
        some false
      else
        Option.bind (eqC (.list U8) a0.2.2 a1.2.2) fun (y2 : Bool) =>
        bif !(y2) then
          some false
        else
          some true := by kernel_rfl
theorem mk_laws_eqStored (hcs : ∀ x ∈ cs_laws_eqStored, CtrOk Try.prog x) (h : ∀ (a0 : DStored) (a1 : DStored) y, eqC TyStored a0 a1 = some y → ∃ n, F_laws_eqStored n a0 a1 = some y) : CtrOk Try.prog c_laws_eqStored := by
  refine ctr_of_run (c := c_laws_eqStored) (by kernel_rfl) (by kernel_rfl : Try.prog.funcs[16]? = some Try.f16) (code := Try.f16.body.getD .skip) (by kernel_rfl) (by kernel_rfl) (by kernel_rfl) (A := A_laws_eqStored) (I := In_laws_eqStored) hcs ?_
  rintro ⟨a0, a1, u⟩ y hy
  exact h a0 a1 y hy

theorem hcs_laws_eqStored : ∀ x ∈ cs_laws_eqStored, CtrOk Try.prog x := (conOf_cons ok_laws_eqByteS conOf_nil)
theorem ok_laws_eqStored : CtrOk Try.prog c_laws_eqStored := mk_laws_eqStored hcs_laws_eqStored fun a0 a1 y hy => by
  obtain ⟨rfl, hw, rfl⟩ := eqC_inv hy
  have hw2 : wfD (.list U8) a0.1 ∧ wfD I64 a0.2.1 ∧ wfD (.list U8) a0.2.2 := hw
  refine ⟨0, ?_⟩
  rw [F_laws_eqStored_eq]
  simp [eqC_some hw2.1, eqC_some hw2.2.2]
/-! ## laws.FnExactPassCheck (4) -/
noncomputable def P_laws_FnExactPassCheck (a0 : DStored) (a1 : (List Int)) : Option Bool :=
  bif decide ((1048576 : Int) < (a1.length : Int)) then
    some true
  else
    Option.bind (szC TyStored a0 1048576) fun (y1 : Int) =>
    bif decide (y1 < 0) then
      some true
    else
      Option.bind (toC TyStored a0) fun (y2 : DStored) =>
      Option.bind (P_spec_PassCheck y2 a1) fun (y3 : Bool) =>
      Option.bind (toC TyStored a0) fun (y4 : DStored) =>
      Option.bind (E_impl_PassCheck y4 a1) fun (y5 : Bool) =>
      bif y5 != y3 then
        some false
      else
        Option.bind (toC TyStored a0) fun (y6 : DStored) =>
        Option.bind (eqC TyStored y4 y6) fun (y7 : Bool) =>
        bif !(y7) then
          some false
        else
          some true
def A_laws_FnExactPassCheck : List (List Nat × Ann) := []
def In_laws_FnExactPassCheck : List (List Nat × Nat) := []
noncomputable def cs_laws_FnExactPassCheck : List Ctr := [c_laws_szStored, c_laws_toStored, c_spec_PassCheck, c_impl_PassCheck, c_laws_eqStored]
noncomputable def F_laws_FnExactPassCheck (n : Nat) (a0 : DStored) (a1 : (List Int)) : Option Bool := run Try.prog A_laws_FnExactPassCheck In_laws_FnExactPassCheck (conOf cs_laws_FnExactPassCheck) Try.f4 (Try.f4.body.getD .skip) (packT [.bool]) n (argsV [TyStored, .str] (a0, a1, ()))
theorem F_laws_FnExactPassCheck_eq (n : Nat) (a0 : DStored) (a1 : (List Int)) : F_laws_FnExactPassCheck n a0 a1 =
    bif decide ((1048576 : Int) < (a1.length : Int)) then
      some true
    else
      Option.bind (szC TyStored a0 1048576) fun (y1 : Int) =>
      bif decide (y1 < 0) then
        some true
      else
        Option.bind (toC TyStored a0) fun (y2 : DStored) =>
        Option.bind (P_spec_PassCheck y2 a1) fun (y3 : Bool) =>
        Option.bind (toC TyStored a0) fun (y4 : DStored) =>
        Option.bind (E_impl_PassCheck y4 a1) fun (y5 : Bool) =>
        bif y5 != y3 then
          some false
        else
          Option.bind (toC TyStored a0) fun (y6 : DStored) =>
          Option.bind (eqC TyStored y4 y6) fun (y7 : Bool) =>
          bif !(y7) then
            some false
          else
            some true := by kernel_rfl
theorem S_laws_FnExactPassCheck (a0 : DStored) (a1 : (List Int)) {r : Bool} (h : P_laws_FnExactPassCheck a0 a1 = some r) : Ev (fun n => F_laws_FnExactPassCheck n a0 a1) r := by
  rw [P_laws_FnExactPassCheck] at h
  refine Ev.of_eq ?_ (fun n => F_laws_FnExactPassCheck_eq n a0 a1)
  exact (Ev.ofBif h (fun h => (Ev.ofSome h)) (fun h => (Ev.ofBind h fun y1 h => (Ev.ofBif h (fun h => (Ev.ofSome h)) (fun h => (Ev.ofBind h fun y2 h => (Ev.ofBind h fun y3 h => (Ev.ofBind h fun y4 h => (Ev.ofBind h fun y5 h => (Ev.ofBif h (fun h => (Ev.ofSome h)) (fun h => (Ev.ofBind h fun y6 h => (Ev.ofBind h fun y7 h => (Ev.ofBif h (fun h => (Ev.ofSome h)) (fun h => (Ev.ofSome h))))))))))))))))

end Go.Ab
