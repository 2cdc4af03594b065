/-
  Lemmas, part 4: laid together by a program.
-/
import Derived.Test.YtmmfcgbfbcamcaaGreatDoorP3
import Derived.Test.YtmmfcgbfbcamcaaGreatDoorP2
import GoSem.ClaimJoined
import Derived.Below
import Derived.WideShapes
import Derived.Lib.Overlaps
import Derived.Lib.Bytealg
set_option maxRecDepth 100000
set_option linter.unusedVariables false
namespace Go.Proofs.YtmmfcgbfbcamcaaGreatDoor
open Go.SL
def sh190 (ω : Om) (a0 : Value) (a1 : Value) (K : Value → M) : M :=
  BldS 5 1 #[(Value.int .u8 0)] 1 [(0, (Value.int .u8 105))] <| gh fun v1 =>
  App 5 1 1 #[(Value.int .u8 0)] v1 a1 <| gh fun v2 =>
  Pv (nilV a0) fun v3 =>
  Pv (fldV 0 v3) fun v4 =>
  Rv none (ld1R v4) fun v5 =>
  Rv none (lkR .string (Value.pointer none) false v5 a1) fun v6 =>
  Pv (nilV v6) fun v7 =>
  Pv (fldV 1 v7) fun v8 =>
  Pv (fldV 4 v8) fun v9 =>
  Rv none (ld1R v9) fun v10 =>
  Pv (binIV .eql v10 (Value.int .i64 0)) fun v11 =>
  Br v11
    (Cal Tryz.prog ω 187 #[a0, v2, (Value.slice none 0 0), (Value.bool true)] <| gh fun v12 =>
    K (Value.tuple #[]))
    (Pv (nilV v6) fun v13 =>
    Pv (fldV 1 v13) fun v14 =>
    Pv (fldV 0 v14) fun v15 =>
    Pv (fldV 0 v15) fun v16 =>
    Rv none (ldNR 2 v16) fun v17 =>
    Cal Tryz.prog ω 186 #[v17] <| gh fun v18 =>
    Pv (exV v18 0) fun v19 =>
    Pv (exV v18 1) fun v20 =>
    Pv (nilV v6) fun v21 =>
    Pv (fldV 1 v21) fun v22 =>
    Pv (fldV 4 v22) fun v23 =>
    Rv none (ld1R v23) fun v24 =>
    Pv (cvIV .u64 v24) fun v25 =>
    Cal Tryz.prog ω 121 #[v25] <| gh fun v26 =>
    App 5 1 1 #[(Value.int .u8 0)] v19 v26 <| gh fun v27 =>
    Pv (nilV v6) fun v28 =>
    Pv (fldV 1 v28) fun v29 =>
    Pv (fldV 0 v29) fun v30 =>
    Rv none (ldNR 4 v30) fun v31 =>
    Cal Tryz.prog ω 235 #[v31] <| gh fun v32 =>
    App 5 1 1 #[(Value.int .u8 0)] v27 v32 <| gh fun v33 =>
    Cal Tryz.prog ω 187 #[a0, v2, v33, (Value.bool false)] <| gh fun v34 =>
    K (Value.tuple #[]))
theorem sh190_eq (ω : Om) (a0 a1 : Value) (K : Value → M) : vcF Tryz.prog ω Tryz.f190 [a0, a1] K = sh190 ω a0 a1 K := by kernel_rfl
theorem cal190 {ω : Om} {a0 a1 : Value} {K : Value → M} {I : Imm} {L : LH} (h : sh190 ω a0 a1 (fun v => Gh (K v)) I L) : Cal Tryz.prog ω 190 #[a0, a1] K I L :=
  Cal.gh (cal_of_vc mixed Tryz.func190 (by rw [sh190_eq]; exact h))
def sh206 (ω : Om) (a0 : Value) (a1 : Value) (K : Value → M) : M :=
  Pv (nilV a0) fun v1 =>
  Pv (fldV 0 v1) fun v2 =>
  Rv none (ld1R v2) fun v3 =>
  Rv none (lkR .string (Value.pointer none) false v3 a1) fun v4 =>
  Pv (binPV .eql v4 (Value.pointer none)) fun v5 =>
  Br v5
    (Pv (bldV #[(Value.slice none 0 0), (Value.int .i64 0), (Value.int .i64 0), (Value.bool false), (Value.string (ByteArray.mk #[])), (Value.int .i64 0)] #[(0, 1), (1, 5)] []) fun v6 =>
    New (.cells (Value.cells v6) 257 (0, 0)) <| gh fun v7 =>
    Pv (nilV a0) fun v8 =>
    Pv (fldV 0 v8) fun v9 =>
    Rv none (ld1R v9) fun v10 =>
    PutM .string v10 a1 v7 <| gh fun _ =>
    Pv (nilV a0) fun v11 =>
    Pv (fldV 1 v11) fun v12 =>
    Rv none (ld1R v12) fun v13 =>
    Cal Tryz.prog ω 144 #[v13, a1] <| gh fun v14 =>
    Pv (exV v14 0) fun v15 =>
    Pv (exV v14 1) fun v16 =>
    Pv (nilV a0) fun v17 =>
    Pv (fldV 1 v17) fun v18 =>
    Rv none (ld1R v18) fun v19 =>
    BldS 9 1 #[(Value.string (ByteArray.mk #[]))] 1 [(0, a1)] <| gh fun v20 =>
    Cal Tryz.prog ω 242 #[v19, v15, v20] <| gh fun v21 =>
    Pv (nilV a0) fun v22 =>
    Pv (fldV 1 v22) fun v23 =>
    Sto 1 v23 v21 <| gh fun _ =>
    K v7)
    (K v4)
theorem sh206_eq (ω : Om) (a0 a1 : Value) (K : Value → M) : vcF Tryz.prog ω Tryz.f206 [a0, a1] K = sh206 ω a0 a1 K := by kernel_rfl
theorem cal206 {ω : Om} {a0 a1 : Value} {K : Value → M} {I : Imm} {L : LH} (h : sh206 ω a0 a1 (fun v => Gh (K v)) I L) : Cal Tryz.prog ω 206 #[a0, a1] K I L :=
  Cal.gh (cal_of_vc mixed Tryz.func206 (by rw [sh206_eq]; exact h))
def sh210 (ω : Om) (a0 : Value) (a1 : Value) (K : Value → M) : M :=
  Cal Tryz.prog ω 244 #[a0] <| gh fun v1 =>
  Gd v1 true
    (Cal Tryz.prog ω 244 #[a1] <| gh fun v2 =>
    Pv (unV .not v2) fun v3 =>
    Gd v3 false
      (Pv (binSV .lss a0 a1) fun v4 =>
      K v4)
      (K (Value.bool true)))
    (Pv (binSV .lss a0 a1) fun v5 =>
    K v5)
theorem sh210_eq (ω : Om) (a0 a1 : Value) (K : Value → M) : vcF Tryz.prog ω Tryz.f210 [a0, a1] K = sh210 ω a0 a1 K := by kernel_rfl
theorem cal210 {ω : Om} {a0 a1 : Value} {K : Value → M} {I : Imm} {L : LH} (h : sh210 ω a0 a1 (fun v => Gh (K v)) I L) : Cal Tryz.prog ω 210 #[a0, a1] K I L :=
  Cal.gh (cal_of_vc mixed Tryz.func210 (by rw [sh210_eq]; exact h))
def sh211 (ω : Om) (a0 : Value) (K : Value → M) : M :=
  Pv (binSV .neq a0 a0) fun v1 =>
  K v1
theorem sh211_eq (ω : Om) (a0 : Value) (K : Value → M) : vcF Tryz.prog ω Tryz.f211 [a0] K = sh211 ω a0 K := by kernel_rfl
theorem cal211 {ω : Om} {a0 : Value} {K : Value → M} {I : Imm} {L : LH} (h : sh211 ω a0 (fun v => Gh (K v)) I L) : Cal Tryz.prog ω 211 #[a0] K I L :=
  Cal.gh (cal_of_vc mixed Tryz.func211 (by rw [sh211_eq]; exact h))
def sh212 (ω : Om) (a0 : Value) (a1 : Value) (K : Value → M) : M :=
  New (.cells (Value.cells a0) 41 (0, 0)) <| gh fun at_1 =>
  Rv none (ldNR 2 at_1) fun v2 =>
  Cal Tryz.prog ω 89 #[v2] <| gh fun v3 =>
  Gd v3 true
    (Pv (binIV .eql a1 (Value.int .i64 0)) fun v4 =>
    Gd v4 false
      (Cal Tryz.prog ω 217 #[a1] <| gh fun v5 =>
      K v5)
      (K (Value.bool true)))
    (K (Value.bool false))
theorem sh212_eq (ω : Om) (a0 a1 : Value) (K : Value → M) : vcF Tryz.prog ω Tryz.f212 [a0, a1] K = sh212 ω a0 a1 K := by kernel_rfl
theorem cal212 {ω : Om} {a0 a1 : Value} {K : Value → M} {I : Imm} {L : LH} (h : sh212 ω a0 a1 (fun v => Gh (K v)) I L) : Cal Tryz.prog ω 212 #[a0, a1] K I L :=
  Cal.gh (cal_of_vc mixed Tryz.func212 (by rw [sh212_eq]; exact h))
def sh213 (ω : Om) (a0 : Value) (a1 : Value) (K : Value → M) : M :=
  New (.cells (Value.cells a0) 41 (0, 0)) <| gh fun a_1 =>
  New (.cells (Value.cells a1) 41 (0, 0)) <| gh fun b_2 =>
  Rv none (ldNR 2 a_1) fun v3 =>
  Rv none (ldNR 2 b_2) fun v4 =>
  Cal Tryz.prog ω 158 #[v3, v4] <| gh fun v5 =>
  Pv (binIV .gtr v5 (Value.int .i64 0)) fun v6 =>
  K v6
theorem sh213_eq (ω : Om) (a0 a1 : Value) (K : Value → M) : vcF Tryz.prog ω Tryz.f213 [a0, a1] K = sh213 ω a0 a1 K := by kernel_rfl
theorem cal213 {ω : Om} {a0 a1 : Value} {K : Value → M} {I : Imm} {L : LH} (h : sh213 ω a0 a1 (fun v => Gh (K v)) I L) : Cal Tryz.prog ω 213 #[a0, a1] K I L :=
  Cal.gh (cal_of_vc mixed Tryz.func213 (by rw [sh213_eq]; exact h))
def sh214_3 (ω : Om) (p6 : Value) (p7 : Value) (K : Value → M) : M :=
  Pv (bldV #[(Value.bool false), (Value.slice none 0 0), (Value.int .i64 0), (Value.int .i64 0), (Value.int .i64 0)] #[(0, 1), (1, 1), (2, 2), (4, 1)] []) fun v15 =>
  Sto 5 p6 v15 <| gh fun _ =>
  Rv none (ldNR 5 p6) fun v16 =>
  K (Value.tuple #[v16, (Value.int .i64 0)])
def sh214_2 (ω : Om) (p6 : Value) (p7 : Value) (p8 : Value) (K : Value → M) : M :=
  Pv (binPV .eql p8 (Value.pointer none)) fun v11 =>
  Gd v11 false
    (Pv (nilV p8) fun v12 =>
    Pv (fldV 2 v12) fun v13 =>
    Rv none (ld1R v13) fun v14 =>
    Br v14
      (sh214_3 ω p6 p7 K)
      (Draw fun S =>
        Pv (nilV p8) fun v17 =>
        Pv (fldV 3 v17) fun v18 =>
        Rv (some S) (ld1R v18) fun v19 =>
        CvSB 5 v19 <| gh <| Keep S fun v20 =>
        Pv (nilV p8) fun v21 =>
        Pv (fldV 0 v21) fun v22 =>
        Rv (some S) (ldNR 2 v22) fun v23 =>
        Pv (bldV #[(Value.bool false), (Value.slice none 0 0), (Value.int .i64 0), (Value.int .i64 0), (Value.int .i64 0)] #[(0, 1), (1, 1), (2, 2), (4, 1)] [(0, (Value.bool true)), (1, v20), (2, v23)]) fun v24 =>
        Sto 5 p6 v24 <| gh fun _ =>
        Rv none (ldNR 5 p6) fun v25 =>
        K (Value.tuple #[v25, (Value.int .i64 0)])))
    (sh214_3 ω p6 p7 K)
def sh214 (ω : Om) (a0 : Value) (a1 : Value) (a2 : Value) (K : Value → M) : M :=
  New (.cells (Value.cells a1) 41 (0, 0)) <| gh fun at_1 =>
  New (.cells #[(Value.bool false), (Value.slice none 0 0), (Value.int .i64 0), (Value.int .i64 0), (Value.int .i64 0)] 49 (0, 0)) <| gh fun v2 =>
  Rv none (ldNR 2 at_1) fun v3 =>
  Cal Tryz.prog ω 221 #[a0, v3] <| gh fun v4 =>
  Pv (nilV a0) fun v5 =>
  Pv (fldV 1 v5) fun v6 =>
  Pv (nilV v6) fun v7 =>
  Pv (fldV 4 v7) fun v8 =>
  Rv none (ld1R v8) fun v9 =>
  Pv (binIV .eql v9 (Value.int .i64 0)) fun v10 =>
  Br v10
    (sh214_2 ω v2 (Value.int .i64 0) v4 K)
    (Pv (nilV v6) fun v26 =>
    Pv (fldV 4 v26) fun v27 =>
    Rv none (ld1R v27) fun v28 =>
    Pv (binIV .eql v28 a2) fun v29 =>
    Br v29
      (Pv (nilV v6) fun v30 =>
      Pv (fldV 0 v30) fun v31 =>
      sh214_2 ω v2 (Value.int .i64 0) v31 K)
      (Draw fun S =>
        Pv (nilV v6) fun v32 =>
        Pv (fldV 0 v32) fun v33 =>
        Pv (fldV 0 v33) fun v34 =>
        Rv (some S) (ldNR 2 v34) fun v35 =>
        Rv (some S) (ldNR 2 at_1) fun v36 =>
        Cal Tryz.prog ω 213 #[v35, v36] <| gh fun v37 =>
        Pv (unV .not v37) fun v38 =>
        Br v38
          (Pv (nilV v6) fun v39 =>
          Pv (fldV 4 v39) fun v40 =>
          Rv none (ld1R v40) fun v41 =>
          Pv (bldV #[(Value.bool false), (Value.slice none 0 0), (Value.int .i64 0), (Value.int .i64 0), (Value.int .i64 0)] #[(0, 1), (1, 1), (2, 2), (4, 1)] [(3, v41)]) fun v42 =>
          Sto 5 v2 v42 <| gh fun _ =>
          Rv none (ldNR 5 v2) fun v43 =>
          K (Value.tuple #[v43, (Value.int .i64 130)]))
          (sh214_2 ω v2 (Value.int .i64 0) v4 K)))
theorem sh214_eq (ω : Om) (a0 a1 a2 : Value) (K : Value → M) : vcF Tryz.prog ω Tryz.f214 [a0, a1, a2] K = sh214 ω a0 a1 a2 K := by kernel_rfl
theorem cal214 {ω : Om} {a0 a1 a2 : Value} {K : Value → M} {I : Imm} {L : LH} (h : sh214 ω a0 a1 a2 (fun v => Gh (K v)) I L) : Cal Tryz.prog ω 214 #[a0, a1, a2] K I L :=
  Cal.gh (cal_of_vc mixed Tryz.func214 (by rw [sh214_eq]; exact h))
def sh215 (ω : Om) (a0 : Value) (K : Value → M) : M :=
  Pv (lenV a0) fun v1 =>
  Pv (lenV a0) fun v2 =>
  Pv (slcV 2 a0 none (some v1) (some v2)) fun v3 =>
  K v3
theorem sh215_eq (ω : Om) (a0 : Value) (K : Value → M) : vcF Tryz.prog ω Tryz.f215 [a0] K = sh215 ω a0 K := by kernel_rfl
theorem cal215 {ω : Om} {a0 : Value} {K : Value → M} {I : Imm} {L : LH} (h : sh215 ω a0 (fun v => Gh (K v)) I L) : Cal Tryz.prog ω 215 #[a0] K I L :=
  Cal.gh (cal_of_vc mixed Tryz.func215 (by rw [sh215_eq]; exact h))
def sh216 (ω : Om) (a0 : Value) (K : Value → M) : M :=
  New (.cells (Value.cells a0) 41 (0, 0)) <| gh fun s_1 =>
  New (.cells #[(Value.int .i64 0), (Value.int .i64 0)] 41 (0, 0)) <| gh fun v2 =>
  Rv none (ldNR 2 s_1) fun v3 =>
  Cal Tryz.prog ω 89 #[v3] <| gh fun v4 =>
  Pv (unV .not v4) fun v5 =>
  Br v5
    (Pv (bldV #[(Value.int .i64 0), (Value.int .i64 0)] #[(0, 1), (1, 1)] []) fun v6 =>
    Sto 2 v2 v6 <| gh fun _ =>
    Rv none (ldNR 2 v2) fun v7 =>
    K (Value.tuple #[v7, (Value.int .i64 80)]))
    (Rv none (ldNR 2 s_1) fun v8 =>
    Pv (bldV #[(Value.int .i64 0), (Value.int .i64 0)] #[(0, 1), (1, 1)] [(0, (Value.int .i64 9007199254740991)), (1, (Value.int .i64 65535))]) fun v9 =>
    Pv (binAV .eql [(TypeDesc.int .i64, 0), (TypeDesc.int .i64, 1)] v8 v9) fun v10 =>
    Br v10
      (Pv (bldV #[(Value.int .i64 0), (Value.int .i64 0)] #[(0, 1), (1, 1)] []) fun v11 =>
      Sto 2 v2 v11 <| gh fun _ =>
      Rv none (ldNR 2 v2) fun v12 =>
      K (Value.tuple #[v12, (Value.int .i64 82)]))
      (Pv (fldV 1 s_1) fun v13 =>
      Rv none (ld1R v13) fun v14 =>
      Pv (binIV .eql v14 (Value.int .i64 65535)) fun v15 =>
      Br v15
        (Pv (fldV 0 s_1) fun v16 =>
        Rv none (ld1R v16) fun v17 =>
        Pv (binIV .add v17 (Value.int .i64 1)) fun v18 =>
        Pv (bldV #[(Value.int .i64 0), (Value.int .i64 0)] #[(0, 1), (1, 1)] [(0, v18)]) fun v19 =>
        Sto 2 v2 v19 <| gh fun _ =>
        Rv none (ldNR 2 v2) fun v20 =>
        K (Value.tuple #[v20, (Value.int .i64 0)]))
        (Pv (fldV 1 s_1) fun v21 =>
        Rv none (ld1R v21) fun v22 =>
        Pv (binIV .add v22 (Value.int .i64 1)) fun v23 =>
        Pv (fldV 1 s_1) fun v24 =>
        Sto 1 v24 v23 <| gh fun _ =>
        Rv none (ldNR 2 s_1) fun v25 =>
        Sto 2 v2 v25 <| gh fun _ =>
        Rv none (ldNR 2 v2) fun v26 =>
        K (Value.tuple #[v26, (Value.int .i64 0)]))))
theorem sh216_eq (ω : Om) (a0 : Value) (K : Value → M) : vcF Tryz.prog ω Tryz.f216 [a0] K = sh216 ω a0 K := by kernel_rfl
theorem cal216 {ω : Om} {a0 : Value} {K : Value → M} {I : Imm} {L : LH} (h : sh216 ω a0 (fun v => Gh (K v)) I L) : Cal Tryz.prog ω 216 #[a0] K I L :=
  Cal.gh (cal_of_vc mixed Tryz.func216 (by rw [sh216_eq]; exact h))
def sh217 (ω : Om) (a0 : Value) (K : Value → M) : M :=
  Pv (binIV .geq a0 (Value.int .i64 1)) fun v1 =>
  Gd v1 true
    (Pv (binIV .leq a0 (Value.int .i64 9007199254740991)) fun v2 =>
    K v2)
    (K (Value.bool false))
theorem sh217_eq (ω : Om) (a0 : Value) (K : Value → M) : vcF Tryz.prog ω Tryz.f217 [a0] K = sh217 ω a0 K := by kernel_rfl
theorem cal217 {ω : Om} {a0 : Value} {K : Value → M} {I : Imm} {L : LH} (h : sh217 ω a0 (fun v => Gh (K v)) I L) : Cal Tryz.prog ω 217 #[a0] K I L :=
  Cal.gh (cal_of_vc mixed Tryz.func217 (by rw [sh217_eq]; exact h))
def sh218_2 (ω : Om) (p0 : Value) (p2 : Value) (x3 : Value) (x4 : Value) (Kn0 : (Value × Value × Unit) → M) (K : Value → M) : M :=
  Pv (lenV p0) fun v5 =>
  Pv (binIV .lss x4 v5) fun v6 =>
  Br v6
    (Pv (ixV 1 p0 x4) fun v7 =>
    Rv none (ld1R v7) fun v8 =>
    Pv (minV x3 v8) fun v9 =>
    Pv (binIV .add x4 (Value.int .i64 1)) fun v10 =>
    Kn0 (v9, v10, ()))
    (K x3)
def sh218_1 (ω : Om) (p0 : Value) (p2 : Value) (K : Value → M) : M :=
  Pv (ixV 1 p0 (Value.int .i64 0)) fun v3 =>
  Rv none (ld1R v3) fun v4 =>
  LoopM ((v4, (Value.int .i64 1), ()) : Value × Value × Unit) fun s Kn0 =>
  sh218_2 ω p0 p2 s.1 s.2.1 Kn0 K
def sh218 (ω : Om) (a0 : Value) (K : Value → M) : M :=
  Pv (lenV a0) fun v1 =>
  Pv (binIV .lss v1 (Value.int .i64 1)) fun v2 =>
  Br v2
    (F /- panic -/)
    (sh218_1 ω a0 (Value.int .i64 0) K)
theorem sh218_eq (ω : Om) (a0 : Value) (K : Value → M) : vcF Tryz.prog ω Tryz.f218 [a0] K = sh218 ω a0 K := by kernel_rfl
theorem cal218 {ω : Om} {a0 : Value} {K : Value → M} {I : Imm} {L : LH} (h : sh218 ω a0 (fun v => Gh (K v)) I L) : Cal Tryz.prog ω 218 #[a0] K I L :=
  Cal.gh (cal_of_vc mixed Tryz.func218 (by rw [sh218_eq]; exact h))
def sh219_1 (ω : Om) (p3 : Value) (p6 : Value) (p7 : Value) (x2 : Value) (x8 : Value) (Kn0 : (Value × Value × Unit) → M) (K : Value → M) : M :=
  Pv (binIV .lss x8 p7) fun v2 =>
  Br v2
    (Pv (ixV 1 p6 x8) fun v3 =>
    Rv none (ld1R v3) fun v4 =>
    Pv (binIV .neq v4 p3) fun v5 =>
    Br v5
      (K v4)
      (Pv (binIV .add x8 (Value.int .i64 1)) fun v6 =>
      Kn0 (x2, v6, ())))
    (K p3)
def sh219 (ω : Om) (a0 : Value) (K : Value → M) : M :=
  Pv (lenV a0) fun v1 =>
  LoopM (((Value.int .i64 0), (Value.int .i64 0), ()) : Value × Value × Unit) fun s Kn0 =>
  sh219_1 ω (Value.int .i64 0) a0 v1 s.1 s.2.1 Kn0 K
theorem sh219_eq (ω : Om) (a0 : Value) (K : Value → M) : vcF Tryz.prog ω Tryz.f219 [a0] K = sh219 ω a0 K := by kernel_rfl
theorem cal219 {ω : Om} {a0 : Value} {K : Value → M} {I : Imm} {L : LH} (h : sh219 ω a0 (fun v => Gh (K v)) I L) : Cal Tryz.prog ω 219 #[a0] K I L :=
  Cal.gh (cal_of_vc mixed Tryz.func219 (by rw [sh219_eq]; exact h))
def sh220 (ω : Om) (a0 : Value) (a1 : Value) (K : Value → M) : M :=
  Cal Tryz.prog ω 245 #[a0] <| gh fun v1 =>
  Cal Tryz.prog ω 245 #[a1] <| gh fun v2 =>
  Br v1
    (Br v2
      (K (Value.int .i64 0))
      (K (Value.int .i64 (-1))))
    (Br v2
      (K (Value.int .i64 1))
      (Pv (binIV .lss a0 a1) fun v3 =>
      Br v3
        (K (Value.int .i64 (-1)))
        (Pv (binIV .gtr a0 a1) fun v4 =>
        Br v4
          (K (Value.int .i64 1))
          (K (Value.int .i64 0)))))
theorem sh220_eq (ω : Om) (a0 a1 : Value) (K : Value → M) : vcF Tryz.prog ω Tryz.f220 [a0, a1] K = sh220 ω a0 a1 K := by kernel_rfl
theorem cal220 {ω : Om} {a0 a1 : Value} {K : Value → M} {I : Imm} {L : LH} (h : sh220 ω a0 a1 (fun v => Gh (K v)) I L) : Cal Tryz.prog ω 220 #[a0, a1] K I L :=
  Cal.gh (cal_of_vc mixed Tryz.func220 (by rw [sh220_eq]; exact h))
def sh221_1 (ω : Om) (p0 : Value) (p3 : Value) (x4 : Value) (x5 : Value) (Kn0 : (Value × Value × Unit) → M) (K : Value → M) : M :=
  Pv (binIV .geq x5 (Value.int .i64 0)) fun v7 =>
  Br v7
    (Draw fun S =>
      Pv (nilV p0) fun v8 =>
      Pv (fldV 0 v8) fun v9 =>
      Rv (some S) (ld1R v9) fun v10 =>
      Pv (ixV 4 v10 x5) fun v11 =>
      Pv (fldV 0 v11) fun v12 =>
      Rv (some S) (ldNR 2 v12) fun v13 =>
      Rv (some S) (ldNR 2 p3) fun v14 =>
      Cal Tryz.prog ω 213 #[v13, v14] <| gh fun v15 =>
      Pv (unV .not v15) fun v16 =>
      Br v16
        (Pv (nilV p0) fun v17 =>
        Pv (fldV 0 v17) fun v18 =>
        Rv none (ld1R v18) fun v19 =>
        Pv (ixV 4 v19 x5) fun v20 =>
        K v20)
        (Pv (binIV .sub x5 (Value.int .i64 1)) fun v21 =>
        Kn0 (x4, v21, ())))
    (K (Value.pointer none))
def sh221 (ω : Om) (a0 : Value) (a1 : Value) (K : Value → M) : M :=
  New (.cells (Value.cells a1) 41 (0, 0)) <| gh fun at_1 =>
  Pv (nilV a0) fun v2 =>
  Pv (fldV 0 v2) fun v3 =>
  Rv none (ld1R v3) fun v4 =>
  Pv (lenV v4) fun v5 =>
  Pv (binIV .sub v5 (Value.int .i64 1)) fun v6 =>
  LoopM (((Value.pointer none), v6, ()) : Value × Value × Unit) fun s Kn0 =>
  sh221_1 ω a0 at_1 s.1 s.2.1 Kn0 K
theorem sh221_eq (ω : Om) (a0 a1 : Value) (K : Value → M) : vcF Tryz.prog ω Tryz.f221 [a0, a1] K = sh221 ω a0 a1 K := by kernel_rfl
theorem cal221 {ω : Om} {a0 a1 : Value} {K : Value → M} {I : Imm} {L : LH} (h : sh221 ω a0 a1 (fun v => Gh (K v)) I L) : Cal Tryz.prog ω 221 #[a0, a1] K I L :=
  Cal.gh (cal_of_vc mixed Tryz.func221 (by rw [sh221_eq]; exact h))
def sh222 (ω : Om) (a0 : Value) (a1 : Value) (K : Value → M) : M :=
  Pv (nilV a0) fun v1 =>
  Pv (fldV 0 v1) fun v2 =>
  Rv none (ld1R v2) fun v3 =>
  Rv none (lkR .string (Value.pointer none) false v3 a1) fun v4 =>
  Pv (nilV v4) fun v5 =>
  Pv (fldV 0 v5) fun v6 =>
  Rv none (ld1R v6) fun v7 =>
  Pv (lenV v7) fun v8 =>
  Pv (binIV .gtr v8 (Value.int .i64 0)) fun v9 =>
  Gd v9 false
    (Pv (nilV v4) fun v10 =>
    Pv (fldV 1 v10) fun v11 =>
    Pv (fldV 4 v11) fun v12 =>
    Rv none (ld1R v12) fun v13 =>
    Pv (binIV .neq v13 (Value.int .i64 0)) fun v14 =>
    Br v14
      (K (Value.tuple #[]))
      (Pv (nilV a0) fun v15 =>
      Pv (fldV 0 v15) fun v16 =>
      Rv none (ld1R v16) fun v17 =>
      DelM .string v17 a1 <| gh fun _ =>
      Pv (nilV a0) fun v18 =>
      Pv (fldV 1 v18) fun v19 =>
      Rv none (ld1R v19) fun v20 =>
      Cal Tryz.prog ω 144 #[v20, a1] <| gh fun v21 =>
      Pv (exV v21 0) fun v22 =>
      Pv (exV v21 1) fun v23 =>
      Pv (nilV a0) fun v24 =>
      Pv (fldV 1 v24) fun v25 =>
      Rv none (ld1R v25) fun v26 =>
      Pv (binIV .add v22 (Value.int .i64 1)) fun v27 =>
      Cal Tryz.prog ω 246 #[v26, v22, v27] <| gh fun v28 =>
      Pv (nilV a0) fun v29 =>
      Pv (fldV 1 v29) fun v30 =>
      Sto 1 v30 v28 <| gh fun _ =>
      K (Value.tuple #[])))
    (K (Value.tuple #[]))
theorem sh222_eq (ω : Om) (a0 a1 : Value) (K : Value → M) : vcF Tryz.prog ω Tryz.f222 [a0, a1] K = sh222 ω a0 a1 K := by kernel_rfl
theorem cal222 {ω : Om} {a0 a1 : Value} {K : Value → M} {I : Imm} {L : LH} (h : sh222 ω a0 a1 (fun v => Gh (K v)) I L) : Cal Tryz.prog ω 222 #[a0, a1] K I L :=
  Cal.gh (cal_of_vc mixed Tryz.func222 (by rw [sh222_eq]; exact h))
def sh223_3 (ω : Om) (p5 : Value) (p6 : Value) (Kn0 : (Value × Value × Unit) → M) (K : Value → M) : M :=
  Pv (binIV .add p6 (Value.int .i64 1)) fun v15 =>
  Kn0 (p5, v15, ())
def sh223_5 (ω : Om) (p0 : Value) (p4 : Value) (p5 : Value) (K : Value → M) : M :=
  Pv (slcV 4 p0 (some p5) none none) fun v16 =>
  ClrV #[(Value.int .i64 0), (Value.int .i64 0), (Value.bool false), (Value.string (ByteArray.mk #[]))] v16 <| gh fun _ =>
  Pv (slcV 4 p0 none (some p5) none) fun v17 =>
  K v17
def sh223_1 (ω : Om) (p0 : Value) (p1 : Value) (p4 : Value) (x5 : Value) (x6 : Value) (Kn0 : (Value × Value × Unit) → M) (K : Value → M) : M :=
  Pv (lenV p0) fun v4 =>
  Pv (binIV .lss x6 v4) fun v5 =>
  Br v5
    (Pv (ixV 4 p0 x6) fun v6 =>
    Rv none (ldNR 4 v6) fun v7 =>
    New (.cells #[(Value.int .i64 0), (Value.int .i64 0), (Value.bool false), (Value.string (ByteArray.mk #[]))] 253 (0, 0)) <| gh fun v_8 =>
    Sto 4 v_8 v7 <| gh fun _ =>
    Rv none (ldNR 4 v_8) fun v9 =>
    CalV Tryz.prog ω p1 #[v9] <| gh fun v10 =>
    Pv (unV .not v10) fun v11 =>
    Br v11
      (Rv none (ldNR 4 v_8) fun v12 =>
      Pv (ixV 4 p0 x5) fun v13 =>
      Sto 4 v13 v12 <| gh fun _ =>
      Pv (binIV .add x5 (Value.int .i64 1)) fun v14 =>
      sh223_3 ω v14 x6 Kn0 K)
      (sh223_3 ω x5 x6 Kn0 K))
    (sh223_5 ω p0 p4 x5 K)
def sh223 (ω : Om) (a0 : Value) (a1 : Value) (K : Value → M) : M :=
  Cal Tryz.prog ω 247 #[a0, a1] <| gh fun v1 =>
  Pv (binIV .eql v1 (Value.int .i64 (-1))) fun v2 =>
  Br v2
    (K a0)
    (Pv (binIV .add v1 (Value.int .i64 1)) fun v3 =>
    LoopM ((v1, v3, ()) : Value × Value × Unit) fun s Kn0 =>
    sh223_1 ω a0 a1 (Value.slice none 0 0) s.1 s.2.1 Kn0 K)
theorem sh223_eq (ω : Om) (a0 a1 : Value) (K : Value → M) : vcF Tryz.prog ω Tryz.f223 [a0, a1] K = sh223 ω a0 a1 K := by kernel_rfl
theorem cal223 {ω : Om} {a0 a1 : Value} {K : Value → M} {I : Imm} {L : LH} (h : sh223 ω a0 a1 (fun v => Gh (K v)) I L) : Cal Tryz.prog ω 223 #[a0, a1] K I L :=
  Cal.gh (cal_of_vc mixed Tryz.func223 (by rw [sh223_eq]; exact h))
def sh224_1 (ω : Om) (p3 : Value) (p4 : Value) (p5 : Value) (p6 : Value) (p7 : Value) (p8 : Value) (K : Value → M) : M :=
  Rv none (ld1R p3) fun v11 =>
  Pv (binIV .add v11 (Value.int .i64 1)) fun v12 =>
  Sto 1 p3 v12 <| gh fun _ =>
  Rv none (ld1R p4) fun v13 =>
  Rv none (ld1R p5) fun v14 =>
  Rv none (ldNR 4 p6) fun v15 =>
  Cal Tryz.prog ω 188 #[v13, v14, v15] <| gh fun v16 =>
  K p8
def sh224 (ω : Om) (a0 : Value) (a1 : Value) (a2 : Value) (a3 : Value) (a4 : Value) (a5 : Value) (K : Value → M) : M :=
  New (.cells (Value.cells a0) 253 (0, 0)) <| gh fun v_1 =>
  Rv none (ldNR 2 a1) fun v2 =>
  Pv (fldV 0 v_1) fun v3 =>
  Rv none (ldNR 2 v3) fun v4 =>
  Cal Tryz.prog ω 213 #[v2, v4] <| gh fun v5 =>
  Gd v5 false
    (Rv none (ld1R a2) fun v6 =>
    Gd v6 true
      (Pv (fldV 0 v_1) fun v7 =>
      Rv none (ldNR 2 v7) fun v8 =>
      Rv none (ldNR 2 a1) fun v9 =>
      Pv (binAV .eql [(TypeDesc.int .i64, 0), (TypeDesc.int .i64, 1)] v8 v9) fun v10 =>
      Br v10
        (sh224_1 ω a3 a4 a5 v_1 (Value.bool false) v10 K)
        (K v10))
      (K (Value.bool false)))
    (sh224_1 ω a3 a4 a5 v_1 (Value.bool false) (Value.bool true) K)
theorem sh224_eq (ω : Om) (a0 a1 a2 a3 a4 a5 : Value) (K : Value → M) : vcF Tryz.prog ω Tryz.f224 [a0, a1, a2, a3, a4, a5] K = sh224 ω a0 a1 a2 a3 a4 a5 K := by kernel_rfl
theorem cal224 {ω : Om} {a0 a1 a2 a3 a4 a5 : Value} {K : Value → M} {I : Imm} {L : LH} (h : sh224 ω a0 a1 a2 a3 a4 a5 (fun v => Gh (K v)) I L) : Cal Tryz.prog ω 224 #[a0, a1, a2, a3, a4, a5] K I L :=
  Cal.gh (cal_of_vc mixed Tryz.func224 (by rw [sh224_eq]; exact h))
def sh229_1 (ω : Om) (p0 : Value) (p1 : Value) (p2 : Value) (p24 : Value) (p25 : Value) (x26 : Value) (Kn0 : (Value × Unit) → M) (K : Value → M) : M :=
  Pv (binIV .lss x26 p25) fun v17 =>
  Br v17
    (Pv (ixV 1 p24 x26) fun v18 =>
    Rv none (ld1R v18) fun v19 =>
    Pv (fldV 1 p2) fun v20 =>
    Rv none (ld1R v20) fun v21 =>
    Pv (lenV v21) fun v22 =>
    Pv (binIV .gtr v22 (Value.int .i64 0)) fun v23 =>
    Gd v23 true
      (Pv (fldV 1 p2) fun v24 =>
      Rv none (ld1R v24) fun v25 =>
      Rv none (bsR v25) fun v26 =>
      Pv (binSV .geq v19 v26) fun v27 =>
      Gd v27 false
        (Rv none (ld1R p1) fun v28 =>
        Pv (nilV v28) fun v29 =>
        Pv (fldV 0 v29) fun v30 =>
        Rv none (ld1R v30) fun v31 =>
        Rv none (lkR .string (Value.pointer none) false v31 v19) fun v32 =>
        CalV Tryz.prog ω p0 #[v19, v32] <| gh fun v33 =>
        Pv (unV .not v33) fun v34 =>
        Br v34
          (K (Value.tuple #[]))
          (Pv (binIV .add x26 (Value.int .i64 1)) fun v35 =>
          Kn0 (v35, ())))
        (K (Value.tuple #[])))
      (Rv none (ld1R p1) fun v36 =>
      Pv (nilV v36) fun v37 =>
      Pv (fldV 0 v37) fun v38 =>
      Rv none (ld1R v38) fun v39 =>
      Rv none (lkR .string (Value.pointer none) false v39 v19) fun v40 =>
      CalV Tryz.prog ω p0 #[v19, v40] <| gh fun v41 =>
      Pv (unV .not v41) fun v42 =>
      Br v42
        (K (Value.tuple #[]))
        (Pv (binIV .add x26 (Value.int .i64 1)) fun v43 =>
        Kn0 (v43, ()))))
    (K (Value.tuple #[]))
def sh229 (ω : Om) (a0 : Value) (a1 : Value) (a2 : Value) (K : Value → M) : M :=
  Draw fun S =>
    Rv (some S) (ld1R a1) fun v1 =>
    Pv (nilV v1) fun v2 =>
    Pv (fldV 1 v2) fun v3 =>
    Rv (some S) (ld1R v3) fun v4 =>
    Pv (fldV 0 a2) fun v5 =>
    Rv (some S) (ld1R v5) fun v6 =>
    Rv (some S) (bsR v6) fun v7 =>
    Cal Tryz.prog ω 144 #[v4, v7] <| gh fun v8 =>
    Pv (exV v8 0) fun v9 =>
    Pv (exV v8 1) fun v10 =>
    Rv none (ld1R a1) fun v11 =>
    Pv (nilV v11) fun v12 =>
    Pv (fldV 1 v12) fun v13 =>
    Rv none (ld1R v13) fun v14 =>
    Pv (slcV 1 v14 (some v9) none none) fun v15 =>
    Pv (lenV v15) fun v16 =>
    LoopM (((Value.int .i64 0), ()) : Value × Unit) fun s Kn0 =>
    sh229_1 ω a0 a1 a2 v15 v16 s.1 Kn0 K
theorem sh229_eq (ω : Om) (a0 a1 a2 : Value) (K : Value → M) : vcF Tryz.prog ω Tryz.f229 [a0, a1, a2] K = sh229 ω a0 a1 a2 K := by kernel_rfl
theorem cal229 {ω : Om} {a0 a1 a2 : Value} {K : Value → M} {I : Imm} {L : LH} (h : sh229 ω a0 a1 a2 (fun v => Gh (K v)) I L) : Cal Tryz.prog ω 229 #[a0, a1, a2] K I L :=
  Cal.gh (cal_of_vc mixed Tryz.func229 (by rw [sh229_eq]; exact h))
def sh230_2 (ω : Om) (p2 : Value) (p4 : Value) (Q0 : Nat) (K : Value → M) : M :=
  Rv none (ld1R p2) fun v5 =>
  Tak Q0 <|
  K v5
def sh230 (ω : Om) (a0 : Value) (a1 : Value) (K : Value → M) : M :=
  New (.cells (Value.cells a0) 177 (0, 0)) <| gh fun s_1 =>
  RngF1 Tryz.prog ω a1 (fun r1_0 Bg Nk Xk Rk =>
      Bg (Rv none (ld1R s_1) fun v2 =>
      BldS 9 1 #[(Value.string (ByteArray.mk #[]))] 1 [(0, r1_0)] <| gh fun v3 =>
      App 9 1 16 #[(Value.string (ByteArray.mk #[]))] v2 v3 <| gh fun v4 =>
      Sto 1 s_1 v4 <| gh fun _ =>
      Nk))
    (fun D1 => sh230_2 ω s_1 (Value.slice none 0 0) D1 K)
    (fun _ => [])
    (fun D1 => Tak D1 <|
      K (Value.slice none 0 0))
theorem sh230_eq (ω : Om) (a0 a1 : Value) (K : Value → M) : vcF Tryz.prog ω Tryz.f230 [a0, a1] K = sh230 ω a0 a1 K := by kernel_rfl
theorem cal230 {ω : Om} {a0 a1 : Value} {K : Value → M} {I : Imm} {L : LH} (h : sh230 ω a0 a1 (fun v => Gh (K v)) I L) : Cal Tryz.prog ω 230 #[a0, a1] K I L :=
  Cal.gh (cal_of_vc mixed Tryz.func230 (by rw [sh230_eq]; exact h))
def sh232_2 (ω : Om) (p2 : Value) (p4 : Value) (Q0 : Nat) (K : Value → M) : M :=
  Rv none (ld1R p2) fun v5 =>
  Tak Q0 <|
  K v5
def sh232 (ω : Om) (a0 : Value) (a1 : Value) (K : Value → M) : M :=
  New (.cells (Value.cells a0) 23 (0, 0)) <| gh fun s_1 =>
  RngF1 Tryz.prog ω a1 (fun r1_0 Bg Nk Xk Rk =>
      Bg (Rv none (ld1R s_1) fun v2 =>
      BldS 3 1 #[(Value.int .i64 0)] 1 [(0, r1_0)] <| gh fun v3 =>
      App 3 1 8 #[(Value.int .i64 0)] v2 v3 <| gh fun v4 =>
      Sto 1 s_1 v4 <| gh fun _ =>
      Nk))
    (fun D1 => sh232_2 ω s_1 (Value.slice none 0 0) D1 K)
    (fun _ => [])
    (fun D1 => Tak D1 <|
      K (Value.slice none 0 0))
theorem sh232_eq (ω : Om) (a0 a1 : Value) (K : Value → M) : vcF Tryz.prog ω Tryz.f232 [a0, a1] K = sh232 ω a0 a1 K := by kernel_rfl
theorem cal232 {ω : Om} {a0 a1 : Value} {K : Value → M} {I : Imm} {L : LH} (h : sh232 ω a0 a1 (fun v => Gh (K v)) I L) : Cal Tryz.prog ω 232 #[a0, a1] K I L :=
  Cal.gh (cal_of_vc mixed Tryz.func232 (by rw [sh232_eq]; exact h))
def sh234 (ω : Om) (a0 : Value) (a1 : Value) (K : Value → M) : M :=
  New (.cells (Value.cells a1) 253 (0, 0)) <| gh fun v_1 =>
  Pv (fldV 0 v_1) fun v2 =>
  Rv none (ldNR 2 v2) fun v3 =>
  Cal Tryz.prog ω 186 #[v3] <| gh fun v4 =>
  Pv (exV v4 0) fun v5 =>
  Pv (exV v4 1) fun v6 =>
  BldS 5 1 #[(Value.int .u8 0)] 1 [(0, (Value.int .u8 118))] <| gh fun v7 =>
  CvSB 5 a0 <| gh fun v8 =>
  Cal Tryz.prog ω 265 #[v8] <| gh fun v9 =>
  App 5 1 1 #[(Value.int .u8 0)] v7 v9 <| gh fun v10 =>
  App 5 1 1 #[(Value.int .u8 0)] v10 v5 <| gh fun v11 =>
  K v11
theorem sh234_eq (ω : Om) (a0 a1 : Value) (K : Value → M) : vcF Tryz.prog ω Tryz.f234 [a0, a1] K = sh234 ω a0 a1 K := by kernel_rfl
theorem cal234 {ω : Om} {a0 a1 : Value} {K : Value → M} {I : Imm} {L : LH} (h : sh234 ω a0 a1 (fun v => Gh (K v)) I L) : Cal Tryz.prog ω 234 #[a0, a1] K I L :=
  Cal.gh (cal_of_vc mixed Tryz.func234 (by rw [sh234_eq]; exact h))
def sh235 (ω : Om) (a0 : Value) (K : Value → M) : M :=
  New (.cells (Value.cells a0) 253 (0, 0)) <| gh fun v_1 =>
  Pv (fldV 2 v_1) fun v2 =>
  Rv none (ld1R v2) fun v3 =>
  Br v3
    (BldS 5 1 #[(Value.int .u8 0)] 1 [(0, (Value.int .u8 1))] <| gh fun v4 =>
    K v4)
    (BldS 5 1 #[(Value.int .u8 0)] 1 [(0, (Value.int .u8 0))] <| gh fun v5 =>
    Pv (fldV 3 v_1) fun v6 =>
    Rv none (ld1R v6) fun v7 =>
    App 5 1 1 #[(Value.int .u8 0)] v5 v7 <| gh fun v8 =>
    K v8)
theorem sh235_eq (ω : Om) (a0 : Value) (K : Value → M) : vcF Tryz.prog ω Tryz.f235 [a0] K = sh235 ω a0 K := by kernel_rfl
theorem cal235 {ω : Om} {a0 : Value} {K : Value → M} {I : Imm} {L : LH} (h : sh235 ω a0 (fun v => Gh (K v)) I L) : Cal Tryz.prog ω 235 #[a0] K I L :=
  Cal.gh (cal_of_vc mixed Tryz.func235 (by rw [sh235_eq]; exact h))
def sh242 (ω : Om) (a0 : Value) (a1 : Value) (a2 : Value) (K : Value → M) : M :=
  Pv (slcV 1 a0 (some a1) none none) fun v1 =>
  Pv (lenV a2) fun v2 =>
  Pv (binIV .eql v2 (Value.int .i64 0)) fun v3 =>
  Br v3
    (K a0)
    (Pv (lenV a0) fun v4 =>
    Pv (binIV .eql a1 v4) fun v5 =>
    Br v5
      (App 9 1 16 #[(Value.string (ByteArray.mk #[]))] a0 a2 <| gh fun v6 =>
      K v6)
      (Pv (binIV .add v4 v2) fun v7 =>
      Pv (capV a0) fun v8 =>
      Pv (binIV .gtr v7 v8) fun v9 =>
      Br v9
        (Pv (slcV 1 a0 none (some a1) none) fun v10 =>
        Pv (binIV .add v4 v2) fun v11 =>
        Pv (binIV .sub v11 a1) fun v12 =>
        AppZ 9 1 16 #[(Value.string (ByteArray.mk #[]))] v10 v12 <| gh fun v13 =>
        Pv (slcV 1 v13 (some a1) none none) fun v14 =>
        CpyV 1 v14 a2 <| gh fun v15 =>
        Draw fun S =>
          Pv (binIV .add a1 v2) fun v16 =>
          Pv (slcV 1 v13 (some v16) none none) fun v17 =>
          Pv (slcV 1 a0 (some a1) none none) fun v18 =>
          CpyV 1 v17 v18 <| gh fun v19 =>
          K v13)
        (Pv (binIV .add v4 v2) fun v20 =>
        Pv (slcV 1 a0 none (some v20) none) fun v21 =>
        Pv (binIV .add a1 v2) fun v22 =>
        Pv (slcV 1 v21 (some v22) none none) fun v23 =>
        ExtE Tryz.prog ω (Extern.SlicesOverlaps.overlaps #[177, 177] #[4]) #[a2, v23] <| gh fun v24 =>
        Pv (unV .not v24) fun v25 =>
        Br v25
          (Draw fun S =>
            Pv (binIV .add a1 v2) fun v26 =>
            Pv (slcV 1 v21 (some v26) none none) fun v27 =>
            Pv (slcV 1 v21 (some a1) none none) fun v28 =>
            CpyV 1 v27 v28 <| gh fun v29 =>
            Pv (slcV 1 v21 (some a1) none none) fun v30 =>
            CpyV 1 v30 a2 <| gh fun v31 =>
            K v21)
          (Pv (slcV 1 v21 (some v4) none none) fun v32 =>
          CpyV 1 v32 a2 <| gh fun v33 =>
          Pv (slcV 1 v21 (some a1) none none) fun v34 =>
          Cal Tryz.prog ω 268 #[v34, v2] <| gh fun v35 =>
          K v21))))
theorem sh242_eq (ω : Om) (a0 a1 a2 : Value) (K : Value → M) : vcF Tryz.prog ω Tryz.f242 [a0, a1, a2] K = sh242 ω a0 a1 a2 K := by kernel_rfl
theorem cal242 {ω : Om} {a0 a1 a2 : Value} {K : Value → M} {I : Imm} {L : LH} (h : sh242 ω a0 a1 a2 (fun v => Gh (K v)) I L) : Cal Tryz.prog ω 242 #[a0, a1, a2] K I L :=
  Cal.gh (cal_of_vc mixed Tryz.func242 (by rw [sh242_eq]; exact h))
def sh243 (ω : Om) (a0 : Value) (a1 : Value) (K : Value → M) : M :=
  ExtE Tryz.prog ω Extern.BytealgIndexByte.indexByte #[a0, a1] <| gh fun v1 =>
  K v1
theorem sh243_eq (ω : Om) (a0 a1 : Value) (K : Value → M) : vcF Tryz.prog ω Tryz.f243 [a0, a1] K = sh243 ω a0 a1 K := by kernel_rfl
theorem cal243 {ω : Om} {a0 a1 : Value} {K : Value → M} {I : Imm} {L : LH} (h : sh243 ω a0 a1 (fun v => Gh (K v)) I L) : Cal Tryz.prog ω 243 #[a0, a1] K I L :=
  Cal.gh (cal_of_vc mixed Tryz.func243 (by rw [sh243_eq]; exact h))
def sh244 (ω : Om) (a0 : Value) (K : Value → M) : M :=
  Pv (binSV .neq a0 a0) fun v1 =>
  K v1
theorem sh244_eq (ω : Om) (a0 : Value) (K : Value → M) : vcF Tryz.prog ω Tryz.f244 [a0] K = sh244 ω a0 K := by kernel_rfl
theorem cal244 {ω : Om} {a0 : Value} {K : Value → M} {I : Imm} {L : LH} (h : sh244 ω a0 (fun v => Gh (K v)) I L) : Cal Tryz.prog ω 244 #[a0] K I L :=
  Cal.gh (cal_of_vc mixed Tryz.func244 (by rw [sh244_eq]; exact h))
def sh245 (ω : Om) (a0 : Value) (K : Value → M) : M :=
  Pv (binIV .neq a0 a0) fun v1 =>
  K v1
theorem sh245_eq (ω : Om) (a0 : Value) (K : Value → M) : vcF Tryz.prog ω Tryz.f245 [a0] K = sh245 ω a0 K := by kernel_rfl
theorem cal245 {ω : Om} {a0 : Value} {K : Value → M} {I : Imm} {L : LH} (h : sh245 ω a0 (fun v => Gh (K v)) I L) : Cal Tryz.prog ω 245 #[a0] K I L :=
  Cal.gh (cal_of_vc mixed Tryz.func245 (by rw [sh245_eq]; exact h))
def sh246 (ω : Om) (a0 : Value) (a1 : Value) (a2 : Value) (K : Value → M) : M :=
  Pv (lenV a0) fun v1 =>
  Pv (slcV 1 a0 (some a1) (some a2) (some v1)) fun v2 =>
  Pv (binIV .eql a1 a2) fun v3 =>
  Br v3
    (K a0)
    (Pv (lenV a0) fun v4 =>
    Draw fun S =>
      Pv (slcV 1 a0 none (some a1) none) fun v5 =>
      Pv (slcV 1 a0 (some a2) none none) fun v6 =>
      App 9 1 16 #[(Value.string (ByteArray.mk #[]))] v5 v6 <| gh fun v7 =>
      Pv (lenV v7) fun v8 =>
      Pv (slcV 1 v7 (some v8) (some v4) none) fun v9 =>
      ClrV #[(Value.string (ByteArray.mk #[]))] v9 <| gh fun _ =>
      K v7)
theorem sh246_eq (ω : Om) (a0 a1 a2 : Value) (K : Value → M) : vcF Tryz.prog ω Tryz.f246 [a0, a1, a2] K = sh246 ω a0 a1 a2 K := by kernel_rfl
theorem cal246 {ω : Om} {a0 a1 a2 : Value} {K : Value → M} {I : Imm} {L : LH} (h : sh246 ω a0 a1 a2 (fun v => Gh (K v)) I L) : Cal Tryz.prog ω 246 #[a0, a1, a2] K I L :=
  Cal.gh (cal_of_vc mixed Tryz.func246 (by rw [sh246_eq]; exact h))
def sh247_1 (ω : Om) (p0 : Value) (p1 : Value) (p7 : Value) (x4 : Value) (x8 : Value) (Kn0 : (Value × Value × Unit) → M) (K : Value → M) : M :=
  Pv (binIV .lss x8 p7) fun v2 =>
  Br v2
    (Pv (ixV 4 p0 x8) fun v3 =>
    Rv none (ldNR 4 v3) fun v4 =>
    CalV Tryz.prog ω p1 #[v4] <| gh fun v5 =>
    Br v5
      (K x8)
      (Pv (binIV .add x8 (Value.int .i64 1)) fun v6 =>
      Kn0 (x4, v6, ())))
    (K (Value.int .i64 (-1)))
def sh247 (ω : Om) (a0 : Value) (a1 : Value) (K : Value → M) : M :=
  Pv (lenV a0) fun v1 =>
  LoopM (((Value.int .i64 0), (Value.int .i64 0), ()) : Value × Value × Unit) fun s Kn0 =>
  sh247_1 ω a0 a1 v1 s.1 s.2.1 Kn0 K
theorem sh247_eq (ω : Om) (a0 a1 : Value) (K : Value → M) : vcF Tryz.prog ω Tryz.f247 [a0, a1] K = sh247 ω a0 a1 K := by kernel_rfl
theorem cal247 {ω : Om} {a0 a1 : Value} {K : Value → M} {I : Imm} {L : LH} (h : sh247 ω a0 a1 (fun v => Gh (K v)) I L) : Cal Tryz.prog ω 247 #[a0, a1] K I L :=
  Cal.gh (cal_of_vc mixed Tryz.func247 (by rw [sh247_eq]; exact h))
def sh265 (ω : Om) (a0 : Value) (K : Value → M) : M :=
  BldS 5 1 #[(Value.int .u8 0)] 1 [(0, (Value.int .u8 0))] <| gh fun v1 =>
  BldS 5 1 #[(Value.int .u8 0)] 2 [(0, (Value.int .u8 0)), (1, (Value.int .u8 255))] <| gh fun v2 =>
  Cal Tryz.prog ω 276 #[a0, v1, v2] <| gh fun v3 =>
  BldS 5 1 #[(Value.int .u8 0)] 2 [(0, (Value.int .u8 0)), (1, (Value.int .u8 1))] <| gh fun v4 =>
  BldS 29 1 #[(Value.slice none 0 0)] 2 [(0, v3), (1, v4)] <| gh fun v5 =>
  Cal Tryz.prog ω 277 #[v5] <| gh fun v6 =>
  K v6
theorem sh265_eq (ω : Om) (a0 : Value) (K : Value → M) : vcF Tryz.prog ω Tryz.f265 [a0] K = sh265 ω a0 K := by kernel_rfl
theorem cal265 {ω : Om} {a0 : Value} {K : Value → M} {I : Imm} {L : LH} (h : sh265 ω a0 (fun v => Gh (K v)) I L) : Cal Tryz.prog ω 265 #[a0] K I L :=
  Cal.gh (cal_of_vc mixed Tryz.func265 (by rw [sh265_eq]; exact h))
def sh276 (ω : Om) (a0 : Value) (a1 : Value) (a2 : Value) (K : Value → M) : M :=
  Cal Tryz.prog ω 281 #[a0, a1, a2, (Value.int .i64 (-1))] <| gh fun v1 =>
  K v1
theorem sh276_eq (ω : Om) (a0 a1 a2 : Value) (K : Value → M) : vcF Tryz.prog ω Tryz.f276 [a0, a1, a2] K = sh276 ω a0 a1 a2 K := by kernel_rfl
theorem cal276 {ω : Om} {a0 a1 a2 : Value} {K : Value → M} {I : Imm} {L : LH} (h : sh276 ω a0 a1 a2 (fun v => Gh (K v)) I L) : Cal Tryz.prog ω 276 #[a0, a1, a2] K I L :=
  Cal.gh (cal_of_vc mixed Tryz.func276 (by rw [sh276_eq]; exact h))
def sh277_3 (ω : Om) (p3 : Value) (p11 : Value) (Kn0 : (Value × Value × Unit) → M) (K : Value → M) : M :=
  Pv (binIV .add p11 (Value.int .i64 1)) fun v8 =>
  Kn0 (p3, v8, ())
def sh277_6 (ω : Om) (p2 : Value) (p25 : Value) (p26 : Value) (x6 : Value) (x27 : Value) (Kn1 : (Value × Value × Unit) → M) (K : Value → M) : M :=
  Pv (binIV .lss x27 p26) fun v11 =>
  Br v11
    (Pv (ixV 1 p25 x27) fun v12 =>
    Rv none (ld1R v12) fun v13 =>
    App 5 1 1 #[(Value.int .u8 0)] x6 v13 <| gh fun v14 =>
    Pv (binIV .add x27 (Value.int .i64 1)) fun v15 =>
    Kn1 (v14, v15, ()))
    (K x6)
def sh277_5 (ω : Om) (p0 : Value) (p2 : Value) (p3 : Value) (K : Value → M) : M :=
  Cal Tryz.prog ω 282 #[(Value.slice none 0 0), p3] <| gh fun v9 =>
  Pv (lenV p0) fun v10 =>
  LoopM ((v9, (Value.int .i64 0), ()) : Value × Value × Unit) fun s Kn1 =>
  sh277_6 ω p2 p0 v10 s.1 s.2.1 Kn1 K
def sh277_1 (ω : Om) (p0 : Value) (p2 : Value) (p9 : Value) (p10 : Value) (x3 : Value) (x11 : Value) (Kn0 : (Value × Value × Unit) → M) (K : Value → M) : M :=
  Pv (binIV .lss x11 p10) fun v2 =>
  Br v2
    (Pv (ixV 1 p9 x11) fun v3 =>
    Rv none (ld1R v3) fun v4 =>
    Pv (lenV v4) fun v5 =>
    Pv (binIV .add x3 v5) fun v6 =>
    Pv (binIV .lss v6 (Value.int .i64 0)) fun v7 =>
    Br v7
      (F /- panic -/)
      (sh277_3 ω v6 x11 Kn0 K))
    (sh277_5 ω p0 p2 x3 K)
def sh277 (ω : Om) (a0 : Value) (K : Value → M) : M :=
  Pv (lenV a0) fun v1 =>
  LoopM (((Value.int .i64 0), (Value.int .i64 0), ()) : Value × Value × Unit) fun s Kn0 =>
  sh277_1 ω a0 (Value.slice none 0 0) a0 v1 s.1 s.2.1 Kn0 K
theorem sh277_eq (ω : Om) (a0 : Value) (K : Value → M) : vcF Tryz.prog ω Tryz.f277 [a0] K = sh277 ω a0 K := by kernel_rfl
theorem cal277 {ω : Om} {a0 : Value} {K : Value → M} {I : Imm} {L : LH} (h : sh277 ω a0 (fun v => Gh (K v)) I L) : Cal Tryz.prog ω 277 #[a0] K I L :=
  Cal.gh (cal_of_vc mixed Tryz.func277 (by rw [sh277_eq]; exact h))
def sh281_6 (ω : Om) (p0 : Value) (p8 : Value) (p10 : Value) (p11 : Value) (p12 : Value) (K : Value → M) : M :=
  Draw fun S =>
    Pv (slcV 1 p10 (some p11) none none) fun v30 =>
    Pv (slcV 1 p0 (some p12) none none) fun v31 =>
    CpyV 1 v30 v31 <| gh fun v32 =>
    Pv (binIV .add p11 v32) fun v33 =>
    Pv (slcV 1 p10 (some (Value.int .i64 0)) (some v33) none) fun v34 =>
    K v34
def sh281_4 (ω : Om) (p0 : Value) (p1 : Value) (p2 : Value) (p8 : Value) (p10 : Value) (p48 : Value) (x11 : Value) (x12 : Value) (x49 : Value) (Kn0 : (Value × Value × Value × Unit) → M) (K : Value → M) : M :=
  Pv (binIV .lss x49 p48) fun v16 =>
  Br v16
    (Pv (slcV 1 p0 (some x12) none none) fun v17 =>
    Cal Tryz.prog ω 285 #[v17, p1] <| gh fun v18 =>
    Pv (binIV .add x12 v18) fun v19 =>
    Draw fun S =>
      Pv (slcV 1 p10 (some x11) none none) fun v20 =>
      Pv (slcV 1 p0 (some x12) (some v19) none) fun v21 =>
      CpyV 1 v20 v21 <| gh fun v22 =>
      Pv (binIV .add x11 v22) fun v23 =>
      Pv (slcV 1 p10 (some v23) none none) fun v24 =>
      CpyV 1 v24 p2 <| gh fun v25 =>
      Pv (binIV .add v23 v25) fun v26 =>
      Pv (lenV p1) fun v27 =>
      Pv (binIV .add v19 v27) fun v28 =>
      Pv (binIV .add x49 (Value.int .i64 1)) fun v29 =>
      Kn0 (v26, v28, v29, ()))
    (sh281_6 ω p0 p8 p10 x11 x12 K)
def sh281_7 (ω : Om) (p0 : Value) (p2 : Value) (p8 : Value) (p10 : Value) (p88 : Value) (x11 : Value) (x12 : Value) (x89 : Value) (Kn0 : (Value × Value × Value × Unit) → M) (K : Value → M) : M :=
  Pv (binIV .lss x89 p88) fun v39 =>
  Br v39
    (Pv (slcV 1 p0 (some x12) none none) fun v40 =>
    Cal Tryz.prog ω 286 #[v40] <| gh fun v41 =>
    Pv (exV v41 0) fun v42 =>
    Pv (exV v41 1) fun v43 =>
    Pv (binIV .add x12 v43) fun v44 =>
    Draw fun S =>
      Pv (slcV 1 p10 (some x11) none none) fun v45 =>
      Pv (slcV 1 p0 (some x12) (some v44) none) fun v46 =>
      CpyV 1 v45 v46 <| gh fun v47 =>
      Pv (binIV .add x11 v47) fun v48 =>
      Pv (slcV 1 p10 (some v48) none none) fun v49 =>
      CpyV 1 v49 p2 <| gh fun v50 =>
      Pv (binIV .add v48 v50) fun v51 =>
      Pv (binIV .add x89 (Value.int .i64 1)) fun v52 =>
      Kn0 (v51, v44, v52, ()))
    (sh281_6 ω p0 p8 p10 x11 x12 K)
def sh281_3 (ω : Om) (p0 : Value) (p1 : Value) (p2 : Value) (p3 : Value) (p8 : Value) (K : Value → M) : M :=
  Pv (lenV p0) fun v7 =>
  Pv (lenV p2) fun v8 =>
  Pv (lenV p1) fun v9 =>
  Pv (binIV .sub v8 v9) fun v10 =>
  Pv (binIV .mul p3 v10) fun v11 =>
  Pv (binIV .add v7 v11) fun v12 =>
  MkS 5 1 #[(Value.int .u8 0)] v12 v12 <| gh fun v13 =>
  Pv (lenV p1) fun v14 =>
  Pv (binIV .gtr v14 (Value.int .i64 0)) fun v15 =>
  Br v15
    (LoopM (((Value.int .i64 0), (Value.int .i64 0), (Value.int .i64 0), ()) : Value × Value × Value × Unit) fun s Kn0 =>
    sh281_4 ω p0 p1 p2 p8 v13 p3 s.1 s.2.1 s.2.2.1 Kn0 K)
    (Pv (slcV 1 v13 (some (Value.int .i64 0)) none none) fun v35 =>
    CpyV 1 v35 p2 <| gh fun v36 =>
    Pv (binIV .add (Value.int .i64 0) v36) fun v37 =>
    Pv (binIV .sub p3 (Value.int .i64 1)) fun v38 =>
    LoopM ((v37, (Value.int .i64 0), (Value.int .i64 0), ()) : Value × Value × Value × Unit) fun s Kn0 =>
    sh281_7 ω p0 p2 p8 v13 v38 s.1 s.2.1 s.2.2.1 Kn0 K)
def sh281_1 (ω : Om) (p0 : Value) (p1 : Value) (p2 : Value) (p3 : Value) (p8 : Value) (p9 : Value) (K : Value → M) : M :=
  Pv (binIV .eql p9 (Value.int .i64 0)) fun v3 =>
  Br v3
    (App 5 1 1 #[(Value.int .u8 0)] (Value.slice none 0 0) p0 <| gh fun v4 =>
    K v4)
    (Pv (binIV .lss p3 (Value.int .i64 0)) fun v5 =>
    Gd v5 false
      (Pv (binIV .lss p9 p3) fun v6 =>
      Br v6
        (sh281_3 ω p0 p1 p2 p9 p8 K)
        (sh281_3 ω p0 p1 p2 p3 p8 K))
      (sh281_3 ω p0 p1 p2 p9 p8 K))
def sh281 (ω : Om) (a0 : Value) (a1 : Value) (a2 : Value) (a3 : Value) (K : Value → M) : M :=
  Pv (binIV .neq a3 (Value.int .i64 0)) fun v1 =>
  Br v1
    (Cal Tryz.prog ω 284 #[a0, a1] <| gh fun v2 =>
    sh281_1 ω a0 a1 a2 a3 (Value.slice none 0 0) v2 K)
    (sh281_1 ω a0 a1 a2 a3 (Value.slice none 0 0) (Value.int .i64 0) K)
theorem sh281_eq (ω : Om) (a0 a1 a2 a3 : Value) (K : Value → M) : vcF Tryz.prog ω Tryz.f281 [a0, a1, a2, a3] K = sh281 ω a0 a1 a2 a3 K := by kernel_rfl
theorem cal281 {ω : Om} {a0 a1 a2 a3 : Value} {K : Value → M} {I : Imm} {L : LH} (h : sh281 ω a0 a1 a2 a3 (fun v => Gh (K v)) I L) : Cal Tryz.prog ω 281 #[a0, a1, a2, a3] K I L :=
  Cal.gh (cal_of_vc mixed Tryz.func281 (by rw [sh281_eq]; exact h))
def sh282_1 (ω : Om) (p0 : Value) (p1 : Value) (p4 : Value) (K : Value → M) : M :=
  Pv (capV p0) fun v2 =>
  Pv (lenV p0) fun v3 =>
  Pv (binIV .sub v2 v3) fun v4 =>
  Pv (binIV .sub p1 v4) fun v5 =>
  Pv (binIV .gtr v5 (Value.int .i64 0)) fun v6 =>
  Br v6
    (Pv (capV p0) fun v7 =>
    Pv (slcV 1 p0 none (some v7) none) fun v8 =>
    AppZ 5 1 1 #[(Value.int .u8 0)] v8 v5 <| gh fun v9 =>
    Pv (lenV p0) fun v10 =>
    Pv (slcV 1 v9 none (some v10) none) fun v11 =>
    K v11)
    (K p0)
def sh282 (ω : Om) (a0 : Value) (a1 : Value) (K : Value → M) : M :=
  Pv (binIV .lss a1 (Value.int .i64 0)) fun v1 =>
  Br v1
    (F /- panic -/)
    (sh282_1 ω a0 a1 (Value.slice none 0 0) K)
theorem sh282_eq (ω : Om) (a0 a1 : Value) (K : Value → M) : vcF Tryz.prog ω Tryz.f282 [a0, a1] K = sh282 ω a0 a1 K := by kernel_rfl
theorem cal282 {ω : Om} {a0 a1 : Value} {K : Value → M} {I : Imm} {L : LH} (h : sh282 ω a0 a1 (fun v => Gh (K v)) I L) : Cal Tryz.prog ω 282 #[a0, a1] K I L :=
  Cal.gh (cal_of_vc mixed Tryz.func282 (by rw [sh282_eq]; exact h))
def sh284_1 (ω : Om) (p1 : Value) (x0 : Value) (x4 : Value) (x5 : Value) (Kn0 : (Value × Value × Value × Unit) → M) (K : Value → M) : M :=
  Cal Tryz.prog ω 285 #[x0, p1] <| gh fun v10 =>
  Pv (binIV .eql v10 (Value.int .i64 (-1))) fun v11 =>
  Br v11
    (K x5)
    (Pv (binIV .add x5 (Value.int .i64 1)) fun v12 =>
    Pv (lenV p1) fun v13 =>
    Pv (binIV .add v10 v13) fun v14 =>
    Pv (slcV 1 x0 (some v14) none none) fun v15 =>
    Kn0 (v15, x4, v12, ()))
def sh284 (ω : Om) (a0 : Value) (a1 : Value) (K : Value → M) : M :=
  Pv (lenV a1) fun v1 =>
  Pv (binIV .eql v1 (Value.int .i64 0)) fun v2 =>
  Br v2
    (Cal Tryz.prog ω 287 #[a0] <| gh fun v3 =>
    Pv (binIV .add v3 (Value.int .i64 1)) fun v4 =>
    K v4)
    (Pv (lenV a1) fun v5 =>
    Pv (binIV .eql v5 (Value.int .i64 1)) fun v6 =>
    Br v6
      (Pv (ixV 1 a1 (Value.int .i64 0)) fun v7 =>
      Rv none (ld1R v7) fun v8 =>
      ExtE Tryz.prog ω Extern.BytealgCount.count #[a0, v8] <| gh fun v9 =>
      K v9)
      (LoopM ((a0, (Value.int .i64 0), (Value.int .i64 0), ()) : Value × Value × Value × Unit) fun s Kn0 =>
      sh284_1 ω a1 s.1 s.2.1 s.2.2.1 Kn0 K))
theorem sh284_eq (ω : Om) (a0 a1 : Value) (K : Value → M) : vcF Tryz.prog ω Tryz.f284 [a0, a1] K = sh284 ω a0 a1 K := by kernel_rfl
theorem cal284 {ω : Om} {a0 a1 : Value} {K : Value → M} {I : Imm} {L : LH} (h : sh284 ω a0 a1 (fun v => Gh (K v)) I L) : Cal Tryz.prog ω 284 #[a0, a1] K I L :=
  Cal.gh (cal_of_vc mixed Tryz.func284 (by rw [sh284_eq]; exact h))
theorem bld_1  : bldV #[(Value.slice none 0 0), (Value.slice none 0 0)] #[(0, 1), (1, 1)] [] = some (.agg #[(Value.slice none 0 0), (Value.slice none 0 0)]) := by kernel_rfl
theorem bld_2 (x0 : Int) (x1 : Int) (x2 : Int) (x3 : Option Addr) (x4 : Nat) (x5 : Nat) (x6 : Option Addr) (x7 : Nat) (x8 : Nat) : bldV #[(Value.int .i64 0), (Value.int .i64 0), (Value.int .i64 0), (Value.int .i64 0), (Value.int .i64 0), (Value.int .i64 0), (Value.int .i64 0), (Value.int .i64 0), (Value.bool false), (Value.bool false), (Value.slice none 0 0), (Value.slice none 0 0), (Value.slice none 0 0), (Value.slice none 0 0), (Value.int .i64 0)] #[(0, 1), (1, 1), (2, 1), (3, 2), (5, 2), (7, 1), (8, 1), (9, 1), (10, 1), (11, 1), (12, 2), (14, 1)] [(0, .int .i64 x0), (1, .int .i64 x1), (2, .int .i64 x2), (8, .slice x3 x4 x5), (9, .slice x6 x7 x8)] = some (.agg #[.int .i64 x0, .int .i64 x1, .int .i64 x2, (Value.int .i64 0), (Value.int .i64 0), (Value.int .i64 0), (Value.int .i64 0), (Value.int .i64 0), (Value.bool false), (Value.bool false), .slice x3 x4 x5, .slice x6 x7 x8, (Value.slice none 0 0), (Value.slice none 0 0), (Value.int .i64 0)]) := by kernel_rfl
theorem bld_3 (x0 : Int) (x1 : Int) (x2 : Option Addr) (x3 : Nat) (x4 : Nat) : bldV #[(Value.int .i64 0), (Value.int .i64 0), (Value.int .i64 0), (Value.int .i64 0), (Value.int .i64 0), (Value.int .i64 0), (Value.int .i64 0), (Value.int .i64 0), (Value.bool false), (Value.bool false), (Value.slice none 0 0), (Value.slice none 0 0), (Value.slice none 0 0), (Value.slice none 0 0), (Value.int .i64 0)] #[(0, 1), (1, 1), (2, 1), (3, 2), (5, 2), (7, 1), (8, 1), (9, 1), (10, 1), (11, 1), (12, 2), (14, 1)] [(0, .int .i64 x0), (1, .int .i64 x1), (8, .slice x2 x3 x4)] = some (.agg #[.int .i64 x0, .int .i64 x1, (Value.int .i64 0), (Value.int .i64 0), (Value.int .i64 0), (Value.int .i64 0), (Value.int .i64 0), (Value.int .i64 0), (Value.bool false), (Value.bool false), .slice x2 x3 x4, (Value.slice none 0 0), (Value.slice none 0 0), (Value.slice none 0 0), (Value.int .i64 0)]) := by kernel_rfl
theorem bld_4  : bldV #[(Value.slice none 0 0), (Value.slice none 0 0), (Value.int .i64 0), (Value.int .i64 0)] #[(0, 1), (1, 1), (2, 2)] [] = some (.agg #[(Value.slice none 0 0), (Value.slice none 0 0), (Value.int .i64 0), (Value.int .i64 0)]) := by kernel_rfl
theorem bld_5 (x0 : Option Addr) (x1 : Nat) (x2 : Nat) (x3 : Option Addr) (x4 : Nat) (x5 : Nat) (x6 : Option Addr) : bldV #[(Value.slice none 0 0), (Value.slice none 0 0), (Value.pointer none), (Value.slice none 0 0), (Value.slice none 0 0), (Value.int .i64 0), (Value.int .i64 0), (Value.int .i64 0), (Value.slice none 0 0), (Value.slice none 0 0), (Value.int .i64 0)] #[(0, 2), (2, 1), (3, 1), (4, 4), (8, 1), (9, 1), (10, 1)] [(0, .agg #[.slice x0 x1 x2, .slice x3 x4 x5]), (1, .pointer x6)] = some (.agg #[.slice x0 x1 x2, .slice x3 x4 x5, .pointer x6, (Value.slice none 0 0), (Value.slice none 0 0), (Value.int .i64 0), (Value.int .i64 0), (Value.int .i64 0), (Value.slice none 0 0), (Value.slice none 0 0), (Value.int .i64 0)]) := by kernel_rfl
theorem bld_6 (x0 : Int) : bldV #[(Value.int .i64 0), (Value.bool false), (Value.slice none 0 0), (Value.int .i64 0), (Value.int .i64 0), (Value.int .i64 0), (Value.slice none 0 0), (Value.int .i64 0), (Value.int .i64 0), (Value.int .i64 0), (Value.int .i64 0)] #[(0, 1), (1, 5), (6, 1), (7, 2), (9, 1), (10, 1)] [(0, .int .i64 x0)] = some (.agg #[.int .i64 x0, (Value.bool false), (Value.slice none 0 0), (Value.int .i64 0), (Value.int .i64 0), (Value.int .i64 0), (Value.slice none 0 0), (Value.int .i64 0), (Value.int .i64 0), (Value.int .i64 0), (Value.int .i64 0)]) := by kernel_rfl
theorem bld_7 (x0 : Int) (x1 : Int) : bldV #[(Value.int .i64 0), (Value.bool false), (Value.slice none 0 0), (Value.int .i64 0), (Value.int .i64 0), (Value.int .i64 0), (Value.slice none 0 0), (Value.int .i64 0), (Value.int .i64 0), (Value.int .i64 0), (Value.int .i64 0)] #[(0, 1), (1, 5), (6, 1), (7, 2), (9, 1), (10, 1)] [(0, .int .i64 x0), (4, .int .i64 x1)] = some (.agg #[.int .i64 x0, (Value.bool false), (Value.slice none 0 0), (Value.int .i64 0), (Value.int .i64 0), (Value.int .i64 0), (Value.slice none 0 0), (Value.int .i64 0), (Value.int .i64 0), .int .i64 x1, (Value.int .i64 0)]) := by kernel_rfl
theorem bld_8 (x0 : Bool) (x1 : Option Addr) (x2 : Nat) (x3 : Nat) (x4 : Int) (x5 : Int) (x6 : Int) : bldV #[(Value.int .i64 0), (Value.bool false), (Value.slice none 0 0), (Value.int .i64 0), (Value.int .i64 0), (Value.int .i64 0), (Value.slice none 0 0), (Value.int .i64 0), (Value.int .i64 0), (Value.int .i64 0), (Value.int .i64 0)] #[(0, 1), (1, 5), (6, 1), (7, 2), (9, 1), (10, 1)] [(1, .agg #[.bool x0, .slice x1 x2 x3, .int .i64 x4, .int .i64 x5, .int .i64 x6])] = some (.agg #[(Value.int .i64 0), .bool x0, .slice x1 x2 x3, .int .i64 x4, .int .i64 x5, .int .i64 x6, (Value.slice none 0 0), (Value.int .i64 0), (Value.int .i64 0), (Value.int .i64 0), (Value.int .i64 0)]) := by kernel_rfl
theorem bld_9 (x0 : Option Addr) (x1 : Nat) (x2 : Nat) : bldV #[(Value.int .i64 0), (Value.bool false), (Value.slice none 0 0), (Value.int .i64 0), (Value.int .i64 0), (Value.int .i64 0), (Value.slice none 0 0), (Value.int .i64 0), (Value.int .i64 0), (Value.int .i64 0), (Value.int .i64 0)] #[(0, 1), (1, 5), (6, 1), (7, 2), (9, 1), (10, 1)] [(2, .slice x0 x1 x2)] = some (.agg #[(Value.int .i64 0), (Value.bool false), (Value.slice none 0 0), (Value.int .i64 0), (Value.int .i64 0), (Value.int .i64 0), .slice x0 x1 x2, (Value.int .i64 0), (Value.int .i64 0), (Value.int .i64 0), (Value.int .i64 0)]) := by kernel_rfl
theorem bld_10  : bldV #[(Value.slice none 0 0)] #[(0, 1)] [] = some (.agg #[(Value.slice none 0 0)]) := by kernel_rfl
theorem bld_11  : bldV #[(Value.int .i64 0), (Value.int .i64 0)] #[(0, 1), (1, 1)] [] = some (.agg #[(Value.int .i64 0), (Value.int .i64 0)]) := by kernel_rfl
theorem bld_12 (x0 : Option Addr) (x1 : Nat) (x2 : Nat) : bldV #[(Value.slice none 0 0), (Value.bool false)] #[(0, 1), (1, 1)] [(0, .slice x0 x1 x2)] = some (.agg #[.slice x0 x1 x2, (Value.bool false)]) := by kernel_rfl
theorem bld_13 (x0 : Int) (x1 : Int) (x2 : Int) (x3 : Int) (x4 : Int) : bldV #[(Value.int .i64 0), (Value.int .i64 0), (Value.int .i64 0), (Value.int .i64 0), (Value.int .i64 0), (Value.int .i64 0), (Value.int .i64 0), (Value.int .i64 0), (Value.bool false), (Value.bool false), (Value.slice none 0 0), (Value.slice none 0 0), (Value.slice none 0 0), (Value.slice none 0 0), (Value.int .i64 0)] #[(0, 1), (1, 1), (2, 1), (3, 2), (5, 2), (7, 1), (8, 1), (9, 1), (10, 1), (11, 1), (12, 2), (14, 1)] [(0, .int .i64 x0), (1, .int .i64 x1), (2, .int .i64 x2), (5, .int .i64 x3), (11, .int .i64 x4)] = some (.agg #[.int .i64 x0, .int .i64 x1, .int .i64 x2, (Value.int .i64 0), (Value.int .i64 0), (Value.int .i64 0), (Value.int .i64 0), .int .i64 x3, (Value.bool false), (Value.bool false), (Value.slice none 0 0), (Value.slice none 0 0), (Value.slice none 0 0), (Value.slice none 0 0), .int .i64 x4]) := by kernel_rfl
theorem bld_14  : bldV #[(Value.int .i64 0), (Value.int .i64 0), (Value.int .i64 0), (Value.int .i64 0), (Value.int .i64 0), (Value.int .i64 0), (Value.int .i64 0), (Value.int .i64 0), (Value.bool false), (Value.bool false), (Value.slice none 0 0), (Value.slice none 0 0), (Value.slice none 0 0), (Value.slice none 0 0), (Value.int .i64 0)] #[(0, 1), (1, 1), (2, 1), (3, 2), (5, 2), (7, 1), (8, 1), (9, 1), (10, 1), (11, 1), (12, 2), (14, 1)] [] = some (.agg #[(Value.int .i64 0), (Value.int .i64 0), (Value.int .i64 0), (Value.int .i64 0), (Value.int .i64 0), (Value.int .i64 0), (Value.int .i64 0), (Value.int .i64 0), (Value.bool false), (Value.bool false), (Value.slice none 0 0), (Value.slice none 0 0), (Value.slice none 0 0), (Value.slice none 0 0), (Value.int .i64 0)]) := by kernel_rfl
theorem bld_15 (x0 : Int) (x1 : Int) (x2 : Int) : bldV #[(Value.int .i64 0), (Value.bool false), (Value.slice none 0 0), (Value.int .i64 0), (Value.int .i64 0), (Value.int .i64 0), (Value.slice none 0 0), (Value.int .i64 0), (Value.int .i64 0), (Value.int .i64 0), (Value.int .i64 0)] #[(0, 1), (1, 5), (6, 1), (7, 2), (9, 1), (10, 1)] [(0, .int .i64 x0), (5, .int .i64 x1), (4, .int .i64 x2)] = some (.agg #[.int .i64 x0, (Value.bool false), (Value.slice none 0 0), (Value.int .i64 0), (Value.int .i64 0), (Value.int .i64 0), (Value.slice none 0 0), (Value.int .i64 0), (Value.int .i64 0), .int .i64 x2, .int .i64 x1]) := by kernel_rfl
theorem bld_16 (x0 : Option Addr) (x1 : Nat) (x2 : Nat) (x3 : Option Addr) (x4 : Nat) (x5 : Nat) : bldV #[(Value.slice none 0 0), (Value.slice none 0 0)] #[(0, 1), (1, 1)] [(0, .slice x0 x1 x2), (1, .slice x3 x4 x5)] = some (.agg #[.slice x0 x1 x2, .slice x3 x4 x5]) := by kernel_rfl
theorem bld_17  : bldV #[(Value.int .i64 0), (Value.bool false), (Value.slice none 0 0), (Value.int .i64 0), (Value.int .i64 0), (Value.int .i64 0), (Value.slice none 0 0), (Value.int .i64 0), (Value.int .i64 0), (Value.int .i64 0), (Value.int .i64 0)] #[(0, 1), (1, 5), (6, 1), (7, 2), (9, 1), (10, 1)] [] = some (.agg #[(Value.int .i64 0), (Value.bool false), (Value.slice none 0 0), (Value.int .i64 0), (Value.int .i64 0), (Value.int .i64 0), (Value.slice none 0 0), (Value.int .i64 0), (Value.int .i64 0), (Value.int .i64 0), (Value.int .i64 0)]) := by kernel_rfl
theorem bld_18 (x0 : Option Addr) (x1 : Nat) (x2 : Nat) (x3 : Option Addr) (x4 : Nat) (x5 : Nat) : bldV #[(Value.bool false), (Value.slice none 0 0), (Value.slice none 0 0)] #[(0, 1), (1, 1), (2, 1)] [(1, .slice x0 x1 x2), (2, .slice x3 x4 x5)] = some (.agg #[(Value.bool false), .slice x0 x1 x2, .slice x3 x4 x5]) := by kernel_rfl
theorem bld_19 (x0 : Option Addr) (x1 : Nat) (x2 : Nat) (x3 : Option Addr) (x4 : Nat) (x5 : Nat) (x6 : Option Addr) (x7 : Option Nat) (x8 : Option Nat) (x9 : Option Nat) : bldV #[(Value.slice none 0 0), (Value.slice none 0 0), (Value.pointer none), (Value.map none), (Value.int .i64 0), (Value.int .i64 0), (Value.int .i64 0), (Value.map none), (Value.map none), (Value.int .i64 0), (Value.slice none 0 0)] #[(0, 2), (2, 1), (3, 1), (4, 3), (7, 1), (8, 1), (9, 1), (10, 1)] [(0, .agg #[.slice x0 x1 x2, .slice x3 x4 x5]), (1, .pointer x6), (2, .map x7), (4, .map x8), (5, .map x9)] = some (.agg #[.slice x0 x1 x2, .slice x3 x4 x5, .pointer x6, .map x7, (Value.int .i64 0), (Value.int .i64 0), (Value.int .i64 0), .map x8, .map x9, (Value.int .i64 0), (Value.slice none 0 0)]) := by kernel_rfl
theorem bld_20 (x0 : Option Nat) (x1 : Option Nat) : bldV #[(Value.map none), (Value.slice none 0 0), (Value.int .i64 0), (Value.int .i64 0), (Value.map none)] #[(0, 1), (1, 1), (2, 2), (4, 1)] [(0, .map x0), (3, .map x1)] = some (.agg #[.map x0, (Value.slice none 0 0), (Value.int .i64 0), (Value.int .i64 0), .map x1]) := by kernel_rfl
theorem bld_21  : bldV #[(Value.bool false), (Value.slice none 0 0), (Value.int .i64 0), (Value.int .i64 0), (Value.int .i64 0)] #[(0, 1), (1, 1), (2, 2), (4, 1)] [] = some (.agg #[(Value.bool false), (Value.slice none 0 0), (Value.int .i64 0), (Value.int .i64 0), (Value.int .i64 0)]) := by kernel_rfl
theorem bld_22 (x0 : Option Addr) (x1 : Nat) (x2 : Nat) : bldV #[(Value.slice none 0 0), (Value.int .i64 0), (Value.int .i64 0), (Value.int .i64 0)] #[(0, 1), (1, 2), (3, 1)] [(0, .slice x0 x1 x2)] = some (.agg #[.slice x0 x1 x2, (Value.int .i64 0), (Value.int .i64 0), (Value.int .i64 0)]) := by kernel_rfl
theorem bld_23 (x0 : Int) (x1 : Int) : bldV #[(Value.slice none 0 0), (Value.slice none 0 0), (Value.int .i64 0), (Value.int .i64 0)] #[(0, 1), (1, 1), (2, 2)] [(2, .agg #[.int .i64 x0, .int .i64 x1])] = some (.agg #[(Value.slice none 0 0), (Value.slice none 0 0), .int .i64 x0, .int .i64 x1]) := by kernel_rfl
theorem bld_24 (x0 : Option Addr) (x1 : Nat) (x2 : Nat) (x3 : Option Addr) (x4 : Nat) (x5 : Nat) (x6 : Option Addr) (x7 : Option Addr) (x8 : Nat) (x9 : Nat) (x10 : Int) (x11 : Int) (x12 : Int) (x13 : Int) : bldV #[(Value.slice none 0 0), (Value.slice none 0 0), (Value.pointer none), (Value.slice none 0 0), (Value.slice none 0 0), (Value.int .i64 0), (Value.int .i64 0), (Value.int .i64 0), (Value.slice none 0 0), (Value.slice none 0 0), (Value.int .i64 0)] #[(0, 2), (2, 1), (3, 1), (4, 4), (8, 1), (9, 1), (10, 1)] [(0, .agg #[.slice x0 x1 x2, .slice x3 x4 x5]), (1, .pointer x6), (3, .agg #[.slice x7 x8 x9, .int .i64 x10, .int .i64 x11, .int .i64 x12]), (6, .int .i64 x13)] = some (.agg #[.slice x0 x1 x2, .slice x3 x4 x5, .pointer x6, (Value.slice none 0 0), .slice x7 x8 x9, .int .i64 x10, .int .i64 x11, .int .i64 x12, (Value.slice none 0 0), (Value.slice none 0 0), .int .i64 x13]) := by kernel_rfl
theorem bld_25 (x0 : Int) (x1 : Int) : bldV #[(Value.int .i64 0), (Value.int .i64 0)] #[(0, 1), (1, 1)] [(0, .int .i64 x0), (1, .int .i64 x1)] = some (.agg #[.int .i64 x0, .int .i64 x1]) := by kernel_rfl
theorem bld_26 (x0 : Option Nat) (x1 : Option Addr) (x2 : Nat) (x3 : Nat) (x4 : Int) (x5 : Int) (x6 : Option Nat) : bldV #[(Value.map none), (Value.slice none 0 0), (Value.int .i64 0), (Value.int .i64 0), (Value.map none)] #[(0, 1), (1, 1), (2, 2), (4, 1)] [(0, .map x0), (1, .slice x1 x2 x3), (2, .agg #[.int .i64 x4, .int .i64 x5]), (3, .map x6)] = some (.agg #[.map x0, .slice x1 x2 x3, .int .i64 x4, .int .i64 x5, .map x6]) := by kernel_rfl
theorem bld_27 (x0 : Int) (x1 : Int) (x2 : Int) : bldV #[(Value.int .i64 0), (Value.int .i64 0), (Value.int .i64 0)] #[(0, 2), (2, 1)] [(0, .agg #[.int .i64 x0, .int .i64 x1]), (1, .int .i64 x2)] = some (.agg #[.int .i64 x0, .int .i64 x1, .int .i64 x2]) := by kernel_rfl
theorem bld_28 (x0 : Int) (x1 : Int) (x2 : Int) : bldV #[(Value.int .i64 0), (Value.int .i64 0), (Value.int .i64 0)] #[(0, 1), (1, 2)] [(0, .int .i64 x0), (1, .agg #[.int .i64 x1, .int .i64 x2])] = some (.agg #[.int .i64 x0, .int .i64 x1, .int .i64 x2]) := by kernel_rfl
theorem bld_29 (x0 : Int) (x1 : Int) (x2 : Int) (x3 : Int) : bldV #[(Value.int .i64 0), (Value.int .i64 0), (Value.int .i64 0), (Value.int .i64 0)] #[(0, 1), (1, 1), (2, 2)] [(0, .int .i64 x0), (1, .int .i64 x1), (2, .agg #[.int .i64 x2, .int .i64 x3])] = some (.agg #[.int .i64 x0, .int .i64 x1, .int .i64 x2, .int .i64 x3]) := by kernel_rfl
theorem bld_30 (x0 : Int) (x1 : Int) (x2 : Int) (x3 : Int) : bldV #[(Value.int .i64 0), (Value.bool false), (Value.slice none 0 0), (Value.int .i64 0), (Value.int .i64 0), (Value.int .i64 0), (Value.slice none 0 0), (Value.int .i64 0), (Value.int .i64 0), (Value.int .i64 0), (Value.int .i64 0)] #[(0, 1), (1, 5), (6, 1), (7, 2), (9, 1), (10, 1)] [(0, .int .i64 x0), (3, .agg #[.int .i64 x1, .int .i64 x2]), (4, .int .i64 x3)] = some (.agg #[.int .i64 x0, (Value.bool false), (Value.slice none 0 0), (Value.int .i64 0), (Value.int .i64 0), (Value.int .i64 0), (Value.slice none 0 0), .int .i64 x1, .int .i64 x2, .int .i64 x3, (Value.int .i64 0)]) := by kernel_rfl
theorem bld_31 (x0 : Option Addr) (x1 : Nat) (x2 : Nat) (x3 : Int) (x4 : Int) (x5 : Int) (x6 : Bool) (x7 : Option Addr) (x8 : Nat) (x9 : Nat) : bldV #[(Value.slice none 0 0), (Value.int .i64 0), (Value.int .i64 0), (Value.int .i64 0), (Value.bool false), (Value.slice none 0 0)] #[(0, 1), (1, 1), (2, 2), (4, 1), (5, 1)] [(0, .slice x0 x1 x2), (1, .int .i64 x3), (2, .agg #[.int .i64 x4, .int .i64 x5]), (3, .bool x6), (4, .slice x7 x8 x9)] = some (.agg #[.slice x0 x1 x2, .int .i64 x3, .int .i64 x4, .int .i64 x5, .bool x6, .slice x7 x8 x9]) := by kernel_rfl
theorem bld_32 (x0 : Int) : bldV #[(Value.int .i64 0), (Value.bool false), (Value.slice none 0 0), (Value.int .i64 0), (Value.int .i64 0), (Value.int .i64 0), (Value.slice none 0 0), (Value.int .i64 0), (Value.int .i64 0), (Value.int .i64 0), (Value.int .i64 0)] #[(0, 1), (1, 5), (6, 1), (7, 2), (9, 1), (10, 1)] [(5, .int .i64 x0)] = some (.agg #[(Value.int .i64 0), (Value.bool false), (Value.slice none 0 0), (Value.int .i64 0), (Value.int .i64 0), (Value.int .i64 0), (Value.slice none 0 0), (Value.int .i64 0), (Value.int .i64 0), (Value.int .i64 0), .int .i64 x0]) := by kernel_rfl
theorem bld_33 (x0 : Int) (x1 : Int) (x2 : Int) : bldV #[(Value.int .i64 0), (Value.bool false), (Value.slice none 0 0), (Value.int .i64 0), (Value.int .i64 0), (Value.int .i64 0), (Value.slice none 0 0), (Value.int .i64 0), (Value.int .i64 0), (Value.int .i64 0), (Value.int .i64 0)] #[(0, 1), (1, 5), (6, 1), (7, 2), (9, 1), (10, 1)] [(5, .int .i64 x0), (3, .agg #[.int .i64 x1, .int .i64 x2])] = some (.agg #[(Value.int .i64 0), (Value.bool false), (Value.slice none 0 0), (Value.int .i64 0), (Value.int .i64 0), (Value.int .i64 0), (Value.slice none 0 0), .int .i64 x1, .int .i64 x2, (Value.int .i64 0), .int .i64 x0]) := by kernel_rfl
theorem bld_34 (x0 : Bool) (x1 : Option Addr) (x2 : Nat) (x3 : Nat) (x4 : Int) (x5 : Int) : bldV #[(Value.bool false), (Value.slice none 0 0), (Value.int .i64 0), (Value.int .i64 0), (Value.int .i64 0)] #[(0, 1), (1, 1), (2, 2), (4, 1)] [(0, .bool x0), (1, .slice x1 x2 x3), (2, .agg #[.int .i64 x4, .int .i64 x5])] = some (.agg #[.bool x0, .slice x1 x2 x3, .int .i64 x4, .int .i64 x5, (Value.int .i64 0)]) := by kernel_rfl
theorem bld_35 (x0 : Int) : bldV #[(Value.bool false), (Value.slice none 0 0), (Value.int .i64 0), (Value.int .i64 0), (Value.int .i64 0)] #[(0, 1), (1, 1), (2, 2), (4, 1)] [(3, .int .i64 x0)] = some (.agg #[(Value.bool false), (Value.slice none 0 0), (Value.int .i64 0), (Value.int .i64 0), .int .i64 x0]) := by kernel_rfl
theorem bld_36 (x0 : Int) (x1 : Int) : bldV #[(Value.int .i64 0), (Value.bool false), (Value.slice none 0 0), (Value.int .i64 0), (Value.int .i64 0), (Value.int .i64 0), (Value.slice none 0 0), (Value.int .i64 0), (Value.int .i64 0), (Value.int .i64 0), (Value.int .i64 0)] #[(0, 1), (1, 5), (6, 1), (7, 2), (9, 1), (10, 1)] [(0, .int .i64 x0), (5, .int .i64 x1)] = some (.agg #[.int .i64 x0, (Value.bool false), (Value.slice none 0 0), (Value.int .i64 0), (Value.int .i64 0), (Value.int .i64 0), (Value.slice none 0 0), (Value.int .i64 0), (Value.int .i64 0), (Value.int .i64 0), .int .i64 x1]) := by kernel_rfl
theorem bld_37 (x0 : Int) (x1 : Int) (x2 : Bool) (x3 : ByteArray) (x4 : Int) : bldV #[(Value.int .i64 0), (Value.int .i64 0), (Value.bool false), (Value.string (ByteArray.mk #[])), (Value.int .i64 0)] #[(0, 4), (4, 1)] [(0, .agg #[.int .i64 x0, .int .i64 x1, .bool x2, .string x3]), (1, .int .i64 x4)] = some (.agg #[.int .i64 x0, .int .i64 x1, .bool x2, .string x3, .int .i64 x4]) := by kernel_rfl
theorem bld_38 (x0 : Int) (x1 : Int) (x2 : Int) : bldV #[(Value.int .i64 0), (Value.bool false), (Value.slice none 0 0), (Value.int .i64 0), (Value.int .i64 0), (Value.int .i64 0), (Value.slice none 0 0), (Value.int .i64 0), (Value.int .i64 0), (Value.int .i64 0), (Value.int .i64 0)] #[(0, 1), (1, 5), (6, 1), (7, 2), (9, 1), (10, 1)] [(0, .int .i64 x0), (3, .agg #[.int .i64 x1, .int .i64 x2])] = some (.agg #[.int .i64 x0, (Value.bool false), (Value.slice none 0 0), (Value.int .i64 0), (Value.int .i64 0), (Value.int .i64 0), (Value.slice none 0 0), .int .i64 x1, .int .i64 x2, (Value.int .i64 0), (Value.int .i64 0)]) := by kernel_rfl
theorem bld_39 (x0 : Int) (x1 : Int) (x2 : Bool) (x3 : ByteArray) : bldV #[(Value.int .i64 0), (Value.int .i64 0), (Value.bool false), (Value.string (ByteArray.mk #[]))] #[(0, 2), (2, 1), (3, 1)] [(0, .agg #[.int .i64 x0, .int .i64 x1]), (1, .bool x2), (2, .string x3)] = some (.agg #[.int .i64 x0, .int .i64 x1, .bool x2, .string x3]) := by kernel_rfl
theorem bld_40  : bldV #[(Value.int .i64 0), (Value.int .i64 0), (Value.bool false), (Value.string (ByteArray.mk #[])), (Value.int .i64 0)] #[(0, 4), (4, 1)] [] = some (.agg #[(Value.int .i64 0), (Value.int .i64 0), (Value.bool false), (Value.string (ByteArray.mk #[])), (Value.int .i64 0)]) := by kernel_rfl
theorem bld_41  : bldV #[(Value.slice none 0 0), (Value.int .i64 0), (Value.int .i64 0), (Value.int .i64 0), (Value.bool false), (Value.slice none 0 0)] #[(0, 1), (1, 1), (2, 2), (4, 1), (5, 1)] [] = some (.agg #[(Value.slice none 0 0), (Value.int .i64 0), (Value.int .i64 0), (Value.int .i64 0), (Value.bool false), (Value.slice none 0 0)]) := by kernel_rfl
theorem bld_42  : bldV #[(Value.slice none 0 0), (Value.int .i64 0), (Value.int .i64 0), (Value.bool false), (Value.slice none 0 0)] #[(0, 1), (1, 2), (3, 1), (4, 1)] [] = some (.agg #[(Value.slice none 0 0), (Value.int .i64 0), (Value.int .i64 0), (Value.bool false), (Value.slice none 0 0)]) := by kernel_rfl
theorem bld_43 (x0 : Int) (x1 : Int) (x2 : Int) (x3 : Int) (x4 : Int) : bldV #[(Value.int .i64 0), (Value.int .i64 0), (Value.int .i64 0), (Value.int .i64 0), (Value.int .i64 0)] #[(0, 1), (1, 1), (2, 1), (3, 2)] [(0, .int .i64 x0), (1, .int .i64 x1), (2, .int .i64 x2), (3, .agg #[.int .i64 x3, .int .i64 x4])] = some (.agg #[.int .i64 x0, .int .i64 x1, .int .i64 x2, .int .i64 x3, .int .i64 x4]) := by kernel_rfl
theorem bld_44 (x0 : Option Addr) (x1 : Nat) (x2 : Nat) (x3 : Int) (x4 : Int) (x5 : Bool) (x6 : Option Addr) (x7 : Nat) (x8 : Nat) : bldV #[(Value.slice none 0 0), (Value.int .i64 0), (Value.int .i64 0), (Value.bool false), (Value.slice none 0 0)] #[(0, 1), (1, 2), (3, 1), (4, 1)] [(0, .slice x0 x1 x2), (1, .agg #[.int .i64 x3, .int .i64 x4]), (2, .bool x5), (3, .slice x6 x7 x8)] = some (.agg #[.slice x0 x1 x2, .int .i64 x3, .int .i64 x4, .bool x5, .slice x6 x7 x8]) := by kernel_rfl
theorem bld_45 (x0 : Bool) (x1 : Option Addr) (x2 : Nat) (x3 : Nat) (x4 : Option Addr) (x5 : Nat) (x6 : Nat) : bldV #[(Value.bool false), (Value.slice none 0 0), (Value.slice none 0 0)] #[(0, 1), (1, 1), (2, 1)] [(0, .bool x0), (1, .slice x1 x2 x3), (2, .slice x4 x5 x6)] = some (.agg #[.bool x0, .slice x1 x2 x3, .slice x4 x5 x6]) := by kernel_rfl
theorem bld_46  : bldV #[(Value.int .i64 0), (Value.int .i64 0), (Value.bool false), (Value.string (ByteArray.mk #[]))] #[(0, 2), (2, 1), (3, 1)] [] = some (.agg #[(Value.int .i64 0), (Value.int .i64 0), (Value.bool false), (Value.string (ByteArray.mk #[]))]) := by kernel_rfl
theorem bld_47 (x0 : Bool) (x1 : ByteArray) : bldV #[(Value.int .i64 0), (Value.int .i64 0), (Value.bool false), (Value.string (ByteArray.mk #[]))] #[(0, 2), (2, 1), (3, 1)] [(1, .bool x0), (2, .string x1)] = some (.agg #[(Value.int .i64 0), (Value.int .i64 0), .bool x0, .string x1]) := by kernel_rfl
theorem bld_48  : bldV #[(Value.slice none 0 0), (Value.int .i64 0), (Value.int .i64 0), (Value.bool false), (Value.string (ByteArray.mk #[])), (Value.int .i64 0)] #[(0, 1), (1, 5)] [] = some (.agg #[(Value.slice none 0 0), (Value.int .i64 0), (Value.int .i64 0), (Value.bool false), (Value.string (ByteArray.mk #[])), (Value.int .i64 0)]) := by kernel_rfl
theorem bld_49 (x0 : Int) : bldV #[(Value.int .i64 0), (Value.int .i64 0)] #[(0, 1), (1, 1)] [(0, .int .i64 x0)] = some (.agg #[.int .i64 x0, (Value.int .i64 0)]) := by kernel_rfl
end Go.Proofs.YtmmfcgbfbcamcaaGreatDoor
set_option linter.unusedSimpArgs false
set_option linter.unusedVariables false
set_option linter.unusedSectionVars false
namespace Go.SL
def SlI (I : Imm) (n : Nat) (v : Value) (cells : List Value) (len : Nat) : Prop :=
  cells.length = len * n ∧ ∃ a cap, v = .slice a len cap ∧ len ≤ cap ∧
    (len ≠ 0 → ∃ b off cs T fr, a = some ⟨b, off, none⟩ ∧ I b = some (Obj.cells cs T fr) ∧ ∀ j u, cells[j]? = some u → cs[off + j]? = some u)
theorem SlI.mono {I I' : Imm} {n len : Nat} {v : Value} {cells : List Value} (h : SlI I n v cells len) (hI : Ext I I') : SlI I' n v cells len := by
  obtain ⟨hl, a, cap, hv, hc, h⟩ := h
  refine ⟨hl, a, cap, hv, hc, fun h0 => ?_⟩
  obtain ⟨b, off, cs, T, fr, ha, hb, hcs⟩ := h h0
  exact ⟨b, off, cs, T, fr, ha, hI _ _ hb, hcs⟩
theorem SlI.nil (I : Imm) (n : Nat) (a : Option Addr) (cap : Nat) : SlI I n (.slice a 0 cap) [] 0 := ⟨by simp, a, cap, rfl, Nat.zero_le _, fun h => absurd rfl h⟩
theorem SlI.news {I : Imm} {L : LH} {n len : Nat} {v : Value} {cells : List Value} (h : SlI I n v cells len) : News n v I L len cells := by
  obtain ⟨hl, a, cap, rfl, hc, h⟩ := h
  by_cases h0 : len = 0
  · subst h0
    exact .inl ⟨a, cap, rfl, rfl, List.eq_nil_of_length_eq_zero (by simpa using hl)⟩
  · obtain ⟨b, off, cs, T, fr, rfl, hb, hcs⟩ := h h0
    exact .inr (.inl ⟨b, off, cap, rfl, hl, fun j u hu => Cell.imm hb (hcs j u hu)⟩)
def SlO (T n : Nat) (X : LH) (v : Value) (cells : List Value) (len : Nat) : Prop :=
  cells.length = len * n ∧
  ((X = [] ∧ len = 0 ∧ ∃ a, v = .slice a 0 0) ∨
   (∃ (b cap : Nat) (cs : Array Value), X = [(b, Obj.cells cs T (0, 0))] ∧ v = .slice (some ⟨b, 0, Option.none⟩) len cap ∧ cs.size = cap * n ∧ len ≤ cap ∧ ∀ (j : Nat) (u : Value), cells[j]? = some u → cs[j]? = some u))
theorem SlO.none (T n : Nat) : SlO T n [] (.slice none 0 0) [] 0 := ⟨by simp, .inl ⟨rfl, rfl, _, rfl⟩⟩
theorem SlO.empty (T n : Nat) (a : Option Addr) : SlO T n [] (.slice a 0 0) [] 0 := ⟨by simp, .inl ⟨rfl, rfl, _, rfl⟩⟩
theorem SlO.form {T n len : Nat} {X : LH} {v : Value} {cells : List Value} (h : SlO T n X v cells len) : ∃ a cap, v = .slice a len cap := by
  rcases h.2 with ⟨_, rfl, a, rfl⟩ | ⟨b, cap, cs, _, rfl, _⟩
  · exact ⟨a, 0, rfl⟩
  · exact ⟨_, cap, rfl⟩
theorem SlO.news {I : Imm} {T n len : Nat} {X F : LH} {v : Value} {cells : List Value} (h : SlO T n X v cells len) (hF : ∀ x ∈ X, x ∈ F) : News n v I F len cells := by
  obtain ⟨hl, h⟩ := h
  rcases h with ⟨rfl, rfl, a, rfl⟩ | ⟨b, cap, cs, rfl, rfl, hcs, hle, hc⟩
  · exact .inl ⟨a, 0, rfl, rfl, List.eq_nil_of_length_eq_zero (by simpa using hl)⟩
  · exact .inr (.inl ⟨b, 0, cap, rfl, hl, fun j u hu => Cell.own (hF _ (List.mem_singleton.2 rfl)) (by rw [Nat.zero_add]; exact hc j u hu)⟩)
theorem SlO.freeze {A : M} {I : Imm} {T n len : Nat} {X F : LH} {v : Value} {cells : List Value} (h : SlO T n X v cells len) (hk : ∀ I', Ext I I' → SlI I' n v cells len → Gh A I' F) : Gh A I (X ++ F) := by
  obtain ⟨hl, h⟩ := h
  rcases h with ⟨rfl, rfl, a, rfl⟩ | ⟨b, cap, cs, rfl, rfl, hcs, hle, hc⟩
  · exact hk I (Ext.refl I) ⟨hl, a, 0, rfl, Nat.le_refl _, fun h => absurd rfl h⟩
  · exact Gh.freeze fun hext => hk _ hext ⟨hl, _, cap, rfl, hle, fun _ => ⟨b, 0, cs, T, (0, 0), rfl, by simp [Imm.put], fun j u hu => by rw [Nat.zero_add]; exact hc j u hu⟩⟩
theorem zero_size (z : Array Value) (k : Nat) : (Builtin.zeroCells z k).size = k * z.size := by simp [Builtin.zeroCells]
theorem Cell.perm {I : Imm} {L L' : LH} {b off : Nat} {v : Value} (h : Cell I L b off v) (hp : L.Perm L') : Cell I L' b off v := h.mono (Ext.refl I) (fun _ hx => hp.mem_iff.1 hx)
theorem News.perm {I : Imm} {L L' : LH} {n m : Nat} {x : Value} {news : List Value} (h : News n x I L m news) (hp : L.Perm L') : News n x I L' m news := by
  rcases h with h | ⟨b, off, cap, h1, h2, h3⟩ | h
  · exact .inl h
  · exact .inr (.inl ⟨b, off, cap, h1, h2, fun j u hu => (h3 j u hu).perm hp⟩)
  · exact .inr (.inr h)
theorem app_ownG {I : Imm} {X L F : LH} [hsp : SplitL X L F] {T n bytes len m : Nat} {z : Array Value} {s x : Value} {cells news : List Value} {K : Value → M} (hz : z.size = n) (ho : SlO T n X s cells len) (hn : News n x I L m news)
    (h1 : ∀ u ∈ news, u.oneCell' = true) (hb : (len + m) * bytes ≤ 150000000000000) (hm : len + m ≤ 150000000000000)
    (hk : ∀ X' v', SlO T n X' v' (cells ++ news) (len + m) → Gh (K v') I (X' ++ F)) : App T n bytes z s x (gh K) I L := by
  have hp := hsp.perm
  obtain ⟨hl, ho'⟩ := ho
  have hnl := hn.length
  have hlen : (cells ++ news).length = (len + m) * n := by rw [List.length_append, hl, hnl, Nat.add_mul]
  rcases ho' with ⟨rfl, rfl, a, rfl⟩ | ⟨b, cap, cs, rfl, rfl, hcs, hle, hc⟩
  · have hce : cells = [] := List.eq_nil_of_length_eq_zero (by simpa using hl)
    subst hce
    refine ⟨a, 0, 0, m, news, rfl, hn, h1, ?_⟩
    by_cases h0 : m = 0
    · subst h0
      have : news = [] := List.eq_nil_of_length_eq_zero (by simpa using hnl)
      subst this
      exact .inl ⟨Nat.le_refl _, rfl, Gh.perm hp (hk [] (.slice a 0 0) (SlO.empty T n a))⟩
    · refine .inr (.inr ⟨by omega, hb, hm, [], L, .inl ⟨a, 0, rfl, rfl, rfl⟩, List.Sublist.refl _, fun b c hc => ?_⟩)
      refine Gh.perm (List.Perm.cons _ hp) (hk [(b, _)] _ ⟨hlen, .inr ⟨b, c, _, rfl, rfl, ?_, hc, ?_⟩⟩)
      · simp only [List.nil_append, Array.size_append, List.size_toArray, zero_size, hz, hnl]
        rw [← Nat.add_mul]; congr 1; omega
      · intro j u hu
        simp only [List.nil_append] at hu ⊢
        have hlt : j < news.length := (List.getElem?_eq_some_iff.1 hu).1
        rw [Array.getElem?_append_left (by simpa using hlt)]
        simpa using hu
  · have hmem : (b, Obj.cells cs T (0, 0)) ∈ L := hp.mem_iff.2 (List.mem_append_left _ (List.mem_singleton.2 rfl))
    obtain ⟨L1, L2, rfl⟩ := List.append_of_mem hmem
    have hF : (L1 ++ L2).Perm F := by
      have h2 : (L1 ++ (b, Obj.cells cs T (0, 0)) :: L2).Perm ((b, Obj.cells cs T (0, 0)) :: (L1 ++ L2)) := List.perm_middle
      exact (List.perm_cons _).1 (h2.symm.trans hp)
    refine ⟨_, len, cap, m, news, rfl, hn, h1, ?_⟩
    by_cases hfit : len + m ≤ cap
    · refine .inr (.inl ⟨hfit, b, 0, cs, T, L1, L2, rfl, rfl, by rw [hcs, Nat.zero_add]; exact Nat.mul_le_mul_right n hfit, ?_⟩)
      refine Gh.perm (List.perm_middle.trans (List.Perm.cons _ hF)) (hk [(b, _)] _ ⟨hlen, .inr ⟨b, cap, _, rfl, rfl, by rw [wr_size]; exact hcs, hfit, ?_⟩⟩)
      have hroom : 0 + len * n + news.length ≤ cs.size := by
        rw [hcs, hnl, Nat.zero_add, ← Nat.add_mul]; exact Nat.mul_le_mul_right n hfit
      intro j u hu
      rw [wr_get news cs (0 + len * n) j hroom]
      simp only [Nat.zero_add] at hroom ⊢
      by_cases hj : j < len * n
      · rw [if_pos hj]
        rw [List.getElem?_append_left (by omega)] at hu
        exact hc j u hu
      · rw [if_neg hj]
        rw [List.getElem?_append_right (by omega), hl] at hu
        have hlt := (List.getElem?_eq_some_iff.1 hu).1
        rw [if_pos (by omega)]
        exact hu
    · refine .inr (.inr ⟨by omega, hb, hm, cells, L1 ++ L2, .inr (.inl ⟨b, 0, cap, rfl, hl, fun j u hu => Cell.own hmem (by rw [Nat.zero_add]; exact hc j u hu)⟩),
        List.Sublist.append (List.Sublist.refl _) (List.sublist_cons_self ..), fun b' c hcc => ?_⟩)
      refine Gh.perm (List.Perm.cons _ hF) (hk [(b', _)] _ ⟨hlen, .inr ⟨b', c, _, rfl, rfl, ?_, hcc, ?_⟩⟩)
      · simp only [Array.size_append, List.size_toArray, zero_size, hz, hlen]
        rw [← Nat.add_mul]; congr 1; omega
      · intro j u hu
        have hlt : j < (cells ++ news).length := (List.getElem?_eq_some_iff.1 hu).1
        rw [Array.getElem?_append_left (by simpa using hlt)]
        simpa using hu
theorem app_own {I : Imm} {X L F : LH} [hsp : SplitL X L F] {T n bytes len m : Nat} {z : Array Value} {s x : Value} {cells news : List Value} {K : Value → M} (hz : z.size = n) (ho : SlO T n X s cells len) (hn : News n x I L m news)
    (h1 : ∀ u ∈ news, u.oneCell' = true) (hb : (len + m) * bytes ≤ 150000000000000) (hm : len + m ≤ 150000000000000)
    (hk : ∀ X' v', SlO T n X' v' (cells ++ news) (len + m) → K v' I (X' ++ F)) : App T n bytes z s x (gh K) I L := app_ownG hz ho hn h1 hb hm (fun X' v' h => Gh.done (hk X' v' h))
theorem mk_own {I : Imm} {F : LH} {T bytes : Nat} {z : Array Value} {ln cn : Nat} {K : Value → M} (hlc : ln ≤ cn) (hc : cn ≤ 140737488355328) (hb : cn * bytes ≤ 281474976710656)
    (hk : ∀ X v, SlO T z.size X v (Builtin.zeroCells z ln).toList ln → K v I (X ++ F)) : MkS T bytes z (.int .i64 ln) (.int .i64 cn) (gh K) I F := by
  refine ⟨.i64, .i64, ln, cn, rfl, rfl, hlc, hc, hb, fun b => ?_⟩
  refine Gh.done (hk [(b, _)] _ ⟨by simp [zero_size], .inr ⟨b, cn, _, rfl, rfl, zero_size z cn, hlc, ?_⟩⟩)
  intro j u hu
  have hlt : j < ln * z.size := by have := (List.getElem?_eq_some_iff.1 hu).1; simpa [zero_size] using this
  have hlt' : j < cn * z.size := Nat.lt_of_lt_of_le hlt (Nat.mul_le_mul_right _ hlc)
  simp only [Builtin.zeroCells, Array.toList_map, List.getElem?_map, Array.toList_range, List.getElem?_range hlt, Option.map_some, Option.some.injEq] at hu
  simp only [Builtin.zeroCells, Array.getElem?_map, Array.getElem?_range, hlt', if_true, Option.map_some, hu]
theorem bld_oneG {I : Imm} {F : LH} {T n : Nat} {z : Array Value} {v : Value} {K : Value → M} (hz : z.size = n) (hn : 0 < n) (hv : v.cells.size = n)
    (hk : ∀ X u, SlO T n X u v.cells.toList 1 → Gh (K u) I (X ++ F)) : BldS T n z 1 [(0, v)] (gh K) I F := by
  have hfold : ∀ (vs : List Value) (cs : Array Value) (k : Nat), k + vs.length ≤ cs.size → (vs.zipIdx k).foldl (fun cs (c, j) => cs.setIfInBounds (0 + j) c) cs = wr cs k vs := by
    intro vs
    induction vs with
    | nil => intro cs k _; rfl
    | cons v vs ih =>
      intro cs k hk
      simp only [List.zipIdx_cons, List.foldl_cons, wr, Nat.zero_add]
      simp only [List.length_cons] at hk
      have := ih (cs.setIfInBounds k v) (k + 1) (by simp; omega)
      simpa using this
  refine ⟨v.cells, ?_, fun b => ?_⟩
  · simp only [Instr.fill]
    have h0 : ((Array.range (1 * n)).map (fun x => z[x % z.size]!)).size = n := by simp
    rw [h0]
    have hc : ¬ ((decide (v.cells.size ≠ n) || decide (0 * n + v.cells.size > n)) = true) := by simp [hv]
    rw [if_neg hc]
    congr 1
    rw [← Array.foldl_toList]
    simp only [Array.toList_zipIdx, Nat.zero_mul]
    rw [hfold _ _ 0 (by rw [h0]; simp [hv]), wr_eq _ _ 0 (by rw [h0]; simp [hv])]
    apply Array.ext'
    simp [hv]
  · exact hk [(b, _)] _ ⟨by simp [hv], .inr ⟨b, 1, _, rfl, rfl, by omega, Nat.le_refl _, fun j u hu => by simpa using hu⟩⟩
theorem bld_one {I : Imm} {F : LH} {T n : Nat} {z : Array Value} {v : Value} {K : Value → M} (hz : z.size = n) (hn : 0 < n) (hv : v.cells.size = n)
    (hk : ∀ X u, SlO T n X u v.cells.toList 1 → K u I (X ++ F)) : BldS T n z 1 [(0, v)] (gh K) I F := bld_oneG hz hn hv (fun X u h => Gh.done (hk X u h))
theorem bld_zero {I : Imm} {F : LH} {T n : Nat} {z : Array Value} {K : Value → M} (hk : ∀ X u, SlO T n X u [] 0 → K u I (X ++ F)) : BldS T n z 0 [] (gh K) I F := by
  refine ⟨#[], by simp [Instr.fill], fun b => ?_⟩
  exact Gh.done (hk [(b, _)] _ ⟨by simp, .inr ⟨b, 0, _, rfl, rfl, by simp, Nat.le_refl _, fun j u hu => by simp at hu⟩⟩)
theorem mrk_own {I : Imm} {X L F : LH} [hsp : SplitL X L F] {T n len : Nat} {v : Value} {cells : List Value} {K : Value → M} (ho : SlO T n X v cells len) (hX : X ≠ [])
    (hk : ∀ I', Ext I I' → SlI I' n v cells len → K v I' F) : MrkS v (gh K) I L := by
  have hp := hsp.perm
  obtain ⟨hl, ho⟩ := ho
  rcases ho with ⟨rfl, _⟩ | ⟨b, cap, cs, rfl, rfl, hcs, hle, hc⟩
  · exact absurd rfl hX
  · have hmem : (b, Obj.cells cs T (0, 0)) ∈ L := hp.mem_iff.2 (List.mem_append_left _ (List.mem_singleton.2 rfl))
    obtain ⟨L1, L2, rfl⟩ := List.append_of_mem hmem
    have hF : (L1 ++ L2).Perm F := by
      have h2 : (L1 ++ (b, Obj.cells cs T (0, 0)) :: L2).Perm ((b, Obj.cells cs T (0, 0)) :: (L1 ++ L2)) := List.perm_middle
      exact (List.perm_cons _).1 (h2.symm.trans hp)
    refine ⟨b, 0, len, cap, cs, T, L1, L2, rfl, rfl, ?_⟩
    refine Gh.perm (List.perm_middle.trans (List.Perm.cons _ hF)) (Gh.freeze fun hext => Gh.done (hk _ hext ⟨hl, _, cap, rfl, hle, fun _ => ⟨b, 0, cs, T, _, rfl, by simp [Imm.put]; rfl, fun j u hu => by rw [Nat.zero_add]; exact hc j u hu⟩⟩))
/-! ### Elements, parts -/
theorem SlO.ix {T n len i : Nat} {X : LH} {v : Value} {cells : List Value} (h : SlO T n X v cells len) (k : IntKind) (hi : i < len) :
    ∃ b, ixV n v (.int k i) = some (.pointer (some ⟨b, i * n, Option.none⟩)) ∧ ∀ I L, (∀ x ∈ X, x ∈ L) → Cells I L b (i * n) ((cells.drop (i * n)).take n) := by
  obtain ⟨hl, h⟩ := h
  rcases h with ⟨rfl, rfl, a, rfl⟩ | ⟨b, cap, cs, rfl, rfl, hcs, hle, hc⟩
  · omega
  · refine ⟨b, by rw [ixV_in b 0 n k len cap i hi, Nat.zero_add], fun I L hX j u hu => ?_⟩
    rw [List.getElem?_take] at hu
    split at hu
    · rw [List.getElem?_drop] at hu
      exact Cell.own (hX _ (List.mem_singleton.2 rfl)) (hc _ u hu)
    · cases hu
theorem SlI.ix {I : Imm} {n len i : Nat} {v : Value} {cells : List Value} (h : SlI I n v cells len) (k : IntKind) (hi : i < len) :
    ∃ b off, ixV n v (.int k i) = some (.pointer (some ⟨b, off, none⟩)) ∧ ∀ I' L, Ext I I' → Cells I' L b off ((cells.drop (i * n)).take n) := by
  obtain ⟨hl, a, cap, rfl, hcap, h⟩ := h
  obtain ⟨b, off, cs, T, fr, rfl, hb, hcs⟩ := h (by omega)
  refine ⟨b, off + i * n, ixV_in b off n k len cap i hi, fun I' L hI j u hu => ?_⟩
  rw [List.getElem?_take] at hu
  split at hu
  · rw [List.getElem?_drop] at hu
    refine Cell.imm (hI _ _ hb) ?_
    have := hcs _ u hu
    rwa [← Nat.add_assoc] at this
  · cases hu
theorem bnd_in (k : IntKind) (i d y : Nat) (h : i ≤ y) : bndV (some (.int k i)) d y = some i := by
  simp only [bndV]; rw [if_pos (by omega)]; simp
theorem SlI.part {I : Imm} {n len lo hi : Nat} {v : Value} {cells : List Value} (h : SlI I n v cells len) (h1 : lo ≤ hi) (h2 : hi ≤ len) (blo bhi : Option Value)
    (hlo : ∀ y, hi ≤ y → bndV blo 0 y = some lo ∨ y ≠ hi) (hhi : ∀ cap, len ≤ cap → bndV bhi len cap = some hi) :
    ∃ v', slcV n v blo bhi none = some v' ∧ SlI I n v' ((cells.drop (lo * n)).take ((hi - lo) * n)) (hi - lo) := by
  obtain ⟨hl, a, cap, rfl, hcap, h⟩ := h
  have hb1 := hhi cap hcap
  have hb2 : bndV blo 0 hi = some lo := (hlo hi (Nat.le_refl _)).resolve_right (by simp)
  refine ⟨.slice (if cap = lo then a else a.map (·.add (lo * n))) (hi - lo) (cap - lo), ?_, ?_, _, _, rfl, by omega, fun h0 => ?_⟩
  · simp only [slcV]
    rw [if_neg (by simp)]
    simp only [bndV] at hb1 hb2 ⊢
    simp [hb1, hb2]
  · rw [List.length_take, List.length_drop, hl]
    apply Nat.min_eq_left
    rw [← Nat.sub_mul]
    exact Nat.mul_le_mul_right n (by omega)
  · obtain ⟨b, off, cs, T, fr, rfl, hb, hcs⟩ := h (by omega)
    refine ⟨b, off + lo * n, cs, T, fr, by rw [if_neg (by omega)]; simp [add_none], hb, fun j u hu => ?_⟩
    rw [List.getElem?_take] at hu
    split at hu
    · rw [List.getElem?_drop] at hu
      have := hcs _ u hu
      rwa [← Nat.add_assoc] at this
    · cases hu
/-! ### Bytes, ints -/
def u8s (l : List UInt8) : List Value := l.map fun c => .int .u8 c.toNat
def i64s (l : List Int) : List Value := l.map (.int .i64)
def Bytes (I : Imm) (v : Value) (l : List UInt8) : Prop := SlI I 1 v (u8s l) l.length
def Ints (I : Imm) (v : Value) (l : List Int) : Prop := SlI I 1 v (i64s l) l.length
theorem Bytes.mono {I I' : Imm} {v : Value} {l : List UInt8} (h : Bytes I v l) (hI : Ext I I') : Bytes I' v l := SlI.mono h hI
theorem Ints.mono {I I' : Imm} {v : Value} {l : List Int} (h : Ints I v l) (hI : Ext I I') : Ints I' v l := SlI.mono h hI
theorem Bytes.form {I : Imm} {v : Value} {l : List UInt8} (h : Bytes I v l) : ∃ a cap, v = .slice a l.length cap := by
  obtain ⟨_, a, cap, hv, _⟩ := h; exact ⟨a, cap, hv⟩
theorem Ints.form {I : Imm} {v : Value} {l : List Int} (h : Ints I v l) : ∃ a cap, v = .slice a l.length cap := by
  obtain ⟨_, a, cap, hv, _⟩ := h; exact ⟨a, cap, hv⟩
theorem u8s_one (l : List UInt8) : ∀ u ∈ u8s l, u.oneCell' = true := by
  intro u hu
  obtain ⟨c, _, rfl⟩ := List.mem_map.1 hu
  rfl
theorem Bytes.str {I : Imm} {L : LH} {v : Value} {l : List UInt8} (h : Bytes I v l) : bsR v I L (.string ⟨l.toArray⟩) := by
  rcases SlI.news (L := L) h with ⟨a, cap, rfl, hl, hn⟩ | ⟨b, off, cap, rfl, hl, hc⟩ | ⟨s, rfl, _⟩
  · have : l = [] := List.eq_nil_of_length_eq_zero hl
    subst this
    exact .inl ⟨a, cap, rfl, rfl⟩
  · exact .inr ⟨b, off, _, cap, l, rfl, rfl, hc, rfl⟩
  · obtain ⟨a, cap, hv⟩ := h.form; cases hv
/-! ### Records -/
def Recs {α : Type} (R : α → List Value → Prop) (n : Nat) : List α → List Value → Prop
  | [], cells => cells = []
  | x :: xs, cells => (cells.take n).length = n ∧ R x (cells.take n) ∧ Recs R n xs (cells.drop n)
section recs
variable {α : Type} {R R' : α → List Value → Prop} {n : Nat}
theorem Recs.length : ∀ {xs : List α} {cells : List Value}, Recs R n xs cells → cells.length = xs.length * n
  | [], cells, h => by rw [h]; simp
  | x :: xs, cells, ⟨h1, _, h2⟩ => by
    have := Recs.length h2
    rw [List.length_drop] at this
    rw [List.length_take] at h1
    simp only [List.length_cons, Nat.add_mul, Nat.one_mul]
    omega
theorem Recs.imp (hR : ∀ x c, R x c → R' x c) : ∀ {xs : List α} {cells : List Value}, Recs R n xs cells → Recs R' n xs cells
  | [], _, h => h
  | _ :: _, _, ⟨h1, h2, h3⟩ => ⟨h1, hR _ _ h2, Recs.imp hR h3⟩
theorem Recs.append : ∀ {xs ys : List α} {cs ds : List Value}, Recs R n xs cs → Recs R n ys ds → Recs R n (xs ++ ys) (cs ++ ds)
  | [], ys, cs, ds, h, h' => by rw [show cs = [] from h]; exact h'
  | x :: xs, ys, cs, ds, ⟨h1, h2, h3⟩, h' => by
    have hle : n ≤ cs.length := by rw [List.length_take] at h1; omega
    refine ⟨?_, ?_, ?_⟩
    · rw [List.take_append_of_le_length hle]; exact h1
    · rw [List.take_append_of_le_length hle]; exact h2
    · rw [List.drop_append_of_le_length hle]; exact Recs.append h3 h'
theorem Recs.one {x : α} {c : List Value} (hl : c.length = n) (h : R x c) : Recs R n [x] c := by
  refine ⟨by rw [List.take_of_length_le (by omega)]; exact hl, by rw [List.take_of_length_le (by omega)]; exact h, ?_⟩
  show c.drop n = []
  simp [hl]
theorem Recs.get : ∀ {xs : List α} {cells : List Value} {i : Nat} {x : α}, Recs R n xs cells → xs[i]? = some x → ((cells.drop (i * n)).take n).length = n ∧ R x ((cells.drop (i * n)).take n)
  | [], _, _, _, _, h => by simp at h
  | y :: ys, cells, 0, x, ⟨h1, h2, _⟩, h => by
    simp only [List.getElem?_cons_zero, Option.some.injEq] at h; subst h
    simpa using ⟨by simpa using h1, h2⟩
  | y :: ys, cells, i + 1, x, ⟨_, _, h3⟩, h => by
    have := Recs.get (i := i) h3 (by simpa using h)
    rw [List.drop_drop] at this
    rwa [show (i + 1) * n = n + i * n from by rw [Nat.add_mul]; omega]
theorem Recs.take : ∀ {xs : List α} {cells : List Value} (k : Nat), Recs R n xs cells → Recs R n (xs.take k) (cells.take (k * n))
  | [], cells, k, h => by rw [show cells = [] from h]; simp [Recs]
  | x :: xs, cells, 0, _ => by simp [Recs]
  | x :: xs, cells, k + 1, ⟨h1, h2, h3⟩ => by
    have hle : n ≤ (k + 1) * n := by rw [Nat.add_mul]; omega
    refine ⟨?_, ?_, ?_⟩
    · rw [List.take_take, Nat.min_eq_left hle]; exact h1
    · rw [List.take_take, Nat.min_eq_left hle]; exact h2
    · have := Recs.take k h3
      rw [List.drop_take]
      rwa [show (k + 1) * n - n = k * n from by rw [Nat.add_mul]; omega]
theorem Recs.drop : ∀ {xs : List α} {cells : List Value} (k : Nat), Recs R n xs cells → Recs R n (xs.drop k) (cells.drop (k * n))
  | [], cells, k, h => by rw [show cells = [] from h]; simp [Recs]
  | x :: xs, cells, 0, h => by simpa using h
  | x :: xs, cells, k + 1, ⟨_, _, h3⟩ => by
    have := Recs.drop k h3
    rw [List.drop_drop] at this
    rwa [show (k + 1) * n = n + k * n from by rw [Nat.add_mul]; omega]
end recs
end Go.SL
set_option linter.unusedSimpArgs false
set_option linter.unusedVariables false
namespace Go.SL
section
variable {I : Imm} {L : LH} {K : Value → M}
theorem unfE {A B : M} (e : A = B) (h : B I L) : A I L := e ▸ h
theorem leafB {b b' : Bool} (h : K (.bool b) I L) (e : b = b') : K (.bool b') I L := e ▸ h
end
end Go.SL
set_option linter.unusedSimpArgs false
set_option linter.unusedVariables false
set_option linter.unusedSectionVars false
namespace Go.SL
theorem Gd_tt (A B : M) : Gd (.bool true) true A B = A := rfl
theorem Gd_ft (A B : M) : Gd (.bool false) true A B = B := rfl
theorem Gd_tf (A B : M) : Gd (.bool true) false A B = B := rfl
theorem Gd_ff (A B : M) : Gd (.bool false) false A B = A := rfl
/-! ### Blocks among blocks -/
class LSub (L L' : LH) : Prop where
  sub : ∀ x ∈ L, x ∈ L'
instance (priority := 100) lsubRefl (L : LH) : LSub L L := ⟨fun _ h => h⟩
instance (priority := 110) lsubNil (L : LH) : LSub [] L := ⟨fun _ h => by cases h⟩
instance (priority := 90) lsubCons (L L' : LH) (y : Nat × Obj) [h : LSub L L'] : LSub L (y :: L') := ⟨fun x hx => List.mem_cons_of_mem _ (h.sub x hx)⟩
instance (priority := 90) lsubApp (L A L' : LH) [h : LSub L L'] : LSub L (A ++ L') := ⟨fun x hx => List.mem_append_right _ (h.sub x hx)⟩
instance (priority := 80) lsubAppL (L A L' : LH) [h : LSub L A] : LSub L (A ++ L') := ⟨fun x hx => List.mem_append_left _ (h.sub x hx)⟩
/-! ### Reads by what is known of cells, whatever lies on top -/
section readsC
variable {I I0 I1 : Imm} {L L0 X : LH} {K : Value → M} {b off n : Nat} {v : Value}
theorem Cells.mono {vs : List Value} (h : Cells I0 L0 b off vs) (hI : Ext I0 I) (hL : ∀ x ∈ L0, x ∈ L) : Cells I L b off vs := fun j u hu => (h j u hu).mono hI hL
theorem Cells.sub {vs : List Value} {k m : Nat} (h : Cells I L b off vs) : Cells I L b (off + k) ((vs.drop k).take m) := fun j u hu => by
  rw [List.getElem?_take] at hu
  split at hu
  · rw [List.getElem?_drop] at hu
    have := h (k + j) u hu
    rwa [← Nat.add_assoc] at this
  · cases hu
theorem rdC [hl : LSub L0 L] (hc : Cell I0 L0 b off v) (hI : Ext I0 I) (hk : K v I L) : Rv none (ld1R (.pointer (some ⟨b, off, none⟩))) K I L := rd1 (hc.mono hI hl.sub) hk
theorem rdCS [hl : LSub L0 X] (hc : Cell I0 L0 b off v) (hI : Ext I0 I1) (hk : K v I L) : Rv (some (Stay I1 X)) (ld1R (.pointer (some ⟨b, off, none⟩))) K I L := rd1I (hc.mono hI hl.sub) hk
theorem rdNC [hl : LSub L0 L] {vs : List Value} (hc : Cells I0 L0 b off vs) (hI : Ext I0 I) (hn : vs.length = n) (hk : K (.agg vs.toArray) I L) : Rv none (ldNR n (.pointer (some ⟨b, off, none⟩))) K I L := rdN hn (hc.mono hI hl.sub) hk
theorem rdNCS [hl : LSub L0 X] {vs : List Value} (hc : Cells I0 L0 b off vs) (hI : Ext I0 I1) (hn : vs.length = n) (hk : K (.agg vs.toArray) I L) : Rv (some (Stay I1 X)) (ldNR n (.pointer (some ⟨b, off, none⟩))) K I L := rdNI hn (hc.mono hI hl.sub) hk
theorem keepC [hl : LSub X L] (hI : Ext I0 I) (hk : K v I L) : Keep (Stay I0 X) K v I L := keepS hI hl.sub hk
theorem drawC {B : M → M} (h : B (Stay I L) I L) : Draw B I L := draw _ (Stay.start I L) h
end readsC
/-! ### Elements by a whole number -/
def geti {α : Type} [Inhabited α] (l : List α) (i : Int) : α := l.getD i.toNat default
theorem geti_nat {α : Type} [Inhabited α] {l : List α} {k : Nat} (h : k < l.length) : geti l (k : Int) = l[k] := by
  simp [geti, List.getD, h]
theorem geti_some {α : Type} [Inhabited α] {l : List α} {i : Int} (h0 : 0 ≤ i) (h1 : i < l.length) : l[i.toNat]? = some (geti l i) := by
  have : i.toNat < l.length := by omega
  simp [geti, List.getD, this]
theorem ixV_int (b off n : Nat) (k : IntKind) (len cap : Nat) (i : Int) (h0 : 0 ≤ i) (h1 : i < len) : ixV n (.slice (some ⟨b, off, none⟩) len cap) (.int k i) = some (.pointer (some ⟨b, off + i.toNat * n, none⟩)) := by
  simp only [ixV]; rw [if_pos ⟨h0, h1⟩]
theorem News.ix {I : Imm} {L : LH} {n m : Nat} {a : Option Addr} {cap : Nat} {cells : List Value} (h : News n (.slice a m cap) I L m cells) (k : IntKind) {i : Int} (h0 : 0 ≤ i) (h1 : i < m) :
    ∃ b off, ixV n (.slice a m cap) (.int k i) = some (.pointer (some ⟨b, off, none⟩)) ∧ ∀ I' L', Ext I I' → (∀ x ∈ L, x ∈ L') → Cells I' L' b off ((cells.drop (i.toNat * n)).take n) := by
  rcases h with ⟨a', cap', h2, h3, _⟩ | ⟨b, off, cap', h2, hl, hc⟩ | ⟨s, h2, _⟩
  · omega
  · simp only [Value.slice.injEq] at h2
    obtain ⟨rfl, _, rfl⟩ := h2
    refine ⟨b, off + i.toNat * n, ixV_int b off n k m cap i h0 h1, fun I' L' hI hL j u hu => ?_⟩
    rw [List.getElem?_take] at hu
    split at hu
    · rw [List.getElem?_drop] at hu
      have := (hc _ u hu).mono hI hL
      rwa [← Nat.add_assoc] at this
    · cases hu
  · cases h2
def RL {α : Type} (R : Imm → α → List Value → Prop) (n : Nat) (I : Imm) (L : LH) (v : Value) (xs : List α) : Prop :=
  ∃ a cap cells, v = .slice a xs.length cap ∧ xs.length ≤ cap ∧ News n v I L xs.length cells ∧ Recs (R I) n xs cells
section rl
variable {α : Type} {R : Imm → α → List Value → Prop} {n : Nat} {I I' : Imm} {L L' : LH} {v : Value} {xs : List α}
theorem RL.len (h : RL R n I L v xs) : lenV v = some (.int .i64 xs.length) := by
  obtain ⟨a, cap, cells, rfl, _⟩ := h; rfl
theorem RL.form (h : RL R n I L v xs) : ∃ a cap, v = .slice a xs.length cap := by
  obtain ⟨a, cap, cells, rfl, _⟩ := h; exact ⟨a, cap, rfl⟩
theorem News.mono {m : Nat} {news : List Value} (h : News n v I L m news) (hI : Ext I I') (hL : ∀ x ∈ L, x ∈ L') : News n v I' L' m news := by
  rcases h with h | ⟨b, off, cap, h1, h2, h3⟩ | h
  · exact .inl h
  · exact .inr (.inl ⟨b, off, cap, h1, h2, fun j u hu => (h3 j u hu).mono hI hL⟩)
  · exact .inr (.inr h)
theorem RL.mono (hR : ∀ x c, R I x c → R I' x c) (h : RL R n I L v xs) (hI : Ext I I') (hL : ∀ x ∈ L, x ∈ L') : RL R n I' L' v xs := by
  obtain ⟨a, cap, cells, hv, hc, hn, hr⟩ := h
  exact ⟨a, cap, cells, hv, hc, hn.mono hI hL, hr.imp hR⟩
theorem RL.ofI {cells : List Value} (h : SlI I n v cells xs.length) (hr : Recs (R I) n xs cells) : RL R n I L v xs := by
  have hn := SlI.news (L := L) h
  obtain ⟨_, a, cap, hv, hle, _⟩ := h
  exact ⟨a, cap, cells, hv, hle, hn, hr⟩
theorem RL.nil (a : Option Addr) (cap : Nat) : RL R n I L (.slice a 0 cap) [] := ⟨a, cap, [], rfl, Nat.zero_le _, .inl ⟨a, cap, rfl, rfl, rfl⟩, rfl⟩
theorem RL.ix [Inhabited α] (h : RL R n I L v xs) {i : Int} (h0 : 0 ≤ i) (h1 : i < xs.length) :
    ∃ b off c, ixV n v (.int .i64 i) = some (.pointer (some ⟨b, off, none⟩)) ∧ c.length = n ∧ R I (geti xs i) c ∧ ∀ I' L', Ext I I' → (∀ x ∈ L, x ∈ L') → Cells I' L' b off c := by
  obtain ⟨a, cap, cells, rfl, _, hn, hr⟩ := h
  obtain ⟨b, off, hix, hc⟩ := News.ix hn .i64 h0 h1
  obtain ⟨g1, g2⟩ := hr.get (geti_some h0 h1)
  exact ⟨b, off, _, hix, g1, g2, hc⟩
theorem RL.part (h : RL R n I L v xs) {lo hi : Nat} (h1 : lo ≤ hi) (h2 : hi ≤ xs.length) (blo bhi : Option Value) (hlo : bndV blo 0 hi = some lo) (hhi : ∀ cap, xs.length ≤ cap → bndV bhi xs.length cap = some hi) :
    ∃ v', slcV n v blo bhi none = some v' ∧ RL R n I L v' ((xs.drop lo).take (hi - lo)) := by
  obtain ⟨a, cap, cells, rfl, hcap, hn, hr⟩ := h
  have hb1 := hhi cap hcap
  have hlen : ((xs.drop lo).take (hi - lo)).length = hi - lo := by rw [List.length_take, List.length_drop]; omega
  refine ⟨.slice (if cap = lo then a else a.map (·.add (lo * n))) (hi - lo) (cap - lo), ?_, _, cap - lo, (cells.drop (lo * n)).take ((hi - lo) * n), by rw [hlen], by rw [hlen]; omega, ?_, ?_⟩
  · simp only [slcV]
    rw [if_neg (by simp)]
    simp only [bndV] at hb1 hlo ⊢
    simp [hb1, hlo]
  · rw [hlen]
    by_cases h0 : hi - lo = 0
    · rw [h0]; exact .inl ⟨_, _, rfl, rfl, by simp⟩
    · rcases hn with ⟨a', cap', e1, e2, _⟩ | ⟨b, off, cap', e1, hl, hc⟩ | ⟨s, e1, _⟩
      · omega
      · simp only [Value.slice.injEq] at e1
        obtain ⟨rfl, _, rfl⟩ := e1
        refine .inr (.inl ⟨b, off + lo * n, cap - lo, by rw [if_neg (by omega)]; simp [add_none], ?_, fun j u hu => ?_⟩)
        · rw [List.length_take, List.length_drop, hl]
          apply Nat.min_eq_left
          rw [← Nat.sub_mul]
          exact Nat.mul_le_mul_right n (by omega)
        · rw [List.getElem?_take] at hu
          split at hu
          · rw [List.getElem?_drop] at hu
            have := hc _ u hu
            rwa [← Nat.add_assoc] at this
          · cases hu
      · cases e1
  · exact (hr.drop lo).take (hi - lo)
end rl
/-! ### Lists that grow: owned ones, and unowned ones without room -/
def GrO (I : Imm) (T n : Nat) (X : LH) (v : Value) (cells : List Value) (len : Nat) : Prop :=
  SlO T n X v cells len ∨ (X = [] ∧ (∃ a, v = .slice a len len) ∧ SlI I n v cells len)
theorem GrO.mono {I I' : Imm} {T n : Nat} {X : LH} {v : Value} {cells : List Value} {len : Nat} (h : GrO I T n X v cells len) (hI : Ext I I') : GrO I' T n X v cells len := by
  rcases h with h | ⟨h1, h2, h3⟩
  · exact .inl h
  · exact .inr ⟨h1, h2, h3.mono hI⟩
theorem GrO.news {I : Imm} {T n len : Nat} {X F : LH} {v : Value} {cells : List Value} (h : GrO I T n X v cells len) (hF : ∀ x ∈ X, x ∈ F) : News n v I F len cells := by
  rcases h with h | ⟨h1, h2, h3⟩
  · exact h.news hF
  · exact SlI.news h3
theorem GrO.form {I : Imm} {T n len : Nat} {X : LH} {v : Value} {cells : List Value} (h : GrO I T n X v cells len) : ∃ a cap, v = .slice a len cap ∧ len ≤ cap := by
  rcases h with h | ⟨h1, ⟨a, h2⟩, h3⟩
  · obtain ⟨_, h⟩ := h
    rcases h with ⟨_, rfl, a, rfl⟩ | ⟨b, cap, cs, _, rfl, _, hle, _⟩
    · exact ⟨a, 0, rfl, Nat.le_refl _⟩
    · exact ⟨_, cap, rfl, hle⟩
  · exact ⟨a, len, h2, Nat.le_refl _⟩
theorem GrO.freeze {A : M} {I : Imm} {T n len : Nat} {X F : LH} {v : Value} {cells : List Value} (h : GrO I T n X v cells len) (hk : ∀ I', Ext I I' → SlI I' n v cells len → Gh A I' F) : Gh A I (X ++ F) := by
  rcases h with h | ⟨rfl, _, h3⟩
  · exact SlO.freeze h hk
  · exact hk I (Ext.refl I) h3
/-! ### Elements that are set -/
end Go.SL
set_option linter.unusedSimpArgs false
set_option linter.unusedVariables false
set_option linter.unusedSectionVars false
namespace Go.SL
def heapI (w : World) : Imm := fun b => w.heap[b]?
def omOf (w : World) : Om := ⟨w.tape, w.os, w.output, w.drawn⟩
theorem st_start (w : World) : St (omOf w) w (heapI w) [] := ⟨fun _ _ h => h, fun _ _ h => (List.not_mem_nil h).elim, List.nodup_nil, fun _ _ h => (List.not_mem_nil h).elim, rfl, rfl, rfl, Nat.le_refl _⟩
theorem law_below {P : Program} {f : FuncId} {args : Array Value} {w : World} (h : ∀ ω, Cal P ω f args (fun v I' _ => v = .bool true ∧ Ext (heapI w) I') (heapI w) []) :
    Calls P f args w fun e w' => e = .returned (.bool true) ∧ RowKit.Below w.heap.size w w' := by
  refine (h (omOf w) w (st_start w)).mono ?_
  rintro e w' ⟨v, I', L', rfl, hs, rfl, hI⟩
  have hblk : ∀ k, k < w.heap.size → w'.heap[k]? = w.heap[k]? := by
    intro k hk
    have h1 : heapI w k = some w.heap[k] := Array.getElem?_eq_getElem hk
    rw [hs.imm k _ (hI k _ h1)]
    exact h1.symm
  refine ⟨rfl, hs.os, hs.tape, hs.out, ?_, hblk⟩
  rcases Nat.eq_zero_or_pos w.heap.size with h0 | h0
  · omega
  · have := hblk (w.heap.size - 1) (by omega)
    rw [Array.getElem?_eq_getElem (by omega : w.heap.size - 1 < w.heap.size)] at this
    have := (Array.getElem?_eq_some_iff.1 this).1
    omega
def TrR (rz : Nat) (P : Program) (w : World) (T : TypeId) (cs : List Value) : Prop :=
  ∃ (H : Type) (enc : TypeId × Value → H) (fuel : Nat) (d : DataW H) (ps : List MemPlace), DataW.trod enc P w 0 (fun _ => true) true fuel T cs = some (d, ps) ∧ (d.weights P T).all (· ≤ rz) = true
abbrev Tr := TrR reachBytes
section
variable {rz : Nat} {P : Program} {w : World} {T : TypeId} {cs : List Value}
theorem tr_int {k : IntKind} (hu : P.underlying T = some (.int k)) (h : TrR rz P w T cs) : ∃ n, cs = [.int k n] ∧ (Lit.int k n).wf = true := by
  obtain ⟨H, enc, fuel, d, ps, h, _⟩ := h
  cases fuel with
  | zero => simp [DataW.trod] at h
  | succ fuel =>
    simp only [DataW.trod, hu] at h
    split at h <;> simp_all
theorem tr_bool (hu : P.underlying T = some .bool) (h : TrR rz P w T cs) : ∃ b, cs = [.bool b] := by
  obtain ⟨H, enc, fuel, d, ps, h, _⟩ := h
  cases fuel with
  | zero => simp [DataW.trod] at h
  | succ fuel =>
    simp only [DataW.trod, hu] at h
    split at h <;> simp_all
theorem tr_struct {fs : Array Field} (hu : P.underlying T = some (.struct fs)) (h : TrR rz P w T cs) : cs.length = P.cellsOf T ∧ ∀ f ∈ fs.toList, TrR rz P w f.type ((cs.drop f.offset).take (P.cellsOf f.type)) := by
  obtain ⟨H, enc, fuel, d, ps, h, hw⟩ := h
  cases fuel with
  | zero => simp [DataW.trod] at h
  | succ fuel =>
    have h' : (if cs.length = P.cellsOf T then (fs.toList.mapM fun f => DataW.trod enc P w 0 (fun _ => true) true fuel f.type ((cs.drop f.offset).take (P.cellsOf f.type))).map fun xs => (DataW.agg (xs.map (·.1)), xs.flatMap (·.2)) else none) = some (d, ps) := by
      rw [← h]
      simp only [DataW.trod, hu]
    split at h'
    · rename_i hlen
      refine ⟨hlen, ?_⟩
      obtain ⟨xs, hxs, hd⟩ := Option.map_eq_some_iff.1 h'
      simp only [Prod.mk.injEq] at hd
      obtain ⟨rfl, _⟩ := hd
      simp only [DataW.weights, hu] at hw
      have key : ∀ (l : List Field) (xs : List (DataW H × List MemPlace)), (l.mapM fun f => DataW.trod enc P w 0 (fun _ => true) true fuel f.type ((cs.drop f.offset).take (P.cellsOf f.type))) = some xs →
          (DataW.weightsEach P (l.map (·.type)) (xs.map (·.1))).all (· ≤ rz) = true → ∀ f ∈ l, TrR rz P w f.type ((cs.drop f.offset).take (P.cellsOf f.type)) := by
        intro l
        induction l with
        | nil => intro xs _ _ f hf; cases hf
        | cons g l ih =>
          intro xs hxs hw f hf
          simp only [List.mapM_cons, Option.bind_eq_bind, Option.bind_eq_some_iff] at hxs
          obtain ⟨y, hy, ys, hys, he⟩ := hxs
          simp only [Option.pure_def, Option.some.injEq] at he
          subst he
          simp only [List.map_cons, DataW.weightsEach, List.all_append, Bool.and_eq_true] at hw
          rcases List.mem_cons.1 hf with rfl | hf
          · exact ⟨H, enc, fuel, y.1, y.2, hy, hw.1⟩
          · exact ih ys hys hw.2 f hf
      exact key fs.toList xs hxs hw
    · cases h'
theorem mapM_len {α β : Type} {f : α → Option β} : ∀ (l : List α) (r : List β), l.mapM f = some r → r.length = l.length
  | [], r, h => by simp at h; subst h; rfl
  | x :: l, r, h => by
    simp only [List.mapM_cons, Option.bind_eq_bind, Option.bind_eq_some_iff] at h
    obtain ⟨y, _, ys, hys, he⟩ := h
    simp only [Option.pure_def, Option.some.injEq] at he
    subst he
    simp [mapM_len l ys hys]
theorem mapM_get {α β : Type} {f : α → Option β} : ∀ (l : List α) (r : List β), l.mapM f = some r → ∀ (i : Nat) (x : α), l[i]? = some x → ∃ y, r[i]? = some y ∧ f x = some y
  | [], r, h, i, x, hx => by simp at hx
  | z :: l, r, h, i, x, hx => by
    simp only [List.mapM_cons, Option.bind_eq_bind, Option.bind_eq_some_iff] at h
    obtain ⟨y, hy, ys, hys, he⟩ := h
    simp only [Option.pure_def, Option.some.injEq] at he
    subst he
    cases i with
    | zero => simp at hx; subst hx; exact ⟨y, rfl, hy⟩
    | succ i => simpa using mapM_get l ys hys i x (by simpa using hx)
theorem tr_slice {e : TypeId} (hu : P.underlying T = some (.slice e)) (h : TrR rz P w T cs) :
    ∃ a len cap, cs = [.slice a len cap] ∧ len ≤ cap ∧ len * P.bytesOf e ≤ rz ∧
      ((a = none ∧ len = 0 ∧ cap = 0) ∨ ∃ ad, a = some ad ∧ ∀ i, i < len → ∃ ec, w.cells? 0 (ad.add (i * P.cellsOf e)) (P.cellsOf e) = some ec ∧ TrR rz P w e ec) := by
  obtain ⟨H, enc, fuel, d, ps, h, hw⟩ := h
  cases fuel with
  | zero => simp [DataW.trod] at h
  | succ fuel =>
    simp only [DataW.trod, hu] at h
    split at h <;> try (simp_all; done)
    · exact ⟨none, 0, 0, rfl, Nat.le_refl _, by simp, .inl ⟨rfl, rfl, rfl⟩⟩
    · rename_i e' ad len cap he
      simp only [Option.some.injEq, TypeDesc.slice.injEq] at he
      subst he
      split at h
      · rename_i hc
        simp only [Option.bind_eq_some_iff] at h
        obtain ⟨elems, hel, h⟩ := h
        simp only [if_true, Option.map_eq_some_iff] at h
        obtain ⟨rest, hrest, h⟩ := h
        simp only [Prod.mk.injEq] at h
        obtain ⟨rfl, _⟩ := h
        simp only [DataW.weights, hu, List.all_cons, List.all_append, Bool.and_eq_true, decide_eq_true_eq, List.length_map] at hw
        have hlen : elems.length = len := by have := mapM_len _ _ hel; simpa using this
        refine ⟨some ad, len, cap, rfl, hc.2.1, ?_, .inr ⟨ad, rfl, ?_⟩⟩
        · refine Nat.le_trans ?_ hw.1
          exact Nat.mul_le_mul_right _ (by omega)
        · have key : ∀ (l : List Nat) (xs : List (DataW H × List MemPlace)), (l.mapM fun i => (w.cells? 0 (ad.add (i * P.cellsOf e)) (P.cellsOf e)).bind (DataW.trod enc P w 0 (fun _ => true) true fuel e)) = some xs →
              (DataW.weightsAll P e (xs.map (·.1))).all (· ≤ rz) = true → ∀ i ∈ l, ∃ ec, w.cells? 0 (ad.add (i * P.cellsOf e)) (P.cellsOf e) = some ec ∧ TrR rz P w e ec := by
            intro l
            induction l with
            | nil => intro xs _ _ f hf; cases hf
            | cons g l ih =>
              intro xs hxs hw i hi
              simp only [List.mapM_cons, Option.bind_eq_bind, Option.bind_eq_some_iff] at hxs
              obtain ⟨y, ⟨ec, hec, hy⟩, ys, hys, he⟩ := hxs
              simp only [Option.pure_def, Option.some.injEq] at he
              subst he
              simp only [List.map_cons, DataW.weightsAll, List.all_append, Bool.and_eq_true] at hw
              rcases List.mem_cons.1 hi with rfl | hi
              · exact ⟨ec, hec, H, enc, fuel, y.1, y.2, hy, hw.1⟩
              · exact ih ys hys hw.2 i hi
          exact fun i hi => key (List.range len) elems hel hw.2.1 i (List.mem_range.2 hi)
      · cases h
theorem tr_slI {e : TypeId} (hu : P.underlying T = some (.slice e)) (hn : 0 < P.cellsOf e) {v : Value} (h : TrR rz P w T [v]) :
    ∃ cells len, SlI (heapI w) (P.cellsOf e) v cells len ∧ len * P.bytesOf e ≤ rz ∧ ∀ i, i < len → TrR rz P w e ((cells.drop (i * P.cellsOf e)).take (P.cellsOf e)) := by
  obtain ⟨a, len, cap, hcs, hle, hb, h2⟩ := tr_slice hu h
  simp only [List.cons.injEq, and_true] at hcs
  subst hcs
  clear h
  have h := h2
  generalize hN : P.cellsOf e = n at *
  rcases h with ⟨rfl, rfl, rfl⟩ | ⟨ad, rfl, h⟩
  · exact ⟨[], 0, SlI.nil _ _ _ _, by simp, fun i hi => by omega⟩
  · by_cases h0 : len = 0
    · subst h0
      exact ⟨[], 0, SlI.nil _ _ _ _, by simp, fun i hi => by omega⟩
    · have hcell : ∀ i, i < len → ∀ j, j < n → ∃ u, w.cell? ((ad.add (i * n)).add j) = some u := by
        intro i hi j hj
        obtain ⟨ec, hec, _⟩ := h i hi
        unfold World.cells? at hec
        split at hec
        · obtain ⟨y, _, hy⟩ := mapM_get _ _ hec j j (List.getElem?_range hj)
          exact ⟨y, hy⟩
        · cases hec
      obtain ⟨u0, hu0⟩ := hcell 0 (by omega) 0 hn
      obtain ⟨b, off, sp⟩ := ad
      have hsp : sp = none ∧ ∃ c T' fr, w.heap[b]? = some (.cells c T' fr) := by
        simp only [Addr.add, Nat.zero_mul, if_true] at hu0
        unfold World.cell? at hu0
        split at hu0
        · rename_i c T' fr hb
          simp only at hu0 hb
          cases sp with
          | none => exact ⟨rfl, c, T', fr, hb⟩
          | some s => simp at hu0
        · cases hu0
      obtain ⟨rfl, c, T', fr, hblk⟩ := hsp
      have hget : ∀ i, i < len → ∀ j, j < n → ∃ u, c[off + i * n + j]? = some u := by
        intro i hi j hj
        obtain ⟨u, hu⟩ := hcell i hi j hj
        rw [add_none, add_none] at hu
        simp only [World.cell?, hblk] at hu
        exact ⟨u, by simpa using hu⟩
      have hlast := hget (len - 1) (by omega) (n - 1) (by omega)
      obtain ⟨ul, hul⟩ := hlast
      have hsz : off + len * n ≤ c.size := by
        have := (Array.getElem?_eq_some_iff.1 hul).1
        have e1 : (len - 1) * n + n = len * n := by rw [← Nat.succ_mul]; congr 1; omega
        omega
      have hclen : ((c.toList.drop off).take (len * n)).length = len * n := by
        rw [List.length_take, List.length_drop, Array.length_toList]; omega
      refine ⟨(c.toList.drop off).take (len * n), len, ⟨hclen, _, cap, rfl, hle, fun _ => ⟨b, off, c, T', fr, rfl, hblk, fun j u hu => ?_⟩⟩, hb, fun i hi => ?_⟩
      · rw [List.getElem?_take] at hu
        split at hu
        · rw [List.getElem?_drop] at hu
          simpa using hu
        · cases hu
      · obtain ⟨ec, hec, htr⟩ := h i hi
        have : ((((c.toList.drop off).take (len * n)).drop (i * n)).take n) = ec := by
          unfold World.cells? at hec
          split at hec
          · apply List.ext_getElem?
            intro j
            have hln := mapM_len _ _ hec
            simp only [List.length_range] at hln
            have hin : i * n + n ≤ len * n := by rw [← Nat.succ_mul]; exact Nat.mul_le_mul_right n hi
            by_cases hj : j < n
            · obtain ⟨y, hy, hcy⟩ := mapM_get _ _ hec j j (List.getElem?_range hj)
              rw [hy, List.getElem?_take, if_pos hj, List.getElem?_drop, List.getElem?_take, if_pos (by omega), List.getElem?_drop]
              rw [add_none, add_none] at hcy
              simp only [World.cell?, hblk] at hcy
              simp only [Array.getElem?_toList]
              rw [show off + (i * n + j) = off + i * n + j from by omega]
              simpa using hcy
            · rw [List.getElem?_take, if_neg hj]
              rw [List.getElem?_eq_none (by omega)]
          · cases hec
        rw [this]
        exact htr
theorem recs_of {α : Type} {R : α → List Value → Prop} {n : Nat} : ∀ (len : Nat) (cells : List Value), cells.length = len * n → (∀ i, i < len → ∃ x, R x ((cells.drop (i * n)).take n)) → ∃ xs : List α, xs.length = len ∧ Recs R n xs cells
  | 0, cells, hl, _ => ⟨[], rfl, List.eq_nil_of_length_eq_zero (by simpa using hl)⟩
  | len + 1, cells, hl, h => by
    obtain ⟨x, hx⟩ := h 0 (by omega)
    simp only [Nat.zero_mul, List.drop_zero] at hx
    have hl' : cells.length = len * n + n := by rw [hl, Nat.add_mul]; omega
    obtain ⟨xs, hxl, hR⟩ := recs_of (R := R) (n := n) len (cells.drop n) (by rw [List.length_drop]; omega) (fun i hi => by
      obtain ⟨y, hy⟩ := h (i + 1) (by omega)
      refine ⟨y, ?_⟩
      rw [List.drop_drop]
      rwa [show n + i * n = (i + 1) * n from by rw [Nat.add_mul]; omega])
    exact ⟨x :: xs, by simp [hxl], by rw [List.length_take]; omega, hx, hR⟩
theorem tr_recs {α : Type} {R : α → List Value → Prop} {e : TypeId} (hu : P.underlying T = some (.slice e)) (hn : 0 < P.cellsOf e) {v : Value} (h : TrR rz P w T [v]) (hR : ∀ c, TrR rz P w e c → ∃ x, R x c) :
    ∃ cells, ∃ xs : List α, SlI (heapI w) (P.cellsOf e) v cells xs.length ∧ Recs R (P.cellsOf e) xs cells ∧ xs.length * P.bytesOf e ≤ rz := by
  obtain ⟨cells, len, hS, hb, hT⟩ := tr_slI hu hn h
  obtain ⟨xs, hxl, hRR⟩ := recs_of (R := R) len cells hS.1 (fun i hi => hR _ (hT i hi))
  subst hxl
  exact ⟨cells, xs, hS, hRR, hb⟩
theorem wf_u8 {n : Int} (h : (Lit.int .u8 n).wf = true) : 0 ≤ n ∧ n ≤ 255 := by
  have e1 : IntKind.u8.min = 0 := by decide
  have e2 : IntKind.u8.max = 255 := by decide
  simp only [Lit.wf, e1, e2, Bool.and_eq_true, decide_eq_true_eq] at h
  exact h
theorem wf_i64 {n : Int} (h : (Lit.int .i64 n).wf = true) : -9223372036854775808 ≤ n ∧ n ≤ 9223372036854775807 := by
  have e1 : IntKind.i64.min = -9223372036854775808 := by decide
  have e2 : IntKind.i64.max = 9223372036854775807 := by decide
  simp only [Lit.wf, e1, e2, Bool.and_eq_true, decide_eq_true_eq] at h
  exact h
theorem tr_bytes {e : TypeId} (hu : P.underlying T = some (.slice e)) (he : P.underlying e = some (.int .u8)) (hn : P.cellsOf e = 1) (hb : P.bytesOf e = 1) {v : Value} (h : TrR rz P w T [v]) :
    ∃ l, Bytes (heapI w) v l ∧ l.length ≤ rz := by
  obtain ⟨cells, xs, hS, hR, hlen⟩ := tr_recs (R := fun (x : UInt8) c => c = [.int .u8 x.toNat]) hu (by omega) h (fun c hc => by
    obtain ⟨n, rfl, hwf⟩ := tr_int he hc
    obtain ⟨h1, h2⟩ := wf_u8 hwf
    refine ⟨UInt8.ofNat n.toNat, ?_⟩
    simp; omega)
  rw [hn] at hS hR
  refine ⟨xs, ?_, by rw [hb] at hlen; omega⟩
  have : cells = u8s xs := by
    clear hS hlen
    induction xs generalizing cells with
    | nil => exact hR
    | cons x xs ih =>
      obtain ⟨h1, h2, h3⟩ := hR
      have := ih _ h3
      rw [← List.take_append_drop 1 cells, h2, this]
      rfl
  subst this
  exact hS
/-! ### An argument -/
variable {r : Reach} {base : Nat} {v : Value}
theorem top_slice {e : TypeId} (hu : P.underlying T = some (.slice e)) (o : Value.okWide P w r base T v) (t : TrR rz P w T v.cells.toList) : TrR rz P w T [v] := by
  obtain ⟨a, len, cap, rfl⟩ := WideShapes.okWide_slice hu o
  exact t
end
end Go.SL
set_option linter.unusedSimpArgs false
set_option linter.unusedVariables false
set_option linter.unusedSectionVars false
namespace Go.SL
def inI64 (n : Int) : Prop := -9223372036854775808 ≤ n ∧ n ≤ 9223372036854775807
def str (l : List UInt8) : Value := .string ⟨l.toArray⟩
def StrV (_ : Imm) (x : List UInt8) (c : List Value) : Prop := c = [.string ⟨x.toArray⟩]
def BysV (I : Imm) (x : List UInt8) (c : List Value) : Prop := ∃ v, c = [v] ∧ Bytes I v x
def IntsV (I : Imm) (x : List Int) (c : List Value) : Prop := ∃ v, c = [v] ∧ Ints I v x
def IntV (k : IntKind) (_ : Imm) (x : Int) (c : List Value) : Prop := c = [.int k x]
def BoolV (_ : Imm) (x : Bool) (c : List Value) : Prop := c = [.bool x]
theorem StrV.mono {I I' : Imm} {x : List UInt8} {c : List Value} (h : StrV I x c) (hI : Ext I I') : StrV I' x c := h
theorem IntV.mono {k : IntKind} {I I' : Imm} {x : Int} {c : List Value} (h : IntV k I x c) (hI : Ext I I') : IntV k I' x c := h
theorem BoolV.mono {I I' : Imm} {x : Bool} {c : List Value} (h : BoolV I x c) (hI : Ext I I') : BoolV I' x c := h
theorem BysV.mono {I I' : Imm} {x : List UInt8} {c : List Value} (h : BysV I x c) (hI : Ext I I') : BysV I' x c := by
  obtain ⟨v, hc, h⟩ := h; exact ⟨v, hc, h.mono hI⟩
theorem IntsV.mono {I I' : Imm} {x : List Int} {c : List Value} (h : IntsV I x c) (hI : Ext I I') : IntsV I' x c := by
  obtain ⟨v, hc, h⟩ := h; exact ⟨v, hc, h.mono hI⟩
theorem StrV.one {I : Imm} {x : List UInt8} {c : List Value} (h : StrV I x c) : ∀ u ∈ c, u.oneCell' = true := by
  rw [show c = _ from h]; exact one_all rfl
theorem BysV.one {I : Imm} {x : List UInt8} {c : List Value} (h : BysV I x c) : ∀ u ∈ c, u.oneCell' = true := by
  obtain ⟨v, rfl, h⟩ := h
  obtain ⟨_, _, rfl⟩ := Bytes.form h
  exact one_all rfl
theorem IntsV.one {I : Imm} {x : List Int} {c : List Value} (h : IntsV I x c) : ∀ u ∈ c, u.oneCell' = true := by
  obtain ⟨v, rfl, h⟩ := h
  obtain ⟨_, _, rfl⟩ := Ints.form h
  exact one_all rfl
theorem StrV.len {I : Imm} {x : List UInt8} {c : List Value} (h : StrV I x c) : c.length = 1 := by rw [show c = _ from h]; rfl
theorem BysV.len {I : Imm} {x : List UInt8} {c : List Value} (h : BysV I x c) : c.length = 1 := by
  obtain ⟨v, rfl, h⟩ := h; rfl
theorem IntsV.len {I : Imm} {x : List Int} {c : List Value} (h : IntsV I x c) : c.length = 1 := by
  obtain ⟨v, rfl, h⟩ := h; rfl
theorem Ints.len {I : Imm} {v : Value} {l : List Int} (h : Ints I v l) : lenV v = some (.int .i64 l.length) := by
  obtain ⟨_, a, c, rfl, _⟩ := h
  rfl
theorem Bytes.len {I : Imm} {v : Value} {l : List UInt8} (h : Bytes I v l) : lenV v = some (.int .i64 l.length) := by
  obtain ⟨_, a, c, rfl, _⟩ := h
  rfl
theorem recs_all {α : Type} {R : α → List Value → Prop} {B : α → Prop} {n : Nat} (hB : ∀ x c, R x c → B x) : ∀ {xs : List α} {cells : List Value}, Recs R n xs cells → ∀ x ∈ xs, B x
  | [], _, _, x, hx => by cases hx
  | y :: ys, _, ⟨_, h2, h3⟩, x, hx => by
    rcases List.mem_cons.1 hx with rfl | hx
    · exact hB _ _ h2
    · exact recs_all hB h3 x hx
section
variable {rz : Nat} {P : Program} {W : World} {T : TypeId}
theorem tr_field {cs : List Value} {fs : Array Field} {f : Field} (i : Nat) {n : Nat} (hu : P.underlying T = some (.struct fs)) (h : TrR rz P W T cs) (hi : fs.toList[i]? = some f) (hc : P.cellsOf f.type = n) :
    TrR rz P W f.type ((cs.drop f.offset).take n) := by
  have := (tr_struct hu h).2 f (List.mem_of_getElem? hi)
  rwa [hc] at this
end
end Go.SL
set_option linter.unusedSimpArgs false
set_option linter.unusedVariables false
namespace Go.Proofs.YtmmfcgbfbcamcaaGreatDoor
open Go.SL
set_option maxRecDepth 10000
structure TStamp where
  fWall : Int
  fLogic : Int
instance : Inhabited TStamp := ⟨⟨0, 0⟩⟩
def TStampV (I : Imm) (x : TStamp) (c : List Value) : Prop := c = [.int .i64 x.fWall, .int .i64 x.fLogic]
theorem TStampV.mono {I I' : Imm} {x : TStamp} {c : List Value} (h : TStampV I x c) (hI : Ext I I') : TStampV I' x c := by
  obtain rfl := h
  exact rfl
theorem TStampV.len {I : Imm} {x : TStamp} {c : List Value} (h : TStampV I x c) : c.length = 2 := by
  obtain rfl := h
  rfl
theorem TStampV.one {I : Imm} {x : TStamp} {c : List Value} (h : TStampV I x c) : ∀ u ∈ c, u.oneCell' = true := by
  obtain rfl := h
  exact one_all rfl
theorem TStampV.zero (I : Imm) : TStampV I default [.int .i64 0, .int .i64 0] := rfl
def TStampB (rz : Nat) (x : TStamp) : Prop := inI64 x.fWall ∧ inI64 x.fLogic
theorem ceTStamp : Tryz.prog.cellsOf 41 = 2 := by kernel_rfl
theorem TStamp_open {rz : Nat} {W : World} {cs : List Value} (h : TrR rz Tryz.prog W 41 cs) : ∃ x, TStampB rz x ∧ TStampV (heapI W) x cs := by
  have hl := (tr_struct Tryz.underlying41 h).1
  rw [ceTStamp] at hl
  obtain ⟨c0, c1, rfl⟩ : ∃ c0 c1, cs = [c0, c1] := by
    match cs, hl with
    | [c0, c1], _ => exact ⟨c0, c1, rfl⟩
  obtain ⟨n0, e0, w0⟩ := tr_int Tryz.underlying3 (cs := [c0]) (tr_field 0 Tryz.underlying41 h rfl (n := 1) (by kernel_rfl))
  simp only [List.cons.injEq, and_true] at e0
  subst e0
  obtain ⟨n1, e1, w1⟩ := tr_int Tryz.underlying3 (cs := [c1]) (tr_field 1 Tryz.underlying41 h rfl (n := 1) (by kernel_rfl))
  simp only [List.cons.injEq, and_true] at e1
  subst e1
  exact ⟨⟨n0, n1⟩, ⟨wf_i64 w0, wf_i64 w1⟩, rfl⟩
structure TSpan where
  fFrom : List UInt8
  fTo : List UInt8
instance : Inhabited TSpan := ⟨⟨[], []⟩⟩
def TSpanV (I : Imm) (x : TSpan) (c : List Value) : Prop := ∃ v0 v1, c = [v0, v1] ∧ Bytes I v0 x.fFrom ∧ Bytes I v1 x.fTo
theorem TSpanV.mono {I I' : Imm} {x : TSpan} {c : List Value} (h : TSpanV I x c) (hI : Ext I I') : TSpanV I' x c := by
  obtain ⟨v0, v1, rfl, h0, h1⟩ := h
  exact ⟨v0, v1, rfl, h0.mono hI, h1.mono hI⟩
theorem TSpanV.len {I : Imm} {x : TSpan} {c : List Value} (h : TSpanV I x c) : c.length = 2 := by
  obtain ⟨v0, v1, rfl, h0, h1⟩ := h
  rfl
theorem TSpanV.one {I : Imm} {x : TSpan} {c : List Value} (h : TSpanV I x c) : ∀ u ∈ c, u.oneCell' = true := by
  obtain ⟨v0, v1, rfl, h0, h1⟩ := h
  obtain ⟨_, _, rfl⟩ := Bytes.form h0
  obtain ⟨_, _, rfl⟩ := Bytes.form h1
  exact one_all rfl
theorem TSpanV.zero (I : Imm) : TSpanV I default [.slice none 0 0, .slice none 0 0] := ⟨_, _, rfl, SlI.nil I 1 none 0, SlI.nil I 1 none 0⟩
def TSpanB (rz : Nat) (x : TSpan) : Prop := x.fFrom.length ≤ rz ∧ x.fTo.length ≤ rz
theorem ceTSpan : Tryz.prog.cellsOf 31 = 2 := by kernel_rfl
theorem TSpan_open {rz : Nat} {W : World} {cs : List Value} (h : TrR rz Tryz.prog W 31 cs) : ∃ x, TSpanB rz x ∧ TSpanV (heapI W) x cs := by
  have hl := (tr_struct Tryz.underlying31 h).1
  rw [ceTSpan] at hl
  obtain ⟨c0, c1, rfl⟩ : ∃ c0 c1, cs = [c0, c1] := by
    match cs, hl with
    | [c0, c1], _ => exact ⟨c0, c1, rfl⟩
  obtain ⟨n0, h0, w0⟩ := tr_bytes Tryz.underlying29 Tryz.underlying5 (by kernel_rfl) (by kernel_rfl) (v := c0) (tr_field 0 Tryz.underlying31 h rfl (n := 1) (by kernel_rfl))
  obtain ⟨n1, h1, w1⟩ := tr_bytes Tryz.underlying29 Tryz.underlying5 (by kernel_rfl) (by kernel_rfl) (v := c1) (tr_field 1 Tryz.underlying31 h rfl (n := 1) (by kernel_rfl))
  exact ⟨⟨n0, n1⟩, ⟨w0, w1⟩, ⟨_, _, rfl, h0, h1⟩⟩
structure TGot where
  fFound : Bool
  fValue : List UInt8
  fAt : TStamp
  fBy : Int
instance : Inhabited TGot := ⟨⟨false, [], default, 0⟩⟩
def TGotV (I : Imm) (x : TGot) (c : List Value) : Prop := ∃ v0, c = [.bool x.fFound, v0, .int .i64 x.fAt.fWall, .int .i64 x.fAt.fLogic, .int .i64 x.fBy] ∧ Bytes I v0 x.fValue
theorem TGotV.mono {I I' : Imm} {x : TGot} {c : List Value} (h : TGotV I x c) (hI : Ext I I') : TGotV I' x c := by
  obtain ⟨v0, rfl, h0⟩ := h
  exact ⟨v0, rfl, h0.mono hI⟩
theorem TGotV.len {I : Imm} {x : TGot} {c : List Value} (h : TGotV I x c) : c.length = 5 := by
  obtain ⟨v0, rfl, h0⟩ := h
  rfl
theorem TGotV.one {I : Imm} {x : TGot} {c : List Value} (h : TGotV I x c) : ∀ u ∈ c, u.oneCell' = true := by
  obtain ⟨v0, rfl, h0⟩ := h
  obtain ⟨_, _, rfl⟩ := Bytes.form h0
  exact one_all rfl
theorem TGotV.zero (I : Imm) : TGotV I default [.bool false, .slice none 0 0, .int .i64 0, .int .i64 0, .int .i64 0] := ⟨_, rfl, SlI.nil I 1 none 0⟩
structure TKV where
  fKey : List UInt8
  fValue : List UInt8
instance : Inhabited TKV := ⟨⟨[], []⟩⟩
def TKVV (I : Imm) (x : TKV) (c : List Value) : Prop := ∃ v0 v1, c = [v0, v1] ∧ Bytes I v0 x.fKey ∧ Bytes I v1 x.fValue
theorem TKVV.mono {I I' : Imm} {x : TKV} {c : List Value} (h : TKVV I x c) (hI : Ext I I') : TKVV I' x c := by
  obtain ⟨v0, v1, rfl, h0, h1⟩ := h
  exact ⟨v0, v1, rfl, h0.mono hI, h1.mono hI⟩
theorem TKVV.len {I : Imm} {x : TKV} {c : List Value} (h : TKVV I x c) : c.length = 2 := by
  obtain ⟨v0, v1, rfl, h0, h1⟩ := h
  rfl
theorem TKVV.one {I : Imm} {x : TKV} {c : List Value} (h : TKVV I x c) : ∀ u ∈ c, u.oneCell' = true := by
  obtain ⟨v0, v1, rfl, h0, h1⟩ := h
  obtain ⟨_, _, rfl⟩ := Bytes.form h0
  obtain ⟨_, _, rfl⟩ := Bytes.form h1
  exact one_all rfl
theorem TKVV.zero (I : Imm) : TKVV I default [.slice none 0 0, .slice none 0 0] := ⟨_, _, rfl, SlI.nil I 1 none 0, SlI.nil I 1 none 0⟩
structure TOp where
  fDel : Bool
  fKey : List UInt8
  fValue : List UInt8
instance : Inhabited TOp := ⟨⟨false, [], []⟩⟩
def TOpV (I : Imm) (x : TOp) (c : List Value) : Prop := ∃ v0 v1, c = [.bool x.fDel, v0, v1] ∧ Bytes I v0 x.fKey ∧ Bytes I v1 x.fValue
theorem TOpV.mono {I I' : Imm} {x : TOp} {c : List Value} (h : TOpV I x c) (hI : Ext I I') : TOpV I' x c := by
  obtain ⟨v0, v1, rfl, h0, h1⟩ := h
  exact ⟨v0, v1, rfl, h0.mono hI, h1.mono hI⟩
theorem TOpV.len {I : Imm} {x : TOp} {c : List Value} (h : TOpV I x c) : c.length = 3 := by
  obtain ⟨v0, v1, rfl, h0, h1⟩ := h
  rfl
theorem TOpV.one {I : Imm} {x : TOp} {c : List Value} (h : TOpV I x c) : ∀ u ∈ c, u.oneCell' = true := by
  obtain ⟨v0, v1, rfl, h0, h1⟩ := h
  obtain ⟨_, _, rfl⟩ := Bytes.form h0
  obtain ⟨_, _, rfl⟩ := Bytes.form h1
  exact one_all rfl
theorem TOpV.zero (I : Imm) : TOpV I default [.bool false, .slice none 0 0, .slice none 0 0] := ⟨_, _, rfl, SlI.nil I 1 none 0, SlI.nil I 1 none 0⟩
structure TIntent where
  fKey : List UInt8
  fTxn : Int
  fAt : TStamp
  fDel : Bool
  fValue : List UInt8
instance : Inhabited TIntent := ⟨⟨[], 0, default, false, []⟩⟩
def TIntentV (I : Imm) (x : TIntent) (c : List Value) : Prop := ∃ v0 v1, c = [v0, .int .i64 x.fTxn, .int .i64 x.fAt.fWall, .int .i64 x.fAt.fLogic, .bool x.fDel, v1] ∧ Bytes I v0 x.fKey ∧ Bytes I v1 x.fValue
theorem TIntentV.mono {I I' : Imm} {x : TIntent} {c : List Value} (h : TIntentV I x c) (hI : Ext I I') : TIntentV I' x c := by
  obtain ⟨v0, v1, rfl, h0, h1⟩ := h
  exact ⟨v0, v1, rfl, h0.mono hI, h1.mono hI⟩
theorem TIntentV.len {I : Imm} {x : TIntent} {c : List Value} (h : TIntentV I x c) : c.length = 6 := by
  obtain ⟨v0, v1, rfl, h0, h1⟩ := h
  rfl
theorem TIntentV.one {I : Imm} {x : TIntent} {c : List Value} (h : TIntentV I x c) : ∀ u ∈ c, u.oneCell' = true := by
  obtain ⟨v0, v1, rfl, h0, h1⟩ := h
  obtain ⟨_, _, rfl⟩ := Bytes.form h0
  obtain ⟨_, _, rfl⟩ := Bytes.form h1
  exact one_all rfl
theorem TIntentV.zero (I : Imm) : TIntentV I default [.slice none 0 0, .int .i64 0, .int .i64 0, .int .i64 0, .bool false, .slice none 0 0] := ⟨_, _, rfl, SlI.nil I 1 none 0, SlI.nil I 1 none 0⟩
structure TVersion where
  fKey : List UInt8
  fAt : TStamp
  fDel : Bool
  fValue : List UInt8
instance : Inhabited TVersion := ⟨⟨[], default, false, []⟩⟩
def TVersionV (I : Imm) (x : TVersion) (c : List Value) : Prop := ∃ v0 v1, c = [v0, .int .i64 x.fAt.fWall, .int .i64 x.fAt.fLogic, .bool x.fDel, v1] ∧ Bytes I v0 x.fKey ∧ Bytes I v1 x.fValue
theorem TVersionV.mono {I I' : Imm} {x : TVersion} {c : List Value} (h : TVersionV I x c) (hI : Ext I I') : TVersionV I' x c := by
  obtain ⟨v0, v1, rfl, h0, h1⟩ := h
  exact ⟨v0, v1, rfl, h0.mono hI, h1.mono hI⟩
theorem TVersionV.len {I : Imm} {x : TVersion} {c : List Value} (h : TVersionV I x c) : c.length = 5 := by
  obtain ⟨v0, v1, rfl, h0, h1⟩ := h
  rfl
theorem TVersionV.one {I : Imm} {x : TVersion} {c : List Value} (h : TVersionV I x c) : ∀ u ∈ c, u.oneCell' = true := by
  obtain ⟨v0, v1, rfl, h0, h1⟩ := h
  obtain ⟨_, _, rfl⟩ := Bytes.form h0
  obtain ⟨_, _, rfl⟩ := Bytes.form h1
  exact one_all rfl
theorem TVersionV.zero (I : Imm) : TVersionV I default [.slice none 0 0, .int .i64 0, .int .i64 0, .bool false, .slice none 0 0] := ⟨_, _, rfl, SlI.nil I 1 none 0, SlI.nil I 1 none 0⟩
structure TVer where
  fAt : TStamp
  fDel : Bool
  fValue : List UInt8
instance : Inhabited TVer := ⟨⟨default, false, []⟩⟩
def TVerV (I : Imm) (x : TVer) (c : List Value) : Prop := c = [.int .i64 x.fAt.fWall, .int .i64 x.fAt.fLogic, .bool x.fDel, .string ⟨x.fValue.toArray⟩]
theorem TVerV.mono {I I' : Imm} {x : TVer} {c : List Value} (h : TVerV I x c) (hI : Ext I I') : TVerV I' x c := by
  obtain rfl := h
  exact rfl
theorem TVerV.len {I : Imm} {x : TVer} {c : List Value} (h : TVerV I x c) : c.length = 4 := by
  obtain rfl := h
  rfl
theorem TVerV.one {I : Imm} {x : TVer} {c : List Value} (h : TVerV I x c) : ∀ u ∈ c, u.oneCell' = true := by
  obtain rfl := h
  exact one_all rfl
theorem TVerV.zero (I : Imm) : TVerV I default [.int .i64 0, .int .i64 0, .bool false, .string ⟨#[]⟩] := rfl
structure TCmd where
  fKind : Int
  fTxn : Int
  fSeq : Int
  fAt : TStamp
  fTo : TStamp
  fBy : Int
  fYes : Bool
  fDel : Bool
  fKey : List UInt8
  fValue : List UInt8
  fSpan : TSpan
  fMost : Int
instance : Inhabited TCmd := ⟨⟨0, 0, 0, default, default, 0, false, false, [], [], default, 0⟩⟩
def TCmdV (I : Imm) (x : TCmd) (c : List Value) : Prop := ∃ v0 v1 v2 v3, c = [.int .i64 x.fKind, .int .i64 x.fTxn, .int .i64 x.fSeq, .int .i64 x.fAt.fWall, .int .i64 x.fAt.fLogic, .int .i64 x.fTo.fWall, .int .i64 x.fTo.fLogic, .int .i64 x.fBy, .bool x.fYes, .bool x.fDel, v0, v1, v2, v3, .int .i64 x.fMost] ∧ Bytes I v0 x.fKey ∧ Bytes I v1 x.fValue ∧ Bytes I v2 x.fSpan.fFrom ∧ Bytes I v3 x.fSpan.fTo
theorem TCmdV.mono {I I' : Imm} {x : TCmd} {c : List Value} (h : TCmdV I x c) (hI : Ext I I') : TCmdV I' x c := by
  obtain ⟨v0, v1, v2, v3, rfl, h0, h1, h2, h3⟩ := h
  exact ⟨v0, v1, v2, v3, rfl, h0.mono hI, h1.mono hI, h2.mono hI, h3.mono hI⟩
theorem TCmdV.len {I : Imm} {x : TCmd} {c : List Value} (h : TCmdV I x c) : c.length = 15 := by
  obtain ⟨v0, v1, v2, v3, rfl, h0, h1, h2, h3⟩ := h
  rfl
theorem TCmdV.one {I : Imm} {x : TCmd} {c : List Value} (h : TCmdV I x c) : ∀ u ∈ c, u.oneCell' = true := by
  obtain ⟨v0, v1, v2, v3, rfl, h0, h1, h2, h3⟩ := h
  obtain ⟨_, _, rfl⟩ := Bytes.form h0
  obtain ⟨_, _, rfl⟩ := Bytes.form h1
  obtain ⟨_, _, rfl⟩ := Bytes.form h2
  obtain ⟨_, _, rfl⟩ := Bytes.form h3
  exact one_all rfl
theorem TCmdV.zero (I : Imm) : TCmdV I default [.int .i64 0, .int .i64 0, .int .i64 0, .int .i64 0, .int .i64 0, .int .i64 0, .int .i64 0, .int .i64 0, .bool false, .bool false, .slice none 0 0, .slice none 0 0, .slice none 0 0, .slice none 0 0, .int .i64 0] := ⟨_, _, _, _, rfl, SlI.nil I 1 none 0, SlI.nil I 1 none 0, SlI.nil I 1 none 0, SlI.nil I 1 none 0⟩
def TCmdB (rz : Nat) (x : TCmd) : Prop := inI64 x.fKind ∧ inI64 x.fTxn ∧ inI64 x.fSeq ∧ TStampB rz x.fAt ∧ TStampB rz x.fTo ∧ inI64 x.fBy ∧ x.fKey.length ≤ rz ∧ x.fValue.length ≤ rz ∧ TSpanB rz x.fSpan ∧ inI64 x.fMost
theorem ceTCmd : Tryz.prog.cellsOf 56 = 15 := by kernel_rfl
theorem byTCmd : Tryz.prog.bytesOf 56 = 176 := by kernel_rfl
theorem TCmd_open {rz : Nat} {W : World} {cs : List Value} (h : TrR rz Tryz.prog W 56 cs) : ∃ x, TCmdB rz x ∧ TCmdV (heapI W) x cs := by
  have hl := (tr_struct Tryz.underlying56 h).1
  rw [ceTCmd] at hl
  obtain ⟨c0, c1, c2, c3, c4, c5, c6, c7, c8, c9, c10, c11, c12, c13, c14, rfl⟩ : ∃ c0 c1 c2 c3 c4 c5 c6 c7 c8 c9 c10 c11 c12 c13 c14, cs = [c0, c1, c2, c3, c4, c5, c6, c7, c8, c9, c10, c11, c12, c13, c14] := by
    match cs, hl with
    | [c0, c1, c2, c3, c4, c5, c6, c7, c8, c9, c10, c11, c12, c13, c14], _ => exact ⟨c0, c1, c2, c3, c4, c5, c6, c7, c8, c9, c10, c11, c12, c13, c14, rfl⟩
  obtain ⟨n0, e0, w0⟩ := tr_int Tryz.underlying3 (cs := [c0]) (tr_field 0 Tryz.underlying56 h rfl (n := 1) (by kernel_rfl))
  simp only [List.cons.injEq, and_true] at e0
  subst e0
  obtain ⟨n1, e1, w1⟩ := tr_int Tryz.underlying3 (cs := [c1]) (tr_field 1 Tryz.underlying56 h rfl (n := 1) (by kernel_rfl))
  simp only [List.cons.injEq, and_true] at e1
  subst e1
  obtain ⟨n2, e2, w2⟩ := tr_int Tryz.underlying3 (cs := [c2]) (tr_field 2 Tryz.underlying56 h rfl (n := 1) (by kernel_rfl))
  simp only [List.cons.injEq, and_true] at e2
  subst e2
  obtain ⟨n3, w3, e3⟩ := TStamp_open (cs := [c3, c4]) (tr_field 3 Tryz.underlying56 h rfl (n := 2) (by kernel_rfl))
  simp only [TStampV, List.cons.injEq, and_true] at e3
  obtain ⟨rfl, rfl⟩ := e3
  obtain ⟨n4, w4, e4⟩ := TStamp_open (cs := [c5, c6]) (tr_field 4 Tryz.underlying56 h rfl (n := 2) (by kernel_rfl))
  simp only [TStampV, List.cons.injEq, and_true] at e4
  obtain ⟨rfl, rfl⟩ := e4
  obtain ⟨n5, e5, w5⟩ := tr_int Tryz.underlying3 (cs := [c7]) (tr_field 5 Tryz.underlying56 h rfl (n := 1) (by kernel_rfl))
  simp only [List.cons.injEq, and_true] at e5
  subst e5
  obtain ⟨n6, e6⟩ := tr_bool Tryz.underlying4 (cs := [c8]) (tr_field 6 Tryz.underlying56 h rfl (n := 1) (by kernel_rfl))
  simp only [List.cons.injEq, and_true] at e6
  subst e6
  obtain ⟨n7, e7⟩ := tr_bool Tryz.underlying4 (cs := [c9]) (tr_field 7 Tryz.underlying56 h rfl (n := 1) (by kernel_rfl))
  simp only [List.cons.injEq, and_true] at e7
  subst e7
  obtain ⟨n8, h8, w8⟩ := tr_bytes Tryz.underlying29 Tryz.underlying5 (by kernel_rfl) (by kernel_rfl) (v := c10) (tr_field 8 Tryz.underlying56 h rfl (n := 1) (by kernel_rfl))
  obtain ⟨n9, h9, w9⟩ := tr_bytes Tryz.underlying29 Tryz.underlying5 (by kernel_rfl) (by kernel_rfl) (v := c11) (tr_field 9 Tryz.underlying56 h rfl (n := 1) (by kernel_rfl))
  obtain ⟨n10, w10, u10_0, u10_1, e10, h10_0, h10_1⟩ := TSpan_open (cs := [c12, c13]) (tr_field 10 Tryz.underlying56 h rfl (n := 2) (by kernel_rfl))
  simp only [List.cons.injEq, and_true] at e10
  obtain ⟨rfl, rfl⟩ := e10
  obtain ⟨n11, e11, w11⟩ := tr_int Tryz.underlying3 (cs := [c14]) (tr_field 11 Tryz.underlying56 h rfl (n := 1) (by kernel_rfl))
  simp only [List.cons.injEq, and_true] at e11
  subst e11
  exact ⟨⟨n0, n1, n2, n3, n4, n5, n6, n7, n8, n9, n10, n11⟩, ⟨wf_i64 w0, wf_i64 w1, wf_i64 w2, w3, w4, wf_i64 w5, w8, w9, w10, wf_i64 w11⟩, ⟨_, _, _, _, rfl, h8, h9, h10_0, h10_1⟩⟩
structure TRes where
  fCode : Int
  fGot : TGot
  fRows : List TKV
  fAt : TStamp
  fBy : Int
  fState : Int
instance : Inhabited TRes := ⟨⟨0, default, [], default, 0, 0⟩⟩
def TResV (I : Imm) (x : TRes) (c : List Value) : Prop := ∃ v0 v1, c = [.int .i64 x.fCode, .bool x.fGot.fFound, v0, .int .i64 x.fGot.fAt.fWall, .int .i64 x.fGot.fAt.fLogic, .int .i64 x.fGot.fBy, v1, .int .i64 x.fAt.fWall, .int .i64 x.fAt.fLogic, .int .i64 x.fBy, .int .i64 x.fState] ∧ Bytes I v0 x.fGot.fValue ∧ RL TKVV 2 I [] v1 x.fRows
theorem TResV.mono {I I' : Imm} {x : TRes} {c : List Value} (h : TResV I x c) (hI : Ext I I') : TResV I' x c := by
  obtain ⟨v0, v1, rfl, h0, h1⟩ := h
  exact ⟨v0, v1, rfl, h0.mono hI, RL.mono (fun _ _ h => TKVV.mono h hI) h1 hI (fun _ h => by cases h)⟩
theorem TResV.len {I : Imm} {x : TRes} {c : List Value} (h : TResV I x c) : c.length = 11 := by
  obtain ⟨v0, v1, rfl, h0, h1⟩ := h
  rfl
theorem TResV.one {I : Imm} {x : TRes} {c : List Value} (h : TResV I x c) : ∀ u ∈ c, u.oneCell' = true := by
  obtain ⟨v0, v1, rfl, h0, h1⟩ := h
  obtain ⟨_, _, rfl⟩ := Bytes.form h0
  obtain ⟨_, _, rfl⟩ := RL.form h1
  exact one_all rfl
theorem TResV.zero (I : Imm) : TResV I default [.int .i64 0, .bool false, .slice none 0 0, .int .i64 0, .int .i64 0, .int .i64 0, .slice none 0 0, .int .i64 0, .int .i64 0, .int .i64 0, .int .i64 0] := ⟨_, _, rfl, SlI.nil I 1 none 0, RL.nil none 0⟩
structure TMarkR where
  fKey : List UInt8
  fAt : TStamp
  fBy : Int
instance : Inhabited TMarkR := ⟨⟨[], default, 0⟩⟩
def TMarkRV (I : Imm) (x : TMarkR) (c : List Value) : Prop := ∃ v0, c = [v0, .int .i64 x.fAt.fWall, .int .i64 x.fAt.fLogic, .int .i64 x.fBy] ∧ Bytes I v0 x.fKey
theorem TMarkRV.mono {I I' : Imm} {x : TMarkR} {c : List Value} (h : TMarkRV I x c) (hI : Ext I I') : TMarkRV I' x c := by
  obtain ⟨v0, rfl, h0⟩ := h
  exact ⟨v0, rfl, h0.mono hI⟩
theorem TMarkRV.len {I : Imm} {x : TMarkR} {c : List Value} (h : TMarkRV I x c) : c.length = 4 := by
  obtain ⟨v0, rfl, h0⟩ := h
  rfl
theorem TMarkRV.one {I : Imm} {x : TMarkR} {c : List Value} (h : TMarkRV I x c) : ∀ u ∈ c, u.oneCell' = true := by
  obtain ⟨v0, rfl, h0⟩ := h
  obtain ⟨_, _, rfl⟩ := Bytes.form h0
  exact one_all rfl
theorem TMarkRV.zero (I : Imm) : TMarkRV I default [.slice none 0 0, .int .i64 0, .int .i64 0, .int .i64 0] := ⟨_, rfl, SlI.nil I 1 none 0⟩
structure TRecR where
  fTxn : Int
  fState : Int
  fAt : TStamp
instance : Inhabited TRecR := ⟨⟨0, 0, default⟩⟩
def TRecRV (I : Imm) (x : TRecR) (c : List Value) : Prop := c = [.int .i64 x.fTxn, .int .i64 x.fState, .int .i64 x.fAt.fWall, .int .i64 x.fAt.fLogic]
theorem TRecRV.mono {I I' : Imm} {x : TRecR} {c : List Value} (h : TRecRV I x c) (hI : Ext I I') : TRecRV I' x c := by
  obtain rfl := h
  exact rfl
theorem TRecRV.len {I : Imm} {x : TRecR} {c : List Value} (h : TRecRV I x c) : c.length = 4 := by
  obtain rfl := h
  rfl
theorem TRecRV.one {I : Imm} {x : TRecR} {c : List Value} (h : TRecRV I x c) : ∀ u ∈ c, u.oneCell' = true := by
  obtain rfl := h
  exact one_all rfl
theorem TRecRV.zero (I : Imm) : TRecRV I default [.int .i64 0, .int .i64 0, .int .i64 0, .int .i64 0] := rfl
structure TSeenR where
  fTxn : Int
  fSeq : Int
  fCode : Int
  fAt : TStamp
instance : Inhabited TSeenR := ⟨⟨0, 0, 0, default⟩⟩
def TSeenRV (I : Imm) (x : TSeenR) (c : List Value) : Prop := c = [.int .i64 x.fTxn, .int .i64 x.fSeq, .int .i64 x.fCode, .int .i64 x.fAt.fWall, .int .i64 x.fAt.fLogic]
theorem TSeenRV.mono {I I' : Imm} {x : TSeenR} {c : List Value} (h : TSeenRV I x c) (hI : Ext I I') : TSeenRV I' x c := by
  obtain rfl := h
  exact rfl
theorem TSeenRV.len {I : Imm} {x : TSeenR} {c : List Value} (h : TSeenRV I x c) : c.length = 5 := by
  obtain rfl := h
  rfl
theorem TSeenRV.one {I : Imm} {x : TSeenR} {c : List Value} (h : TSeenRV I x c) : ∀ u ∈ c, u.oneCell' = true := by
  obtain rfl := h
  exact one_all rfl
theorem TSeenRV.zero (I : Imm) : TSeenRV I default [.int .i64 0, .int .i64 0, .int .i64 0, .int .i64 0, .int .i64 0] := rfl
structure TMk where
  fAt : TStamp
  fBy : Int
instance : Inhabited TMk := ⟨⟨default, 0⟩⟩
def TMkV (I : Imm) (x : TMk) (c : List Value) : Prop := c = [.int .i64 x.fAt.fWall, .int .i64 x.fAt.fLogic, .int .i64 x.fBy]
theorem TMkV.mono {I I' : Imm} {x : TMk} {c : List Value} (h : TMkV I x c) (hI : Ext I I') : TMkV I' x c := by
  obtain rfl := h
  exact rfl
theorem TMkV.len {I : Imm} {x : TMk} {c : List Value} (h : TMkV I x c) : c.length = 3 := by
  obtain rfl := h
  rfl
theorem TMkV.one {I : Imm} {x : TMk} {c : List Value} (h : TMkV I x c) : ∀ u ∈ c, u.oneCell' = true := by
  obtain rfl := h
  exact one_all rfl
theorem TMkV.zero (I : Imm) : TMkV I default [.int .i64 0, .int .i64 0, .int .i64 0] := rfl
structure TRc where
  fState : Int
  fAt : TStamp
instance : Inhabited TRc := ⟨⟨0, default⟩⟩
def TRcV (I : Imm) (x : TRc) (c : List Value) : Prop := c = [.int .i64 x.fState, .int .i64 x.fAt.fWall, .int .i64 x.fAt.fLogic]
theorem TRcV.mono {I I' : Imm} {x : TRc} {c : List Value} (h : TRcV I x c) (hI : Ext I I') : TRcV I' x c := by
  obtain rfl := h
  exact rfl
theorem TRcV.len {I : Imm} {x : TRc} {c : List Value} (h : TRcV I x c) : c.length = 3 := by
  obtain rfl := h
  rfl
theorem TRcV.one {I : Imm} {x : TRc} {c : List Value} (h : TRcV I x c) : ∀ u ∈ c, u.oneCell' = true := by
  obtain rfl := h
  exact one_all rfl
theorem TRcV.zero (I : Imm) : TRcV I default [.int .i64 0, .int .i64 0, .int .i64 0] := rfl
structure TSn where
  fSeq : Int
  fCode : Int
  fAt : TStamp
instance : Inhabited TSn := ⟨⟨0, 0, default⟩⟩
def TSnV (I : Imm) (x : TSn) (c : List Value) : Prop := c = [.int .i64 x.fSeq, .int .i64 x.fCode, .int .i64 x.fAt.fWall, .int .i64 x.fAt.fLogic]
theorem TSnV.mono {I I' : Imm} {x : TSn} {c : List Value} (h : TSnV I x c) (hI : Ext I I') : TSnV I' x c := by
  obtain rfl := h
  exact rfl
theorem TSnV.len {I : Imm} {x : TSn} {c : List Value} (h : TSnV I x c) : c.length = 4 := by
  obtain rfl := h
  rfl
theorem TSnV.one {I : Imm} {x : TSn} {c : List Value} (h : TSnV I x c) : ∀ u ∈ c, u.oneCell' = true := by
  obtain rfl := h
  exact one_all rfl
theorem TSnV.zero (I : Imm) : TSnV I default [.int .i64 0, .int .i64 0, .int .i64 0, .int .i64 0] := rfl
end Go.Proofs.YtmmfcgbfbcamcaaGreatDoor
set_option linter.unusedSimpArgs false
set_option linter.unusedVariables false
set_option linter.unusedSectionVars false
namespace Go.SL
/-! ### Strings as lists of bytes -/
abbrev blt : List UInt8 → List UInt8 → Bool := Op.bytesLess
theorem ba_list (a : List UInt8) : (⟨a.toArray⟩ : ByteArray).toList = a := by simp [Go.ByteArray.toList_mk]
theorem ba_size (a : List UInt8) : (⟨a.toArray⟩ : ByteArray).size = a.length := by simp [ByteArray.size]
section
variable (a b : List UInt8)
theorem sEq : binSV .eql (.string ⟨a.toArray⟩) (.string ⟨b.toArray⟩) = some (.bool (a == b)) := by simp only [binSV, ba_list]
theorem sNe : binSV .neq (.string ⟨a.toArray⟩) (.string ⟨b.toArray⟩) = some (.bool (!(a == b))) := by simp only [binSV, ba_list]
theorem sLt : binSV .lss (.string ⟨a.toArray⟩) (.string ⟨b.toArray⟩) = some (.bool (blt a b)) := by simp only [binSV, ba_list]
theorem sLe : binSV .leq (.string ⟨a.toArray⟩) (.string ⟨b.toArray⟩) = some (.bool (blt a b || a == b)) := by simp only [binSV, ba_list]
theorem sGt : binSV .gtr (.string ⟨a.toArray⟩) (.string ⟨b.toArray⟩) = some (.bool (!(blt a b || a == b))) := by simp only [binSV, ba_list]
theorem sGe : binSV .geq (.string ⟨a.toArray⟩) (.string ⟨b.toArray⟩) = some (.bool (!(blt a b))) := by simp only [binSV, ba_list]
theorem sLen : lenSV (.string ⟨a.toArray⟩) = some (.int .i64 a.length) := by rw [lenSV_s, ba_size]
end
theorem stampEq (a b c d : Int) : binAV .eql [(TypeDesc.int .i64, 0), (TypeDesc.int .i64, 1)] (.agg #[.int .i64 a, .int .i64 b]) (.agg #[.int .i64 c, .int .i64 d]) = some (.bool ((a == c) && (b == d))) := by
  simp [binAV, eqAll, eqD]
theorem stampNe (a b c d : Int) : binAV .neq [(TypeDesc.int .i64, 0), (TypeDesc.int .i64, 1)] (.agg #[.int .i64 a, .int .i64 b]) (.agg #[.int .i64 c, .int .i64 d]) = some (.bool !((a == c) && (b == d))) := by
  simp [binAV, eqAll, eqD]
theorem fldv_agg (off n : Nat) (l : List Value) : fldvV true off n (.agg l.toArray) = some (.agg ((l.drop off).take n).toArray) := by
  simp only [fldvV, if_true]
  congr 2
  apply Array.ext'
  simp [List.take_drop, Nat.add_comm]
theorem fldv_one (off n : Nat) (l : List Value) : fldvV false off n (.agg l.toArray) = l[off]? := by
  simp [fldvV]
/-! ### The order of bytes -/
theorem blt_nil (a : List UInt8) : blt a [] = false := by cases a <;> rfl
theorem blt_irrefl : ∀ a : List UInt8, blt a a = false
  | [] => rfl
  | x :: a => by simp [Op.bytesLess, blt_irrefl a]
theorem blt_trans : ∀ {a b c : List UInt8}, blt a b = true → blt b c = true → blt a c = true
  | _, [], _, h, _ => by rw [blt_nil] at h; cases h
  | _, _ :: _, [], _, h => by simp [Op.bytesLess] at h
  | [], _ :: _, _ :: _, _, _ => rfl
  | x :: a, y :: b, z :: c, h1, h2 => by
    simp only [Op.bytesLess, Bool.or_eq_true, Bool.and_eq_true, decide_eq_true_eq, beq_iff_eq] at h1 h2 ⊢
    rcases h1 with h1 | ⟨rfl, h1⟩
    · rcases h2 with h2 | ⟨rfl, h2⟩
      · exact .inl (UInt8.lt_trans h1 h2)
      · exact .inl h1
    · rcases h2 with h2 | ⟨rfl, h2⟩
      · exact .inl h2
      · exact .inr ⟨rfl, blt_trans h1 h2⟩
theorem blt_total : ∀ (a b : List UInt8), blt a b = false → blt b a = false → a = b
  | [], [], _, _ => rfl
  | [], _ :: _, h, _ => by simp [Op.bytesLess] at h
  | _ :: _, [], _, h => by simp [Op.bytesLess] at h
  | x :: a, y :: b, h1, h2 => by
    simp only [Op.bytesLess, Bool.or_eq_false_iff, Bool.and_eq_false_iff, decide_eq_false_iff_not, beq_eq_false_iff_ne, ne_eq] at h1 h2
    have hxy : x = y := by
      rw [← UInt8.toNat_inj]
      have a1 := h1.1
      have a2 := h2.1
      rw [UInt8.lt_iff_toNat_lt] at a1 a2
      omega
    subst hxy
    rw [blt_total a b (h1.2.resolve_left (by simp)) (h2.2.resolve_left (by simp))]
theorem blt_asymm {a b : List UInt8} (h : blt a b = true) : blt b a = false := by
  cases hb : blt b a with
  | false => rfl
  | true => have := blt_trans h hb; rw [blt_irrefl] at this; cases this
def bcmp (a b : List UInt8) : Int := if blt a b then -1 else if blt b a then 1 else 0
theorem find_range_succ (p : Nat → Bool) (n : Nat) : (List.range (n + 1)).find? p = if p 0 then some 0 else ((List.range n).find? fun i => p (i + 1)).map (· + 1) := by
  rw [List.range_succ_eq_map, List.find?_cons]
  cases h : p 0
  · simp only [List.find?_map, Bool.false_eq_true, if_false]
    rfl
  · simp
def cmpL (a b : List UInt8) : Int := match (List.range (min a.length b.length)).find? fun i => a.getD i 0 != b.getD i 0 with
  | some i => if a.getD i 0 < b.getD i 0 then -1 else 1
  | none => if a.length < b.length then -1 else if a.length > b.length then 1 else 0
theorem ba_get (a : List UInt8) (i : Nat) : (⟨a.toArray⟩ : ByteArray)[i]! = a.getD i 0 := by
  by_cases h : i < a.length
  · have hs : i < (⟨a.toArray⟩ : ByteArray).size := by rw [ba_size]; exact h
    rw [getElem!_pos (⟨a.toArray⟩ : ByteArray) i hs]
    show a.toArray[i]'(by simpa using h) = _
    simp [List.getD, h]
  · have hs : ¬ i < (⟨a.toArray⟩ : ByteArray).size := by rw [ba_size]; exact h
    rw [getElem!_neg (⟨a.toArray⟩ : ByteArray) i hs]
    simp [List.getD, List.getElem?_eq_none (Nat.le_of_not_lt h)]
    rfl
theorem cmp_cmpL (a b : List UInt8) : Extern.BytealgCompare.cmp ⟨a.toArray⟩ ⟨b.toArray⟩ = cmpL a b := by
  unfold Extern.BytealgCompare.cmp cmpL
  simp only [ba_size, ba_get]
  rfl
theorem cmpL_bcmp : ∀ a b : List UInt8, cmpL a b = bcmp a b
  | [], [] => rfl
  | [], _ :: _ => by simp [cmpL, bcmp, Op.bytesLess]
  | _ :: _, [] => by simp [cmpL, bcmp, Op.bytesLess]
  | x :: a, y :: b => by
    have ih := cmpL_bcmp a b
    unfold cmpL at ih ⊢
    simp only [List.length_cons]
    rw [show min (a.length + 1) (b.length + 1) = min a.length b.length + 1 from by omega, find_range_succ]
    simp only [List.getD_cons_zero, List.getD_cons_succ]
    by_cases hxy : x = y
    · subst hxy
      simp only [bne_self_eq_false, Bool.false_eq_true, if_false]
      have e : bcmp (x :: a) (x :: b) = bcmp a b := by simp [bcmp, Op.bytesLess]
      rw [e, ← ih]
      cases (List.range (min a.length b.length)).find? fun i => a.getD i 0 != b.getD i 0 with
      | none => simp
      | some i => simp
    · have hne : (x != y) = true := by simpa using hxy
      simp only [hne, if_true, List.getD_cons_zero]
      by_cases hlt : x < y
      · rw [if_pos hlt]
        simp [bcmp, Op.bytesLess, hlt]
      · rw [if_neg hlt]
        have hgt : y < x := by
          rw [UInt8.lt_iff_toNat_lt] at hlt ⊢
          have : x.toNat ≠ y.toNat := fun e => hxy (UInt8.toNat_inj.1 e)
          omega
        have hyx : ¬ y = x := fun e => hxy e.symm
        simp [bcmp, Op.bytesLess, hlt, hgt, hxy]
theorem bcmp_lt (a b : List UInt8) : decide (bcmp a b < 0) = blt a b := by
  unfold bcmp
  cases blt a b <;> cases blt b a <;> rfl
theorem bcmp_gt (a b : List UInt8) : decide (0 < bcmp a b) = blt b a := by
  unfold bcmp
  cases h1 : blt a b
  · cases blt b a <;> rfl
  · rw [blt_asymm h1]; rfl
/-! ### bytealg.Compare -/
section
variable {P : Program} {ω : Om} {I : Imm} {L : LH} {K : Value → M}
theorem load_cell {w : World} {b off : Nat} {v : Value} (hs : St ω w I L) (hc : Cell I L b off v) : (load ⟨b, off, none⟩).run P w = .ok v w := by
  have := hc.cell hs
  simp [this]
theorem loadBytes_run {w : World} (hs : St ω w I L) : ∀ (l : List UInt8) (b off : Nat) (acc : ByteArray), Cells I L b off (u8s l) → (Extern.Bytes.loadBytes ⟨b, off, none⟩ l.length acc).run P w = .ok ⟨acc.data ++ l.toArray⟩ w
  | [], b, off, acc, _ => by
    have : (⟨acc.data ++ ([] : List UInt8).toArray⟩ : ByteArray) = acc := by cases acc; simp
    rw [this]
    simp [Extern.Bytes.loadBytes]
  | x :: l, b, off, acc, hc => by
    have h0 : Cell I L b off (.int .u8 x.toNat) := by simpa using hc 0 _ rfl
    have h1 : Cells I L b (off + 1) (u8s l) := fun j u hu => by
      have := hc (j + 1) u (by simpa [u8s] using hu)
      rwa [show off + (j + 1) = off + 1 + j from by omega] at this
    simp only [List.length_cons, Extern.Bytes.loadBytes, Sem.run_bind, load_cell (P := P) hs h0, Result.andThen_ok]
    have e : (Addr.add ⟨b, off, none⟩ 1) = ⟨b, off + 1, none⟩ := add_none _ _ _
    rw [e, loadBytes_run hs l b (off + 1) _ h1]
    congr 1
    have : ((x.toNat : Int).toNat.toUInt8) = x := by simp
    rw [this]
    cases acc
    simp [ByteArray.push]
theorem bytesOf_run {w : World} {v : Value} {l : List UInt8} (hs : St ω w I L) (h : Bytes I v l) : (Extern.Bytes.bytesOf v).run P w = .ok ⟨l.toArray⟩ w := by
  obtain ⟨hl, a, cap, rfl, _, h⟩ := h
  cases a with
  | none =>
    have h0 : l.length = 0 := by
      apply Classical.byContradiction
      intro h0
      obtain ⟨b, off, cs, T, fr, e, _⟩ := h h0
      cases e
    have : l = [] := List.eq_nil_of_length_eq_zero h0
    subst this
    simp only [Extern.Bytes.bytesOf, Sem.run_pure]
    rfl
  | some a =>
    simp only [Extern.Bytes.bytesOf]
    by_cases h0 : l.length = 0
    · have : l = [] := List.eq_nil_of_length_eq_zero h0
      subst this
      simp only [List.length_nil, Extern.Bytes.loadBytes, Sem.run_pure]
      rfl
    · obtain ⟨b, off, cs, T, fr, e, hb, hcs⟩ := h h0
      simp only [Option.some.injEq] at e
      subst e
      rw [loadBytes_run hs l b off .empty (fun j u hu => Cell.imm hb (hcs j u hu))]
      congr 1
      simp [ByteArray.empty, ByteArray.emptyWithCapacity]
      rfl
theorem cmp_ext {x y : Value} {a b : List UInt8} (hx : Bytes I x a) (hy : Bytes I y b) (hk : K (.int .i64 (bcmp a b)) I L) : ExtE P ω Extern.BytealgCompare.compare #[x, y] K I L := by
  refine ⟨_, fun w hs => ?_, hk⟩
  show Sem.run P (do pure (goInt (Extern.BytealgCompare.cmp (← Extern.Bytes.bytesOf x) (← Extern.Bytes.bytesOf y)))) w = _
  simp only [Sem.run_bind, bytesOf_run (P := P) hs hx, bytesOf_run (P := P) hs hy, Result.andThen_ok, Sem.run_pure, goInt]
  rw [cmp_cmpL, cmpL_bcmp]
end
/-! ### Parts of blocks -/
section
variable {I I0 : Imm} {L L' X : LH} {K : Value → M} {b off n T : Nat}
theorem rdPS {l : List Value} {T : Nat} {fr : Nat × Nat} [h : InL b X (.cells l.toArray T fr)] (vs : List Value) (he : (l.drop off).take n = vs) (hl : vs.length = n) (hk : K (.agg vs.toArray) I L) : Rv (some (Stay I0 X)) (ldNR n (.pointer (some ⟨b, off, none⟩))) K I L :=
  rdNS hl (fun I' L' hS j u hu => Cell.own (hS.2 _ h.mem) (by
    subst he
    rw [List.getElem?_take] at hu
    split at hu
    · rw [List.getElem?_drop] at hu; simpa using hu
    · cases hu)) hk
theorem stP {l vs : List Value} (l' : List Value) [h : InL b L (.cells l.toArray T (0, 0))] (he : l.take off ++ (vs ++ l.drop (off + n)) = l') (hl : vs.length = n) (hleb : Nat.ble (off + n) l.length = true) (h1 : vs.all (·.oneCell') = true) [u : UpL b L (.cells l.toArray T (0, 0)) (.cells l'.toArray T (0, 0)) L'] (hk : K undef I L') :
    Sto n (.pointer (some ⟨b, off, none⟩)) (.agg vs.toArray) (gh K) I L := by
  have hle := Nat.le_of_ble_eq_true hleb
  obtain ⟨L1, L2, rfl, rfl⟩ := u.up
  refine ⟨b, off, l.toArray, T, L1, L2, rfl, by simp [Value.cells, hl], by simpa [Value.cells] using one_all h1, by simpa using hle, rfl, ?_⟩
  simp only [Value.cells]
  rw [wr_eq vs l.toArray off (by simp; omega)]
  subst he
  refine Gh.done ?_
  rw [hl]
  simpa using hk
theorem bs_N {v : Value} {l : List UInt8} {I0 : Imm} (h : Bytes I0 v l) (hI : Ext I0 I) (hk : K (.string ⟨l.toArray⟩) I L) : Rv none (bsR v) K I L := ⟨_, Bytes.str (h.mono hI), hk⟩
theorem bs_I {v : Value} {l : List UInt8} {I1 : Imm} {X : LH} (h : Bytes I0 v l) (hI : Ext I0 I1) (hk : K (.string ⟨l.toArray⟩) I L) : Rv (some (Stay I1 X)) (bsR v) K I L :=
  ⟨_, fun I' L' hS => Bytes.str (h.mono (hI.trans hS.1)), hk⟩
theorem cal_pre {P : Program} {ω : Om} {f : FuncId} {args : Array Value} (h : Gh (Cal P ω f args K) I L) : Cal P ω f args K I L := fun w hs => by
  obtain ⟨I', L', h1, h2⟩ := h hs.cons
  exact h2 w (h1 ω w hs)
theorem i64s_one_at {l : List Int} {i : Int} (h0 : 0 ≤ i) (h1 : i < l.length) : ((i64s l).drop (i.toNat * 1)).take 1 = [.int .i64 (geti l i)] := by
  have hk : i.toNat < l.length := by omega
  rw [Nat.mul_one, List.drop_eq_getElem_cons (by simpa [i64s] using hk), List.take_succ_cons]
  simp [i64s, geti, List.getD, hk]
theorem ints_at {v : Value} {l : List Int} {i : Int} (h : Ints I v l) (h0 : 0 ≤ i) (h1 : i < l.length) : ∃ b off, ixV 1 v (.int .i64 i) = some (.pointer (some ⟨b, off, none⟩)) ∧ ∀ I' L, Ext I I' → Cell I' L b off (.int .i64 (geti l i)) := by
  obtain ⟨a, cap, rfl⟩ := Ints.form h
  obtain ⟨b, off, hix, hc⟩ := News.ix (L := []) (SlI.news h) .i64 h0 h1
  rw [i64s_one_at h0 h1] at hc
  exact ⟨b, off, hix, fun I' L hI => hc I' L hI (fun _ h => by cases h) 0 _ rfl⟩
end
/-! ### Regions that write to a block -/
class MemB (x : Nat × Obj) (L : LH) : Prop where
  mem : x ∈ L
instance memBRight (x : Nat × Obj) (A L : LH) [h : MemB x L] : MemB x (A ++ L) := ⟨List.mem_append_right _ h.mem⟩
instance memBThere (x y : Nat × Obj) (L : LH) [h : MemB x L] : MemB x (y :: L) := ⟨List.mem_cons_of_mem _ h.mem⟩
instance memBHere (x : Nat × Obj) (L : LH) : MemB x (x :: L) := ⟨List.mem_cons_self ..⟩
instance (priority := 70) lsubConsL (x : Nat × Obj) (X L : LH) [h : MemB x L] [h' : LSub X L] : LSub (x :: X) L := ⟨fun y hy => by
  rcases List.mem_cons.1 hy with rfl | hy
  · exact h.mem
  · exact h'.sub y hy⟩
class DelB (b : Nat) (L : LH) (L' : outParam LH) : Prop where
  sub : ∀ x ∈ L', x ∈ L
instance delBThere (b : Nat) (x : Nat × Obj) (L L' : LH) [h : DelB b L L'] : DelB b (x :: L) (x :: L') := ⟨fun y hy => by
  rcases List.mem_cons.1 hy with rfl | hy
  · exact List.mem_cons_self ..
  · exact List.mem_cons_of_mem _ (h.sub y hy)⟩
instance delBHere (b : Nat) (o : Obj) (L : LH) : DelB b ((b, o) :: L) L := ⟨fun y hy => List.mem_cons_of_mem _ hy⟩
theorem drawD {I : Imm} {L X : LH} {B : M → M} (b : Nat) [h : DelB b L X] (hB : B (Stay I X) I L) : Draw B I L := draw _ ⟨Ext.refl I, h.sub⟩ hB
theorem drawW1 {I : Imm} {L X : LH} {B : M → M} {b off : Nat} [h : DelB b L X] (hB : B (Stay I X) I L) : DrawW [.pointer (some ⟨b, off, none⟩)] B I L := draw _ ⟨Ext.refl I, h.sub⟩ hB
theorem drawW2 {I : Imm} {L X Y : LH} {B : M → M} {b off c off' : Nat} [h : DelB b L X] [h' : DelB c X Y] (hB : B (Stay I Y) I L) : DrawW [.pointer (some ⟨b, off, none⟩), .pointer (some ⟨c, off', none⟩)] B I L := draw _ ⟨Ext.refl I, fun x hx => h.sub x (h'.sub x hx)⟩ hB
class PickB (b : Nat) (L : LH) (o : outParam Obj) (R : outParam LH) : Prop where
  perm : L.Perm ((b, o) :: R)
instance pickBRight (b : Nat) (o : Obj) (A L R : LH) [h : PickB b L o R] : PickB b (A ++ L) o (A ++ R) := ⟨(List.Perm.append_left A h.perm).trans List.perm_middle⟩
instance pickBThere (b : Nat) (o : Obj) (y : Nat × Obj) (L R : LH) [h : PickB b L o R] : PickB b (y :: L) o (y :: R) := ⟨(List.Perm.cons y h.perm).trans (List.Perm.swap ..)⟩
instance pickBHere (b : Nat) (o : Obj) (R : LH) : PickB b ((b, o) :: R) o R := ⟨List.Perm.refl _⟩
theorem Gh.pick {I : Imm} {L R : LH} {A : M} (b : Nat) (Y : LH) {o : Obj} [h : PickB b L o R] [h' : SubP Y R] (hA : Gh A I ((b, o) :: Y)) : Gh A I L :=
  Gh.perm h.perm (Gh.perm (L' := (b, o) :: (Y ++ h'.sub.choose)) (List.Perm.cons _ h'.sub.choose_spec) (Gh.drop (L' := (b, o) :: Y) (List.Sublist.cons_cons _ (List.sublist_append_left _ _)) hA))
theorem Cal.pick {P : Program} {ω : Om} {f : FuncId} {args : Array Value} {K : Value → M} {I : Imm} {L R : LH} (b : Nat) {o : Obj} [h : PickB b L o R] (hc : Cal P ω f args K I ((b, o) :: R)) : Cal P ω f args K I L := fun w hs => hc w (hs.perm h.perm)
theorem RL.hd {α : Type} [Inhabited α] {R : Imm → α → List Value → Prop} {I : Imm} {L : LH} {n : Nat} {v : Value} {xs : List α} (h : RL R n I L v xs) (h0 : xs ≠ []) :
    ∃ b off c, ixV n v (.int .i64 0) = some (.pointer (some ⟨b, off, none⟩)) ∧ c.length = n ∧ R I (geti xs 0) c ∧ ∀ I' L', Ext I I' → (∀ x ∈ L, x ∈ L') → Cells I' L' b off c :=
  RL.ix h (by omega) (by have := List.length_pos_iff.2 h0; omega)
/-! ### Lists of records that grow -/
section
variable {α : Type} {R : Imm → α → List Value → Prop} {I : Imm} {T n bytes : Nat} {z : Array Value} {X6 L0 F : LH} {v : Value} {xs : List α} {x : α} {c cells : List Value} {K : Value → M}
theorem rec_app [SplitL X6 L0 F] (hz : z.size = n) (hn : 0 < n) (h6 : SlO T n X6 v cells xs.length) (hR : Recs (R I) n xs cells) (hx : R I x c) (hcl : c.length = n) (h1 : ∀ u ∈ c, u.oneCell' = true) (hb : (xs.length + 1) * bytes ≤ 150000000000000) (hl : xs.length + 1 ≤ 150000000000000)
    (hk : ∀ X1 X6' v' cells', SlO T n X6' v' cells' (xs ++ [x]).length → Recs (R I) n (xs ++ [x]) cells' → K v' I (X6' ++ (X1 ++ F))) :
    BldS T n z 1 [(0, .agg c.toArray)] (gh fun u => App T n bytes z v u (gh K)) I L0 := by
  refine bld_one hz hn (by simpa [Value.cells] using hcl) (fun X1 u hX1 => ?_)
  refine app_own (X := X6) hz h6 (hX1.news (fun x hx => List.mem_append_left _ hx)) (fun u hu => h1 u (by simpa [Value.cells] using hu)) hb hl (fun X' v' hX' => ?_)
  exact hk X1 X' v' _ (by simpa [Value.cells] using hX') (Recs.append hR (Recs.one (by simpa [Value.cells] using hcl) (by simpa [Value.cells] using hx)))
theorem rec_appK {I0 : Imm} {Y : LH} [SplitL X6 L0 F] (hI0 : Ext I0 I) (hY : ∀ y ∈ Y, y ∈ L0) (hz : z.size = n) (hn : 0 < n) (h6 : SlO T n X6 v cells xs.length) (hR : Recs (R I) n xs cells) (hx : R I x c) (hcl : c.length = n) (h1 : ∀ u ∈ c, u.oneCell' = true) (hb : (xs.length + 1) * bytes ≤ 150000000000000) (hl : xs.length + 1 ≤ 150000000000000)
    (hk : ∀ X1 X6' a' c' cells', SlO T n X6' (.slice a' (xs ++ [x]).length c') cells' (xs ++ [x]).length → Recs (R I) n (xs ++ [x]) cells' → K (.slice a' (xs ++ [x]).length c') I (X6' ++ (X1 ++ F))) :
    BldS T n z 1 [(0, .agg c.toArray)] (gh (Keep (Stay I0 Y) fun u => App T n bytes z v u (gh K))) I L0 := by
  refine bld_one hz hn (by simpa [Value.cells] using hcl) (fun X1 u hX1 => ?_)
  refine keepS hI0 (fun y hy => List.mem_append_right _ (hY y hy)) ?_
  refine app_own (X := X6) hz h6 (hX1.news (fun x hx => List.mem_append_left _ hx)) (fun u hu => h1 u (by simpa [Value.cells] using hu)) hb hl (fun X' v' hX' => ?_)
  obtain ⟨a', c', rfl⟩ := hX'.form
  have e : xs.length + 1 = (xs ++ [x]).length := by simp
  rw [e] at hX' ⊢
  exact hk X1 X' a' c' _ (by simpa [Value.cells] using hX') (Recs.append hR (Recs.one (by simpa [Value.cells] using hcl) (by simpa [Value.cells] using hx)))
theorem RL.ofO {A : M} {X F : LH} (hm : ∀ {I I' : Imm} {x : α} {c : List Value}, R I x c → Ext I I' → R I' x c) (h : SlO T n X v cells xs.length) (hR : Recs (R I) n xs cells) (hk : ∀ I', Ext I I' → RL R n I' [] v xs → Gh A I' F) : Gh A I (X ++ F) :=
  SlO.freeze h (fun I' hI hS => hk I' hI (RL.ofI hS (hR.imp fun _ _ h => hm h hI)))
end
end Go.SL
-- S2
set_option linter.unusedSimpArgs false
set_option linter.unusedVariables false
namespace Go.Proofs.YtmmfcgbfbcamcaaGreatDoor
open Go.SL
theorem SSd : type_of% (And.intro @Pv_some <| And.intro @fldV_p <| And.intro @nilV_p <| And.intro @nilV_f <| And.intro @lenV_s <| And.intro @capV_s <| And.intro @sLen <| And.intro @minV_i <| And.intro @maxV_i <| And.intro @strV_s <| And.intro @unV_not <| And.intro @unV_neg <| And.intro @pickV_t <| And.intro @pickV_f <| And.intro @exV_t <| And.intro @cvIV_i <| And.intro @binI_add <| And.intro @binI_sub <| And.intro @binI_mul <| And.intro @binI_eql <| And.intro @binI_neq <| And.intro @binI_lss <| And.intro @binI_leq <| And.intro @binI_gtr <| And.intro @binI_geq <| And.intro @binI_and <| And.intro @binI_or <| And.intro @binB_eql <| And.intro @binB_neq <| And.intro @sEq <| And.intro @sNe <| And.intro @sLt <| And.intro @sLe <| And.intro @sGt <| And.intro @sGe <| And.intro @stampEq <| And.intro @stampNe <| And.intro @fldv_agg <| And.intro @fldv_one <| And.intro @binP_eql_nil <| And.intro @binP_neq_nil <| And.intro @binN_eql_nil <| And.intro @binN_neq_nil <| And.intro @binN_eql_nn <| And.intro @binN_neq_nn <| And.intro @Br_true <| And.intro @Br_false <| And.intro @Gd_tt <| And.intro @Gd_ft <| And.intro @Gd_tf <| And.intro @Gd_ff <| And.intro @cells_agg <| And.intro (@List.getElem?_toArray Value) <| And.intro (@List.getElem?_cons_zero Value) <| And.intro (@List.getElem?_cons_succ Value) <| And.intro @Nat.zero_add <| And.intro @Nat.add_zero <| And.intro @Nat.zero_mul <| And.intro (@List.drop_succ_cons Value) <| And.intro (@List.drop_zero Value) <| And.intro (@List.take_succ_cons Value) <| And.intro (@List.take_zero Value) <| And.intro (@List.nil_append Value) <| And.intro (@List.cons_append Value) <| And.intro (@List.drop_nil Value) <| And.intro (@List.take_nil Value) <| And.intro @bld_1 <| And.intro @bld_2 <| And.intro @bld_3 <| And.intro @bld_4 <| And.intro @bld_5 <| And.intro @bld_6 <| And.intro @bld_7 <| And.intro @bld_8 <| And.intro @bld_9 <| And.intro @bld_10 <| And.intro @bld_11 <| And.intro @bld_12 <| And.intro @bld_13 <| And.intro @bld_14 <| And.intro @bld_15 <| And.intro @bld_16 <| And.intro @bld_17 <| And.intro @bld_18 <| And.intro @bld_19 <| And.intro @bld_20 <| And.intro @bld_21 <| And.intro @bld_22 <| And.intro @bld_23 <| And.intro @bld_24 <| And.intro @bld_25 <| And.intro @bld_26 <| And.intro @bld_27 <| And.intro @bld_28 <| And.intro @bld_29 <| And.intro @bld_30 <| And.intro @bld_31 <| And.intro @bld_32 <| And.intro @bld_33 <| And.intro @bld_34 <| And.intro @bld_35 <| And.intro @bld_36 <| And.intro @bld_37 <| And.intro @bld_38 <| And.intro @bld_39 <| And.intro @bld_40 <| And.intro @bld_41 <| And.intro @bld_42 <| And.intro @bld_43 <| And.intro @bld_44 <| And.intro @bld_45 <| And.intro @bld_46 <| And.intro @bld_47 <| And.intro @bld_48 <| And.intro @bld_49 <| And.intro (@List.nil_append (Nat × Obj)) <| (@List.cons_append (Nat × Obj))) := And.intro @Pv_some <| And.intro @fldV_p <| And.intro @nilV_p <| And.intro @nilV_f <| And.intro @lenV_s <| And.intro @capV_s <| And.intro @sLen <| And.intro @minV_i <| And.intro @maxV_i <| And.intro @strV_s <| And.intro @unV_not <| And.intro @unV_neg <| And.intro @pickV_t <| And.intro @pickV_f <| And.intro @exV_t <| And.intro @cvIV_i <| And.intro @binI_add <| And.intro @binI_sub <| And.intro @binI_mul <| And.intro @binI_eql <| And.intro @binI_neq <| And.intro @binI_lss <| And.intro @binI_leq <| And.intro @binI_gtr <| And.intro @binI_geq <| And.intro @binI_and <| And.intro @binI_or <| And.intro @binB_eql <| And.intro @binB_neq <| And.intro @sEq <| And.intro @sNe <| And.intro @sLt <| And.intro @sLe <| And.intro @sGt <| And.intro @sGe <| And.intro @stampEq <| And.intro @stampNe <| And.intro @fldv_agg <| And.intro @fldv_one <| And.intro @binP_eql_nil <| And.intro @binP_neq_nil <| And.intro @binN_eql_nil <| And.intro @binN_neq_nil <| And.intro @binN_eql_nn <| And.intro @binN_neq_nn <| And.intro @Br_true <| And.intro @Br_false <| And.intro @Gd_tt <| And.intro @Gd_ft <| And.intro @Gd_tf <| And.intro @Gd_ff <| And.intro @cells_agg <| And.intro (@List.getElem?_toArray Value) <| And.intro (@List.getElem?_cons_zero Value) <| And.intro (@List.getElem?_cons_succ Value) <| And.intro @Nat.zero_add <| And.intro @Nat.add_zero <| And.intro @Nat.zero_mul <| And.intro (@List.drop_succ_cons Value) <| And.intro (@List.drop_zero Value) <| And.intro (@List.take_succ_cons Value) <| And.intro (@List.take_zero Value) <| And.intro (@List.nil_append Value) <| And.intro (@List.cons_append Value) <| And.intro (@List.drop_nil Value) <| And.intro (@List.take_nil Value) <| And.intro @bld_1 <| And.intro @bld_2 <| And.intro @bld_3 <| And.intro @bld_4 <| And.intro @bld_5 <| And.intro @bld_6 <| And.intro @bld_7 <| And.intro @bld_8 <| And.intro @bld_9 <| And.intro @bld_10 <| And.intro @bld_11 <| And.intro @bld_12 <| And.intro @bld_13 <| And.intro @bld_14 <| And.intro @bld_15 <| And.intro @bld_16 <| And.intro @bld_17 <| And.intro @bld_18 <| And.intro @bld_19 <| And.intro @bld_20 <| And.intro @bld_21 <| And.intro @bld_22 <| And.intro @bld_23 <| And.intro @bld_24 <| And.intro @bld_25 <| And.intro @bld_26 <| And.intro @bld_27 <| And.intro @bld_28 <| And.intro @bld_29 <| And.intro @bld_30 <| And.intro @bld_31 <| And.intro @bld_32 <| And.intro @bld_33 <| And.intro @bld_34 <| And.intro @bld_35 <| And.intro @bld_36 <| And.intro @bld_37 <| And.intro @bld_38 <| And.intro @bld_39 <| And.intro @bld_40 <| And.intro @bld_41 <| And.intro @bld_42 <| And.intro @bld_43 <| And.intro @bld_44 <| And.intro @bld_45 <| And.intro @bld_46 <| And.intro @bld_47 <| And.intro @bld_48 <| And.intro @bld_49 <| And.intro (@List.nil_append (Nat × Obj)) <| (@List.cons_append (Nat × Obj))
end Go.Proofs.YtmmfcgbfbcamcaaGreatDoor
-- S3
set_option linter.unusedSimpArgs false
set_option linter.unusedVariables false
namespace Go.Proofs.YtmmfcgbfbcamcaaGreatDoor
open Go.SL
set_option maxRecDepth 10000
section
variable {ω : Om} {I : Imm} {L : LH} {K : Value → M}
theorem leafI {a b : Int} (h : K (.int .i64 a) I L) (e : a = b) : K (.int .i64 b) I L := e ▸ h
theorem equal_spec {v w : Value} {a b : List UInt8} (hv : Bytes I v a) (hw : Bytes I w b) (hk : K (.bool (a == b)) I L) : Cal Tryz.prog ω 77 #[v, w] K I L := by
  refine cal77 ?_
  unfold sh77
  refine bs_N hv (Ext.refl _) (bs_N hw (Ext.refl _) ?_)
  try simp only [SSd, Nat.reduceAdd]
  exact Gh.done hk
theorem isNaN_spec {a : Int} (hk : K (.bool false) I L) : Cal Tryz.prog ω 245 #[.int .i64 a] K I L := by
  refine cal245 ?_
  unfold sh245
  simp only [SSd, Nat.reduceAdd, bne_self_eq_false]
  exact Gh.done hk
def icmp (a b : Int) : Int := if a < b then -1 else if b < a then 1 else 0
theorem ccompare_spec {a b : Int} (hk : K (.int .i64 (icmp a b)) I L) : Cal Tryz.prog ω 220 #[.int .i64 a, .int .i64 b] K I L := by
  refine cal220 ?_
  unfold sh220
  refine call (isNaN_spec ?_)
  refine call (isNaN_spec ?_)
  repeat' (first | (with_reducible refine drawC ?_) | (with_reducible refine drawW1 ?_) | (with_reducible refine drawW2 ?_) | (with_reducible refine keepC (by repeat (first | exact Ext.refl _ | assumption | refine Ext.trans ?_ (by assumption))) ?_) | (with_reducible refine newI (fun _ => ?_)) | first | (with_reducible refine rdb ?_) | ((with_reducible refine st1 ?_ ?_); rfl) | ((with_reducible refine rdB ?_ ?_); rfl) | (with_reducible refine rdbS ?_) | ((with_reducible refine rdBS ?_ ?_); rfl) | ((with_reducible refine stB ?_ ?_ ?_ ?_); rfl; rfl; exact one_all rfl) | ((with_reducible refine rdP _ rfl ?_ ?_); rfl) | ((with_reducible refine rdPS _ rfl ?_ ?_); rfl) | ((with_reducible refine stP _ rfl ?_ ?_ ?_ ?_); rfl; rfl; rfl) | (with_reducible refine unfE (sh220.eq_1 ..) ?_) | (with_reducible refine And.intro ?_ ?_) | (simp only [Bool.not_true, Bool.not_false, Bool.and_self, Bool.true_and, Int.reduceBEq, Int.reduceBNe, Int.reduceLT, Int.reduceLE, decide_true, decide_false, Br_true, Br_false, Gd_tt, Gd_ft, Gd_tf, Gd_ff, beq_self_eq_true, bne_self_eq_false]) | (with_reducible refine gd_split (fun _ => ?_) (fun _ => ?_)) | (with_reducible refine br_split (fun _ => ?_) (fun _ => ?_)) | (simp only [SSd, Nat.reduceAdd]))
  all_goals (refine Gh.done (leafI hk ?_); unfold icmp; repeat' split)
  all_goals (simp_all <;> omega)
theorem or_spec {bb off cap : Nat} {a b : Int} (h : Cells I L bb off [.int .i64 a, .int .i64 b]) (hk : K (.int .i64 (if a ≠ 0 then a else b)) I L) : Cal Tryz.prog ω 219 #[.slice (some ⟨bb, off, none⟩) 2 cap] K I L := by
  refine cal219 ?_
  unfold sh219
  try simp only [SSd, Nat.reduceAdd]
  refine loop (fun m s I' L' => I' = I ∧ L' = L ∧ ∃ k : Nat, k + m = 2 ∧ s = (.int .i64 0, .int .i64 k, ()) ∧ (0 < k → a = 0) ∧ (1 < k → b = 0)) 2 ⟨rfl, rfl, 0, rfl, rfl, by omega, by omega⟩ ?_
  rintro m s I' L' ⟨rfl, rfl, k, hkm, rfl, h1, h2⟩
  unfold sh219_1
  try simp only [SSd, Nat.reduceAdd]
  refine br_split (fun hlt => ?_) (fun hlt => ?_)
  · simp at hlt
    have hix := ixV_int bb off 1 .i64 2 cap k (by omega) (by omega)
    have hc : Cell I' L' bb (off + (k : Int).toNat * 1) (.int .i64 (geti [a, b] (k : Int))) := by
      match k, hlt with
      | 0, _ => exact h 0 _ rfl
      | 1, _ => exact h 1 _ rfl
    simp only [hix, SSd, Nat.reduceAdd]
    refine rd1 hc ?_
    simp only [SSd, Nat.reduceAdd, wrap_i64 ((k : Int) + 1) (by omega)]
    refine br_split (fun h0 => Gh.done (leafI hk ?_)) (fun h0 => Gh.done ⟨m - 1, by omega, rfl, rfl, k + 1, by omega, by simp, ?_, ?_⟩)
    · match k, h1, h2, hlt, h0 with
      | 0, _, _, _, h0 => simp [geti] at h0 ⊢; intro e; exact absurd e h0
      | 1, h1, _, _, h0 => simp [geti, h1]
    · intro _
      match k, h1, h2, hlt, h0 with
      | 0, _, _, _, h0 => simpa [geti] using h0
      | 1, h1, _, _, h0 => exact h1 (by omega)
    · intro _
      match k, h1, h2, hlt, h0 with
      | 0, _, _, _, h0 => omega
      | 1, h1, _, _, h0 => simpa [geti] using h0
  · simp at hlt
    have e1 := h1 (by omega)
    have e2 := h2 (by omega)
    exact Gh.done (leafI hk (by simp [e1, e2]))
def scmp (a b : TStamp) : Int := if icmp a.fWall b.fWall ≠ 0 then icmp a.fWall b.fWall else icmp a.fLogic b.fLogic
def bhd (a b : TStamp) : Bool := decide (b.fWall < a.fWall ∨ (a.fWall = b.fWall ∧ b.fLogic < a.fLogic))
theorem scmp_bhd (a b : TStamp) : decide (scmp a b > 0) = bhd a b := by
  unfold scmp bhd icmp
  by_cases h1 : a.fWall < b.fWall <;> by_cases h2 : b.fWall < a.fWall <;> by_cases h3 : a.fLogic < b.fLogic <;> by_cases h4 : b.fLogic < a.fLogic <;> simp [h1, h2, h3, h4] <;> omega
abbrev sv (x : TStamp) : Value := .agg #[.int .i64 x.fWall, .int .i64 x.fLogic]
theorem hcompare_spec {x y : TStamp} (hk : K (.int .i64 (scmp x y)) I L) : Cal Tryz.prog ω 158 #[sv x, sv y] K I L := by
  refine cal158 ?_
  unfold sh158
  repeat' (first | (with_reducible refine drawC ?_) | (with_reducible refine drawW1 ?_) | (with_reducible refine drawW2 ?_) | (with_reducible refine keepC (by repeat (first | exact Ext.refl _ | assumption | refine Ext.trans ?_ (by assumption))) ?_) | (with_reducible refine newI (fun _ => ?_)) | ((with_reducible refine call ?_); refine (ccompare_spec ?_)) | first | (with_reducible refine rdb ?_) | ((with_reducible refine st1 ?_ ?_); rfl) | ((with_reducible refine rdB ?_ ?_); rfl) | (with_reducible refine rdbS ?_) | ((with_reducible refine rdBS ?_ ?_); rfl) | ((with_reducible refine stB ?_ ?_ ?_ ?_); rfl; rfl; exact one_all rfl) | ((with_reducible refine rdP _ rfl ?_ ?_); rfl) | ((with_reducible refine rdPS _ rfl ?_ ?_); rfl) | ((with_reducible refine stP _ rfl ?_ ?_ ?_ ?_); rfl; rfl; rfl) | (with_reducible refine unfE (sh158.eq_1 ..) ?_) | (with_reducible refine And.intro ?_ ?_) | (simp only [Bool.not_true, Bool.not_false, Bool.and_self, Bool.true_and, Int.reduceBEq, Int.reduceBNe, Int.reduceLT, Int.reduceLE, decide_true, decide_false, Br_true, Br_false, Gd_tt, Gd_ft, Gd_tf, Gd_ff, beq_self_eq_true, bne_self_eq_false]) | (with_reducible refine gd_split (fun _ => ?_) (fun _ => ?_)) | (with_reducible refine br_split (fun _ => ?_) (fun _ => ?_)) | (simp only [SSd, Nat.reduceAdd]))
  refine ⟨#[.int .i64 (icmp x.fWall y.fWall), .int .i64 (icmp x.fLogic y.fLogic)], by kernel_rfl, fun bb => ?_⟩
  refine Gh.done (call (or_spec (fun j u hu => Cell.own (List.mem_cons_self ..) (by simpa using hu)) ?_))
  exact Gh.to L (Gh.done hk)
theorem behind_spec {x y : TStamp} (hk : K (.bool (bhd x y)) I L) : Cal Tryz.prog ω 213 #[sv x, sv y] K I L := by
  rw [← scmp_bhd] at hk
  refine cal213 ?_
  unfold sh213
  repeat' (first | (with_reducible refine drawC ?_) | (with_reducible refine drawW1 ?_) | (with_reducible refine drawW2 ?_) | (with_reducible refine keepC (by repeat (first | exact Ext.refl _ | assumption | refine Ext.trans ?_ (by assumption))) ?_) | (with_reducible refine newI (fun _ => ?_)) | ((with_reducible refine call ?_); refine (hcompare_spec ?_)) | first | (with_reducible refine rdb ?_) | ((with_reducible refine st1 ?_ ?_); rfl) | ((with_reducible refine rdB ?_ ?_); rfl) | (with_reducible refine rdbS ?_) | ((with_reducible refine rdBS ?_ ?_); rfl) | ((with_reducible refine stB ?_ ?_ ?_ ?_); rfl; rfl; exact one_all rfl) | ((with_reducible refine rdP _ rfl ?_ ?_); rfl) | ((with_reducible refine rdPS _ rfl ?_ ?_); rfl) | ((with_reducible refine stP _ rfl ?_ ?_ ?_ ?_); rfl; rfl; rfl) | (with_reducible refine unfE (sh213.eq_1 ..) ?_) | (with_reducible refine And.intro ?_ ?_) | (simp only [Bool.not_true, Bool.not_false, Bool.and_self, Bool.true_and, Int.reduceBEq, Int.reduceBNe, Int.reduceLT, Int.reduceLE, decide_true, decide_false, Br_true, Br_false, Gd_tt, Gd_ft, Gd_tf, Gd_ff, beq_self_eq_true, bne_self_eq_false]) | (with_reducible refine gd_split (fun _ => ?_) (fun _ => ?_)) | (with_reducible refine br_split (fun _ => ?_) (fun _ => ?_)) | (simp only [SSd, Nat.reduceAdd]))
  exact Gh.to L (Gh.done hk)
def wallB (n : Int) : Bool := decide (0 ≤ n ∧ n ≤ 9007199254740991)
def rightB (s : TStamp) : Bool := wallB s.fWall && decide (0 ≤ s.fLogic ∧ s.fLogic ≤ 65535)
theorem wall_spec {a : Int} (hk : K (.bool (wallB a)) I L) : Cal Tryz.prog ω 146 #[.int .i64 a] K I L := by
  refine cal146 ?_
  unfold sh146
  repeat' (first | (with_reducible refine drawC ?_) | (with_reducible refine drawW1 ?_) | (with_reducible refine drawW2 ?_) | (with_reducible refine keepC (by repeat (first | exact Ext.refl _ | assumption | refine Ext.trans ?_ (by assumption))) ?_) | (with_reducible refine newI (fun _ => ?_)) | first | (with_reducible refine rdb ?_) | ((with_reducible refine st1 ?_ ?_); rfl) | ((with_reducible refine rdB ?_ ?_); rfl) | (with_reducible refine rdbS ?_) | ((with_reducible refine rdBS ?_ ?_); rfl) | ((with_reducible refine stB ?_ ?_ ?_ ?_); rfl; rfl; exact one_all rfl) | ((with_reducible refine rdP _ rfl ?_ ?_); rfl) | ((with_reducible refine rdPS _ rfl ?_ ?_); rfl) | ((with_reducible refine stP _ rfl ?_ ?_ ?_ ?_); rfl; rfl; rfl) | (with_reducible refine unfE (sh146.eq_1 ..) ?_) | (with_reducible refine And.intro ?_ ?_) | (simp only [Bool.not_true, Bool.not_false, Bool.and_self, Bool.true_and, Int.reduceBEq, Int.reduceBNe, Int.reduceLT, Int.reduceLE, decide_true, decide_false, Br_true, Br_false, Gd_tt, Gd_ft, Gd_tf, Gd_ff, beq_self_eq_true, bne_self_eq_false]) | (with_reducible refine gd_split (fun _ => ?_) (fun _ => ?_)) | (with_reducible refine br_split (fun _ => ?_) (fun _ => ?_)) | (simp only [SSd, Nat.reduceAdd]))
  all_goals (refine Gh.done (leafB hk ?_); simp_all [wallB] <;> omega)
theorem hright_spec {x : TStamp} (hk : K (.bool (rightB x)) I L) : Cal Tryz.prog ω 89 #[.agg #[.int .i64 x.fWall, .int .i64 x.fLogic]] K I L := by
  refine cal89 ?_
  unfold sh89
  repeat' (first | (with_reducible refine drawC ?_) | (with_reducible refine drawW1 ?_) | (with_reducible refine drawW2 ?_) | (with_reducible refine keepC (by repeat (first | exact Ext.refl _ | assumption | refine Ext.trans ?_ (by assumption))) ?_) | (with_reducible refine newI (fun _ => ?_)) | ((with_reducible refine call ?_); refine (wall_spec ?_)) | first | (with_reducible refine rdb ?_) | ((with_reducible refine st1 ?_ ?_); rfl) | ((with_reducible refine rdB ?_ ?_); rfl) | (with_reducible refine rdbS ?_) | ((with_reducible refine rdBS ?_ ?_); rfl) | ((with_reducible refine stB ?_ ?_ ?_ ?_); rfl; rfl; exact one_all rfl) | ((with_reducible refine rdP _ rfl ?_ ?_); rfl) | ((with_reducible refine rdPS _ rfl ?_ ?_); rfl) | ((with_reducible refine stP _ rfl ?_ ?_ ?_ ?_); rfl; rfl; rfl) | (with_reducible refine unfE (sh89.eq_1 ..) ?_) | (with_reducible refine And.intro ?_ ?_) | (simp only [Bool.not_true, Bool.not_false, Bool.and_self, Bool.true_and, Int.reduceBEq, Int.reduceBNe, Int.reduceLT, Int.reduceLE, decide_true, decide_false, Br_true, Br_false, Gd_tt, Gd_ft, Gd_tf, Gd_ff, beq_self_eq_true, bne_self_eq_false]) | (with_reducible refine gd_split (fun _ => ?_) (fun _ => ?_)) | (with_reducible refine br_split (fun _ => ?_) (fun _ => ?_)) | (simp only [SSd, Nat.reduceAdd]))
  all_goals (refine Gh.to L (Gh.done (leafB hk ?_)); simp_all [rightB] <;> omega)
def txnB (n : Int) : Bool := decide (1 ≤ n ∧ n ≤ 9007199254740991)
theorem istxn_spec {a : Int} (hk : K (.bool (txnB a)) I L) : Cal Tryz.prog ω 217 #[.int .i64 a] K I L := by
  refine cal217 ?_
  unfold sh217
  repeat' (first | (with_reducible refine drawC ?_) | (with_reducible refine drawW1 ?_) | (with_reducible refine drawW2 ?_) | (with_reducible refine keepC (by repeat (first | exact Ext.refl _ | assumption | refine Ext.trans ?_ (by assumption))) ?_) | (with_reducible refine newI (fun _ => ?_)) | first | (with_reducible refine rdb ?_) | ((with_reducible refine st1 ?_ ?_); rfl) | ((with_reducible refine rdB ?_ ?_); rfl) | (with_reducible refine rdbS ?_) | ((with_reducible refine rdBS ?_ ?_); rfl) | ((with_reducible refine stB ?_ ?_ ?_ ?_); rfl; rfl; exact one_all rfl) | ((with_reducible refine rdP _ rfl ?_ ?_); rfl) | ((with_reducible refine rdPS _ rfl ?_ ?_); rfl) | ((with_reducible refine stP _ rfl ?_ ?_ ?_ ?_); rfl; rfl; rfl) | (with_reducible refine unfE (sh217.eq_1 ..) ?_) | (with_reducible refine And.intro ?_ ?_) | (simp only [Bool.not_true, Bool.not_false, Bool.and_self, Bool.true_and, Int.reduceBEq, Int.reduceBNe, Int.reduceLT, Int.reduceLE, decide_true, decide_false, Br_true, Br_false, Gd_tt, Gd_ft, Gd_tf, Gd_ff, beq_self_eq_true, bne_self_eq_false]) | (with_reducible refine gd_split (fun _ => ?_) (fun _ => ?_)) | (with_reducible refine br_split (fun _ => ?_) (fun _ => ?_)) | (simp only [SSd, Nat.reduceAdd]))
  all_goals (refine Gh.done (leafB hk ?_); simp_all [txnB] <;> omega)
def readerB (n : Int) : Bool := n == 0 || txnB n
theorem ask_spec {x : TStamp} {a : Int} (hk : K (.bool (rightB x && readerB a)) I L) : Cal Tryz.prog ω 212 #[sv x, .int .i64 a] K I L := by
  refine cal212 ?_
  unfold sh212
  repeat' (first | (with_reducible refine drawC ?_) | (with_reducible refine drawW1 ?_) | (with_reducible refine drawW2 ?_) | (with_reducible refine keepC (by repeat (first | exact Ext.refl _ | assumption | refine Ext.trans ?_ (by assumption))) ?_) | (with_reducible refine newI (fun _ => ?_)) | ((with_reducible refine call ?_); refine (istxn_spec ?_)) | ((with_reducible refine call ?_); refine (hright_spec ?_)) | first | (with_reducible refine rdb ?_) | ((with_reducible refine st1 ?_ ?_); rfl) | ((with_reducible refine rdB ?_ ?_); rfl) | (with_reducible refine rdbS ?_) | ((with_reducible refine rdBS ?_ ?_); rfl) | ((with_reducible refine stB ?_ ?_ ?_ ?_); rfl; rfl; exact one_all rfl) | ((with_reducible refine rdP _ rfl ?_ ?_); rfl) | ((with_reducible refine rdPS _ rfl ?_ ?_); rfl) | ((with_reducible refine stP _ rfl ?_ ?_ ?_ ?_); rfl; rfl; rfl) | (with_reducible refine unfE (sh212.eq_1 ..) ?_) | (with_reducible refine And.intro ?_ ?_) | (simp only [Bool.not_true, Bool.not_false, Bool.and_self, Bool.true_and, Int.reduceBEq, Int.reduceBNe, Int.reduceLT, Int.reduceLE, decide_true, decide_false, Br_true, Br_false, Gd_tt, Gd_ft, Gd_tf, Gd_ff, beq_self_eq_true, bne_self_eq_false]) | (with_reducible refine gd_split (fun _ => ?_) (fun _ => ?_)) | (with_reducible refine br_split (fun _ => ?_) (fun _ => ?_)) | (simp only [SSd, Nat.reduceAdd]))
  all_goals (refine Gh.to L (Gh.done (leafB hk ?_)); simp_all [readerB] <;> omega)
def keyOk (l : List UInt8) : Bool := decide (1 ≤ l.length ∧ l.length ≤ 110)
theorem iskey_spec {v : Value} {l : List UInt8} (h : Bytes I v l) (hk : K (.bool (keyOk l)) I L) : Cal Tryz.prog ω 143 #[v] K I L := by
  obtain ⟨a, c, rfl⟩ := Bytes.form h
  refine cal143 ?_
  unfold sh143
  repeat' (first | (with_reducible refine drawC ?_) | (with_reducible refine drawW1 ?_) | (with_reducible refine drawW2 ?_) | (with_reducible refine keepC (by repeat (first | exact Ext.refl _ | assumption | refine Ext.trans ?_ (by assumption))) ?_) | (with_reducible refine newI (fun _ => ?_)) | first | (with_reducible refine rdb ?_) | ((with_reducible refine st1 ?_ ?_); rfl) | ((with_reducible refine rdB ?_ ?_); rfl) | (with_reducible refine rdbS ?_) | ((with_reducible refine rdBS ?_ ?_); rfl) | ((with_reducible refine stB ?_ ?_ ?_ ?_); rfl; rfl; exact one_all rfl) | ((with_reducible refine rdP _ rfl ?_ ?_); rfl) | ((with_reducible refine rdPS _ rfl ?_ ?_); rfl) | ((with_reducible refine stP _ rfl ?_ ?_ ?_ ?_); rfl; rfl; rfl) | (with_reducible refine unfE (sh143.eq_1 ..) ?_) | (with_reducible refine And.intro ?_ ?_) | (simp only [Bool.not_true, Bool.not_false, Bool.and_self, Bool.true_and, Int.reduceBEq, Int.reduceBNe, Int.reduceLT, Int.reduceLE, decide_true, decide_false, Br_true, Br_false, Gd_tt, Gd_ft, Gd_tf, Gd_ff, beq_self_eq_true, bne_self_eq_false]) | (with_reducible refine gd_split (fun _ => ?_) (fun _ => ?_)) | (with_reducible refine br_split (fun _ => ?_) (fun _ => ?_)) | (simp only [SSd, Nat.reduceAdd]))
  all_goals (refine Gh.done (leafB hk ?_); rw [Bool.eq_iff_iff]; simp only [keyOk, ne_eq, decide_eq_true_eq, decide_eq_false_iff_not, Bool.false_eq_true, iff_false] at *; omega)
def nextF (s : TStamp) : TStamp × Int := if rightB s = false then (⟨0, 0⟩, 80) else if s.fLogic < 65535 then (⟨s.fWall, s.fLogic + 1⟩, 0) else if s.fWall = 9007199254740991 then (⟨0, 0⟩, 82) else (⟨s.fWall + 1, 0⟩, 0)
theorem leafN {p q : TStamp × Int} (h : K (.tuple #[sv p.1, .int .i64 p.2]) I L) (e : p = q) : K (.tuple #[sv q.1, .int .i64 q.2]) I L := e ▸ h
theorem rightB_iff {x : TStamp} (h : rightB x = true) : (0 ≤ x.fWall ∧ x.fWall ≤ 9007199254740991) ∧ 0 ≤ x.fLogic ∧ x.fLogic ≤ 65535 := by
  simpa [rightB, wallB] using h
theorem hnext_spec {x : TStamp} (hk : K (.tuple #[sv (nextF x).1, .int .i64 (nextF x).2]) I L) : Cal Tryz.prog ω 216 #[sv x] K I L := by
  refine cal216 ?_
  unfold sh216
  repeat' (first | (with_reducible refine drawC ?_) | (with_reducible refine drawW1 ?_) | (with_reducible refine drawW2 ?_) | (with_reducible refine keepC (by repeat (first | exact Ext.refl _ | assumption | refine Ext.trans ?_ (by assumption))) ?_) | (with_reducible refine newI (fun _ => ?_)) | ((with_reducible refine call ?_); refine (hright_spec ?_)) | first | (with_reducible refine rdb ?_) | ((with_reducible refine st1 ?_ ?_); rfl) | ((with_reducible refine rdB ?_ ?_); rfl) | (with_reducible refine rdbS ?_) | ((with_reducible refine rdBS ?_ ?_); rfl) | ((with_reducible refine stB ?_ ?_ ?_ ?_); rfl; rfl; exact one_all rfl) | ((with_reducible refine rdP _ rfl ?_ ?_); rfl) | ((with_reducible refine rdPS _ rfl ?_ ?_); rfl) | ((with_reducible refine stP _ rfl ?_ ?_ ?_ ?_); rfl; rfl; rfl) | (with_reducible refine unfE (sh216.eq_1 ..) ?_) | (with_reducible refine And.intro ?_ ?_) | (simp only [Bool.not_true, Bool.not_false, Bool.and_self, Bool.true_and, Int.reduceBEq, Int.reduceBNe, Int.reduceLT, Int.reduceLE, decide_true, decide_false, Br_true, Br_false, Gd_tt, Gd_ft, Gd_tf, Gd_ff, beq_self_eq_true, bne_self_eq_false]) | (with_reducible refine gd_split (fun _ => ?_) (fun _ => ?_)) | (with_reducible refine br_split (fun _ => ?_) (fun _ => ?_)) | (simp only [SSd, Nat.reduceAdd]))
  all_goals (refine Gh.to L (Gh.done ?_))
  · exact leafN (q := (⟨0, 0⟩, 80)) hk (by simp_all [nextF])
  · rename_i e1 e2
    have hr := rightB_iff (x := x) (by simpa using e1)
    exact leafN (q := (⟨0, 0⟩, 82)) hk (by simp_all [nextF])
  · rename_i e1 e2 e3
    have hr := rightB_iff (x := x) (by simpa using e1)
    rw [wrap_i64 _ (by omega)]
    simp at e1 e2 e3
    exact leafN (q := (⟨x.fWall + 1, 0⟩, 0)) hk (by
      have : x.fWall ≠ 9007199254740991 := fun e => e2 e e3
      simp [nextF, e1, e3, this])
  · rename_i e1 e2 e3
    have hr := rightB_iff (x := x) (by simpa using e1)
    rw [wrap_i64 _ (by omega)]
    simp at e1 e2 e3
    exact leafN (q := (⟨x.fWall, x.fLogic + 1⟩, 0)) hk (by
      have : x.fLogic < 65535 := by omega
      simp [nextF, e1, this])
def inB (p : TSpan) (k : List UInt8) : Bool := !(blt k p.fFrom) && (p.fTo.length == 0 || blt k p.fTo)
end
end Go.Proofs.YtmmfcgbfbcamcaaGreatDoor
-- S3
set_option linter.unusedSimpArgs false
set_option linter.unusedVariables false
namespace Go.Proofs.YtmmfcgbfbcamcaaGreatDoor
open Go.SL
set_option maxRecDepth 10000
section
variable {ω : Om} {I : Imm} {L : LH} {K : Value → M}
abbrev Strs (I : Imm) (L : LH) (v : Value) (l : List (List UInt8)) : Prop := RL StrV 1 I L v l
abbrev sstr (a : List UInt8) : Value := .string ⟨a.toArray⟩
theorem sNaN_spec {a : List UInt8} (hk : K (.bool false) I L) : Cal Tryz.prog ω 211 #[sstr a] K I L := by
  refine cal211 ?_
  unfold sh211
  simp only [SSd, Nat.reduceAdd, sNe, beq_self_eq_true, Bool.not_true]
  exact Gh.done hk
theorem cNaN_spec {a : List UInt8} (hk : K (.bool false) I L) : Cal Tryz.prog ω 244 #[sstr a] K I L := by
  refine cal244 ?_
  unfold sh244
  simp only [SSd, Nat.reduceAdd, sNe, beq_self_eq_true, Bool.not_true]
  exact Gh.done hk
theorem less_spec {a b : List UInt8} (hk : K (.bool (blt a b)) I L) : Cal Tryz.prog ω 210 #[sstr a, sstr b] K I L := by
  refine cal210 ?_
  unfold sh210
  repeat' (first | (with_reducible refine drawC ?_) | (with_reducible refine drawW1 ?_) | (with_reducible refine drawW2 ?_) | (with_reducible refine keepC (by repeat (first | exact Ext.refl _ | assumption | refine Ext.trans ?_ (by assumption))) ?_) | (with_reducible refine newI (fun _ => ?_)) | ((with_reducible refine call ?_); refine (cNaN_spec ?_)) | first | (with_reducible refine rdb ?_) | ((with_reducible refine st1 ?_ ?_); rfl) | ((with_reducible refine rdB ?_ ?_); rfl) | (with_reducible refine rdbS ?_) | ((with_reducible refine rdBS ?_ ?_); rfl) | ((with_reducible refine stB ?_ ?_ ?_ ?_); rfl; rfl; exact one_all rfl) | ((with_reducible refine rdP _ rfl ?_ ?_); rfl) | ((with_reducible refine rdPS _ rfl ?_ ?_); rfl) | ((with_reducible refine stP _ rfl ?_ ?_ ?_ ?_); rfl; rfl; rfl) | (with_reducible refine unfE (sh210.eq_1 ..) ?_) | (with_reducible refine And.intro ?_ ?_) | (simp only [Bool.not_true, Bool.not_false, Bool.and_self, Bool.true_and, Int.reduceBEq, Int.reduceBNe, Int.reduceLT, Int.reduceLE, decide_true, decide_false, Br_true, Br_false, Gd_tt, Gd_ft, Gd_tf, Gd_ff, beq_self_eq_true, bne_self_eq_false]) | (with_reducible refine gd_split (fun _ => ?_) (fun _ => ?_)) | (with_reducible refine br_split (fun _ => ?_) (fun _ => ?_)) | (simp only [SSd, Nat.reduceAdd]))
  exact Gh.done hk
theorem wrap_u64 (n : Int) (h0 : 0 ≤ n) (h1 : n < 18446744073709551616) : IntKind.u64.wrap n = n := by
  unfold IntKind.wrap
  simp [IntKind.bits, IntKind.signed]
  omega
theorem mid_eq (i j : Nat) (hb : i + j < 9223372036854775808) : binIV .shr (.int .u64 (IntKind.u64.wrap (IntKind.i64.wrap ((i : Int) + j)))) (.int .u64 1) = some (.int .u64 ((i + j) / 2 : Nat)) := by
  have h := binI_shr (a := (i : Int) + j) (c := 1) .u64 .u64 (by decide)
  rw [wrap_i64 _ (by omega), wrap_u64 _ (by omega) (by omega), h]
  congr 2
  show ((i : Int) + j).fdiv (2 ^ 1) = _
  rw [Int.fdiv_eq_ediv_of_nonneg _ (by decide)]
  omega
def SrtK (l : List (List UInt8)) : Prop := l.Pairwise fun a b => blt a b = true
theorem SrtK.get {l : List (List UInt8)} (h : SrtK l) {p q : Nat} (h1 : p < q) (h2 : q < l.length) : blt (geti l (p : Int)) (geti l (q : Int)) = true := by
  rw [geti_nat (by omega), geti_nat h2]
  exact List.pairwise_iff_getElem.1 h p q (by omega) h2 h1
theorem bsearch_spec {v : Value} {l : List (List UInt8)} {k : List UInt8} (h : Strs I L v l) (hlen : l.length < 4611686018427387904) (hs : SrtK l)
    (hk : ∀ i : Nat, i ≤ l.length → (∀ x ∈ l.take i, blt x k = true) → (∀ x ∈ l.drop i, blt x k = false) → K (.tuple #[.int .i64 i, .bool (decide (l[i]? = some k))]) I L) :
    Cal Tryz.prog ω 144 #[v, sstr k] K I L := by
  refine cal144 ?_
  unfold sh144
  simp only [RL.len h, SSd, Nat.reduceAdd]
  refine loop (fun m s I' L' => I' = I ∧ L' = L ∧ ∃ i j : Nat, i + m = j ∧ j ≤ l.length ∧ s = (.int .i64 i, .int .i64 j, ()) ∧ (∀ q : Nat, q < i → blt (geti l (q : Int)) k = true) ∧ (∀ q : Nat, j ≤ q → q < l.length → blt (geti l (q : Int)) k = false)) l.length ⟨rfl, rfl, 0, l.length, by omega, Nat.le_refl _, rfl, by omega, by omega⟩ ?_
  rintro m s I' L' ⟨rfl, rfl, i, j, hij, hjl, rfl, hA, hB⟩
  unfold sh144_1
  try simp only [SSd, Nat.reduceAdd]
  refine br_split (fun hlt => ?_) (fun hlt => ?_)
  · simp at hlt
    simp only [mid_eq i j (by omega), SSd, Nat.reduceAdd]
    have hm1 : i ≤ (i + j) / 2 := by omega
    have hm2 : (i + j) / 2 < j := by omega
    generalize (i + j) / 2 = p at *
    simp only [wrap_i64 (p : Int) (by omega), SSd, Nat.reduceAdd]
    obtain ⟨b, off, c, hix, hl, hc, hcc⟩ := RL.ix h (i := p) (by omega) (by omega)
    obtain rfl : c = _ := hc
    simp only [hix, SSd, Nat.reduceAdd]
    refine rd1 (hcc I' L' (Ext.refl _) (fun _ h => h) 0 _ rfl) ?_
    refine call (less_spec ?_)
    refine br_split (fun e => ?_) (fun e => ?_)
    · simp only [SSd, Nat.reduceAdd, wrap_i64 ((p : Int) + 1) (by omega)]
      refine Gh.done ⟨j - (p + 1), by omega, rfl, rfl, p + 1, j, by omega, hjl, by simp, fun q hq => ?_, hB⟩
      by_cases hq' : q = p
      · rw [hq']; exact e
      · exact blt_trans (hs.get (p := q) (q := p) (by omega) (by omega)) e
    · refine Gh.done ⟨p - i, by omega, rfl, rfl, i, p, by omega, by omega, rfl, hA, fun q hq hq2 => ?_⟩
      cases hb : blt (geti l (q : Int)) k with
      | false => rfl
      | true =>
        by_cases hq' : q = p
        · rw [hq'] at hb; exact absurd hb (by simpa using e)
        · exact absurd (blt_trans (hs.get (p := p) (q := q) (by omega) hq2) hb) (by simpa using e)
  · simp at hlt
    have hij' : i = j := by omega
    subst hij'
    have hA' : ∀ x ∈ l.take i, blt x k = true := by
      intro x hx
      obtain ⟨q, hq, rfl⟩ := List.getElem_of_mem hx
      have hq' : q < i := by simp at hq; omega
      have := hA q hq'
      rw [geti_nat (by omega)] at this
      simpa using this
    have hB' : ∀ x ∈ l.drop i, blt x k = false := by
      intro x hx
      obtain ⟨q, hq, rfl⟩ := List.getElem_of_mem hx
      have hq' : i + q < l.length := by simp at hq; omega
      have := hB (i + q) (by omega) hq'
      rw [geti_nat hq'] at this
      simpa using this
    have fin := hk i hjl hA' hB'
    unfold sh144_4
    try simp only [SSd, Nat.reduceAdd]
    refine gd_split (fun e => ?_) (fun e => ?_)
    · simp at e
      obtain ⟨b, off, c, hix, hl, hc, hcc⟩ := RL.ix h (i := i) (by omega) (by omega)
      obtain rfl : c = _ := hc
      have hge : l[i]? = some (geti l (i : Int)) := by rw [List.getElem?_eq_getElem e, geti_nat e]
      rw [hge] at fin
      simp only [hix, SSd, Nat.reduceAdd]
      refine rd1 (hcc I' L' (Ext.refl _) (fun _ h => h) 0 _ rfl) ?_
      simp only [sEq, SSd, Nat.reduceAdd]
      refine gd_split (fun e2 => ?_) (fun e2 => ?_)
      · refine rd1 (hcc I' L' (Ext.refl _) (fun _ h => h) 0 _ rfl) ?_
        refine call (sNaN_spec ?_)
        try simp only [SSd, Nat.reduceAdd]
        have hd : decide (some (geti l (i : Int)) = some k) = false := by simpa using e2
        rw [hd] at fin
        exact Gh.done fin
      · have hd : decide (some (geti l (i : Int)) = some k) = true := by simpa using e2
        rw [hd] at fin
        exact Gh.done fin
    · simp at e
      rw [List.getElem?_eq_none e] at fin
      exact Gh.done fin
/-! ### Owned slices of strings -/
def strs (l : List (List UInt8)) : List Value := l.map sstr
theorem strs_len (l : List (List UInt8)) : (strs l).length = l.length := by simp [strs]
theorem strs_recs : ∀ (l : List (List UInt8)), Recs (StrV I) 1 l (strs l)
  | [] => rfl
  | x :: l => ⟨rfl, rfl, strs_recs l⟩
theorem strs_one (l : List (List UInt8)) : ∀ u ∈ strs l, u.oneCell' = true := by
  intro u hu
  obtain ⟨x, _, rfl⟩ := List.mem_map.1 hu
  rfl
abbrev StrO (X : LH) (v : Value) (l : List (List UInt8)) : Prop := SlO 9 1 X v (strs l) l.length
theorem StrO.rl {X L : LH} {v : Value} {l : List (List UInt8)} (h : StrO X v l) (hX : ∀ x ∈ X, x ∈ L) : Strs I L v l := by
  have hn := h.news (I := I) hX
  obtain ⟨_, hh⟩ := h
  rcases hh with ⟨_, h0, a, rfl⟩ | ⟨b, cap, cs, _, rfl, _, hle, _⟩
  · refine ⟨a, 0, _, ?_, by omega, hn, strs_recs l⟩
    rw [h0]
  · exact ⟨_, cap, _, rfl, hle, hn, strs_recs l⟩
theorem RL.news' {α : Type} {R : Imm → α → List Value → Prop} {n : Nat} {v : Value} {xs : List α} (h : RL R n I L v xs) : ∃ cells, News n v I L xs.length cells ∧ Recs (R I) n xs cells := by
  obtain ⟨a, cap, cells, rfl, hle, hn, hr⟩ := h
  exact ⟨cells, hn, hr⟩
theorem strs_of_recs : ∀ {l : List (List UInt8)} {cells : List Value}, Recs (StrV I) 1 l cells → cells = strs l
  | [], _, h => h
  | x :: l, cells, ⟨h1, h2, h3⟩ => by
    have := strs_of_recs h3
    obtain ⟨c, cs, rfl⟩ : ∃ c cs, cells = c :: cs := by
      cases cells with
      | nil => simp at h1
      | cons c cs => exact ⟨c, cs, rfl⟩
    have e : c = sstr x := by simpa [StrV] using h2
    simp only [List.drop_succ_cons, List.drop_zero] at this
    rw [this, e]; rfl
theorem clone_spec {v : Value} {l : List (List UInt8)} (h : Strs I L v l) (hlen : l.length * 16 ≤ 140737488355328) (hk : ∀ X v', StrO X v' l → K v' I (X ++ L)) : Cal Tryz.prog ω 145 #[v] K I L := by
  refine cal145 ?_
  unfold sh145
  obtain ⟨cells, hn, hr⟩ := RL.news' h
  obtain rfl := strs_of_recs hr
  obtain ⟨a, cap, rfl⟩ := RL.form h
  cases a with
  | none =>
    try simp only [SSd, Nat.reduceAdd]
    have hl0 : l.length = 0 := by
      rcases hn with ⟨_, _, _, h0, _⟩ | ⟨_, _, _, e, _⟩ | ⟨_, e, _⟩
      · exact h0
      · cases e
      · cases e
    have : l = [] := List.eq_nil_of_length_eq_zero hl0
    subst this
    exact Gh.done (hk [] _ (SlO.none _ 1))
  | some a =>
    try simp only [SSd, Nat.reduceAdd]
    refine bld_zero (fun X u hX => ?_)
    refine app_own rfl hX (hn.mono (Ext.refl _) (fun _ h => List.mem_append_right _ h)) (strs_one _) (by omega) (by omega) (fun X' v' hX' => ?_)
    simp only [Nat.zero_add, List.nil_append] at hX' ⊢
    exact Gh.done (hk X' _ hX')
theorem slcN {b off len cap lo hi n : Nat} {blo bhi : Option Value} (hlo : bndV blo 0 hi = some lo) (hhi : bndV bhi len cap = some hi) (hne : lo < cap) :
    slcV n (.slice (some ⟨b, off, none⟩) len cap) blo bhi none = some (.slice (some ⟨b, off + lo * n, none⟩) (hi - lo) (cap - lo)) := by
  have h0 : bndV none cap cap = some cap := rfl
  simp only [slcV, Option.isNone_none, Option.isSome_none, Bool.and_false, Bool.false_eq_true, if_false, h0, Option.bind_some, hhi, hlo]
  rw [if_neg (by omega)]
  simp [add_none]
theorem slcE {a : Option Addr} {len cap lo hi n : Nat} {blo bhi : Option Value} (hlo : bndV blo 0 hi = some lo) (hhi : bndV bhi len cap = some hi) : ∃ u, slcV n (.slice a len cap) blo bhi none = some u := by
  have h0 : bndV none cap cap = some cap := rfl
  simp only [slcV, Option.isNone_none, Option.isSome_none, Bool.and_false, Bool.false_eq_true, if_false, h0, Option.bind_some, hhi, hlo]
  exact ⟨_, rfl⟩
theorem bnd0 {d y : Nat} : bndV none d y = some d := rfl
theorem cpyN {b off len cap m n T : Nat} {cs : Array Value} {L1 L2 : LH} {x : Value} {xs : List Value} {K : Value → M} (hn : News n x I (L1 ++ (b, .cells cs T (0, 0)) :: L2) m xs) (hle : off + (min m len) * n ≤ cs.size)
    (h1 : ∀ u ∈ xs.take (min m len * n), u.oneCell' = true) (hk : K (.int .i64 (min m len : Nat)) I (L1 ++ (b, .cells (wr cs off (xs.take (min m len * n))) T (0, 0)) :: L2)) :
    CpyV n (.slice (some ⟨b, off, none⟩) len cap) x (gh K) I (L1 ++ (b, .cells cs T (0, 0)) :: L2) :=
  ⟨_, len, cap, m, xs, rfl, hn, .inr ⟨b, off, cs, T, L1, L2, rfl, rfl, hle, h1, Gh.done hk⟩⟩
theorem ins_cells {l : List (List UInt8)} {k : List UInt8} {i : Nat} (hi : i ≤ l.length) {cs : Array Value} (h1 : ∀ (j : Nat) (u : Value), j < i → (strs l)[j]? = some u → cs[j]? = some u) (h2 : cs[i]? = some (sstr k))
    (h3 : ∀ (j : Nat) (u : Value), i ≤ j → (strs l)[j]? = some u → cs[j + 1]? = some u) : ∀ (j : Nat) (u : Value), (strs (l.take i ++ k :: l.drop i))[j]? = some u → cs[j]? = some u := by
  intro j u hu
  have ht : (l.take i).length = i := by simp; omega
  have e : strs (l.take i ++ k :: l.drop i) = (strs l).take i ++ sstr k :: (strs l).drop i := by simp [strs]
  have ht' : ((strs l).take i).length = i := by simp [strs]; omega
  rw [e] at hu
  by_cases hj : j < i
  · rw [List.getElem?_append_left (by omega), List.getElem?_take] at hu
    rw [if_pos hj] at hu
    exact h1 j u hj hu
  · rw [List.getElem?_append_right (by omega), ht'] at hu
    by_cases hj' : j = i
    · subst hj'
      simp at hu
      rw [h2, hu]
    · obtain ⟨q, rfl⟩ : ∃ q, j = i + q + 1 := ⟨j - i - 1, by omega⟩
      rw [show i + q + 1 - i = q + 1 by omega, List.getElem?_cons_succ, List.getElem?_drop] at hu
      exact h3 (i + q) u (by omega) hu
theorem overlaps_ext {bv b off la ca lb cb T T2 : Nat} {va cs : Array Value} {F : LH} (hsz : 0 < cs.size) (hk : K (.bool false) I ((b, Obj.cells cs T2 (0, 0)) :: (bv, Obj.cells va T (0, 0)) :: F)) :
    ExtE Tryz.prog ω (Extern.SlicesOverlaps.overlaps #[177, 177] #[4]) #[.slice (some ⟨bv, 0, none⟩) la ca, .slice (some ⟨b, off, none⟩) lb cb] K I ((b, Obj.cells cs T2 (0, 0)) :: (bv, Obj.cells va T (0, 0)) :: F) := by
  refine ⟨.bool false, fun w hs => ?_, hk⟩
  have h1 := hs.own b _ (List.mem_cons_self ..)
  have h2 := hs.own bv _ (List.mem_cons_of_mem _ (List.mem_cons_self ..))
  have hn := hs.nodup
  have hne : bv ≠ b := by
    rintro rfl
    simp at hn
  obtain ⟨inf, zv, hi', hz, _, hn1, _, _, _⟩ := tinfo_spec (show tinfo Tryz.prog 9 = some (1, 16, #[.string ⟨#[]⟩]) by kernel_rfl)
  refine Lib.run_overlaps_apart w _ _ 9 Tryz.underlying177 1 (fun w => by rw [run_sizeOf hi', hn1]) _ _ _ _ _ _ hne T T2 va.size cs.size ?_ ?_ (by omega) ?_ ?_
  · simp [World.shape?, h2]
  · simp [World.shape?, h1]
  · simp [World.frozen?, h2]
  · simp [World.frozen?, h2]
theorem insert_spec {X F : LH} {v : Value} {l : List (List UInt8)} {i bv : Nat} {k : List UInt8} {T : Nat} (h : StrO X v l) (hi : i ≤ l.length) (hlen : l.length ≤ 1000000000)
    (hk : ∀ X' v', StrO X' v' (l.take i ++ k :: l.drop i) → K v' I (X' ++ F)) :
    Cal Tryz.prog ω 242 #[v, .int .i64 i, .slice (some ⟨bv, 0, none⟩) 1 1] K I (X ++ (bv, .cells #[sstr k] T (0, 0)) :: F) := by
  refine cal242 ?_
  unfold sh242
  have hv : ∀ L', (bv, Obj.cells #[sstr k] T (0, 0)) ∈ L' → News 1 (.slice (some ⟨bv, 0, none⟩) 1 1) I L' 1 [sstr k] := fun L' hm => .inr (.inl ⟨bv, 0, 1, rfl, rfl, fun j u hu => Cell.own hm (by simpa using hu)⟩)
  have hmem : (bv, Obj.cells #[sstr k] T (0, 0)) ∈ X ++ (bv, Obj.cells #[sstr k] T (0, 0)) :: F := List.mem_append_right _ (List.mem_cons_self ..)
  by_cases hin : i = l.length
  · obtain ⟨a, cap, rfl⟩ := h.form
    obtain ⟨u, hu⟩ := slcE (n := 1) (a := a) (len := l.length) (cap := cap) (lo := i) (hi := l.length) (blo := some (.int .i64 i)) (bhi := none) (bnd_in _ _ _ _ (by omega)) rfl
    simp only [hu, SSd, Nat.reduceAdd]
    have e1 : ((1 : Int) == 0) = false := rfl
    have e2 : ((i : Int) == (l.length : Int)) = true := by rw [hin]; simp
    simp only [Int.natCast_one, e1, e2, SSd, Nat.reduceAdd]
    refine app_own (len := l.length) (m := 1) rfl h (hv _ hmem) (one_all rfl) (by omega) (by omega) (fun X' v' hX' => ?_)
    refine Gh.to (X' ++ F) (Gh.done (hk X' v' ?_))
    subst hin
    simpa [strs, StrO] using hX'
  · obtain ⟨hcl, ⟨_, h0, _⟩ | ⟨b, cap, cs, rfl, rfl, hsz, hle, hcs⟩⟩ := h
    · omega
    have s1 := slcN (b := b) (off := 0) (len := l.length) (cap := cap) (lo := i) (hi := l.length) (n := 1) (blo := some (.int .i64 i)) (bhi := none) (bnd_in _ _ _ _ (by omega)) rfl (by omega)
    have e1 : ((1 : Int) == 0) = false := rfl
    have e2 : ((i : Int) == (l.length : Int)) = false := by simp; omega
    simp only [s1, SSd, Nat.reduceAdd]
    simp only [Int.natCast_one, e1, e2, SSd, Nat.reduceAdd]
    simp only [wrap_i64 ((l.length : Int) + 1) (by omega)]
    refine br_split (fun e => ?_) (fun e => ?_)
    · simp at e
      have hcap : cap = l.length := by omega
      have s2 := slcN (b := b) (off := 0) (len := l.length) (cap := cap) (lo := 0) (hi := i) (n := 1) (blo := none) (bhi := some (.int .i64 i)) rfl (bnd_in _ _ _ _ (by omega)) (by omega)
      simp only [s2, SSd, Nat.reduceAdd]
      simp only [wrap_i64 ((l.length : Int) + 1 - i) (by omega)]
      have em : ((l.length : Int) + 1 - i) = ((l.length + 1 - i : Nat) : Int) := by omega
      rw [em]
      refine ⟨_, _, _, l.length + 1 - i, rfl, rfl, one_all rfl, by omega, by omega, .inr (.inr ⟨by omega, by omega, by omega, strs (l.take i), _, .inr (.inl ⟨b, 0, cap, by simp, by simp [strs]; omega, fun j u hu => Cell.own (List.mem_cons_self ..) (hcs _ _ ?_)⟩), List.Sublist.refl _, fun b' c hc => Gh.done ?_⟩)⟩
      · have : strs (l.take i) = (strs l).take i := by simp [strs]
        rw [this, List.getElem?_take] at hu
        split at hu
        · simpa using hu
        · cases hu
      have hilen : i - 0 + (l.length + 1 - i) = l.length + 1 := by omega
      have hilen' : i + (l.length + 1 - i) = l.length + 1 := by omega
      simp only [Nat.sub_zero, hilen'] at hc ⊢
      have s3 := slcN (b := b') (off := 0) (len := l.length + 1) (cap := c) (lo := i) (hi := l.length + 1) (n := 1) (blo := some (.int .i64 i)) (bhi := none) (bnd_in _ _ _ _ (by omega)) rfl (by omega)
      simp only [s3, SSd, Nat.reduceAdd]
      have hS : ∀ L', (b, Obj.cells cs 9 (0, 0)) ∈ L' → News 1 (.slice (some ⟨b, i * 1, none⟩) (l.length - i) (cap - i)) I L' (l.length - i) ((strs l).drop i) := fun L' hm => .inr (.inl ⟨b, i * 1, cap - i, rfl, by simp [strs], fun j u hu => Cell.own hm (by
        rw [List.getElem?_drop] at hu
        simpa using hcs _ _ hu)⟩)
      have hz1 := zero_size #[Value.string (ByteArray.mk #[])] (l.length + 1 - i)
      have hz2 := zero_size #[Value.string (ByteArray.mk #[])] (c - (l.length + 1))
      have hz0 : (#[Value.string (ByteArray.mk #[])] : Array Value).size = 1 := rfl
      rw [hz0, Nat.mul_one] at hz1 hz2
      have hst : (strs (l.take i)).length = i := by simp [strs]; omega
      obtain ⟨A, hA, hAs, hA1⟩ : ∃ A : Array Value, A = (strs (l.take i)).toArray ++ Builtin.zeroCells #[Value.string (ByteArray.mk #[])] (l.length + 1 - i) ++ Builtin.zeroCells #[Value.string (ByteArray.mk #[])] (c - (l.length + 1)) ∧ A.size = c ∧
          ∀ (j : Nat) (u : Value), j < i → (strs l)[j]? = some u → A[j]? = some u := by
        refine ⟨_, rfl, by simp only [Array.size_append, List.size_toArray, hz1, hz2, hst]; omega, fun j u hj hu => ?_⟩
        have : strs (l.take i) = (strs l).take i := by simp [strs]
        rw [Array.append_assoc, Array.getElem?_append_left (by simp only [List.size_toArray]; omega), List.getElem?_toArray, this, List.getElem?_take, if_pos hj]
        exact hu
      rw [← hA]
      refine cpyN (L1 := []) (hv _ (List.mem_cons_of_mem _ hmem)) (by rw [hAs]; have := Nat.min_le_left 1 (l.length + 1 - i); omega) (fun u hu => one_all (vs := [sstr k]) rfl u (List.mem_of_mem_take hu)) ?_
      refine draw (fun _ _ => True) trivial ?_
      simp only [wrap_i64 ((i : Int) + 1) (by omega), SSd, Nat.reduceAdd]
      have s4 := slcN (b := b') (off := 0) (len := l.length + 1) (cap := c) (lo := i + 1) (hi := l.length + 1) (n := 1) (blo := some (.int .i64 ((i + 1 : Nat) : Int))) (bhi := none) (bnd_in _ _ _ _ (by omega)) rfl (by omega)
      rw [Int.natCast_add, Int.natCast_one] at s4
      simp only [s4, s1, SSd, Nat.reduceAdd]
      refine cpyN (L1 := []) (hS _ (by simp)) (by rw [wr_size, hAs]; have := Nat.min_le_left (l.length - i) (l.length + 1 - (i + 1)); omega) (fun u hu => strs_one l u (List.mem_of_mem_drop (List.mem_of_mem_take hu))) ?_
      generalize hW : wr (wr A (i * 1) _) ((i + 1) * 1) _ = W
      have hWs : W.size = c := by rw [← hW, wr_size, wr_size, hAs]
      refine Gh.to ((b', Obj.cells W 9 (0, 0)) :: F) (Gh.done (hk [(b', Obj.cells W 9 (0, 0))] _ ⟨by first | (simp [strs]; done) | (simp [strs]; omega), .inr ⟨b', c, W, rfl, ?_, by omega, by first | (simp [strs]; done) | (simp [strs]; omega), ?_⟩⟩))
      · first | (simp; done) | (simp; omega)
      subst hW
      have hm1 : min 1 (l.length + 1 - i) = 1 := Nat.min_eq_left (by omega)
      have hm2 : min (l.length - i) (l.length + 1 - (i + 1)) = l.length - i := Nat.min_eq_left (by omega)
      have ht : ((strs l).drop i).take (l.length - i) = (strs l).drop i := List.take_of_length_le (by simp [strs])
      have hdl : ((strs l).drop i).length = l.length - i := by simp [strs]
      simp only [hm1, hm2, Nat.mul_one, ht, List.take_succ_cons, List.take_zero]
      refine ins_cells hi (fun j u hj hu => ?_) ?_ (fun j u hj hu => ?_)
      · rw [wr_get _ _ _ _ (by rw [wr_size, hAs, hdl]; omega), if_pos (by omega), wr_get _ _ _ _ (by rw [hAs]; simp; omega), if_pos hj]
        exact hA1 j u hj hu
      · rw [wr_get _ _ _ _ (by rw [wr_size, hAs, hdl]; omega), if_pos (by omega), wr_get _ _ _ _ (by rw [hAs]; simp; omega), if_neg (by omega), if_pos (by simp)]
        simp
      · have hjl : j < (strs l).length := (List.getElem?_eq_some_iff.1 hu).1
        rw [strs_len] at hjl
        rw [wr_get _ _ _ _ (by rw [wr_size, hAs, hdl]; omega), if_neg (by omega), if_pos (by rw [hdl]; omega), List.getElem?_drop, show i + (j + 1 - (i + 1)) = j by omega]
        exact hu
    · simp at e
      have s2 := slcN (b := b) (off := 0) (len := l.length) (cap := cap) (lo := 0) (hi := l.length + 1) (n := 1) (blo := none) (bhi := some (.int .i64 ((l.length + 1 : Nat) : Int))) rfl (bnd_in _ _ _ _ (by omega)) (by omega)
      rw [Int.natCast_add, Int.natCast_one] at s2
      simp only [s2, SSd, Nat.reduceAdd]
      simp only [wrap_i64 ((i : Int) + 1) (by omega)]
      have s4 := slcN (b := b) (off := 0) (len := l.length + 1) (cap := cap) (lo := i + 1) (hi := l.length + 1) (n := 1) (blo := some (.int .i64 ((i + 1 : Nat) : Int))) (bhi := none) (bnd_in _ _ _ _ (by omega)) rfl (by omega)
      rw [Int.natCast_add, Int.natCast_one] at s4
      have s5 := slcN (b := b) (off := 0) (len := l.length + 1) (cap := cap) (lo := i) (hi := l.length + 1) (n := 1) (blo := some (.int .i64 i)) (bhi := none) (bnd_in _ _ _ _ (by omega)) rfl (by omega)
      simp only [Nat.sub_zero] at *
      simp only [s4, SSd, Nat.reduceAdd]
      refine overlaps_ext (by omega) (Gh.done ?_)
      simp only [Bool.not_false, SSd, Nat.reduceAdd]
      refine draw (fun _ _ => True) trivial ?_
      simp only [s4, s5, SSd, Nat.reduceAdd]
      have hgu : ∃ g, cs[l.length]? = some g := ⟨_, Array.getElem?_eq_getElem (by omega)⟩
      obtain ⟨g, hg⟩ := hgu
      have hdl : ((strs l).drop i).length = l.length - i := by simp [strs]
      have hS : ∀ L', (b, Obj.cells cs 9 (0, 0)) ∈ L' → News 1 (.slice (some ⟨b, i * 1, none⟩) (l.length + 1 - i) (cap - i)) I L' (l.length + 1 - i) ((strs l).drop i ++ [g]) := fun L' hm => .inr (.inl ⟨b, i * 1, cap - i, rfl, by simp [hdl]; omega, fun j u hu => Cell.own hm (by
        by_cases hj : j < l.length - i
        · rw [List.getElem?_append_left (by omega), List.getElem?_drop] at hu
          simpa using hcs _ _ hu
        · rw [List.getElem?_append_right (by omega), hdl] at hu
          have : j - (l.length - i) = 0 := by
            have := (List.getElem?_eq_some_iff.1 hu).1
            simp at this; omega
          rw [this] at hu
          simp at hu
          subst hu
          rw [← hg]; congr 1; omega)⟩)
      have hm2 : min (l.length + 1 - i) (l.length + 1 - (i + 1)) = l.length - i := by omega
      have ht : ((strs l).drop i ++ [g]).take (l.length - i) = (strs l).drop i := by rw [← hdl]; simp
      refine cpyN (L1 := []) (hS _ (by simp)) (by rw [hm2]; omega) (fun u hu => ?_) ?_
      · rw [hm2, Nat.mul_one, ht] at hu
        exact strs_one l u (List.mem_of_mem_drop hu)
      simp only [hm2, Nat.mul_one, ht]
      refine cpyN (L1 := []) (hv _ (by simp)) (by rw [wr_size]; have := Nat.min_le_left 1 (l.length + 1 - i); omega) (fun u hu => one_all (vs := [sstr k]) rfl u (List.mem_of_mem_take hu)) ?_
      have hm1 : min 1 (l.length + 1 - i) = 1 := Nat.min_eq_left (by omega)
      simp only [hm1, Nat.mul_one, List.take_succ_cons, List.take_zero]
      generalize hW : wr (wr cs (i + 1) _) i _ = W
      have hWs : W.size = cap := by rw [← hW, wr_size, wr_size]; omega
      refine Gh.to ((b, Obj.cells W 9 (0, 0)) :: F) (Gh.done (hk [(b, Obj.cells W 9 (0, 0))] _ ⟨by first | (simp [strs]; done) | (simp [strs]; omega), .inr ⟨b, cap, W, rfl, ?_, by omega, by first | (simp [strs]; done) | (simp [strs]; omega), ?_⟩⟩))
      · first | (simp; done) | (simp; omega)
      subst hW
      refine ins_cells hi (fun j u hj hu => ?_) ?_ (fun j u hj hu => ?_)
      · rw [wr_get _ _ _ _ (by rw [wr_size]; simp; omega), if_pos hj, wr_get _ _ _ _ (by rw [hdl]; omega), if_pos (by omega)]
        exact hcs j u hu
      · rw [wr_get _ _ _ _ (by rw [wr_size]; simp; omega), if_neg (by omega), if_pos (by simp)]
        simp
      · have hjl : j < (strs l).length := (List.getElem?_eq_some_iff.1 hu).1
        rw [strs_len] at hjl
        rw [wr_get _ _ _ _ (by rw [wr_size]; simp; omega), if_neg (by omega), if_neg (by simp; omega), wr_get _ _ _ _ (by rw [hdl]; omega), if_neg (by omega), if_pos (by rw [hdl]; omega), List.getElem?_drop, show i + (j + 1 - (i + 1)) = j by omega]
        exact hu
theorem delete_spec {X F : LH} {v : Value} {l : List (List UInt8)} {i : Nat} (h : StrO X v l) (hi : i < l.length) (hlen : l.length ≤ 1000000000)
    (hk : ∀ X' v', StrO X' v' (l.take i ++ l.drop (i + 1)) → K v' I (X' ++ F)) :
    Cal Tryz.prog ω 246 #[v, .int .i64 i, .int .i64 ((i : Int) + 1)] K I (X ++ F) := by
  refine cal246 ?_
  unfold sh246
  obtain ⟨hcl, ⟨_, h0, _⟩ | ⟨b, cap, cs, rfl, rfl, hsz, hle, hcs⟩⟩ := h
  · omega
  have hcast : ((i : Int) + 1) = ((i + 1 : Nat) : Int) := by omega
  have s0 : ∃ u, slcV 1 (.slice (some ⟨b, 0, none⟩) l.length cap) (some (.int .i64 i)) (some (.int .i64 ((i : Int) + 1))) (some (.int .i64 l.length)) = some u := by
    rw [hcast]
    simp only [slcV, Option.isNone_some, Bool.false_and, Bool.false_eq_true, if_false, bnd_in _ _ _ _ hle, bnd_in _ _ _ _ (show i + 1 ≤ l.length by omega), bnd_in _ _ _ _ (show i ≤ i + 1 by omega), Option.bind_some]
    exact ⟨_, rfl⟩
  obtain ⟨u0, s0⟩ := s0
  have e2 : ((i : Int) == (i : Int) + 1) = false := by simp; omega
  have s1 := slcN (b := b) (off := 0) (len := l.length) (cap := cap) (lo := 0) (hi := i) (n := 1) (blo := none) (bhi := some (.int .i64 i)) rfl (bnd_in _ _ _ _ (by omega)) (by omega)
  obtain ⟨p, s2⟩ : ∃ p, slcV 1 (.slice (some ⟨b, 0, none⟩) l.length cap) (some (.int .i64 ((i : Int) + 1))) none none = some (.slice p (l.length - (i + 1)) (cap - (i + 1))) ∧ (0 < l.length - (i + 1) → p = some ⟨b, i + 1, none⟩) := by
    by_cases hc : i + 1 < cap
    · have := slcN (b := b) (off := 0) (len := l.length) (cap := cap) (lo := i + 1) (hi := l.length) (n := 1) (blo := some (.int .i64 ((i + 1 : Nat) : Int))) (bhi := none) (bnd_in _ _ _ _ (by omega)) rfl (by omega)
      rw [← hcast] at this
      exact ⟨_, this, fun _ => by simp⟩
    · rw [hcast]
      have hh : i + 1 = cap := by omega
      refine ⟨some ⟨b, 0, none⟩, ?_, fun h0 => by omega⟩
      have h0 : bndV none cap cap = some cap := rfl
      have h1 : bndV none l.length cap = some l.length := rfl
      simp only [slcV, Option.isNone_none, Option.isSome_none, Bool.and_false, Bool.false_eq_true, if_false, h0, h1, Option.bind_some, bnd_in _ _ _ _ (show i + 1 ≤ l.length by omega)]
      rw [if_pos hh.symm]
  obtain ⟨s2, hp⟩ := s2
  simp only [s0, e2, SSd, Nat.reduceAdd]
  refine draw (fun _ _ => True) trivial ?_
  simp only [s1, s2, SSd, Nat.reduceAdd]
  have hdl : ((strs l).drop (i + 1)).length = l.length - (i + 1) := by simp [strs]
  refine ⟨_, _, _, l.length - (i + 1), (strs l).drop (i + 1), rfl, ?_, fun u hu => strs_one l u (List.mem_of_mem_drop hu), .inr (.inl ⟨by omega, b, 0, cs, 9, [], F, by simp, rfl, by omega, Gh.done ?_⟩)⟩
  · by_cases h0 : l.length - (i + 1) = 0
    · exact .inl ⟨p, _, by rw [h0], h0, List.eq_nil_of_length_eq_zero (by omega)⟩
    · refine .inr (.inl ⟨b, i + 1, _, by rw [hp (by omega)], by omega, fun j u hu => Cell.own (List.mem_cons_self ..) ?_⟩)
      rw [List.getElem?_drop] at hu
      exact hcs _ _ hu
  have hil : i + (l.length - (i + 1)) = l.length - 1 := by omega
  simp only [Nat.sub_zero, hil, SSd, Nat.reduceAdd]
  have s3 := slcN (b := b) (off := 0) (len := l.length - 1) (cap := cap) (lo := l.length - 1) (hi := l.length) (n := 1) (blo := some (.int .i64 ((l.length - 1 : Nat) : Int))) (bhi := some (.int .i64 l.length)) (bnd_in _ _ _ _ (by omega)) (bnd_in _ _ _ _ (by omega)) (by omega)
  simp only [s3, SSd, Nat.reduceAdd]
  refine .inr ⟨b, _, l.length - (l.length - 1), _, _, 9, [], F, rfl, rfl, by rw [wr_size]; simp; omega, one_all rfl, Gh.done ?_⟩
  generalize hW : wr (wr cs _ _) _ _ = W
  have hWs : W.size = cap := by rw [← hW, wr_size, wr_size]; omega
  refine Gh.to ((b, Obj.cells W 9 (0, 0)) :: F) (Gh.done (hk [(b, Obj.cells W 9 (0, 0))] _ ⟨by first | (simp [strs]; done) | (simp [strs]; omega), .inr ⟨b, cap, W, rfl, ?_, by omega, by first | (simp [strs]; done) | (simp [strs]; omega), ?_⟩⟩))
  · first | (simp; done) | (simp; omega)
  subst hW
  intro j u hu
  have e : strs (l.take i ++ l.drop (i + 1)) = (strs l).take i ++ (strs l).drop (i + 1) := by simp [strs]
  have ht' : ((strs l).take i).length = i := by simp [strs]; omega
  have hjl := (List.getElem?_eq_some_iff.1 hu).1
  rw [strs_len] at hjl
  simp at hjl
  rw [e] at hu
  have hzl : (Builtin.zeroCells #[Value.string (ByteArray.mk #[])] (l.length - (l.length - 1))).toList.length = 1 := by
    rw [Array.length_toList, zero_size]; simp; omega
  rw [wr_get _ _ _ _ (by rw [wr_size, hzl]; omega), if_pos (by omega), wr_get _ _ _ _ (by rw [hdl]; omega)]
  by_cases hj : j < i
  · rw [if_pos (by omega)]
    rw [List.getElem?_append_left (by omega), List.getElem?_take, if_pos hj] at hu
    exact hcs j u hu
  · rw [if_neg (by omega), if_pos (by rw [hdl]; omega)]
    rw [List.getElem?_append_right (by omega), ht'] at hu
    rw [← hu]; congr 1; omega
end
end Go.Proofs.YtmmfcgbfbcamcaaGreatDoor
-- S3
set_option linter.unusedSimpArgs false
set_option linter.unusedVariables false
namespace Go.Proofs.YtmmfcgbfbcamcaaGreatDoor
open Go.SL
set_option maxRecDepth 100000
theorem sh93_ex : ∃ C : Om → Value → Value → (Value → M) → Value → Value → Value → M, ∀ (ω : Om) (a0 a1 : Value) (K : Value → M), vcF Tryz.prog ω Tryz.f285 [a0, a1] K =
  (Pv (lenV a1) fun v1 =>
  Pv (binIV .eql v1 (Value.int .i64 0)) fun v2 =>
  Br v2
    (K (Value.int .i64 0))
    (Pv (binIV .eql v1 (Value.int .i64 1)) fun v3 =>
    Br v3
      (Pv (ixV 1 a1 (Value.int .i64 0)) fun v4 =>
      Rv none (ld1R v4) fun v5 =>
      Cal Tryz.prog ω 243 #[a0, v5] <| gh fun v6 =>
      K v6)
      (C ω a0 a1 K v1 v2 v3))) := ⟨_, fun _ _ _ _ => rfl⟩
section
variable {ω : Om} {I : Imm} {L : LH} {K : Value → M}
theorem ba_get (l : List UInt8) (i : Nat) (h : i < l.length) : (⟨l.toArray⟩ : ByteArray)[i]! = l[i] := by
  rw [getElem!_pos _ _ (by simpa [ByteArray.size] using h)]
  rfl
theorem find_zero {l pre rest : List UInt8} (hl : l = pre ++ 0 :: rest) (h0 : (0 : UInt8) ∉ pre) : (List.range (⟨l.toArray⟩ : ByteArray).size).find? (fun i => (⟨l.toArray⟩ : ByteArray)[i]! == 0) = some pre.length := by
  have hlen : pre.length < l.length := by rw [hl]; simp
  rw [List.find?_range_eq_some]
  refine ⟨?_, ?_, fun j hj => ?_⟩
  · rw [ba_get _ _ hlen]; simp [hl]
  · simpa [ByteArray.size] using hlen
  · rw [ba_get _ _ (by omega)]
    have : l[j]'(by omega) = pre[j] := by simp only [hl]; rw [List.getElem_append_left hj]
    rw [this]
    simp only [Bool.not_eq_true', beq_eq_false_iff_ne]
    exact fun e => h0 (e ▸ List.getElem_mem hj)
theorem indexByte_spec {v : Value} {l pre rest : List UInt8} (h : Bytes I v l) (hl : l = pre ++ 0 :: rest) (h0 : (0 : UInt8) ∉ pre) (hk : K (.int .i64 pre.length) I L) : Cal Tryz.prog ω 243 #[v, .int .u8 0] K I L := by
  refine cal243 ?_
  unfold sh243
  refine ⟨_, fun w hs => ?_, Gh.done (Gh.done hk)⟩
  show Sem.run _ (do
    let b ← Extern.Bytes.bytesOf v
    let c ← Extern.Bytes.asByte (.int .u8 0)
    match (List.range b.size).find? fun i => b[i]! == c with
    | some i => pure (goInt i)
    | none => pure (goInt (-1))) w = _
  simp only [Sem.run_bind, bytesOf_run (P := Tryz.prog) hs h, Result.andThen_ok, Extern.Bytes.asByte, Sem.run_pure]
  have := find_zero hl h0
  rw [show ((0 : Int).toNat.toUInt8) = 0 from rfl, this]
  rfl
theorem index_spec {v u : Value} {l pre rest : List UInt8} (h : Bytes I v l) (hu : Bytes I u [0]) (hl : l = pre ++ 0 :: rest) (h0 : (0 : UInt8) ∉ pre) (hk : K (.int .i64 pre.length) I L) : Cal Tryz.prog ω 285 #[v, u] K I L := by
  obtain ⟨C, hC⟩ := sh93_ex
  refine Cal.gh (cal_of_vc mixed Tryz.func285 ?_)
  show vcF Tryz.prog ω Tryz.f285 [v, u] _ I L
  rw [hC]
  obtain ⟨a, c, rfl⟩ := Bytes.form hu
  obtain ⟨b, off, hix, hc⟩ := SlI.ix (i := 0) hu .i64 (by simp)
  have hc0 := hc I L (Ext.refl _) 0 _ rfl
  have e0 : ((([0] : List UInt8).length : Int) == 0) = false := rfl
  have e1 : ((([0] : List UInt8).length : Int) == 1) = true := rfl
  have hix' : ixV 1 (.slice a ([0] : List UInt8).length c) (.int .i64 0) = some (.pointer (some ⟨b, off, none⟩)) := hix
  simp only [e0, e1, hix', SSd, Nat.reduceAdd]
  refine rd1 hc0 ?_
  exact call (indexByte_spec h hl h0 (Gh.done hk))
theorem count_ext {v : Value} {l : List UInt8} (h : Bytes I v l) (hk : K (.int .i64 (l.count 0 : Nat)) I L) : ExtE Tryz.prog ω Extern.BytealgCount.count #[v, .int .u8 0] K I L := by
  refine ⟨_, fun w hs => ?_, hk⟩
  show Sem.run _ (do
    let b ← Extern.Bytes.bytesOf v
    let c ← Extern.Bytes.asByte (.int .u8 0)
    pure (goInt (b.foldl (fun n x => if x == c then n + 1 else n) (0 : Nat)))) w = _
  simp only [Sem.run_bind, bytesOf_run (P := Tryz.prog) hs h, Result.andThen_ok, Extern.Bytes.asByte, Sem.run_pure, goInt, Lib.foldl_data]
  rw [show ((0 : Int).toNat.toUInt8) = 0 from rfl]
  have : ∀ (l : List UInt8) (n : Int), l.foldl (fun n x => if x == 0 then n + 1 else n) n = n + (l.count 0 : Nat) := by
    intro l
    induction l with
    | nil => intro n; simp
    | cons x l ih =>
      intro n
      rw [List.foldl_cons, ih, List.count_cons]
      split <;> omega
  rw [this]; simp
theorem count_spec {v u : Value} {l : List UInt8} (h : Bytes I v l) (hu : Bytes I u [0]) (hk : K (.int .i64 (l.count 0 : Nat)) I L) : Cal Tryz.prog ω 284 #[v, u] K I L := by
  refine cal284 ?_
  unfold sh284
  obtain ⟨a, c, rfl⟩ := Bytes.form hu
  obtain ⟨b, off, hix, hc⟩ := SlI.ix (i := 0) hu .i64 (by simp)
  have hc0 := hc I L (Ext.refl _) 0 _ rfl
  have e0 : ((([0] : List UInt8).length : Int) == 0) = false := rfl
  have e1 : ((([0] : List UInt8).length : Int) == 1) = true := rfl
  have hix' : ixV 1 (.slice a ([0] : List UInt8).length c) (.int .i64 0) = some (.pointer (some ⟨b, off, none⟩)) := hix
  simp only [e0, e1, hix', SSd, Nat.reduceAdd]
  refine rd1 hc0 ?_
  exact count_ext h (Gh.done (Gh.done hk))
def esc (l : List UInt8) : List UInt8 := l.flatMap fun c => if c = 0 then [0, 255] else [c]
theorem esc_append (a b : List UInt8) : esc (a ++ b) = esc a ++ esc b := by simp [esc]
theorem esc_len : ∀ l : List UInt8, (esc l).length = l.length + l.count 0
  | [] => rfl
  | x :: l => by
    have := esc_len l
    unfold esc at this ⊢
    rw [List.flatMap_cons, List.length_append, this, List.count_cons]
    by_cases h : x = 0 <;> simp [h] <;> omega
theorem esc_plain : ∀ {l : List UInt8}, (0 : UInt8) ∉ l → esc l = l
  | [], _ => rfl
  | x :: l, h => by
    have h1 : x ≠ 0 := fun e => h (e ▸ List.mem_cons_self ..)
    have := esc_plain (l := l) (fun e => h (List.mem_cons_of_mem _ e))
    unfold esc at this ⊢
    rw [List.flatMap_cons, this, if_neg h1]; rfl
theorem first_zero : ∀ {l : List UInt8}, 0 < l.count 0 → ∃ pre rest, l = pre ++ 0 :: rest ∧ (0 : UInt8) ∉ pre
  | [], h => by simp at h
  | x :: l, h => by
    by_cases hx : x = 0
    · exact ⟨[], l, by rw [hx]; rfl, by simp⟩
    · obtain ⟨pre, rest, e, h0⟩ := first_zero (l := l) (by rw [List.count_cons_of_ne (fun e => hx (by simpa using e))] at h; exact h)
      refine ⟨x :: pre, rest, by rw [e]; rfl, ?_⟩
      intro hm
      rcases List.mem_cons.1 hm with e' | e'
      · exact hx e'.symm
      · exact h0 e'
def dAt (b N w : Nat) : Value := .slice (if N = w then some ⟨b, 0, none⟩ else some ⟨b, w, none⟩) (N - w) (N - w)
theorem slc_at {b N w : Nat} (h : w ≤ N) : slcV 1 (.slice (some ⟨b, 0, none⟩) N N) (some (.int .i64 w)) none none = some (dAt b N w) := by
  have h0 : bndV none N N = some N := rfl
  simp only [slcV, Option.isNone_none, Option.isSome_none, Bool.and_false, Bool.false_eq_true, if_false, h0, Option.bind_some, bnd_in _ _ _ _ h, dAt]
  split <;> simp [add_none]
theorem cpy_at {b N w m T : Nat} {arr : Array Value} {P xs : List Value} {x : Value} {F : LH} {K : Value → M} (hs : arr.size = N) (hP : ∀ (j : Nat) (u : Value), P[j]? = some u → arr[j]? = some u) (hw : w = P.length) (hwm : w + m ≤ N)
    (hn : News 1 x I ((b, .cells arr T (0, 0)) :: F) m xs) (h1 : ∀ u ∈ xs, u.oneCell' = true)
    (hk : ∀ arr' : Array Value, arr'.size = N → (∀ (j : Nat) (u : Value), (P ++ xs)[j]? = some u → arr'[j]? = some u) → K (.int .i64 m) I ((b, .cells arr' T (0, 0)) :: F)) :
    CpyV 1 (dAt b N w) x (gh K) I ((b, .cells arr T (0, 0)) :: F) := by
  have hxl := hn.length
  rw [Nat.mul_one] at hxl
  by_cases h0 : m = 0
  · subst h0
    have hx : xs = [] := List.eq_nil_of_length_eq_zero hxl
    subst hx
    exact ⟨_, _, _, 0, [], rfl, hn, .inl ⟨Nat.zero_min _, Gh.done (hk arr hs (by simpa using hP))⟩⟩
  · have hne : ¬ N = w := by omega
    have hm : min m (N - w) = m := Nat.min_eq_left (by omega)
    unfold dAt
    rw [if_neg hne]
    refine cpyN (L1 := []) hn (by rw [hm, hs]; omega) (fun u hu => h1 u (List.mem_of_mem_take hu)) ?_
    rw [hm, Nat.mul_one, List.take_of_length_le (by omega)]
    refine hk _ (by rw [wr_size, hs]) (fun j u hu => ?_)
    rw [wr_get _ _ _ _ (by omega)]
    by_cases hj : j < w
    · rw [if_pos hj]
      rw [List.getElem?_append_left (by omega)] at hu
      exact hP j u hu
    · have hlt := (List.getElem?_eq_some_iff.1 hu).1
      rw [List.length_append] at hlt
      rw [if_neg hj, if_pos (by omega)]
      rw [List.getElem?_append_right (by omega), ← hw] at hu
      exact hu
theorem u8s_append (a b : List UInt8) : u8s (a ++ b) = u8s a ++ u8s b := by simp [u8s]
theorem u8s_len (l : List UInt8) : (u8s l).length = l.length := by simp [u8s]
theorem bys_part {v : Value} {l : List UInt8} (h : Bytes I v l) {lo hi : Nat} (h1 : lo ≤ hi) (h2 : hi ≤ l.length) {bhi : Option Value} (hhi : ∀ cap, l.length ≤ cap → bndV bhi l.length cap = some hi) :
    ∃ v', slcV 1 v (some (.int .i64 lo)) bhi none = some v' ∧ Bytes I v' ((l.drop lo).take (hi - lo)) := by
  obtain ⟨v', hs, hv⟩ := SlI.part h h1 h2 (some (.int .i64 lo)) bhi (fun y hy => .inl (bnd_in _ _ _ _ (by omega))) hhi
  refine ⟨v', hs, ?_⟩
  have e : u8s ((l.drop lo).take (hi - lo)) = ((u8s l).drop (lo * 1)).take ((hi - lo) * 1) := by simp [u8s]
  have e2 : ((l.drop lo).take (hi - lo)).length = hi - lo := by simp; omega
  unfold Bytes
  rw [e, e2]
  exact hv
theorem replace_spec {v u z : Value} {l : List UInt8} (h : Bytes I v l) (hu : Bytes I u [0]) (hz : Bytes I z [0, 255]) (hl : l.length ≤ 1000000000)
    (hk : ∀ X v', SlO 5 1 X v' (u8s (esc l)) (esc l).length → K v' I (X ++ L)) : Cal Tryz.prog ω 281 #[v, u, z, .int .i64 (-1)] K I L := by
  refine cal281 ?_
  unfold sh281
  obtain ⟨ua, uc, rfl⟩ := Bytes.form hu
  obtain ⟨za, zc, rfl⟩ := Bytes.form hz
  obtain ⟨va, vc, rfl⟩ := Bytes.form h
  have hcl := List.count_le_length (a := (0 : UInt8)) (l := l)
  have em : ((-1 : Int) != 0) = true := rfl
  simp only [em, SSd, Nat.reduceAdd]
  refine call (count_spec h hu ?_)
  unfold sh281_1
  try simp only [SSd, Nat.reduceAdd]
  refine br_split (fun e => ?_) (fun e => ?_)
  · simp at e
    have h0 : l.count 0 = 0 := by omega
    have hn0 : (0 : UInt8) ∉ l := List.count_eq_zero.1 h0
    refine app_own (hsp := ⟨List.Perm.refl _⟩) (X := []) (F := L) (cells := []) (len := 0) rfl (SlO.none _ 1) (SlI.news h) (u8s_one _) (by omega) (by omega) (fun X' v' hX' => ?_)
    rw [esc_plain hn0] at hk
    exact Gh.done (hk X' v' (by simpa using hX'))
  have hpos : 0 < l.count 0 := by
    have : ¬ (l.count 0 = 0) := by simpa using e
    omega
  have ed : decide ((-1 : Int) < 0) = true := rfl
  simp only [ed, SSd, Nat.reduceAdd]
  unfold sh281_3
  have ez : ((([0, 255] : List UInt8).length : Nat) : Int) = 2 := rfl
  have eu : ((([0] : List UInt8).length : Nat) : Int) = 1 := rfl
  have ew : IntKind.i64.wrap (2 - 1) = 1 := rfl
  try simp only [SSd, Nat.reduceAdd]
  simp only [ez, eu, ew, Int.mul_one]
  simp only [wrap_i64 ((l.count 0 : Nat) : Int) (by omega), wrap_i64 ((l.length : Int) + (l.count 0 : Nat)) (by omega), SSd, Nat.reduceAdd]
  rw [show ((l.length : Int) + (l.count 0 : Nat)) = ((l.length + l.count 0 : Nat) : Int) by omega]
  refine ⟨.i64, .i64, _, _, rfl, rfl, Nat.le_refl _, by omega, by omega, fun b => Gh.done ?_⟩
  have eg : decide ((0 : Int) < 1) = true := rfl
  simp only [eg, SSd, Nat.reduceAdd]
  have hz0 := zero_size #[Value.int .u8 0] (l.length + l.count 0)
  have hz1 : (#[Value.int .u8 0] : Array Value).size = 1 := rfl
  rw [hz1, Nat.mul_one] at hz0
  generalize Builtin.zeroCells #[Value.int .u8 0] (l.length + l.count 0) = arr0 at hz0 ⊢
  refine loop (fun m s I' L' => I' = I ∧ ∃ (st w r : Nat) (arr : Array Value), r + m = l.count 0 ∧ s = (.int .i64 w, .int .i64 st, .int .i64 r, ()) ∧ L' = (b, Obj.cells arr 5 (0, 0)) :: L ∧ arr.size = l.length + l.count 0 ∧ st ≤ l.length ∧ r = (l.take st).count 0 ∧ w = (esc (l.take st)).length ∧
    ∀ (j : Nat) (u : Value), (u8s (esc (l.take st)))[j]? = some u → arr[j]? = some u) (l.count 0) ⟨rfl, 0, 0, 0, arr0, by omega, rfl, rfl, hz0, by omega, by simp, by simp [esc], fun j u hu => by simp [u8s, esc] at hu⟩ ?_
  rintro m s I' L' ⟨rfl, st, w, r, arr, hrm, rfl, rfl, hs, hst, hr, hw, hP⟩
  have hwl := esc_len (l.take st)
  rw [← hw, List.length_take, Nat.min_eq_left hst, ← hr] at hwl
  have hsplit : l.count 0 = (l.take st).count 0 + (l.drop st).count 0 := by rw [← List.count_append, List.take_append_drop]
  unfold sh281_4
  try simp only [SSd, Nat.reduceAdd]
  refine br_split (fun e => ?_) (fun e => ?_)
  · simp at e
    obtain ⟨pre, rest, hd, hp0⟩ := first_zero (l := l.drop st) (by omega)
    have hdl : l.length - st = pre.length + 1 + rest.length := by
      have := congrArg List.length hd
      simp at this; omega
    obtain ⟨v1, hs1, hv1⟩ := bys_part h (lo := st) (hi := l.length) (by omega) (Nat.le_refl _) (bhi := none) (fun _ _ => rfl)
    rw [List.take_of_length_le (by simp)] at hv1
    simp only [hs1, SSd, Nat.reduceAdd]
    refine call (index_spec hv1 hu hd hp0 ?_)
    simp only [wrap_i64 ((st : Int) + pre.length) (by omega), SSd, Nat.reduceAdd]
    obtain ⟨v2, hs2, hv2⟩ := bys_part h (lo := st) (hi := st + pre.length) (by omega) (by omega) (bhi := some (.int .i64 ((st + pre.length : Nat) : Int))) (fun cap hc => bnd_in _ _ _ _ (by omega))
    rw [show st + pre.length - st = pre.length by omega, hd, List.take_left] at hv2
    rw [Int.natCast_add] at hs2
    refine draw (fun _ _ => True) trivial ?_
    have hdP := hP
    simp only [slc_at (show w ≤ l.length + l.count 0 by omega), hs2, SSd, Nat.reduceAdd]
    refine cpy_at hs hP (by rw [u8s_len, hw]) (by omega) (SlI.news hv2) (u8s_one _) (fun arr1 hs1' hP1 => ?_)
    simp only [wrap_i64 ((w : Int) + pre.length) (by omega), SSd, Nat.reduceAdd]
    rw [show ((w : Int) + pre.length) = ((w + pre.length : Nat) : Int) by omega]
    simp only [slc_at (show w + pre.length ≤ l.length + l.count 0 by omega), SSd, Nat.reduceAdd]
    refine cpy_at hs1' hP1 (by rw [List.length_append, u8s_len, u8s_len, hw]) (by simp; omega) (SlI.news hz) (u8s_one _) (fun arr2 hs2' hP2 => ?_)
    have e2 : (([0, 255] : List UInt8).length : Nat) = 2 := rfl
    simp only [e2]
    have ht : l.take (st + pre.length + 1) = l.take st ++ pre ++ [0] := by
      rw [Nat.add_assoc, List.take_add, hd, List.append_assoc]
      congr 1
      rw [List.take_length_add_append]; rfl
    have he : esc (l.take (st + pre.length + 1)) = esc (l.take st) ++ pre ++ [0, 255] := by
      rw [ht, esc_append, esc_append, esc_plain hp0]; rfl
    have hpc : pre.count 0 = 0 := List.count_eq_zero.2 hp0
    simp only [eu, Int.natCast_add, SSd, Nat.reduceAdd]
    rw [wrap_i64 ((w : Int) + pre.length + ((2 : Nat) : Int)) (by omega), wrap_i64 ((st : Int) + pre.length + 1) (by omega), wrap_i64 ((r : Int) + 1) (by omega)]
    refine Gh.done ⟨m - 1, by omega, rfl, st + pre.length + 1, w + pre.length + 2, r + 1, arr2, by omega, by simp [Int.natCast_add], rfl, hs2', by omega, ?_, ?_, ?_⟩
    · rw [ht, List.count_append, List.count_append, hpc, ← hr]; rfl
    · rw [he, List.length_append, List.length_append, ← hw]; rfl
    · rw [he, u8s_append, u8s_append]; exact hP2
  · simp at e
    have hr0 : (l.drop st).count 0 = 0 := by omega
    have hn0 : (0 : UInt8) ∉ l.drop st := List.count_eq_zero.1 hr0
    have he : esc l = esc (l.take st) ++ l.drop st := by
      conv => lhs; rw [← List.take_append_drop st l, esc_append, esc_plain hn0]
    obtain ⟨v1, hs1, hv1⟩ := bys_part h (lo := st) (hi := l.length) (by omega) (Nat.le_refl _) (bhi := none) (fun _ _ => rfl)
    rw [List.take_of_length_le (by simp)] at hv1
    have hdl : (l.drop st).length = l.length - st := by simp
    unfold sh281_6
    refine draw (fun _ _ => True) trivial ?_
    simp only [slc_at (show w ≤ l.length + l.count 0 by omega), hs1, SSd, Nat.reduceAdd]
    refine cpy_at hs hP (by rw [u8s_len, hw]) (by omega) (SlI.news hv1) (u8s_one _) (fun arr1 hs1' hP1 => ?_)
    have hN : w + (l.drop st).length = l.length + l.count 0 := by omega
    try simp only [SSd, Nat.reduceAdd]
    rw [wrap_i64 ((w : Int) + ((l.drop st).length : Nat)) (by omega), show ((w : Int) + ((l.drop st).length : Nat)) = ((l.length + l.count 0 : Nat) : Int) by omega]
    have s3 : slcV 1 (.slice (some ⟨b, 0, none⟩) (l.length + l.count 0) (l.length + l.count 0)) (some (.int .i64 0)) (some (.int .i64 ((l.length + l.count 0 : Nat) : Int))) none = some (.slice (some ⟨b, 0, none⟩) (l.length + l.count 0) (l.length + l.count 0)) := by
      have := slcN (b := b) (off := 0) (len := l.length + l.count 0) (cap := l.length + l.count 0) (lo := 0) (hi := l.length + l.count 0) (n := 1) (blo := some (.int .i64 0)) (bhi := some (.int .i64 ((l.length + l.count 0 : Nat) : Int))) rfl (bnd_in _ _ _ _ (Nat.le_refl _)) (by omega)
      simpa using this
    simp only [s3, SSd, Nat.reduceAdd]
    have hel := esc_len l
    refine Gh.done (hk [(b, Obj.cells arr1 5 (0, 0))] _ ⟨by rw [u8s_len, Nat.mul_one], .inr ⟨b, l.length + l.count 0, arr1, rfl, by rw [hel], by omega, by omega, ?_⟩⟩)
    rw [he, u8s_append]
    exact hP1
end
end Go.Proofs.YtmmfcgbfbcamcaaGreatDoor
-- S3
set_option linter.unusedSimpArgs false
set_option linter.unusedVariables false
namespace Go.Proofs.YtmmfcgbfbcamcaaGreatDoor
open Go.SL
set_option maxRecDepth 10000
section
variable {ω : Om} {I : Imm} {L : LH} {K : Value → M}
def byteOf (n : Int) : UInt8 := UInt8.ofNat (n % 256).toNat
theorem u8_wrap (n : Int) : IntKind.u8.wrap n = ((byteOf n).toNat : Int) := by
  have e : IntKind.u8.wrap n = n % 256 := by
    simp only [IntKind.wrap]
    simp [IntKind.bits, IntKind.signed]
  rw [e, byteOf]
  simp
  omega
def varL (n : Nat) : List UInt8 := if n < 128 then [UInt8.ofNat n] else UInt8.ofNat (n % 128 + 128) :: varL (n / 128)
termination_by n
theorem varL_small {n : Nat} (h : n < 128) : varL n = [UInt8.ofNat n] := by rw [varL, if_pos h]
theorem varL_big {n : Nat} (h : ¬ n < 128) : varL n = UInt8.ofNat (n % 128 + 128) :: varL (n / 128) := by rw [varL, if_neg h]
theorem varL_len : ∀ (k n : Nat), 1 ≤ k → n < 128 ^ k → (varL n).length ≤ k
  | 0, n, h, _ => by omega
  | k + 1, n, _, h => by
    by_cases h1 : n < 128
    · rw [varL_small h1]; simp
    · rw [varL_big h1]
      simp only [List.length_cons]
      have hk : 1 ≤ k := by
        rcases Nat.eq_zero_or_pos k with h0 | h0
        · subst h0; simp at h; omega
        · omega
      have := varL_len k (n / 128) hk (by rw [Nat.pow_succ] at h; omega)
      omega
theorem varL_9 {n : Nat} (h : n < 9223372036854775808) : (varL n).length ≤ 9 := varL_len 9 n (by omega) (by omega)
theorem byte_small {n : Nat} (h : n < 128) : byteOf n = UInt8.ofNat n := by
  unfold byteOf; congr 1; omega
theorem b_app {X6 L0 F : LH} [SplitL X6 L0 F] {v : Value} {l : List UInt8} {x : UInt8} {K : Value → M} (h6 : SlO 5 1 X6 v (u8s l) l.length) (hl : l.length + 1 ≤ 140737488355328)
    (hk : ∀ X1 X6' v', SlO 5 1 X6' v' (u8s (l ++ [x])) (l ++ [x]).length → K v' I (X6' ++ (X1 ++ F))) :
    BldS 5 1 #[.int .u8 0] 1 [(0, .int .u8 x.toNat)] (gh fun u => App 5 1 1 #[.int .u8 0] v u (gh K)) I L0 := by
  refine bld_one rfl (by omega) rfl (fun X1 u hX1 => ?_)
  refine app_own (X := X6) rfl h6 (hX1.news (fun x hx => List.mem_append_left _ hx)) (by simp [Value.cells, Value.oneCell']) (by omega) (by omega) (fun X' v' hX' => ?_)
  exact hk X1 X' v' (by simpa [Value.cells, u8s] using hX')
abbrev OB (X : LH) (v : Value) (l : List UInt8) : Prop := SlO 5 1 X v (u8s l) l.length
theorem OB.freeze {A : M} {X F : LH} {v : Value} {l : List UInt8} (h : OB X v l) (hk : ∀ I', Ext I I' → Bytes I' v l → Gh A I' F) : Gh A I (X ++ F) := SlO.freeze h hk
theorem by1 {F : LH} {c : UInt8} {K : Value → M} (hk : ∀ X u, OB X u [c] → Gh (K u) I (X ++ F)) : BldS 5 1 #[.int .u8 0] 1 [(0, .int .u8 c.toNat)] (gh K) I F :=
  bld_oneG rfl (by omega) rfl (fun X1 u hX1 => hk X1 u (by unfold OB; simpa [Value.cells, u8s] using hX1))
theorem by2 {F : LH} {c d : UInt8} {K : Value → M} (hk : ∀ X u, OB X u [c, d] → Gh (K u) I (X ++ F)) : BldS 5 1 #[.int .u8 0] 2 [(0, .int .u8 c.toNat), (1, .int .u8 d.toNat)] (gh K) I F := by
  refine ⟨#[.int .u8 c.toNat, .int .u8 d.toNat], by kernel_rfl, fun bb => hk [(bb, _)] _ ⟨rfl, .inr ⟨bb, 2, _, rfl, rfl, rfl, Nat.le_refl _, fun j u hu => by simpa [u8s] using hu⟩⟩⟩
theorem ob_app {X6 L0 F : LH} [SplitL X6 L0 F] {v x : Value} {l y : List UInt8} {K : Value → M} (h6 : OB X6 v l) (hy : News 1 x I L0 y.length (u8s y)) (hl : l.length + y.length ≤ 140737488355328)
    (hk : ∀ X6' v', OB X6' v' (l ++ y) → K v' I (X6' ++ F)) : App 5 1 1 #[.int .u8 0] v x (gh K) I L0 :=
  app_own (X := X6) rfl h6 hy (u8s_one _) (by omega) (by omega) (fun X' v' hX' => hk X' v' (by
    unfold OB
    rw [u8s_append, List.length_append]
    exact hX'))
theorem ob_appG {X6 L0 F : LH} [SplitL X6 L0 F] {v x : Value} {l y : List UInt8} {K : Value → M} (h6 : OB X6 v l) (hy : News 1 x I L0 y.length (u8s y)) (hl : l.length + y.length ≤ 140737488355328)
    (hk : ∀ X6' v', OB X6' v' (l ++ y) → Gh (K v') I (X6' ++ F)) : App 5 1 1 #[.int .u8 0] v x (gh K) I L0 :=
  app_ownG (X := X6) rfl h6 hy (u8s_one _) (by omega) (by omega) (fun X' v' hX' => hk X' v' (by
    unfold OB
    rw [u8s_append, List.length_append]
    exact hX'))
theorem rall_spec {v u z : Value} {l : List UInt8} (h : Bytes I v l) (hu : Bytes I u [0]) (hz : Bytes I z [0, 255]) (hl : l.length ≤ 1000000000)
    (hk : ∀ X v', OB X v' (esc l) → K v' I (X ++ L)) : Cal Tryz.prog ω 276 #[v, u, z] K I L := by
  refine cal276 ?_
  unfold sh276
  exact call (replace_spec h hu hz hl (fun X v' h' => Gh.done (hk X v' h')))
theorem grow_spec {n : Nat} (hn : 0 < n) (hn2 : n ≤ 1000000000000) (hk : ∀ X v', OB X v' [] → K v' I (X ++ L)) : Cal Tryz.prog ω 282 #[.slice none 0 0, .int .i64 n] K I L := by
  refine cal282 ?_
  unfold sh282
  have e1 : decide ((n : Int) < 0) = false := by simp
  have e2 : decide ((0 : Int) < (n : Int)) = true := by simp; omega
  have e3 : IntKind.i64.wrap ((0 : Nat) - (0 : Nat) : Int) = 0 := rfl
  simp only [e1, SSd, Nat.reduceAdd]
  unfold sh282_1
  try simp only [SSd, Nat.reduceAdd]
  simp only [e3, Int.sub_zero, wrap_i64 (n : Int) (by omega), e2, SSd, Nat.reduceAdd]
  have s1 : slcV 1 (.slice none 0 0) none (some (.int .i64 ((0 : Nat) : Int))) none = some (.slice none 0 0) := rfl
  simp only [s1, SSd, Nat.reduceAdd]
  refine ⟨none, 0, 0, n, rfl, rfl, one_all rfl, by omega, by omega, .inr (.inr ⟨by omega, by omega, by omega, [], L, .inl ⟨none, 0, rfl, rfl, rfl⟩, List.Sublist.refl _, fun b c hc => Gh.done ?_⟩)⟩
  have s2 := slcN (b := b) (off := 0) (len := n) (cap := c) (lo := 0) (hi := 0) (n := 1) (blo := none) (bhi := some (.int .i64 ((0 : Nat) : Int))) rfl (bnd_in _ _ _ _ (by omega)) (by omega)
  simp only [Nat.zero_add] at hc ⊢
  simp only [s2, SSd, Nat.reduceAdd]
  refine Gh.done (hk [(b, _)] _ ⟨rfl, .inr ⟨b, c, _, rfl, rfl, ?_, by simp, fun j u hu => by simp [u8s] at hu⟩⟩)
  simp only [Array.size_append, zero_size]
  simp; omega
def sumK (a b : List UInt8) (k : Nat) : List UInt8 := if k = 0 then [] else if k = 1 then a else a ++ b
theorem concat_spec {bb : Nat} {v1 v2 : Value} {T : Nat} {F : LH} {a b : List UInt8} (h1 : Bytes I v1 a) (h2 : Bytes I v2 b) (hb : 0 < b.length) (hl : a.length + b.length ≤ 1000000000000)
    (hk : ∀ X v', OB X v' (a ++ b) → K v' I (X ++ (bb, Obj.cells #[v1, v2] T (0, 0)) :: F)) :
    Cal Tryz.prog ω 277 #[.slice (some ⟨bb, 0, none⟩) 2 2] K I ((bb, Obj.cells #[v1, v2] T (0, 0)) :: F) := by
  have hc : ∀ (k : Nat) (L' : LH), k < 2 → (bb, Obj.cells #[v1, v2] T (0, 0)) ∈ L' → Cell I L' bb (0 + k) (if k = 0 then v1 else v2) := by
    intro k L' hk hm
    match k, hk with
    | 0, _ => exact Cell.own hm rfl
    | 1, _ => exact Cell.own hm rfl
  have hs : ∀ k : Nat, k < 2 → (sumK a b (k + 1)).length = (sumK a b k).length + (if k = 0 then a else b).length ∧ sumK a b (k + 1) = sumK a b k ++ (if k = 0 then a else b) := by
    intro k hk
    match k, hk with
    | 0, _ => simp [sumK]
    | 1, _ => simp [sumK]
  have hle : ∀ k : Nat, k ≤ 2 → (sumK a b k).length ≤ a.length + b.length := by
    intro k hk
    match k, hk with
    | 0, _ => simp [sumK]
    | 1, _ => simp [sumK]
    | 2, _ => simp [sumK]
  refine cal277 ?_
  unfold sh277
  try simp only [SSd, Nat.reduceAdd]
  refine loop (fun m s I' L' => I' = I ∧ L' = (bb, Obj.cells #[v1, v2] T (0, 0)) :: F ∧ ∃ k : Nat, k + m = 2 ∧ s = (.int .i64 (sumK a b k).length, .int .i64 k, ())) 2 ⟨rfl, rfl, 0, rfl, rfl⟩ ?_
  rintro m s I' L' ⟨rfl, rfl, k, hkm, rfl⟩
  unfold sh277_1
  try simp only [SSd, Nat.reduceAdd]
  refine br_split (fun e => ?_) (fun e => ?_)
  · simp at e
    have hk2 : k < 2 := by omega
    have hix := ixV_int bb 0 1 .i64 2 2 k (by omega) (by omega)
    simp only [hix, SSd, Nat.reduceAdd]
    obtain ⟨g1, g2⟩ := hs k hk2
    have hlk : lenV (if k = 0 then v1 else v2) = some (.int .i64 (if k = 0 then a else b).length) := by
      by_cases h0 : k = 0
      · obtain ⟨_, _, rfl⟩ := Bytes.form h1; simp [h0, lenV]
      · obtain ⟨_, _, rfl⟩ := Bytes.form h2; simp [h0, lenV]
    have hck := hc k ((bb, Obj.cells #[v1, v2] T (0, 0)) :: F) hk2 (List.mem_cons_self ..)
    refine rd1 (v := if k = 0 then v1 else v2) (by simpa using hck) ?_
    have hle2 := hle (k + 1) (by omega)
    simp only [hlk, SSd, Nat.reduceAdd]
    rw [wrap_i64 _ (by omega)]
    rw [show (((sumK a b k).length : Int) + ((if k = 0 then a else b).length : Nat)) = (((sumK a b (k + 1)).length : Nat) : Int) by omega]
    refine br_split (fun e => ?_) (fun e => ?_)
    · simp at e; omega
    unfold sh277_3
    try simp only [SSd, Nat.reduceAdd]
    rw [wrap_i64 _ (by omega)]
    exact Gh.done ⟨m - 1, by omega, rfl, rfl, k + 1, by omega, by simp⟩
  · simp at e
    have hk2 : k = 2 := by omega
    subst hk2
    unfold sh277_5
    have e2 : (sumK a b 2).length = a.length + b.length := by simp [sumK]
    refine call (grow_spec (by omega) (by omega) (fun X v' hX => ?_))
    try simp only [SSd, Nat.reduceAdd]
    refine loop (fun m s I2 L2 => I2 = I' ∧ ∃ (k : Nat) (X6 : LH) (v6 : Value), k + m = 2 ∧ s = (v6, .int .i64 k, ()) ∧ L2 = X6 ++ (bb, Obj.cells #[v1, v2] T (0, 0)) :: F ∧ OB X6 v6 (sumK a b k)) 2 ⟨rfl, 0, X, v', rfl, rfl, rfl, hX⟩ ?_
    rintro m2 s2 I2 L2 ⟨rfl, k, X6, v6, hkm2, rfl, rfl, h6⟩
    unfold sh277_6
    try simp only [SSd, Nat.reduceAdd]
    refine br_split (fun e => ?_) (fun e => ?_)
    · simp at e
      have hk2 : k < 2 := by omega
      have hix := ixV_int bb 0 1 .i64 2 2 k (by omega) (by omega)
      simp only [hix, SSd, Nat.reduceAdd]
      obtain ⟨g1, g2⟩ := hs k hk2
      have hck := hc k (X6 ++ (bb, Obj.cells #[v1, v2] T (0, 0)) :: F) hk2 (List.mem_append_right _ (List.mem_cons_self ..))
      refine rd1 (v := if k = 0 then v1 else v2) (by simpa using hck) ?_
      have hle2 := hle (k + 1) (by omega)
      have hn : Bytes I2 (if k = 0 then v1 else v2) (if k = 0 then a else b) := by split <;> assumption
      refine ob_app (y := if k = 0 then a else b) h6 (SlI.news hn) (by omega) (fun X7 v7 h7 => ?_)
      try simp only [SSd, Nat.reduceAdd]
      rw [wrap_i64 _ (by omega)]
      exact Gh.done ⟨m2 - 1, by omega, rfl, k + 1, X7, v7, by omega, by simp, rfl, by rw [g2]; exact h7⟩
    · simp at e
      have hk2 : k = 2 := by omega
      subst hk2
      exact Gh.done (hk X6 v6 (by simpa [sumK] using h6))
def ktF (l : List UInt8) : List UInt8 := esc l ++ [0, 1]
theorem keytext_spec {v : Value} {l : List UInt8} (h : Bytes I v l) (hl : l.length ≤ 1000000000) (hk : ∀ X v' I', Ext I I' → OB X v' (ktF l) → K v' I' (X ++ L)) : Cal Tryz.prog ω 265 #[v] K I L := by
  refine cal265 ?_
  unfold sh265
  refine by1 (c := 0) (fun X1 u1 h1 => OB.freeze h1 (fun I1 hI1 hb1 => Gh.done ?_))
  refine by2 (c := 0) (d := 255) (fun X2 u2 h2 => OB.freeze h2 (fun I2 hI2 hb2 => Gh.done ?_))
  refine callG (rall_spec (h.mono (hI1.trans hI2)) (hb1.mono hI2) hb2 hl (fun X3 u3 h3 => ?_))
  refine OB.freeze h3 (fun I3 hI3 hb3 => Gh.done ?_)
  refine by2 (c := 0) (d := 1) (fun X4 u4 h4 => OB.freeze h4 (fun I4 hI4 hb4 => Gh.done ?_))
  have hel := esc_len l
  have hcl := List.count_le_length (a := (0 : UInt8)) (l := l)
  obtain ⟨a3, c3, rfl⟩ := Bytes.form hb3
  obtain ⟨a4, c4, rfl⟩ := Bytes.form hb4
  refine ⟨#[.slice a3 (esc l).length c3, .slice a4 ([0, 1] : List UInt8).length c4], by kernel_rfl, fun bb => Gh.done ?_⟩
  refine call (concat_spec (hb3.mono hI4) hb4 (by simp) (by simp; omega) (fun X v' hX => ?_))
  exact Gh.to (X ++ L) (Gh.done (hk X v' I4 (hI1.trans (hI2.trans (hI3.trans hI4))) hX))
end
end Go.Proofs.YtmmfcgbfbcamcaaGreatDoor
