/-
  Lemmas, part 3: laid together by a program.
-/
import Derived.Test.YtmmfcgbfbcamcaaGreatDoorChecked
import Derived.Test.YtmmfcgbfbcamcaaGreatDoorP2
set_option maxRecDepth 100000
set_option linter.unusedVariables false
namespace Go.Proofs.YtmmfcgbfbcamcaaGreatDoor
open Go.SL
theorem mixed : Tryz.prog.follows .mixedOrders = true := by kernel_rfl
def sh6_2 (ω : Om) (p0 : Value) (p4 : Value) (x2 : Value) (x6 : Value) (Kn0 : (Value × Value × Unit) → M) (K : Value → M) : M :=
  Pv (lenV p0) fun v9 =>
  Pv (binIV .lss x6 v9) fun v10 =>
  Gd v10 true
    (Pv (binIV .lss x6 (Value.int .i64 100)) fun v11 =>
    Br v11
      (Pv (ixV 15 p0 x6) fun v12 =>
      Rv none (ldNR 15 v12) fun v13 =>
      Cal Tryz.prog ω 12 #[p4, v13] <| gh fun v14 =>
      Pv (exV v14 0) fun v15 =>
      Pv (exV v14 1) fun v16 =>
      New (.cells #[(Value.int .i64 0), (Value.bool false), (Value.slice none 0 0), (Value.int .i64 0), (Value.int .i64 0), (Value.int .i64 0), (Value.slice none 0 0), (Value.int .i64 0), (Value.int .i64 0), (Value.int .i64 0), (Value.int .i64 0)] 52 (0, 0)) <| gh fun a_17 =>
      Sto 11 a_17 v15 <| gh fun _ =>
      Rv none (ldNR 11 a_17) fun v18 =>
      Cal Tryz.prog ω 23 #[v18] <| gh fun v19 =>
      Pv (exV v19 0) fun v20 =>
      Pv (exV v19 1) fun v21 =>
      Cal Tryz.prog ω 24 #[v20] <| gh fun v22 =>
      Pv (exV v22 0) fun v23 =>
      Pv (exV v22 1) fun v24 =>
      New (.cells #[(Value.int .i64 0), (Value.bool false), (Value.slice none 0 0), (Value.int .i64 0), (Value.int .i64 0), (Value.int .i64 0), (Value.slice none 0 0), (Value.int .i64 0), (Value.int .i64 0), (Value.int .i64 0), (Value.int .i64 0)] 52 (0, 0)) <| gh fun c_25 =>
      Sto 11 c_25 v23 <| gh fun _ =>
      Rv none (ldNR 11 a_17) fun v26 =>
      Rv none (ldNR 11 c_25) fun v27 =>
      Cal Tryz.prog ω 17 #[v26, v27] <| gh fun v28 =>
      Pv (binIV .neq v21 (Value.int .i64 0)) fun v29 =>
      Gd v29 false
        (Pv (binIV .neq v24 (Value.int .i64 0)) fun v30 =>
        Gd v30 false
          (Pv (unV .not v28) fun v31 =>
          Br v31
            (K (Value.bool false))
            (Pv (binIV .add x6 (Value.int .i64 1)) fun v32 =>
            Kn0 (x2, v32, ())))
          (K (Value.bool false)))
        (K (Value.bool false)))
      (K (Value.bool true)))
    (K (Value.bool true))
def sh6 (ω : Om) (a0 : Value) (K : Value → M) : M :=
  Cal Tryz.prog ω 10 #[] <| gh fun v1 =>
  Pv (bldV #[(Value.slice none 0 0), (Value.slice none 0 0)] #[(0, 1), (1, 1)] []) fun v2 =>
  Cal Tryz.prog ω 11 #[v2] <| gh fun v3 =>
  Pv (exV v3 0) fun v4 =>
  Pv (exV v3 1) fun v5 =>
  Pv (unV .not v1) fun v6 =>
  Gd v6 false
    (Pv (binIV .neq v5 (Value.int .i64 0)) fun v7 =>
    Gd v7 false
      (Pv (binPV .eql v4 (Value.pointer none)) fun v8 =>
      Br v8
        (K (Value.bool false))
        (LoopM (((Value.bool false), (Value.int .i64 0), ()) : Value × Value × Unit) fun s Kn0 =>
        sh6_2 ω a0 v4 s.1 s.2.1 Kn0 K))
      (K (Value.bool false)))
    (K (Value.bool false))
theorem sh6_eq (ω : Om) (a0 : Value) (K : Value → M) : vcF Tryz.prog ω Tryz.f6 [a0] K = sh6 ω a0 K := by kernel_rfl
theorem cal6 {ω : Om} {a0 : Value} {K : Value → M} {I : Imm} {L : LH} (h : sh6 ω a0 (fun v => Gh (K v)) I L) : Cal Tryz.prog ω 6 #[a0] K I L :=
  Cal.gh (cal_of_vc mixed Tryz.func6 (by rw [sh6_eq]; exact h))
def sh10 (ω : Om) (K : Value → M) : M :=
  Pv (bldV #[(Value.slice none 0 0), (Value.slice none 0 0)] #[(0, 1), (1, 1)] []) fun v1 =>
  Cal Tryz.prog ω 11 #[v1] <| gh fun v2 =>
  Pv (exV v2 0) fun v3 =>
  Pv (exV v2 1) fun v4 =>
  Pv (binIV .neq v4 (Value.int .i64 0)) fun v5 =>
  Gd v5 false
    (Pv (binPV .eql v3 (Value.pointer none)) fun v6 =>
    Br v6
      (K (Value.bool false))
      (BldS 5 1 #[(Value.int .u8 0)] 1 [(0, (Value.int .u8 97))] <| gh fun v7 =>
      MrkS v7 <| gh fun v8 =>
      BldS 5 1 #[(Value.int .u8 0)] 1 [(0, (Value.int .u8 120))] <| gh fun v9 =>
      MrkS v9 <| gh fun v10 =>
      Pv (bldV #[(Value.int .i64 0), (Value.int .i64 0), (Value.int .i64 0), (Value.int .i64 0), (Value.int .i64 0), (Value.int .i64 0), (Value.int .i64 0), (Value.int .i64 0), (Value.bool false), (Value.bool false), (Value.slice none 0 0), (Value.slice none 0 0), (Value.slice none 0 0), (Value.slice none 0 0), (Value.int .i64 0)] #[(0, 1), (1, 1), (2, 1), (3, 2), (5, 2), (7, 1), (8, 1), (9, 1), (10, 1), (11, 1), (12, 2), (14, 1)] [(0, (Value.int .i64 3)), (1, (Value.int .i64 1)), (2, (Value.int .i64 1)), (8, v8), (9, v10)]) fun v11 =>
      Cal Tryz.prog ω 12 #[v3, v11] <| gh fun v12 =>
      Pv (exV v12 0) fun v13 =>
      Pv (exV v12 1) fun v14 =>
      New (.cells #[(Value.int .i64 0), (Value.bool false), (Value.slice none 0 0), (Value.int .i64 0), (Value.int .i64 0), (Value.int .i64 0), (Value.slice none 0 0), (Value.int .i64 0), (Value.int .i64 0), (Value.int .i64 0), (Value.int .i64 0)] 52 (0, 0)) <| gh fun a_15 =>
      Sto 11 a_15 v13 <| gh fun _ =>
      BldS 5 1 #[(Value.int .u8 0)] 1 [(0, (Value.int .u8 97))] <| gh fun v16 =>
      MrkS v16 <| gh fun v17 =>
      Pv (bldV #[(Value.int .i64 0), (Value.int .i64 0), (Value.int .i64 0), (Value.int .i64 0), (Value.int .i64 0), (Value.int .i64 0), (Value.int .i64 0), (Value.int .i64 0), (Value.bool false), (Value.bool false), (Value.slice none 0 0), (Value.slice none 0 0), (Value.slice none 0 0), (Value.slice none 0 0), (Value.int .i64 0)] #[(0, 1), (1, 1), (2, 1), (3, 2), (5, 2), (7, 1), (8, 1), (9, 1), (10, 1), (11, 1), (12, 2), (14, 1)] [(0, (Value.int .i64 1)), (1, (Value.int .i64 1)), (8, v17)]) fun v18 =>
      Cal Tryz.prog ω 12 #[v3, v18] <| gh fun v19 =>
      Pv (exV v19 0) fun v20 =>
      Pv (exV v19 1) fun v21 =>
      New (.cells #[(Value.int .i64 0), (Value.bool false), (Value.slice none 0 0), (Value.int .i64 0), (Value.int .i64 0), (Value.int .i64 0), (Value.slice none 0 0), (Value.int .i64 0), (Value.int .i64 0), (Value.int .i64 0), (Value.int .i64 0)] 52 (0, 0)) <| gh fun b_22 =>
      Sto 11 b_22 v20 <| gh fun _ =>
      Pv (fldV 0 a_15) fun v23 =>
      Rv none (ld1R v23) fun v24 =>
      Pv (binIV .eql v24 (Value.int .i64 0)) fun v25 =>
      Gd v25 true
        (Pv (fldV 0 b_22) fun v26 =>
        Rv none (ld1R v26) fun v27 =>
        Pv (binIV .eql v27 (Value.int .i64 0)) fun v28 =>
        Gd v28 true
          (Pv (fldV 1 b_22) fun v29 =>
          Pv (fldV 1 v29) fun v30 =>
          Rv none (ld1R v30) fun v31 =>
          Rv none (bsR v31) fun v32 =>
          Pv (binSV .eql v32 (Value.string (ByteArray.mk #[120]))) fun v33 =>
          K v33)
          (K (Value.bool false)))
        (K (Value.bool false))))
    (K (Value.bool false))
theorem sh10_eq (ω : Om) (K : Value → M) : vcF Tryz.prog ω Tryz.f10 [] K = sh10 ω K := by kernel_rfl
theorem cal10 {ω : Om} {K : Value → M} {I : Imm} {L : LH} (h : sh10 ω (fun v => Gh (K v)) I L) : Cal Tryz.prog ω 10 #[] K I L :=
  Cal.gh (cal_of_vc mixed Tryz.func10 (by rw [sh10_eq]; exact h))
def sh11 (ω : Om) (a0 : Value) (K : Value → M) : M :=
  New (.cells (Value.cells a0) 31 (0, 0)) <| gh fun p_1 =>
  Rv none (ldNR 2 p_1) fun v2 =>
  Cal Tryz.prog ω 30 #[v2] <| gh fun v3 =>
  Pv (unV .not v3) fun v4 =>
  Br v4
    (K (Value.tuple #[(Value.pointer none), (Value.int .i64 1)]))
    (Draw fun S =>
      Rv (some S) (ldNR 2 p_1) fun v5 =>
      Cal Tryz.prog ω 32 #[] <| gh <| Keep S fun v6 =>
      Cal Tryz.prog ω 31 #[v5, v6] <| gh fun v7 =>
      K (Value.tuple #[v7, (Value.int .i64 0)]))
theorem sh11_eq (ω : Om) (a0 : Value) (K : Value → M) : vcF Tryz.prog ω Tryz.f11 [a0] K = sh11 ω a0 K := by kernel_rfl
theorem cal11 {ω : Om} {a0 : Value} {K : Value → M} {I : Imm} {L : LH} (h : sh11 ω a0 (fun v => Gh (K v)) I L) : Cal Tryz.prog ω 11 #[a0] K I L :=
  Cal.gh (cal_of_vc mixed Tryz.func11 (by rw [sh11_eq]; exact h))
def sh12 (ω : Om) (a0 : Value) (a1 : Value) (K : Value → M) : M :=
  New (.cells (Value.cells a1) 56 (0, 0)) <| gh fun c_1 =>
  New (.cells #[(Value.int .i64 0), (Value.bool false), (Value.slice none 0 0), (Value.int .i64 0), (Value.int .i64 0), (Value.int .i64 0), (Value.slice none 0 0), (Value.int .i64 0), (Value.int .i64 0), (Value.int .i64 0), (Value.int .i64 0)] 52 (0, 0)) <| gh fun v2 =>
  Rv none (ldNR 15 c_1) fun v3 =>
  Cal Tryz.prog ω 33 #[v3] <| gh fun v4 =>
  Pv (unV .not v4) fun v5 =>
  Br v5
    (Cal Tryz.prog ω 34 #[(Value.int .i64 140)] <| gh fun v6 =>
    Sto 11 v2 v6 <| gh fun _ =>
    Rv none (ldNR 11 v2) fun v7 =>
    K (Value.tuple #[v7, (Value.pointer none)]))
    (Draw fun S =>
      Cal Tryz.prog ω 35 #[] <| gh <| Keep S fun v8 =>
      Pv (fldV 0 c_1) fun v9 =>
      Rv (some S) (ld1R v9) fun v10 =>
      Pv (ixAV false 1 12 v8 v10) fun v11 =>
      Rv (some S) (ldNR 15 c_1) fun v12 =>
      CalV Tryz.prog ω v11 #[a0, v12] <| gh fun v13 =>
      Pv (exV v13 0) fun v14 =>
      Pv (exV v13 1) fun v15 =>
      Sto 11 v2 v14 <| gh fun _ =>
      Rv none (ldNR 11 v2) fun v16 =>
      K (Value.tuple #[v16, v15]))
theorem sh12_eq (ω : Om) (a0 a1 : Value) (K : Value → M) : vcF Tryz.prog ω Tryz.f12 [a0, a1] K = sh12 ω a0 a1 K := by kernel_rfl
theorem cal12 {ω : Om} {a0 a1 : Value} {K : Value → M} {I : Imm} {L : LH} (h : sh12 ω a0 a1 (fun v => Gh (K v)) I L) : Cal Tryz.prog ω 12 #[a0, a1] K I L :=
  Cal.gh (cal_of_vc mixed Tryz.func12 (by rw [sh12_eq]; exact h))
def sh17 (ω : Om) (a0 : Value) (a1 : Value) (K : Value → M) : M :=
  New (.cells (Value.cells a0) 52 (0, 0)) <| gh fun a_1 =>
  New (.cells (Value.cells a1) 52 (0, 0)) <| gh fun b_2 =>
  Pv (fldV 1 a_1) fun v3 =>
  Rv none (ldNR 5 v3) fun v4 =>
  Pv (fldV 1 b_2) fun v5 =>
  Rv none (ldNR 5 v5) fun v6 =>
  Cal Tryz.prog ω 54 #[v4, v6] <| gh fun v7 =>
  Pv (fldV 6 a_1) fun v8 =>
  Rv none (ld1R v8) fun v9 =>
  Pv (fldV 6 b_2) fun v10 =>
  Rv none (ld1R v10) fun v11 =>
  Cal Tryz.prog ω 55 #[v9, v11] <| gh fun v12 =>
  Gd v7 true
    (Gd v12 true
      (Pv (fldV 0 a_1) fun v13 =>
      Rv none (ld1R v13) fun v14 =>
      Pv (fldV 0 b_2) fun v15 =>
      Rv none (ld1R v15) fun v16 =>
      Pv (binIV .eql v14 v16) fun v17 =>
      Gd v17 true
        (Pv (fldV 7 a_1) fun v18 =>
        Rv none (ldNR 2 v18) fun v19 =>
        Pv (fldV 7 b_2) fun v20 =>
        Rv none (ldNR 2 v20) fun v21 =>
        Pv (binAV .eql [(TypeDesc.int .i64, 0), (TypeDesc.int .i64, 1)] v19 v21) fun v22 =>
        Gd v22 true
          (Pv (fldV 9 a_1) fun v23 =>
          Rv none (ld1R v23) fun v24 =>
          Pv (fldV 9 b_2) fun v25 =>
          Rv none (ld1R v25) fun v26 =>
          Pv (binIV .eql v24 v26) fun v27 =>
          Gd v27 true
            (Pv (fldV 10 a_1) fun v28 =>
            Rv none (ld1R v28) fun v29 =>
            Pv (fldV 10 b_2) fun v30 =>
            Rv none (ld1R v30) fun v31 =>
            Pv (binIV .eql v29 v31) fun v32 =>
            K v32)
            (K (Value.bool false)))
          (K (Value.bool false)))
        (K (Value.bool false)))
      (K (Value.bool false)))
    (K (Value.bool false))
theorem sh17_eq (ω : Om) (a0 a1 : Value) (K : Value → M) : vcF Tryz.prog ω Tryz.f17 [a0, a1] K = sh17 ω a0 a1 K := by kernel_rfl
theorem cal17 {ω : Om} {a0 a1 : Value} {K : Value → M} {I : Imm} {L : LH} (h : sh17 ω a0 a1 (fun v => Gh (K v)) I L) : Cal Tryz.prog ω 17 #[a0, a1] K I L :=
  Cal.gh (cal_of_vc mixed Tryz.func17 (by rw [sh17_eq]; exact h))
def sh23_3 (ω : Om) (p2 : Value) (p3 : Value) (p4 : Value) (K : Value → M) : M :=
  Pv (nilV p4) fun v52 =>
  Pv (fldV 0 v52) fun v53 =>
  Rv none (ld1R v53) fun v54 =>
  K (Value.tuple #[v54, (Value.int .i64 0)])
def sh23_1 (ω : Om) (p2 : Value) (p3 : Value) (p4 : Value) (p50 : Value) (p51 : Value) (x52 : Value) (Kn0 : (Value × Unit) → M) (K : Value → M) : M :=
  Pv (binIV .lss x52 p51) fun v41 =>
  Br v41
    (Pv (ixV 2 p50 x52) fun v42 =>
    Rv none (ldNR 2 v42) fun v43 =>
    New (.cells #[(Value.slice none 0 0), (Value.slice none 0 0)] 113 (0, 0)) <| gh fun x_44 =>
    Sto 2 x_44 v43 <| gh fun _ =>
    Pv (fldV 0 x_44) fun v45 =>
    Rv none (ld1R v45) fun v46 =>
    Cal Tryz.prog ω 64 #[p4, v46] <| gh fun v47 =>
    Pv (fldV 1 x_44) fun v48 =>
    Rv none (ld1R v48) fun v49 =>
    Cal Tryz.prog ω 64 #[p4, v49] <| gh fun v50 =>
    Pv (binIV .add x52 (Value.int .i64 1)) fun v51 =>
    Kn0 (v51, ()))
    (sh23_3 ω p2 p3 p4 K)
def sh23 (ω : Om) (a0 : Value) (K : Value → M) : M :=
  New (.cells (Value.cells a0) 52 (0, 0)) <| gh fun r_1 =>
  Rv none (ldNR 11 r_1) fun v2 =>
  Cal Tryz.prog ω 78 #[v2] <| gh fun v3 =>
  Pv (unV .not v3) fun v4 =>
  Br v4
    (K (Value.tuple #[(Value.slice none 0 0), (Value.int .i64 140)]))
    (Pv (bldV #[(Value.slice none 0 0)] #[(0, 1)] []) fun v5 =>
    New (.cells (Value.cells v5) 141 (0, 0)) <| gh fun v6 =>
    Pv (fldV 0 r_1) fun v7 =>
    Rv none (ld1R v7) fun v8 =>
    Pv (fldV 10 r_1) fun v9 =>
    Rv none (ld1R v9) fun v10 =>
    Pv (fldV 9 r_1) fun v11 =>
    Rv none (ld1R v11) fun v12 =>
    Pv (fldV 1 r_1) fun v13 =>
    Pv (fldV 4 v13) fun v14 =>
    Rv none (ld1R v14) fun v15 =>
    BldS 3 1 #[(Value.int .i64 0)] 4 [(0, v8), (1, v10), (2, v12), (3, v15)] <| gh fun v16 =>
    Cal Tryz.prog ω 61 #[v6, v16] <| gh fun v17 =>
    Pv (fldV 7 r_1) fun v18 =>
    Rv none (ldNR 2 v18) fun v19 =>
    Cal Tryz.prog ω 62 #[v6, v19] <| gh fun v20 =>
    Pv (fldV 1 r_1) fun v21 =>
    Pv (fldV 2 v21) fun v22 =>
    Rv none (ldNR 2 v22) fun v23 =>
    Cal Tryz.prog ω 62 #[v6, v23] <| gh fun v24 =>
    Pv (fldV 1 r_1) fun v25 =>
    Pv (fldV 0 v25) fun v26 =>
    Rv none (ld1R v26) fun v27 =>
    Cal Tryz.prog ω 63 #[v6, v27] <| gh fun v28 =>
    Pv (fldV 1 r_1) fun v29 =>
    Pv (fldV 1 v29) fun v30 =>
    Rv none (ld1R v30) fun v31 =>
    Cal Tryz.prog ω 64 #[v6, v31] <| gh fun v32 =>
    Pv (fldV 6 r_1) fun v33 =>
    Rv none (ld1R v33) fun v34 =>
    Pv (lenV v34) fun v35 =>
    BldS 3 1 #[(Value.int .i64 0)] 1 [(0, v35)] <| gh fun v36 =>
    Cal Tryz.prog ω 61 #[v6, v36] <| gh fun v37 =>
    Pv (fldV 6 r_1) fun v38 =>
    Rv none (ld1R v38) fun v39 =>
    Pv (lenV v39) fun v40 =>
    LoopM (((Value.int .i64 0), ()) : Value × Unit) fun s Kn0 =>
    sh23_1 ω (Value.slice none 0 0) (Value.int .i64 0) v6 v39 v40 s.1 Kn0 K)
theorem sh23_eq (ω : Om) (a0 : Value) (K : Value → M) : vcF Tryz.prog ω Tryz.f23 [a0] K = sh23 ω a0 K := by kernel_rfl
theorem cal23 {ω : Om} {a0 : Value} {K : Value → M} {I : Imm} {L : LH} (h : sh23 ω a0 (fun v => Gh (K v)) I L) : Cal Tryz.prog ω 23 #[a0] K I L :=
  Cal.gh (cal_of_vc mixed Tryz.func23 (by rw [sh23_eq]; exact h))
def sh24_4 (ω : Om) (p2 : Value) (p3 : Value) (K : Value → M) : M :=
  Pv (bldV #[(Value.int .i64 0), (Value.bool false), (Value.slice none 0 0), (Value.int .i64 0), (Value.int .i64 0), (Value.int .i64 0), (Value.slice none 0 0), (Value.int .i64 0), (Value.int .i64 0), (Value.int .i64 0), (Value.int .i64 0)] #[(0, 1), (1, 5), (6, 1), (7, 2), (9, 1), (10, 1)] []) fun v51 =>
  Sto 11 p2 v51 <| gh fun _ =>
  Rv none (ldNR 11 p2) fun v52 =>
  K (Value.tuple #[v52, (Value.int .i64 140)])
def sh24_3 (ω : Om) (p0 : Value) (p2 : Value) (p3 : Value) (p4 : Value) (p5 : Value) (K : Value → M) : M :=
  Rv none (ldNR 11 p5) fun v42 =>
  Cal Tryz.prog ω 23 #[v42] <| gh fun v43 =>
  Pv (exV v43 0) fun v44 =>
  Pv (exV v43 1) fun v45 =>
  Cal Tryz.prog ω 76 #[p4] <| gh fun v46 =>
  Pv (unV .not v46) fun v47 =>
  Gd v47 false
    (Pv (binIV .neq v45 (Value.int .i64 0)) fun v48 =>
    Gd v48 false
      (Cal Tryz.prog ω 77 #[v44, p0] <| gh fun v49 =>
      Pv (unV .not v49) fun v50 =>
      Br v50
        (sh24_4 ω p2 p3 K)
        (Rv none (ldNR 11 p5) fun v53 =>
        Sto 11 p2 v53 <| gh fun _ =>
        Rv none (ldNR 11 p2) fun v54 =>
        K (Value.tuple #[v54, (Value.int .i64 0)])))
      (sh24_4 ω p2 p3 K))
    (sh24_4 ω p2 p3 K)
def sh24_1 (ω : Om) (p0 : Value) (p2 : Value) (p3 : Value) (p4 : Value) (p5 : Value) (x6 : Value) (Kn0 : (Value × Unit) → M) (K : Value → M) : M :=
  Pv (binIV .gtr x6 (Value.int .i64 0)) fun v24 =>
  Gd v24 true
    (Pv (fldV 6 p5) fun v25 =>
    Rv none (ld1R v25) fun v26 =>
    Pv (lenV v26) fun v27 =>
    Pv (binIV .leq v27 (Value.int .i64 90)) fun v28 =>
    Gd v28 true
      (Pv (nilV p4) fun v29 =>
      Pv (fldV 1 v29) fun v30 =>
      Rv none (ld1R v30) fun v31 =>
      Pv (unV .not v31) fun v32 =>
      Br v32
        (Draw fun S =>
          Pv (fldV 6 p5) fun v33 =>
          Rv (some S) (ld1R v33) fun v34 =>
          Cal Tryz.prog ω 74 #[p4] <| gh <| Keep S fun v35 =>
          Cal Tryz.prog ω 74 #[p4] <| gh <| Keep S fun v36 =>
          Pv (bldV #[(Value.slice none 0 0), (Value.slice none 0 0)] #[(0, 1), (1, 1)] [(0, v35), (1, v36)]) fun v37 =>
          BldS 113 2 #[(Value.slice none 0 0), (Value.slice none 0 0)] 1 [(0, v37)] <| gh <| Keep S fun v38 =>
          App 113 2 48 #[(Value.slice none 0 0), (Value.slice none 0 0)] v34 v38 <| gh fun v39 =>
          Pv (fldV 6 p5) fun v40 =>
          Sto 1 v40 v39 <| gh fun _ =>
          Pv (binIV .sub x6 (Value.int .i64 1)) fun v41 =>
          Kn0 (v41, ()))
        (sh24_3 ω p0 p2 p3 p4 p5 K))
      (sh24_3 ω p0 p2 p3 p4 p5 K))
    (sh24_3 ω p0 p2 p3 p4 p5 K)
def sh24 (ω : Om) (a0 : Value) (K : Value → M) : M :=
  New (.cells #[(Value.int .i64 0), (Value.bool false), (Value.slice none 0 0), (Value.int .i64 0), (Value.int .i64 0), (Value.int .i64 0), (Value.slice none 0 0), (Value.int .i64 0), (Value.int .i64 0), (Value.int .i64 0), (Value.int .i64 0)] 52 (0, 0)) <| gh fun v1 =>
  Pv (bldV #[(Value.slice none 0 0), (Value.bool false)] #[(0, 1), (1, 1)] [(0, a0)]) fun v2 =>
  New (.cells (Value.cells v2) 152 (0, 0)) <| gh fun v3 =>
  Cal Tryz.prog ω 71 #[v3] <| gh fun v4 =>
  Cal Tryz.prog ω 71 #[v3] <| gh fun v5 =>
  Cal Tryz.prog ω 71 #[v3] <| gh fun v6 =>
  Pv (bldV #[(Value.int .i64 0), (Value.bool false), (Value.slice none 0 0), (Value.int .i64 0), (Value.int .i64 0), (Value.int .i64 0), (Value.slice none 0 0), (Value.int .i64 0), (Value.int .i64 0), (Value.int .i64 0), (Value.int .i64 0)] #[(0, 1), (1, 5), (6, 1), (7, 2), (9, 1), (10, 1)] [(0, v4), (5, v5), (4, v6)]) fun v7 =>
  New (.cells #[(Value.int .i64 0), (Value.bool false), (Value.slice none 0 0), (Value.int .i64 0), (Value.int .i64 0), (Value.int .i64 0), (Value.slice none 0 0), (Value.int .i64 0), (Value.int .i64 0), (Value.int .i64 0), (Value.int .i64 0)] 52 (0, 0)) <| gh fun x_8 =>
  Sto 11 x_8 v7 <| gh fun _ =>
  Cal Tryz.prog ω 71 #[v3] <| gh fun v9 =>
  Pv (fldV 1 x_8) fun v10 =>
  Pv (fldV 4 v10) fun v11 =>
  Sto 1 v11 v9 <| gh fun _ =>
  Cal Tryz.prog ω 72 #[v3] <| gh fun v12 =>
  Cal Tryz.prog ω 72 #[v3] <| gh fun v13 =>
  Pv (fldV 7 x_8) fun v14 =>
  Sto 2 v14 v12 <| gh fun _ =>
  Pv (fldV 1 x_8) fun v15 =>
  Pv (fldV 2 v15) fun v16 =>
  Sto 2 v16 v13 <| gh fun _ =>
  Cal Tryz.prog ω 73 #[v3] <| gh fun v17 =>
  Cal Tryz.prog ω 74 #[v3] <| gh fun v18 =>
  Pv (fldV 1 x_8) fun v19 =>
  Pv (fldV 0 v19) fun v20 =>
  Sto 1 v20 v17 <| gh fun _ =>
  Pv (fldV 1 x_8) fun v21 =>
  Pv (fldV 1 v21) fun v22 =>
  Sto 1 v22 v18 <| gh fun _ =>
  Cal Tryz.prog ω 71 #[v3] <| gh fun v23 =>
  LoopM ((v23, ()) : Value × Unit) fun s Kn0 =>
  sh24_1 ω a0 v1 (Value.int .i64 0) v3 x_8 s.1 Kn0 K
theorem sh24_eq (ω : Om) (a0 : Value) (K : Value → M) : vcF Tryz.prog ω Tryz.f24 [a0] K = sh24 ω a0 K := by kernel_rfl
theorem cal24 {ω : Om} {a0 : Value} {K : Value → M} {I : Imm} {L : LH} (h : sh24 ω a0 (fun v => Gh (K v)) I L) : Cal Tryz.prog ω 24 #[a0] K I L :=
  Cal.gh (cal_of_vc mixed Tryz.func24 (by rw [sh24_eq]; exact h))
def sh30 (ω : Om) (a0 : Value) (K : Value → M) : M :=
  New (.cells (Value.cells a0) 31 (0, 0)) <| gh fun p_1 =>
  Pv (fldV 0 p_1) fun v2 =>
  Rv none (ld1R v2) fun v3 =>
  Pv (lenV v3) fun v4 =>
  Pv (binIV .leq v4 (Value.int .i64 111)) fun v5 =>
  Gd v5 true
    (Pv (fldV 1 p_1) fun v6 =>
    Rv none (ld1R v6) fun v7 =>
    Pv (lenV v7) fun v8 =>
    Pv (binIV .leq v8 (Value.int .i64 111)) fun v9 =>
    Gd v9 true
      (Pv (fldV 1 p_1) fun v10 =>
      Rv none (ld1R v10) fun v11 =>
      Pv (lenV v11) fun v12 =>
      Pv (binIV .eql v12 (Value.int .i64 0)) fun v13 =>
      Gd v13 false
        (Pv (fldV 1 p_1) fun v14 =>
        Rv none (ld1R v14) fun v15 =>
        Pv (fldV 0 p_1) fun v16 =>
        Rv none (ld1R v16) fun v17 =>
        Cal Tryz.prog ω 85 #[v15, v17] <| gh fun v18 =>
        Pv (binIV .gtr v18 (Value.int .i64 0)) fun v19 =>
        K v19)
        (K (Value.bool true)))
      (K (Value.bool false)))
    (K (Value.bool false))
theorem sh30_eq (ω : Om) (a0 : Value) (K : Value → M) : vcF Tryz.prog ω Tryz.f30 [a0] K = sh30 ω a0 K := by kernel_rfl
theorem cal30 {ω : Om} {a0 : Value} {K : Value → M} {I : Imm} {L : LH} (h : sh30 ω a0 (fun v => Gh (K v)) I L) : Cal Tryz.prog ω 30 #[a0] K I L :=
  Cal.gh (cal_of_vc mixed Tryz.func30 (by rw [sh30_eq]; exact h))
def sh31 (ω : Om) (a0 : Value) (a1 : Value) (K : Value → M) : M :=
  New (.cells (Value.cells a0) 31 (0, 0)) <| gh fun p_1 =>
  Draw fun S =>
    Pv (fldV 0 p_1) fun v2 =>
    Rv (some S) (ld1R v2) fun v3 =>
    Cal Tryz.prog ω 82 #[v3] <| gh <| Keep S fun v4 =>
    Pv (fldV 1 p_1) fun v5 =>
    Rv (some S) (ld1R v5) fun v6 =>
    Cal Tryz.prog ω 82 #[v6] <| gh fun v7 =>
    Pv (bldV #[(Value.slice none 0 0), (Value.slice none 0 0)] #[(0, 1), (1, 1)] [(0, v4), (1, v7)]) fun v8 =>
    Sto 2 p_1 v8 <| gh fun _ =>
    Rv none (ldNR 2 p_1) fun v9 =>
    NewM <| gh fun v10 =>
    NewM <| gh fun v11 =>
    NewM <| gh fun v12 =>
    Pv (bldV #[(Value.slice none 0 0), (Value.slice none 0 0), (Value.pointer none), (Value.map none), (Value.int .i64 0), (Value.int .i64 0), (Value.int .i64 0), (Value.map none), (Value.map none), (Value.int .i64 0), (Value.slice none 0 0)] #[(0, 2), (2, 1), (3, 1), (4, 3), (7, 1), (8, 1), (9, 1), (10, 1)] [(0, v9), (1, a1), (2, v10), (4, v11), (5, v12)]) fun v13 =>
    New (.cells (Value.cells v13) 163 (0, 0)) <| gh fun v14 =>
    K v14
theorem sh31_eq (ω : Om) (a0 a1 : Value) (K : Value → M) : vcF Tryz.prog ω Tryz.f31 [a0, a1] K = sh31 ω a0 a1 K := by kernel_rfl
theorem cal31 {ω : Om} {a0 a1 : Value} {K : Value → M} {I : Imm} {L : LH} (h : sh31 ω a0 a1 (fun v => Gh (K v)) I L) : Cal Tryz.prog ω 31 #[a0, a1] K I L :=
  Cal.gh (cal_of_vc mixed Tryz.func31 (by rw [sh31_eq]; exact h))
def sh32 (ω : Om) (K : Value → M) : M :=
  NewM <| gh fun v1 =>
  NewM <| gh fun v2 =>
  Pv (bldV #[(Value.map none), (Value.slice none 0 0), (Value.int .i64 0), (Value.int .i64 0), (Value.map none)] #[(0, 1), (1, 1), (2, 2), (4, 1)] [(0, v1), (3, v2)]) fun v3 =>
  New (.cells (Value.cells v3) 179 (0, 0)) <| gh fun v4 =>
  K v4
theorem sh32_eq (ω : Om) (K : Value → M) : vcF Tryz.prog ω Tryz.f32 [] K = sh32 ω K := by kernel_rfl
theorem cal32 {ω : Om} {K : Value → M} {I : Imm} {L : LH} (h : sh32 ω (fun v => Gh (K v)) I L) : Cal Tryz.prog ω 32 #[] K I L :=
  Cal.gh (cal_of_vc mixed Tryz.func32 (by rw [sh32_eq]; exact h))
def sh33_4 (ω : Om) (p2 : Value) (p4 : Value) (p5 : Value) (K : Value → M) : M :=
  Gd p4 true
    (Rv none (ldNR 15 p5) fun v42 =>
    Cal Tryz.prog ω 92 #[v42] <| gh fun v43 =>
    K v43)
    (K (Value.bool false))
def sh33_2 (ω : Om) (p1 : Value) (p2 : Value) (p3 : Value) (p4 : Value) (p5 : Value) (K : Value → M) : M :=
  Gd p3 true
    (Pv (fldV 10 p1) fun v38 =>
    Rv none (ld1R v38) fun v39 =>
    Cal Tryz.prog ω 91 #[v39] <| gh fun v40 =>
    Pv (fldV 10 p5) fun v41 =>
    Sto 1 v41 (Value.slice none 0 0) <| gh fun _ =>
    sh33_4 ω p2 v40 p5 K)
    (Pv (fldV 10 p5) fun v44 =>
    Sto 1 v44 (Value.slice none 0 0) <| gh fun _ =>
    sh33_4 ω p2 (Value.bool false) p5 K)
def sh33_5 (ω : Om) (p1 : Value) (p2 : Value) (p3 : Value) (p4 : Value) (p5 : Value) (p49 : Value) (K : Value → M) : M :=
  Pv (binIV .eql p49 (Value.int .i64 2)) fun v45 =>
  Br v45
    (Gd p3 true
      (Pv (fldV 14 p1) fun v46 =>
      Rv none (ld1R v46) fun v47 =>
      Pv (binIV .geq v47 (Value.int .i64 1)) fun v48 =>
      Gd v48 true
        (Pv (fldV 14 p1) fun v49 =>
        Rv none (ld1R v49) fun v50 =>
        Pv (binIV .leq v50 (Value.int .i64 90)) fun v51 =>
        Pv (bldV #[(Value.slice none 0 0), (Value.slice none 0 0)] #[(0, 1), (1, 1)] []) fun v52 =>
        Pv (fldV 12 p5) fun v53 =>
        Sto 2 v53 v52 <| gh fun _ =>
        Pv (fldV 14 p5) fun v54 =>
        Sto 1 v54 (Value.int .i64 0) <| gh fun _ =>
        sh33_4 ω p2 v51 p5 K)
        (Pv (bldV #[(Value.slice none 0 0), (Value.slice none 0 0)] #[(0, 1), (1, 1)] []) fun v55 =>
        Pv (fldV 12 p5) fun v56 =>
        Sto 2 v56 v55 <| gh fun _ =>
        Pv (fldV 14 p5) fun v57 =>
        Sto 1 v57 (Value.int .i64 0) <| gh fun _ =>
        sh33_4 ω p2 (Value.bool false) p5 K))
      (Pv (bldV #[(Value.slice none 0 0), (Value.slice none 0 0)] #[(0, 1), (1, 1)] []) fun v58 =>
      Pv (fldV 12 p5) fun v59 =>
      Sto 2 v59 v58 <| gh fun _ =>
      Pv (fldV 14 p5) fun v60 =>
      Sto 1 v60 (Value.int .i64 0) <| gh fun _ =>
      sh33_4 ω p2 (Value.bool false) p5 K))
    (Pv (binIV .eql p49 (Value.int .i64 3)) fun v61 =>
    Br v61
      (Gd p4 true
        (Pv (fldV 2 p1) fun v62 =>
        Rv none (ld1R v62) fun v63 =>
        Pv (binIV .gtr v63 (Value.int .i64 0)) fun v64 =>
        Gd v64 true
          (Pv (fldV 10 p1) fun v65 =>
          Rv none (ld1R v65) fun v66 =>
          Cal Tryz.prog ω 91 #[v66] <| gh fun v67 =>
          Gd v67 true
            (Pv (fldV 11 p1) fun v68 =>
            Rv none (ld1R v68) fun v69 =>
            Pv (lenV v69) fun v70 =>
            Pv (binIV .leq v70 (Value.int .i64 10000)) fun v71 =>
            Gd v71 true
              (Pv (fldV 9 p1) fun v72 =>
              Rv none (ld1R v72) fun v73 =>
              Pv (unV .not v73) fun v74 =>
              Gd v74 false
                (Pv (fldV 11 p1) fun v75 =>
                Rv none (ld1R v75) fun v76 =>
                Pv (lenV v76) fun v77 =>
                Pv (binIV .eql v77 (Value.int .i64 0)) fun v78 =>
                Pv (fldV 2 p5) fun v79 =>
                Sto 1 v79 (Value.int .i64 0) <| gh fun _ =>
                Pv (fldV 10 p5) fun v80 =>
                Sto 1 v80 (Value.slice none 0 0) <| gh fun _ =>
                Pv (fldV 9 p5) fun v81 =>
                Sto 1 v81 (Value.bool false) <| gh fun _ =>
                Pv (fldV 11 p5) fun v82 =>
                Sto 1 v82 (Value.slice none 0 0) <| gh fun _ =>
                sh33_4 ω p2 v78 p5 K)
                (Pv (fldV 2 p5) fun v83 =>
                Sto 1 v83 (Value.int .i64 0) <| gh fun _ =>
                Pv (fldV 10 p5) fun v84 =>
                Sto 1 v84 (Value.slice none 0 0) <| gh fun _ =>
                Pv (fldV 9 p5) fun v85 =>
                Sto 1 v85 (Value.bool false) <| gh fun _ =>
                Pv (fldV 11 p5) fun v86 =>
                Sto 1 v86 (Value.slice none 0 0) <| gh fun _ =>
                sh33_4 ω p2 (Value.bool true) p5 K))
              (Pv (fldV 2 p5) fun v87 =>
              Sto 1 v87 (Value.int .i64 0) <| gh fun _ =>
              Pv (fldV 10 p5) fun v88 =>
              Sto 1 v88 (Value.slice none 0 0) <| gh fun _ =>
              Pv (fldV 9 p5) fun v89 =>
              Sto 1 v89 (Value.bool false) <| gh fun _ =>
              Pv (fldV 11 p5) fun v90 =>
              Sto 1 v90 (Value.slice none 0 0) <| gh fun _ =>
              sh33_4 ω p2 (Value.bool false) p5 K))
            (Pv (fldV 2 p5) fun v91 =>
            Sto 1 v91 (Value.int .i64 0) <| gh fun _ =>
            Pv (fldV 10 p5) fun v92 =>
            Sto 1 v92 (Value.slice none 0 0) <| gh fun _ =>
            Pv (fldV 9 p5) fun v93 =>
            Sto 1 v93 (Value.bool false) <| gh fun _ =>
            Pv (fldV 11 p5) fun v94 =>
            Sto 1 v94 (Value.slice none 0 0) <| gh fun _ =>
            sh33_4 ω p2 (Value.bool false) p5 K))
          (Pv (fldV 2 p5) fun v95 =>
          Sto 1 v95 (Value.int .i64 0) <| gh fun _ =>
          Pv (fldV 10 p5) fun v96 =>
          Sto 1 v96 (Value.slice none 0 0) <| gh fun _ =>
          Pv (fldV 9 p5) fun v97 =>
          Sto 1 v97 (Value.bool false) <| gh fun _ =>
          Pv (fldV 11 p5) fun v98 =>
          Sto 1 v98 (Value.slice none 0 0) <| gh fun _ =>
          sh33_4 ω p2 (Value.bool false) p5 K))
        (Pv (fldV 2 p5) fun v99 =>
        Sto 1 v99 (Value.int .i64 0) <| gh fun _ =>
        Pv (fldV 10 p5) fun v100 =>
        Sto 1 v100 (Value.slice none 0 0) <| gh fun _ =>
        Pv (fldV 9 p5) fun v101 =>
        Sto 1 v101 (Value.bool false) <| gh fun _ =>
        Pv (fldV 11 p5) fun v102 =>
        Sto 1 v102 (Value.slice none 0 0) <| gh fun _ =>
        sh33_4 ω p2 (Value.bool false) p5 K))
      (Pv (binIV .eql p49 (Value.int .i64 4)) fun v103 =>
      Br v103
        (Gd p4 true
          (Pv (fldV 2 p1) fun v104 =>
          Rv none (ld1R v104) fun v105 =>
          Pv (binIV .gtr v105 (Value.int .i64 0)) fun v106 =>
          Pv (bldV #[(Value.int .i64 0), (Value.int .i64 0)] #[(0, 1), (1, 1)] []) fun v107 =>
          Pv (bldV #[(Value.slice none 0 0), (Value.slice none 0 0)] #[(0, 1), (1, 1)] []) fun v108 =>
          Pv (fldV 2 p5) fun v109 =>
          Sto 1 v109 (Value.int .i64 0) <| gh fun _ =>
          Pv (fldV 5 p5) fun v110 =>
          Sto 2 v110 v107 <| gh fun _ =>
          Pv (fldV 12 p5) fun v111 =>
          Sto 2 v111 v108 <| gh fun _ =>
          sh33_4 ω p2 v106 p5 K)
          (Pv (bldV #[(Value.int .i64 0), (Value.int .i64 0)] #[(0, 1), (1, 1)] []) fun v112 =>
          Pv (bldV #[(Value.slice none 0 0), (Value.slice none 0 0)] #[(0, 1), (1, 1)] []) fun v113 =>
          Pv (fldV 2 p5) fun v114 =>
          Sto 1 v114 (Value.int .i64 0) <| gh fun _ =>
          Pv (fldV 5 p5) fun v115 =>
          Sto 2 v115 v112 <| gh fun _ =>
          Pv (fldV 12 p5) fun v116 =>
          Sto 2 v116 v113 <| gh fun _ =>
          sh33_4 ω p2 (Value.bool false) p5 K))
        (Pv (binIV .eql p49 (Value.int .i64 5)) fun v117 =>
        Br v117
          (Gd p4 true
            (Pv (fldV 2 p1) fun v118 =>
            Rv none (ld1R v118) fun v119 =>
            Pv (binIV .gtr v119 (Value.int .i64 0)) fun v120 =>
            Pv (fldV 2 p5) fun v121 =>
            Sto 1 v121 (Value.int .i64 0) <| gh fun _ =>
            sh33_4 ω p2 v120 p5 K)
            (Pv (fldV 2 p5) fun v122 =>
            Sto 1 v122 (Value.int .i64 0) <| gh fun _ =>
            sh33_4 ω p2 (Value.bool false) p5 K))
          (Pv (binIV .eql p49 (Value.int .i64 6)) fun v123 =>
          Br v123
            (Pv (fldV 8 p5) fun v124 =>
            Sto 1 v124 (Value.bool false) <| gh fun _ =>
            sh33_4 ω p2 p4 p5 K)
            (Pv (binIV .eql p49 (Value.int .i64 7)) fun v125 =>
            Br v125
              (Gd p4 true
                (Pv (fldV 7 p1) fun v126 =>
                Rv none (ld1R v126) fun v127 =>
                Cal Tryz.prog ω 90 #[v127] <| gh fun v128 =>
                Pv (fldV 7 p5) fun v129 =>
                Sto 1 v129 (Value.int .i64 0) <| gh fun _ =>
                sh33_4 ω p2 v128 p5 K)
                (Pv (fldV 7 p5) fun v130 =>
                Sto 1 v130 (Value.int .i64 0) <| gh fun _ =>
                sh33_4 ω p2 (Value.bool false) p5 K))
              (Pv (binIV .eql p49 (Value.int .i64 8)) fun v131 =>
              Br v131
                (Gd p4 true
                  (Pv (fldV 3 p1) fun v132 =>
                  Rv none (ldNR 2 v132) fun v133 =>
                  Pv (bldV #[(Value.int .i64 0), (Value.int .i64 0)] #[(0, 1), (1, 1)] []) fun v134 =>
                  Pv (binAV .eql [(TypeDesc.int .i64, 0), (TypeDesc.int .i64, 1)] v133 v134) fun v135 =>
                  sh33_4 ω p2 v135 p5 K)
                  (sh33_4 ω p2 (Value.bool false) p5 K))
                (Pv (binIV .eql p49 (Value.int .i64 9)) fun v136 =>
                Br v136
                  (Pv (bldV #[(Value.slice none 0 0), (Value.slice none 0 0)] #[(0, 1), (1, 1)] []) fun v137 =>
                  Pv (fldV 8 p5) fun v138 =>
                  Sto 1 v138 (Value.bool false) <| gh fun _ =>
                  Pv (fldV 12 p5) fun v139 =>
                  Sto 2 v139 v137 <| gh fun _ =>
                  sh33_4 ω p2 p4 p5 K)
                  (Pv (binIV .eql p49 (Value.int .i64 10)) fun v140 =>
                  Br v140
                    (Pv (fldV 1 p1) fun v141 =>
                    Rv none (ld1R v141) fun v142 =>
                    Pv (binIV .eql v142 (Value.int .i64 0)) fun v143 =>
                    sh33_4 ω p2 v143 p5 K)
                    (Pv (binIV .eql p49 (Value.int .i64 11)) fun v144 =>
                    Br v144
                      (Pv (fldV 1 p1) fun v145 =>
                      Rv none (ld1R v145) fun v146 =>
                      Pv (binIV .eql v146 (Value.int .i64 0)) fun v147 =>
                      Gd v147 true
                        (Pv (fldV 3 p1) fun v148 =>
                        Rv none (ldNR 2 v148) fun v149 =>
                        Pv (bldV #[(Value.int .i64 0), (Value.int .i64 0)] #[(0, 1), (1, 1)] []) fun v150 =>
                        Pv (binAV .eql [(TypeDesc.int .i64, 0), (TypeDesc.int .i64, 1)] v149 v150) fun v151 =>
                        Gd v151 true
                          (Pv (fldV 10 p1) fun v152 =>
                          Rv none (ld1R v152) fun v153 =>
                          Cal Tryz.prog ω 91 #[v153] <| gh fun v154 =>
                          Gd v154 true
                            (Pv (fldV 7 p1) fun v155 =>
                            Rv none (ld1R v155) fun v156 =>
                            Pv (binIV .geq v156 (Value.int .i64 1)) fun v157 =>
                            Gd v157 true
                              (Pv (fldV 7 p1) fun v158 =>
                              Rv none (ld1R v158) fun v159 =>
                              Pv (binIV .leq v159 (Value.int .i64 255)) fun v160 =>
                              Pv (fldV 10 p5) fun v161 =>
                              Sto 1 v161 (Value.slice none 0 0) <| gh fun _ =>
                              Pv (fldV 7 p5) fun v162 =>
                              Sto 1 v162 (Value.int .i64 0) <| gh fun _ =>
                              sh33_4 ω p2 v160 p5 K)
                              (Pv (fldV 10 p5) fun v163 =>
                              Sto 1 v163 (Value.slice none 0 0) <| gh fun _ =>
                              Pv (fldV 7 p5) fun v164 =>
                              Sto 1 v164 (Value.int .i64 0) <| gh fun _ =>
                              sh33_4 ω p2 (Value.bool false) p5 K))
                            (Pv (fldV 10 p5) fun v165 =>
                            Sto 1 v165 (Value.slice none 0 0) <| gh fun _ =>
                            Pv (fldV 7 p5) fun v166 =>
                            Sto 1 v166 (Value.int .i64 0) <| gh fun _ =>
                            sh33_4 ω p2 (Value.bool false) p5 K))
                          (Pv (fldV 10 p5) fun v167 =>
                          Sto 1 v167 (Value.slice none 0 0) <| gh fun _ =>
                          Pv (fldV 7 p5) fun v168 =>
                          Sto 1 v168 (Value.int .i64 0) <| gh fun _ =>
                          sh33_4 ω p2 (Value.bool false) p5 K))
                        (Pv (fldV 10 p5) fun v169 =>
                        Sto 1 v169 (Value.slice none 0 0) <| gh fun _ =>
                        Pv (fldV 7 p5) fun v170 =>
                        Sto 1 v170 (Value.int .i64 0) <| gh fun _ =>
                        sh33_4 ω p2 (Value.bool false) p5 K))
                      (K (Value.bool false)))))))))))
def sh33 (ω : Om) (a0 : Value) (K : Value → M) : M :=
  New (.cells (Value.cells a0) 56 (0, 0)) <| gh fun c_1 =>
  Pv (fldV 3 c_1) fun v2 =>
  Rv none (ldNR 2 v2) fun v3 =>
  Cal Tryz.prog ω 89 #[v3] <| gh fun v4 =>
  Pv (unV .not v4) fun v5 =>
  Gd v5 false
    (Pv (fldV 5 c_1) fun v6 =>
    Rv none (ldNR 2 v6) fun v7 =>
    Cal Tryz.prog ω 89 #[v7] <| gh fun v8 =>
    Pv (unV .not v8) fun v9 =>
    Gd v9 false
      (Pv (fldV 12 c_1) fun v10 =>
      Rv none (ldNR 2 v10) fun v11 =>
      Cal Tryz.prog ω 30 #[v11] <| gh fun v12 =>
      Pv (unV .not v12) fun v13 =>
      Gd v13 false
        (Pv (fldV 2 c_1) fun v14 =>
        Rv none (ld1R v14) fun v15 =>
        Pv (binIV .lss v15 (Value.int .i64 0)) fun v16 =>
        Gd v16 false
          (Pv (fldV 2 c_1) fun v17 =>
          Rv none (ld1R v17) fun v18 =>
          Pv (binIV .gtr v18 (Value.int .i64 9007199254740991)) fun v19 =>
          Br v19
            (K (Value.bool false))
            (Pv (fldV 1 c_1) fun v20 =>
            Rv none (ld1R v20) fun v21 =>
            Pv (binIV .eql v21 (Value.int .i64 0)) fun v22 =>
            Gd v22 false
              (Pv (fldV 1 c_1) fun v23 =>
              Rv none (ld1R v23) fun v24 =>
              Cal Tryz.prog ω 90 #[v24] <| gh fun v25 =>
              Pv (fldV 1 c_1) fun v26 =>
              Rv none (ld1R v26) fun v27 =>
              Cal Tryz.prog ω 90 #[v27] <| gh fun v28 =>
              Rv none (ldNR 15 c_1) fun v29 =>
              New (.cells #[(Value.int .i64 0), (Value.int .i64 0), (Value.int .i64 0), (Value.int .i64 0), (Value.int .i64 0), (Value.int .i64 0), (Value.int .i64 0), (Value.int .i64 0), (Value.bool false), (Value.bool false), (Value.slice none 0 0), (Value.slice none 0 0), (Value.slice none 0 0), (Value.slice none 0 0), (Value.int .i64 0)] 56 (0, 0)) <| gh fun left_30 =>
              Sto 15 left_30 v29 <| gh fun _ =>
              Pv (bldV #[(Value.int .i64 0), (Value.int .i64 0)] #[(0, 1), (1, 1)] []) fun v31 =>
              Pv (fldV 0 left_30) fun v32 =>
              Sto 1 v32 (Value.int .i64 0) <| gh fun _ =>
              Pv (fldV 1 left_30) fun v33 =>
              Sto 1 v33 (Value.int .i64 0) <| gh fun _ =>
              Pv (fldV 3 left_30) fun v34 =>
              Sto 2 v34 v31 <| gh fun _ =>
              Pv (fldV 0 c_1) fun v35 =>
              Rv none (ld1R v35) fun v36 =>
              Pv (binIV .eql v36 (Value.int .i64 1)) fun v37 =>
              Br v37
                (sh33_2 ω c_1 (Value.bool false) v25 v28 left_30 K)
                (sh33_5 ω c_1 (Value.bool false) v25 v28 left_30 v36 K))
              (Pv (fldV 1 c_1) fun v171 =>
              Rv none (ld1R v171) fun v172 =>
              Cal Tryz.prog ω 90 #[v172] <| gh fun v173 =>
              Rv none (ldNR 15 c_1) fun v174 =>
              New (.cells #[(Value.int .i64 0), (Value.int .i64 0), (Value.int .i64 0), (Value.int .i64 0), (Value.int .i64 0), (Value.int .i64 0), (Value.int .i64 0), (Value.int .i64 0), (Value.bool false), (Value.bool false), (Value.slice none 0 0), (Value.slice none 0 0), (Value.slice none 0 0), (Value.slice none 0 0), (Value.int .i64 0)] 56 (0, 0)) <| gh fun left_175 =>
              Sto 15 left_175 v174 <| gh fun _ =>
              Pv (bldV #[(Value.int .i64 0), (Value.int .i64 0)] #[(0, 1), (1, 1)] []) fun v176 =>
              Pv (fldV 0 left_175) fun v177 =>
              Sto 1 v177 (Value.int .i64 0) <| gh fun _ =>
              Pv (fldV 1 left_175) fun v178 =>
              Sto 1 v178 (Value.int .i64 0) <| gh fun _ =>
              Pv (fldV 3 left_175) fun v179 =>
              Sto 2 v179 v176 <| gh fun _ =>
              Pv (fldV 0 c_1) fun v180 =>
              Rv none (ld1R v180) fun v181 =>
              Pv (binIV .eql v181 (Value.int .i64 1)) fun v182 =>
              Br v182
                (sh33_2 ω c_1 (Value.bool false) (Value.bool true) v173 left_175 K)
                (sh33_5 ω c_1 (Value.bool false) (Value.bool true) v173 left_175 v181 K))))
          (K (Value.bool false)))
        (K (Value.bool false)))
      (K (Value.bool false)))
    (K (Value.bool false))
theorem sh33_eq (ω : Om) (a0 : Value) (K : Value → M) : vcF Tryz.prog ω Tryz.f33 [a0] K = sh33 ω a0 K := by kernel_rfl
theorem cal33 {ω : Om} {a0 : Value} {K : Value → M} {I : Imm} {L : LH} (h : sh33 ω a0 (fun v => Gh (K v)) I L) : Cal Tryz.prog ω 33 #[a0] K I L :=
  Cal.gh (cal_of_vc mixed Tryz.func33 (by rw [sh33_eq]; exact h))
def sh34 (ω : Om) (a0 : Value) (K : Value → M) : M :=
  New (.cells #[(Value.int .i64 0), (Value.bool false), (Value.slice none 0 0), (Value.int .i64 0), (Value.int .i64 0), (Value.int .i64 0), (Value.slice none 0 0), (Value.int .i64 0), (Value.int .i64 0), (Value.int .i64 0), (Value.int .i64 0)] 52 (0, 0)) <| gh fun v1 =>
  Pv (bldV #[(Value.int .i64 0), (Value.bool false), (Value.slice none 0 0), (Value.int .i64 0), (Value.int .i64 0), (Value.int .i64 0), (Value.slice none 0 0), (Value.int .i64 0), (Value.int .i64 0), (Value.int .i64 0), (Value.int .i64 0)] #[(0, 1), (1, 5), (6, 1), (7, 2), (9, 1), (10, 1)] [(0, a0)]) fun v2 =>
  Sto 11 v1 v2 <| gh fun _ =>
  Rv none (ldNR 11 v1) fun v3 =>
  K v3
theorem sh34_eq (ω : Om) (a0 : Value) (K : Value → M) : vcF Tryz.prog ω Tryz.f34 [a0] K = sh34 ω a0 K := by kernel_rfl
theorem cal34 {ω : Om} {a0 : Value} {K : Value → M} {I : Imm} {L : LH} (h : sh34 ω a0 (fun v => Gh (K v)) I L) : Cal Tryz.prog ω 34 #[a0] K I L :=
  Cal.gh (cal_of_vc mixed Tryz.func34 (by rw [sh34_eq]; exact h))
def sh35 (ω : Om) (K : Value → M) : M :=
  New (.cells #[Value.nilFunc, Value.nilFunc, Value.nilFunc, Value.nilFunc, Value.nilFunc, Value.nilFunc, Value.nilFunc, Value.nilFunc, Value.nilFunc, Value.nilFunc, Value.nilFunc, Value.nilFunc] 104 (0, 0)) <| gh fun v1 =>
  Cal Tryz.prog ω 93 #[(Value.func (.func 94) #[] #[])] <| gh fun v2 =>
  Cal Tryz.prog ω 93 #[(Value.func (.func 95) #[] #[])] <| gh fun v3 =>
  Cal Tryz.prog ω 93 #[(Value.func (.func 96) #[] #[])] <| gh fun v4 =>
  Cal Tryz.prog ω 93 #[(Value.func (.func 97) #[] #[])] <| gh fun v5 =>
  Cal Tryz.prog ω 93 #[(Value.func (.func 98) #[] #[])] <| gh fun v6 =>
  Cal Tryz.prog ω 93 #[(Value.func (.func 99) #[] #[])] <| gh fun v7 =>
  Cal Tryz.prog ω 93 #[(Value.func (.func 100) #[] #[])] <| gh fun v8 =>
  Cal Tryz.prog ω 93 #[(Value.func (.func 101) #[] #[])] <| gh fun v9 =>
  Cal Tryz.prog ω 93 #[(Value.func (.func 102) #[] #[])] <| gh fun v10 =>
  Cal Tryz.prog ω 93 #[(Value.func (.func 103) #[] #[])] <| gh fun v11 =>
  Pv (bldAV 1 #[Value.nilFunc, Value.nilFunc, Value.nilFunc, Value.nilFunc, Value.nilFunc, Value.nilFunc, Value.nilFunc, Value.nilFunc, Value.nilFunc, Value.nilFunc, Value.nilFunc, Value.nilFunc] [(1, v2), (2, v3), (3, v4), (4, v5), (5, v6), (6, v7), (7, v8), (8, v9), (9, v10), (10, v11), (11, (Value.func (.func 104) #[] #[]))]) fun v12 =>
  Sto 12 v1 v12 <| gh fun _ =>
  Rv none (ldNR 12 v1) fun v13 =>
  K v13
theorem sh35_eq (ω : Om) (K : Value → M) : vcF Tryz.prog ω Tryz.f35 [] K = sh35 ω K := by kernel_rfl
theorem cal35 {ω : Om} {K : Value → M} {I : Imm} {L : LH} (h : sh35 ω (fun v => Gh (K v)) I L) : Cal Tryz.prog ω 35 #[] K I L :=
  Cal.gh (cal_of_vc mixed Tryz.func35 (by rw [sh35_eq]; exact h))
def sh54 (ω : Om) (a0 : Value) (a1 : Value) (K : Value → M) : M :=
  New (.cells (Value.cells a0) 49 (0, 0)) <| gh fun a_1 =>
  New (.cells (Value.cells a1) 49 (0, 0)) <| gh fun b_2 =>
  Pv (fldV 0 a_1) fun v3 =>
  Rv none (ld1R v3) fun v4 =>
  Pv (fldV 0 b_2) fun v5 =>
  Rv none (ld1R v5) fun v6 =>
  Pv (binBV .eql v4 v6) fun v7 =>
  Gd v7 true
    (Pv (fldV 1 a_1) fun v8 =>
    Rv none (ld1R v8) fun v9 =>
    Rv none (bsR v9) fun v10 =>
    Pv (fldV 1 b_2) fun v11 =>
    Rv none (ld1R v11) fun v12 =>
    Rv none (bsR v12) fun v13 =>
    Pv (binSV .eql v10 v13) fun v14 =>
    Gd v14 true
      (Pv (fldV 2 a_1) fun v15 =>
      Rv none (ldNR 2 v15) fun v16 =>
      Pv (fldV 2 b_2) fun v17 =>
      Rv none (ldNR 2 v17) fun v18 =>
      Pv (binAV .eql [(TypeDesc.int .i64, 0), (TypeDesc.int .i64, 1)] v16 v18) fun v19 =>
      Gd v19 true
        (Pv (fldV 4 a_1) fun v20 =>
        Rv none (ld1R v20) fun v21 =>
        Pv (fldV 4 b_2) fun v22 =>
        Rv none (ld1R v22) fun v23 =>
        Pv (binIV .eql v21 v23) fun v24 =>
        K v24)
        (K (Value.bool false)))
      (K (Value.bool false)))
    (K (Value.bool false))
theorem sh54_eq (ω : Om) (a0 a1 : Value) (K : Value → M) : vcF Tryz.prog ω Tryz.f54 [a0, a1] K = sh54 ω a0 a1 K := by kernel_rfl
theorem cal54 {ω : Om} {a0 a1 : Value} {K : Value → M} {I : Imm} {L : LH} (h : sh54 ω a0 a1 (fun v => Gh (K v)) I L) : Cal Tryz.prog ω 54 #[a0, a1] K I L :=
  Cal.gh (cal_of_vc mixed Tryz.func54 (by rw [sh54_eq]; exact h))
def sh55_1 (ω : Om) (p0 : Value) (p1 : Value) (x4 : Value) (x5 : Value) (Kn0 : (Value × Value × Unit) → M) (K : Value → M) : M :=
  Pv (lenV p0) fun v4 =>
  Pv (binIV .lss x5 v4) fun v5 =>
  Br v5
    (Draw fun S =>
      Pv (ixV 2 p0 x5) fun v6 =>
      Pv (fldV 0 v6) fun v7 =>
      Rv (some S) (ld1R v7) fun v8 =>
      Rv (some S) (bsR v8) fun v9 =>
      Pv (ixV 2 p1 x5) fun v10 =>
      Pv (fldV 0 v10) fun v11 =>
      Rv (some S) (ld1R v11) fun v12 =>
      Rv (some S) (bsR v12) fun v13 =>
      Pv (binSV .neq v9 v13) fun v14 =>
      Gd v14 false
        (Pv (ixV 2 p0 x5) fun v15 =>
        Pv (fldV 1 v15) fun v16 =>
        Rv (some S) (ld1R v16) fun v17 =>
        Rv (some S) (bsR v17) fun v18 =>
        Pv (ixV 2 p1 x5) fun v19 =>
        Pv (fldV 1 v19) fun v20 =>
        Rv (some S) (ld1R v20) fun v21 =>
        Rv (some S) (bsR v21) fun v22 =>
        Pv (binSV .neq v18 v22) fun v23 =>
        Br v23
          (K (Value.bool false))
          (Pv (binIV .add x5 (Value.int .i64 1)) fun v24 =>
          Kn0 (x4, v24, ())))
        (K (Value.bool false)))
    (K (Value.bool true))
def sh55 (ω : Om) (a0 : Value) (a1 : Value) (K : Value → M) : M :=
  Pv (lenV a0) fun v1 =>
  Pv (lenV a1) fun v2 =>
  Pv (binIV .neq v1 v2) fun v3 =>
  Br v3
    (K (Value.bool false))
    (LoopM (((Value.bool false), (Value.int .i64 0), ()) : Value × Value × Unit) fun s Kn0 =>
    sh55_1 ω a0 a1 s.1 s.2.1 Kn0 K)
theorem sh55_eq (ω : Om) (a0 a1 : Value) (K : Value → M) : vcF Tryz.prog ω Tryz.f55 [a0, a1] K = sh55 ω a0 a1 K := by kernel_rfl
theorem cal55 {ω : Om} {a0 a1 : Value} {K : Value → M} {I : Imm} {L : LH} (h : sh55 ω a0 a1 (fun v => Gh (K v)) I L) : Cal Tryz.prog ω 55 #[a0, a1] K I L :=
  Cal.gh (cal_of_vc mixed Tryz.func55 (by rw [sh55_eq]; exact h))
def sh61_1 (ω : Om) (p0 : Value) (p6 : Value) (p7 : Value) (x8 : Value) (Kn0 : (Value × Unit) → M) (K : Value → M) : M :=
  Pv (binIV .lss x8 p7) fun v2 =>
  Br v2
    (Pv (ixV 1 p6 x8) fun v3 =>
    Rv none (ld1R v3) fun v4 =>
    Draw fun S =>
      Pv (nilV p0) fun v5 =>
      Pv (fldV 0 v5) fun v6 =>
      Rv (some S) (ld1R v6) fun v7 =>
      Pv (cvIV .u64 v4) fun v8 =>
      Cal Tryz.prog ω 121 #[v8] <| gh <| Keep S fun v9 =>
      App 5 1 1 #[(Value.int .u8 0)] v7 v9 <| gh fun v10 =>
      Pv (nilV p0) fun v11 =>
      Pv (fldV 0 v11) fun v12 =>
      Sto 1 v12 v10 <| gh fun _ =>
      Pv (binIV .add x8 (Value.int .i64 1)) fun v13 =>
      Kn0 (v13, ()))
    (K (Value.tuple #[]))
def sh61 (ω : Om) (a0 : Value) (a1 : Value) (K : Value → M) : M :=
  Pv (lenV a1) fun v1 =>
  LoopM (((Value.int .i64 0), ()) : Value × Unit) fun s Kn0 =>
  sh61_1 ω a0 a1 v1 s.1 Kn0 K
theorem sh61_eq (ω : Om) (a0 a1 : Value) (K : Value → M) : vcF Tryz.prog ω Tryz.f61 [a0, a1] K = sh61 ω a0 a1 K := by kernel_rfl
theorem cal61 {ω : Om} {a0 a1 : Value} {K : Value → M} {I : Imm} {L : LH} (h : sh61 ω a0 a1 (fun v => Gh (K v)) I L) : Cal Tryz.prog ω 61 #[a0, a1] K I L :=
  Cal.gh (cal_of_vc mixed Tryz.func61 (by rw [sh61_eq]; exact h))
def sh62 (ω : Om) (a0 : Value) (a1 : Value) (K : Value → M) : M :=
  New (.cells (Value.cells a1) 41 (0, 0)) <| gh fun s_1 =>
  Pv (fldV 0 s_1) fun v2 =>
  Rv none (ld1R v2) fun v3 =>
  Pv (fldV 1 s_1) fun v4 =>
  Rv none (ld1R v4) fun v5 =>
  BldS 3 1 #[(Value.int .i64 0)] 2 [(0, v3), (1, v5)] <| gh fun v6 =>
  Cal Tryz.prog ω 61 #[a0, v6] <| gh fun v7 =>
  K (Value.tuple #[])
theorem sh62_eq (ω : Om) (a0 a1 : Value) (K : Value → M) : vcF Tryz.prog ω Tryz.f62 [a0, a1] K = sh62 ω a0 a1 K := by kernel_rfl
theorem cal62 {ω : Om} {a0 a1 : Value} {K : Value → M} {I : Imm} {L : LH} (h : sh62 ω a0 a1 (fun v => Gh (K v)) I L) : Cal Tryz.prog ω 62 #[a0, a1] K I L :=
  Cal.gh (cal_of_vc mixed Tryz.func62 (by rw [sh62_eq]; exact h))
def sh63 (ω : Om) (a0 : Value) (a1 : Value) (K : Value → M) : M :=
  Br a1
    (BldS 3 1 #[(Value.int .i64 0)] 1 [(0, (Value.int .i64 1))] <| gh fun v1 =>
    Cal Tryz.prog ω 61 #[a0, v1] <| gh fun v2 =>
    K (Value.tuple #[]))
    (BldS 3 1 #[(Value.int .i64 0)] 1 [(0, (Value.int .i64 0))] <| gh fun v3 =>
    Cal Tryz.prog ω 61 #[a0, v3] <| gh fun v4 =>
    K (Value.tuple #[]))
theorem sh63_eq (ω : Om) (a0 a1 : Value) (K : Value → M) : vcF Tryz.prog ω Tryz.f63 [a0, a1] K = sh63 ω a0 a1 K := by kernel_rfl
theorem cal63 {ω : Om} {a0 a1 : Value} {K : Value → M} {I : Imm} {L : LH} (h : sh63 ω a0 a1 (fun v => Gh (K v)) I L) : Cal Tryz.prog ω 63 #[a0, a1] K I L :=
  Cal.gh (cal_of_vc mixed Tryz.func63 (by rw [sh63_eq]; exact h))
def sh64 (ω : Om) (a0 : Value) (a1 : Value) (K : Value → M) : M :=
  Pv (lenV a1) fun v1 =>
  BldS 3 1 #[(Value.int .i64 0)] 1 [(0, v1)] <| gh fun v2 =>
  Cal Tryz.prog ω 61 #[a0, v2] <| gh fun v3 =>
  Pv (nilV a0) fun v4 =>
  Pv (fldV 0 v4) fun v5 =>
  Rv none (ld1R v5) fun v6 =>
  App 5 1 1 #[(Value.int .u8 0)] v6 a1 <| gh fun v7 =>
  Pv (nilV a0) fun v8 =>
  Pv (fldV 0 v8) fun v9 =>
  Sto 1 v9 v7 <| gh fun _ =>
  K (Value.tuple #[])
theorem sh64_eq (ω : Om) (a0 a1 : Value) (K : Value → M) : vcF Tryz.prog ω Tryz.f64 [a0, a1] K = sh64 ω a0 a1 K := by kernel_rfl
theorem cal64 {ω : Om} {a0 a1 : Value} {K : Value → M} {I : Imm} {L : LH} (h : sh64 ω a0 a1 (fun v => Gh (K v)) I L) : Cal Tryz.prog ω 64 #[a0, a1] K I L :=
  Cal.gh (cal_of_vc mixed Tryz.func64 (by rw [sh64_eq]; exact h))
def sh71_1 (ω : Om) (p0 : Value) (p2 : Value) (K : Value → M) : M :=
  Pv (nilV p0) fun v10 =>
  Pv (fldV 1 v10) fun v11 =>
  Sto 1 v11 (Value.bool true) <| gh fun _ =>
  Pv (nilV p0) fun v12 =>
  Pv (fldV 0 v12) fun v13 =>
  Sto 1 v13 (Value.slice none 0 0) <| gh fun _ =>
  K (Value.int .i64 0)
def sh71 (ω : Om) (a0 : Value) (K : Value → M) : M :=
  Pv (nilV a0) fun v1 =>
  Pv (fldV 0 v1) fun v2 =>
  Rv none (ld1R v2) fun v3 =>
  Cal Tryz.prog ω 124 #[v3] <| gh fun v4 =>
  Pv (exV v4 0) fun v5 =>
  Pv (exV v4 1) fun v6 =>
  Pv (exV v4 2) fun v7 =>
  Pv (binIV .neq v7 (Value.int .i64 0)) fun v8 =>
  Gd v8 false
    (Pv (binIV .gtr v5 (Value.int .u64 9007199254740991)) fun v9 =>
    Br v9
      (sh71_1 ω a0 (Value.int .i64 0) K)
      (Pv (nilV a0) fun v14 =>
      Pv (fldV 0 v14) fun v15 =>
      Rv none (ld1R v15) fun v16 =>
      Pv (slcV 1 v16 (some v6) none none) fun v17 =>
      Pv (nilV a0) fun v18 =>
      Pv (fldV 0 v18) fun v19 =>
      Sto 1 v19 v17 <| gh fun _ =>
      Pv (cvIV .i64 v5) fun v20 =>
      K v20))
    (sh71_1 ω a0 (Value.int .i64 0) K)
theorem sh71_eq (ω : Om) (a0 : Value) (K : Value → M) : vcF Tryz.prog ω Tryz.f71 [a0] K = sh71 ω a0 K := by kernel_rfl
theorem cal71 {ω : Om} {a0 : Value} {K : Value → M} {I : Imm} {L : LH} (h : sh71 ω a0 (fun v => Gh (K v)) I L) : Cal Tryz.prog ω 71 #[a0] K I L :=
  Cal.gh (cal_of_vc mixed Tryz.func71 (by rw [sh71_eq]; exact h))
def sh72_1 (ω : Om) (p2 : Value) (p3 : Value) (K : Value → M) : M :=
  Rv none (ldNR 2 p3) fun v11 =>
  Sto 2 p2 v11 <| gh fun _ =>
  Rv none (ldNR 2 p2) fun v12 =>
  K v12
def sh72 (ω : Om) (a0 : Value) (K : Value → M) : M :=
  New (.cells #[(Value.int .i64 0), (Value.int .i64 0)] 41 (0, 0)) <| gh fun v1 =>
  Cal Tryz.prog ω 71 #[a0] <| gh fun v2 =>
  Cal Tryz.prog ω 71 #[a0] <| gh fun v3 =>
  Pv (bldV #[(Value.int .i64 0), (Value.int .i64 0)] #[(0, 1), (1, 1)] [(0, v2), (1, v3)]) fun v4 =>
  New (.cells #[(Value.int .i64 0), (Value.int .i64 0)] 41 (0, 0)) <| gh fun s_5 =>
  Sto 2 s_5 v4 <| gh fun _ =>
  Rv none (ldNR 2 s_5) fun v6 =>
  Cal Tryz.prog ω 89 #[v6] <| gh fun v7 =>
  Pv (unV .not v7) fun v8 =>
  Br v8
    (Pv (nilV a0) fun v9 =>
    Pv (fldV 1 v9) fun v10 =>
    Sto 1 v10 (Value.bool true) <| gh fun _ =>
    sh72_1 ω v1 s_5 K)
    (sh72_1 ω v1 s_5 K)
theorem sh72_eq (ω : Om) (a0 : Value) (K : Value → M) : vcF Tryz.prog ω Tryz.f72 [a0] K = sh72 ω a0 K := by kernel_rfl
theorem cal72 {ω : Om} {a0 : Value} {K : Value → M} {I : Imm} {L : LH} (h : sh72 ω a0 (fun v => Gh (K v)) I L) : Cal Tryz.prog ω 72 #[a0] K I L :=
  Cal.gh (cal_of_vc mixed Tryz.func72 (by rw [sh72_eq]; exact h))
def sh73 (ω : Om) (a0 : Value) (K : Value → M) : M :=
  Cal Tryz.prog ω 71 #[a0] <| gh fun v1 =>
  Pv (nilV a0) fun v2 =>
  Pv (fldV 1 v2) fun v3 =>
  Rv none (ld1R v3) fun v4 =>
  Gd v4 false
    (Pv (binIV .gtr v1 (Value.int .i64 1)) fun v5 =>
    Pv (nilV a0) fun v6 =>
    Pv (fldV 1 v6) fun v7 =>
    Sto 1 v7 v5 <| gh fun _ =>
    Pv (binIV .eql v1 (Value.int .i64 1)) fun v8 =>
    K v8)
    (Pv (nilV a0) fun v9 =>
    Pv (fldV 1 v9) fun v10 =>
    Sto 1 v10 (Value.bool true) <| gh fun _ =>
    Pv (binIV .eql v1 (Value.int .i64 1)) fun v11 =>
    K v11)
theorem sh73_eq (ω : Om) (a0 : Value) (K : Value → M) : vcF Tryz.prog ω Tryz.f73 [a0] K = sh73 ω a0 K := by kernel_rfl
theorem cal73 {ω : Om} {a0 : Value} {K : Value → M} {I : Imm} {L : LH} (h : sh73 ω a0 (fun v => Gh (K v)) I L) : Cal Tryz.prog ω 73 #[a0] K I L :=
  Cal.gh (cal_of_vc mixed Tryz.func73 (by rw [sh73_eq]; exact h))
def sh74 (ω : Om) (a0 : Value) (K : Value → M) : M :=
  Cal Tryz.prog ω 71 #[a0] <| gh fun v1 =>
  Pv (nilV a0) fun v2 =>
  Pv (fldV 0 v2) fun v3 =>
  Rv none (ld1R v3) fun v4 =>
  Pv (lenV v4) fun v5 =>
  Pv (binIV .gtr v1 v5) fun v6 =>
  Br v6
    (Pv (nilV a0) fun v7 =>
    Pv (fldV 1 v7) fun v8 =>
    Sto 1 v8 (Value.bool true) <| gh fun _ =>
    Pv (nilV a0) fun v9 =>
    Pv (fldV 0 v9) fun v10 =>
    Sto 1 v10 (Value.slice none 0 0) <| gh fun _ =>
    K (Value.slice none 0 0))
    (Pv (nilV a0) fun v11 =>
    Pv (fldV 0 v11) fun v12 =>
    Rv none (ld1R v12) fun v13 =>
    Pv (slcV 1 v13 none (some v1) none) fun v14 =>
    App 5 1 1 #[(Value.int .u8 0)] (Value.slice none 0 0) v14 <| gh fun v15 =>
    Pv (nilV a0) fun v16 =>
    Pv (fldV 0 v16) fun v17 =>
    Rv none (ld1R v17) fun v18 =>
    Pv (slcV 1 v18 (some v1) none none) fun v19 =>
    Pv (nilV a0) fun v20 =>
    Pv (fldV 0 v20) fun v21 =>
    Sto 1 v21 v19 <| gh fun _ =>
    K v15)
theorem sh74_eq (ω : Om) (a0 : Value) (K : Value → M) : vcF Tryz.prog ω Tryz.f74 [a0] K = sh74 ω a0 K := by kernel_rfl
theorem cal74 {ω : Om} {a0 : Value} {K : Value → M} {I : Imm} {L : LH} (h : sh74 ω a0 (fun v => Gh (K v)) I L) : Cal Tryz.prog ω 74 #[a0] K I L :=
  Cal.gh (cal_of_vc mixed Tryz.func74 (by rw [sh74_eq]; exact h))
def sh76 (ω : Om) (a0 : Value) (K : Value → M) : M :=
  Pv (nilV a0) fun v1 =>
  Pv (fldV 1 v1) fun v2 =>
  Rv none (ld1R v2) fun v3 =>
  Pv (unV .not v3) fun v4 =>
  Gd v4 true
    (Pv (nilV a0) fun v5 =>
    Pv (fldV 0 v5) fun v6 =>
    Rv none (ld1R v6) fun v7 =>
    Pv (lenV v7) fun v8 =>
    Pv (binIV .eql v8 (Value.int .i64 0)) fun v9 =>
    K v9)
    (K (Value.bool false))
theorem sh76_eq (ω : Om) (a0 : Value) (K : Value → M) : vcF Tryz.prog ω Tryz.f76 [a0] K = sh76 ω a0 K := by kernel_rfl
theorem cal76 {ω : Om} {a0 : Value} {K : Value → M} {I : Imm} {L : LH} (h : sh76 ω a0 (fun v => Gh (K v)) I L) : Cal Tryz.prog ω 76 #[a0] K I L :=
  Cal.gh (cal_of_vc mixed Tryz.func76 (by rw [sh76_eq]; exact h))
def sh77 (ω : Om) (a0 : Value) (a1 : Value) (K : Value → M) : M :=
  Rv none (bsR a0) fun v1 =>
  Rv none (bsR a1) fun v2 =>
  Pv (binSV .eql v1 v2) fun v3 =>
  K v3
theorem sh77_eq (ω : Om) (a0 a1 : Value) (K : Value → M) : vcF Tryz.prog ω Tryz.f77 [a0, a1] K = sh77 ω a0 a1 K := by kernel_rfl
theorem cal77 {ω : Om} {a0 a1 : Value} {K : Value → M} {I : Imm} {L : LH} (h : sh77 ω a0 a1 (fun v => Gh (K v)) I L) : Cal Tryz.prog ω 77 #[a0, a1] K I L :=
  Cal.gh (cal_of_vc mixed Tryz.func77 (by rw [sh77_eq]; exact h))
def sh78_4 (ω : Om) (p1 : Value) (p2 : Value) (K : Value → M) : M :=
  Pv (fldV 0 p1) fun v18 =>
  Rv none (ld1R v18) fun v19 =>
  Pv (binIV .geq v19 (Value.int .i64 0)) fun v20 =>
  Gd v20 true
    (Pv (fldV 0 p1) fun v21 =>
    Rv none (ld1R v21) fun v22 =>
    Pv (binIV .leq v22 (Value.int .i64 999)) fun v23 =>
    Gd v23 true
      (Pv (fldV 10 p1) fun v24 =>
      Rv none (ld1R v24) fun v25 =>
      Pv (binIV .geq v25 (Value.int .i64 0)) fun v26 =>
      Gd v26 true
        (Pv (fldV 10 p1) fun v27 =>
        Rv none (ld1R v27) fun v28 =>
        Pv (binIV .leq v28 (Value.int .i64 3)) fun v29 =>
        Gd v29 true
          (Pv (fldV 9 p1) fun v30 =>
          Rv none (ld1R v30) fun v31 =>
          CalV Tryz.prog ω (Value.func (.func 125) #[] #[]) #[v31] <| gh fun v32 =>
          Gd v32 true
            (Pv (fldV 1 p1) fun v33 =>
            Pv (fldV 4 v33) fun v34 =>
            Rv none (ld1R v34) fun v35 =>
            CalV Tryz.prog ω (Value.func (.func 125) #[] #[]) #[v35] <| gh fun v36 =>
            Gd v36 true
              (Pv (fldV 7 p1) fun v37 =>
              Rv none (ldNR 2 v37) fun v38 =>
              Cal Tryz.prog ω 89 #[v38] <| gh fun v39 =>
              Gd v39 true
                (Pv (fldV 1 p1) fun v40 =>
                Pv (fldV 2 v40) fun v41 =>
                Rv none (ldNR 2 v41) fun v42 =>
                Cal Tryz.prog ω 89 #[v42] <| gh fun v43 =>
                Gd v43 true
                  (Pv (fldV 1 p1) fun v44 =>
                  Pv (fldV 1 v44) fun v45 =>
                  Rv none (ld1R v45) fun v46 =>
                  Pv (lenV v46) fun v47 =>
                  Pv (binIV .leq v47 (Value.int .i64 10000)) fun v48 =>
                  Gd v48 true
                    (Pv (fldV 6 p1) fun v49 =>
                    Rv none (ld1R v49) fun v50 =>
                    Pv (lenV v50) fun v51 =>
                    Pv (binIV .leq v51 (Value.int .i64 90)) fun v52 =>
                    K v52)
                    (K (Value.bool false)))
                  (K (Value.bool false)))
                (K (Value.bool false)))
              (K (Value.bool false)))
            (K (Value.bool false)))
          (K (Value.bool false)))
        (K (Value.bool false)))
      (K (Value.bool false)))
    (K (Value.bool false))
def sh78_1 (ω : Om) (p1 : Value) (p7 : Value) (p8 : Value) (x2 : Value) (x9 : Value) (Kn0 : (Value × Value × Unit) → M) (K : Value → M) : M :=
  Pv (binIV .lss x9 p8) fun v5 =>
  Br v5
    (Pv (ixV 2 p7 x9) fun v6 =>
    Rv none (ldNR 2 v6) fun v7 =>
    New (.cells #[(Value.slice none 0 0), (Value.slice none 0 0)] 113 (0, 0)) <| gh fun x_8 =>
    Sto 2 x_8 v7 <| gh fun _ =>
    Pv (fldV 0 x_8) fun v9 =>
    Rv none (ld1R v9) fun v10 =>
    Cal Tryz.prog ω 91 #[v10] <| gh fun v11 =>
    Pv (unV .not v11) fun v12 =>
    Gd v12 false
      (Pv (fldV 1 x_8) fun v13 =>
      Rv none (ld1R v13) fun v14 =>
      Pv (lenV v14) fun v15 =>
      Pv (binIV .gtr v15 (Value.int .i64 10000)) fun v16 =>
      Br v16
        (K (Value.bool false))
        (Pv (binIV .add x9 (Value.int .i64 1)) fun v17 =>
        Kn0 (x2, v17, ())))
      (K (Value.bool false)))
    (sh78_4 ω p1 x2 K)
def sh78 (ω : Om) (a0 : Value) (K : Value → M) : M :=
  New (.cells (Value.cells a0) 52 (0, 0)) <| gh fun r_1 =>
  Pv (fldV 6 r_1) fun v2 =>
  Rv none (ld1R v2) fun v3 =>
  Pv (lenV v3) fun v4 =>
  LoopM (((Value.bool false), (Value.int .i64 0), ()) : Value × Value × Unit) fun s Kn0 =>
  sh78_1 ω r_1 v3 v4 s.1 s.2.1 Kn0 K
theorem sh78_eq (ω : Om) (a0 : Value) (K : Value → M) : vcF Tryz.prog ω Tryz.f78 [a0] K = sh78 ω a0 K := by kernel_rfl
theorem cal78 {ω : Om} {a0 : Value} {K : Value → M} {I : Imm} {L : LH} (h : sh78 ω a0 (fun v => Gh (K v)) I L) : Cal Tryz.prog ω 78 #[a0] K I L :=
  Cal.gh (cal_of_vc mixed Tryz.func78 (by rw [sh78_eq]; exact h))
def sh82 (ω : Om) (a0 : Value) (K : Value → M) : M :=
  Pv (binNV .eql a0 (Value.slice none 0 0)) fun v1 =>
  Br v1
    (K (Value.slice none 0 0))
    (BldS 5 1 #[(Value.int .u8 0)] 0 [] <| gh fun v2 =>
    App 5 1 1 #[(Value.int .u8 0)] v2 a0 <| gh fun v3 =>
    K v3)
theorem sh82_eq (ω : Om) (a0 : Value) (K : Value → M) : vcF Tryz.prog ω Tryz.f82 [a0] K = sh82 ω a0 K := by kernel_rfl
theorem cal82 {ω : Om} {a0 : Value} {K : Value → M} {I : Imm} {L : LH} (h : sh82 ω a0 (fun v => Gh (K v)) I L) : Cal Tryz.prog ω 82 #[a0] K I L :=
  Cal.gh (cal_of_vc mixed Tryz.func82 (by rw [sh82_eq]; exact h))
def sh85 (ω : Om) (a0 : Value) (a1 : Value) (K : Value → M) : M :=
  ExtE Tryz.prog ω Extern.BytealgCompare.compare #[a0, a1] <| gh fun v1 =>
  K v1
theorem sh85_eq (ω : Om) (a0 a1 : Value) (K : Value → M) : vcF Tryz.prog ω Tryz.f85 [a0, a1] K = sh85 ω a0 a1 K := by kernel_rfl
theorem cal85 {ω : Om} {a0 a1 : Value} {K : Value → M} {I : Imm} {L : LH} (h : sh85 ω a0 a1 (fun v => Gh (K v)) I L) : Cal Tryz.prog ω 85 #[a0, a1] K I L :=
  Cal.gh (cal_of_vc mixed Tryz.func85 (by rw [sh85_eq]; exact h))
def sh88_2 (ω : Om) (p0 : Value) (p4 : Value) (p5 : Value) (p6 : Value) (p64 : Value) (p65 : Value) (x66 : Value) (Kn0 : (Value × Unit) → M) (K : Value → M) : M :=
  Pv (binIV .lss x66 p65) fun v40 =>
  Br v40
    (Pv (ixV 1 p64 x66) fun v41 =>
    Rv none (ld1R v41) fun v42 =>
    Pv (nilV p0) fun v43 =>
    Pv (fldV 0 v43) fun v44 =>
    Rv none (ld1R v44) fun v45 =>
    Rv none (lkR .string (Value.pointer none) false v45 v42) fun v46 =>
    Pv (nilV p0) fun v47 =>
    Pv (fldV 0 v47) fun v48 =>
    Rv none (ld1R v48) fun v49 =>
    DelM .string v49 v42 <| gh fun _ =>
    Pv (nilV p6) fun v50 =>
    Pv (fldV 0 v50) fun v51 =>
    Rv none (ld1R v51) fun v52 =>
    PutM .string v52 v42 v46 <| gh fun _ =>
    Cal Tryz.prog ω 132 #[p0, v42, v46, (Value.bool true)] <| gh fun v53 =>
    Cal Tryz.prog ω 132 #[p6, v42, v46, (Value.bool false)] <| gh fun v54 =>
    Pv (binIV .add x66 (Value.int .i64 1)) fun v55 =>
    Kn0 (v55, ()))
    (K (Value.tuple #[p6, (Value.int .i64 0)]))
def sh88_1 (ω : Om) (p0 : Value) (p1 : Value) (p4 : Value) (p5 : Value) (p6 : Value) (K : Value → M) : M :=
  Draw fun S =>
    Pv (nilV p0) fun v15 =>
    Pv (fldV 1 v15) fun v16 =>
    Rv (some S) (ld1R v16) fun v17 =>
    Rv (some S) (bsR p1) fun v18 =>
    Cal Tryz.prog ω 144 #[v17, v18] <| gh fun v19 =>
    Pv (exV v19 0) fun v20 =>
    Pv (exV v19 1) fun v21 =>
    Pv (nilV p0) fun v22 =>
    Pv (fldV 1 v22) fun v23 =>
    Rv none (ld1R v23) fun v24 =>
    Pv (slcV 1 v24 (some v20) none none) fun v25 =>
    Cal Tryz.prog ω 145 #[v25] <| gh fun v26 =>
    Pv (nilV p6) fun v27 =>
    Pv (fldV 1 v27) fun v28 =>
    Sto 1 v28 v26 <| gh fun _ =>
    Pv (nilV p0) fun v29 =>
    Pv (fldV 1 v29) fun v30 =>
    Rv none (ld1R v30) fun v31 =>
    Pv (slcV 1 v31 none (some v20) none) fun v32 =>
    Cal Tryz.prog ω 145 #[v32] <| gh fun v33 =>
    Pv (nilV p0) fun v34 =>
    Pv (fldV 1 v34) fun v35 =>
    Sto 1 v35 v33 <| gh fun _ =>
    Pv (nilV p6) fun v36 =>
    Pv (fldV 1 v36) fun v37 =>
    Rv none (ld1R v37) fun v38 =>
    Pv (lenV v38) fun v39 =>
    LoopM (((Value.int .i64 0), ()) : Value × Unit) fun s Kn0 =>
    sh88_2 ω p0 p4 p5 p6 v38 v39 s.1 Kn0 K
def sh88 (ω : Om) (a0 : Value) (a1 : Value) (K : Value → M) : M :=
  Cal Tryz.prog ω 143 #[a1] <| gh fun v1 =>
  Pv (unV .not v1) fun v2 =>
  Br v2
    (K (Value.tuple #[(Value.pointer none), (Value.int .i64 1)]))
    (Cal Tryz.prog ω 32 #[] <| gh fun v3 =>
    Pv (nilV a0) fun v4 =>
    Pv (fldV 2 v4) fun v5 =>
    Rv none (ldNR 2 v5) fun v6 =>
    Pv (nilV v3) fun v7 =>
    Pv (fldV 2 v7) fun v8 =>
    Sto 2 v8 v6 <| gh fun _ =>
    Pv (nilV v3) fun v9 =>
    Pv (fldV 2 v9) fun v10 =>
    Rv none (ldNR 2 v10) fun v11 =>
    Pv (bldV #[(Value.int .i64 0), (Value.int .i64 0)] #[(0, 1), (1, 1)] []) fun v12 =>
    Pv (binAV .neq [(TypeDesc.int .i64, 0), (TypeDesc.int .i64, 1)] v11 v12) fun v13 =>
    Br v13
      (Cal Tryz.prog ω 131 #[v3] <| gh fun v14 =>
      sh88_1 ω a0 a1 (Value.pointer none) (Value.int .i64 0) v3 K)
      (sh88_1 ω a0 a1 (Value.pointer none) (Value.int .i64 0) v3 K))
theorem sh88_eq (ω : Om) (a0 a1 : Value) (K : Value → M) : vcF Tryz.prog ω Tryz.f88 [a0, a1] K = sh88 ω a0 a1 K := by kernel_rfl
theorem cal88 {ω : Om} {a0 a1 : Value} {K : Value → M} {I : Imm} {L : LH} (h : sh88 ω a0 a1 (fun v => Gh (K v)) I L) : Cal Tryz.prog ω 88 #[a0, a1] K I L :=
  Cal.gh (cal_of_vc mixed Tryz.func88 (by rw [sh88_eq]; exact h))
def sh89 (ω : Om) (a0 : Value) (K : Value → M) : M :=
  New (.cells (Value.cells a0) 41 (0, 0)) <| gh fun s_1 =>
  Pv (fldV 0 s_1) fun v2 =>
  Rv none (ld1R v2) fun v3 =>
  Cal Tryz.prog ω 146 #[v3] <| gh fun v4 =>
  Gd v4 true
    (Pv (fldV 1 s_1) fun v5 =>
    Rv none (ld1R v5) fun v6 =>
    Pv (binIV .geq v6 (Value.int .i64 0)) fun v7 =>
    Gd v7 true
      (Pv (fldV 1 s_1) fun v8 =>
      Rv none (ld1R v8) fun v9 =>
      Pv (binIV .leq v9 (Value.int .i64 65535)) fun v10 =>
      K v10)
      (K (Value.bool false)))
    (K (Value.bool false))
theorem sh89_eq (ω : Om) (a0 : Value) (K : Value → M) : vcF Tryz.prog ω Tryz.f89 [a0] K = sh89 ω a0 K := by kernel_rfl
theorem cal89 {ω : Om} {a0 : Value} {K : Value → M} {I : Imm} {L : LH} (h : sh89 ω a0 (fun v => Gh (K v)) I L) : Cal Tryz.prog ω 89 #[a0] K I L :=
  Cal.gh (cal_of_vc mixed Tryz.func89 (by rw [sh89_eq]; exact h))
def sh90 (ω : Om) (a0 : Value) (K : Value → M) : M :=
  Pv (binIV .geq a0 (Value.int .i64 1)) fun v1 =>
  Gd v1 true
    (Pv (binIV .leq a0 (Value.int .i64 9007199254740991)) fun v2 =>
    K v2)
    (K (Value.bool false))
theorem sh90_eq (ω : Om) (a0 : Value) (K : Value → M) : vcF Tryz.prog ω Tryz.f90 [a0] K = sh90 ω a0 K := by kernel_rfl
theorem cal90 {ω : Om} {a0 : Value} {K : Value → M} {I : Imm} {L : LH} (h : sh90 ω a0 (fun v => Gh (K v)) I L) : Cal Tryz.prog ω 90 #[a0] K I L :=
  Cal.gh (cal_of_vc mixed Tryz.func90 (by rw [sh90_eq]; exact h))
def sh91 (ω : Om) (a0 : Value) (K : Value → M) : M :=
  Pv (lenV a0) fun v1 =>
  Pv (binIV .geq v1 (Value.int .i64 1)) fun v2 =>
  Gd v2 true
    (Pv (lenV a0) fun v3 =>
    Pv (binIV .leq v3 (Value.int .i64 110)) fun v4 =>
    K v4)
    (K (Value.bool false))
theorem sh91_eq (ω : Om) (a0 : Value) (K : Value → M) : vcF Tryz.prog ω Tryz.f91 [a0] K = sh91 ω a0 K := by kernel_rfl
theorem cal91 {ω : Om} {a0 : Value} {K : Value → M} {I : Imm} {L : LH} (h : sh91 ω a0 (fun v => Gh (K v)) I L) : Cal Tryz.prog ω 91 #[a0] K I L :=
  Cal.gh (cal_of_vc mixed Tryz.func91 (by rw [sh91_eq]; exact h))
def sh92 (ω : Om) (a0 : Value) (K : Value → M) : M :=
  New (.cells (Value.cells a0) 56 (0, 0)) <| gh fun c_1 =>
  Pv (fldV 2 c_1) fun v2 =>
  Rv none (ld1R v2) fun v3 =>
  Pv (fldV 7 c_1) fun v4 =>
  Rv none (ld1R v4) fun v5 =>
  Pv (binIV .add v3 v5) fun v6 =>
  Pv (fldV 14 c_1) fun v7 =>
  Rv none (ld1R v7) fun v8 =>
  Pv (binIV .add v6 v8) fun v9 =>
  Pv (fldV 10 c_1) fun v10 =>
  Rv none (ld1R v10) fun v11 =>
  Pv (lenV v11) fun v12 =>
  Pv (binIV .add v9 v12) fun v13 =>
  Pv (fldV 11 c_1) fun v14 =>
  Rv none (ld1R v14) fun v15 =>
  Pv (lenV v15) fun v16 =>
  Pv (binIV .add v13 v16) fun v17 =>
  Pv (fldV 12 c_1) fun v18 =>
  Pv (fldV 0 v18) fun v19 =>
  Rv none (ld1R v19) fun v20 =>
  Pv (lenV v20) fun v21 =>
  Pv (binIV .add v17 v21) fun v22 =>
  Pv (fldV 12 c_1) fun v23 =>
  Pv (fldV 1 v23) fun v24 =>
  Rv none (ld1R v24) fun v25 =>
  Pv (lenV v25) fun v26 =>
  Pv (binIV .add v22 v26) fun v27 =>
  Pv (binIV .eql v27 (Value.int .i64 0)) fun v28 =>
  Gd v28 true
    (Pv (fldV 2 c_1) fun v29 =>
    Rv none (ld1R v29) fun v30 =>
    Pv (binIV .eql v30 (Value.int .i64 0)) fun v31 =>
    Gd v31 true
      (Pv (fldV 7 c_1) fun v32 =>
      Rv none (ld1R v32) fun v33 =>
      Pv (binIV .eql v33 (Value.int .i64 0)) fun v34 =>
      Gd v34 true
        (Pv (fldV 14 c_1) fun v35 =>
        Rv none (ld1R v35) fun v36 =>
        Pv (binIV .eql v36 (Value.int .i64 0)) fun v37 =>
        Gd v37 true
          (Pv (fldV 5 c_1) fun v38 =>
          Rv none (ldNR 2 v38) fun v39 =>
          Pv (bldV #[(Value.int .i64 0), (Value.int .i64 0)] #[(0, 1), (1, 1)] []) fun v40 =>
          Pv (binAV .eql [(TypeDesc.int .i64, 0), (TypeDesc.int .i64, 1)] v39 v40) fun v41 =>
          Gd v41 true
            (Pv (fldV 8 c_1) fun v42 =>
            Rv none (ld1R v42) fun v43 =>
            Pv (unV .not v43) fun v44 =>
            Gd v44 true
              (Pv (fldV 9 c_1) fun v45 =>
              Rv none (ld1R v45) fun v46 =>
              Pv (unV .not v46) fun v47 =>
              K v47)
              (K (Value.bool false)))
            (K (Value.bool false)))
          (K (Value.bool false)))
        (K (Value.bool false)))
      (K (Value.bool false)))
    (K (Value.bool false))
theorem sh92_eq (ω : Om) (a0 : Value) (K : Value → M) : vcF Tryz.prog ω Tryz.f92 [a0] K = sh92 ω a0 K := by kernel_rfl
theorem cal92 {ω : Om} {a0 : Value} {K : Value → M} {I : Imm} {L : LH} (h : sh92 ω a0 (fun v => Gh (K v)) I L) : Cal Tryz.prog ω 92 #[a0] K I L :=
  Cal.gh (cal_of_vc mixed Tryz.func92 (by rw [sh92_eq]; exact h))
def sh93 (ω : Om) (a0 : Value) (K : Value → M) : M :=
  New (.cells (Value.cells a0) 181 (0, 0)) <| gh fun by_1 =>
  K (Value.func (Fn.func 147) #[] #[by_1])
theorem sh93_eq (ω : Om) (a0 : Value) (K : Value → M) : vcF Tryz.prog ω Tryz.f93 [a0] K = sh93 ω a0 K := by kernel_rfl
theorem cal93 {ω : Om} {a0 : Value} {K : Value → M} {I : Imm} {L : LH} (h : sh93 ω a0 (fun v => Gh (K v)) I L) : Cal Tryz.prog ω 93 #[a0] K I L :=
  Cal.gh (cal_of_vc mixed Tryz.func93 (by rw [sh93_eq]; exact h))
def sh94_1 (ω : Om) (p0 : Value) (p3 : Value) (p4 : Value) (p5 : Value) (p6 : Value) (K : Value → M) : M :=
  Pv (binIV .neq p6 (Value.int .i64 0)) fun v12 =>
  Br v12
    (Pv (fldV 4 p5) fun v13 =>
    Rv none (ld1R v13) fun v14 =>
    Pv (bldV #[(Value.int .i64 0), (Value.bool false), (Value.slice none 0 0), (Value.int .i64 0), (Value.int .i64 0), (Value.int .i64 0), (Value.slice none 0 0), (Value.int .i64 0), (Value.int .i64 0), (Value.int .i64 0), (Value.int .i64 0)] #[(0, 1), (1, 5), (6, 1), (7, 2), (9, 1), (10, 1)] [(0, p6), (4, v14)]) fun v15 =>
    Sto 11 p4 v15 <| gh fun _ =>
    Rv none (ldNR 11 p4) fun v16 =>
    K v16)
    (Pv (fldV 10 p3) fun v17 =>
    Rv none (ld1R v17) fun v18 =>
    Pv (fldV 3 p3) fun v19 =>
    Rv none (ldNR 2 v19) fun v20 =>
    Pv (fldV 1 p3) fun v21 =>
    Rv none (ld1R v21) fun v22 =>
    Cal Tryz.prog ω 150 #[p0, v18, v20, v22] <| gh fun v23 =>
    Rv none (ldNR 5 p5) fun v24 =>
    Pv (bldV #[(Value.int .i64 0), (Value.bool false), (Value.slice none 0 0), (Value.int .i64 0), (Value.int .i64 0), (Value.int .i64 0), (Value.slice none 0 0), (Value.int .i64 0), (Value.int .i64 0), (Value.int .i64 0), (Value.int .i64 0)] #[(0, 1), (1, 5), (6, 1), (7, 2), (9, 1), (10, 1)] [(1, v24)]) fun v25 =>
    Sto 11 p4 v25 <| gh fun _ =>
    Rv none (ldNR 11 p4) fun v26 =>
    K v26)
def sh94 (ω : Om) (a0 : Value) (a1 : Value) (K : Value → M) : M :=
  New (.cells (Value.cells a1) 56 (0, 0)) <| gh fun c_1 =>
  New (.cells #[(Value.int .i64 0), (Value.bool false), (Value.slice none 0 0), (Value.int .i64 0), (Value.int .i64 0), (Value.int .i64 0), (Value.slice none 0 0), (Value.int .i64 0), (Value.int .i64 0), (Value.int .i64 0), (Value.int .i64 0)] 52 (0, 0)) <| gh fun v2 =>
  Draw fun S =>
    Pv (nilV a0) fun v3 =>
    Pv (fldV 0 v3) fun v4 =>
    Rv (some S) (ldNR 2 v4) fun v5 =>
    Pv (fldV 10 c_1) fun v6 =>
    Rv (some S) (ld1R v6) fun v7 =>
    Cal Tryz.prog ω 148 #[v5, v7] <| gh fun v8 =>
    Pv (unV .not v8) fun v9 =>
    Br v9
      (Cal Tryz.prog ω 34 #[(Value.int .i64 141)] <| gh fun v10 =>
      Sto 11 v2 v10 <| gh fun _ =>
      Rv none (ldNR 11 v2) fun v11 =>
      K v11)
      (Draw fun S =>
        Pv (nilV a0) fun v27 =>
        Pv (fldV 2 v27) fun v28 =>
        Rv (some S) (ld1R v28) fun v29 =>
        Pv (fldV 10 c_1) fun v30 =>
        Rv (some S) (ld1R v30) fun v31 =>
        Pv (fldV 3 c_1) fun v32 =>
        Rv (some S) (ldNR 2 v32) fun v33 =>
        Pv (fldV 1 c_1) fun v34 =>
        Rv (some S) (ld1R v34) fun v35 =>
        (fun I L => (Cal Tryz.prog ω 149 #[v29, v31, v33, v35] <| gh fun v36 =>
          Pv (exV v36 0) fun v37 =>
          Pv (exV v36 1) fun v38 =>
          New (.cells #[(Value.bool false), (Value.slice none 0 0), (Value.int .i64 0), (Value.int .i64 0), (Value.int .i64 0)] 49 (0, 0)) <| gh <| Keep S fun g_39 =>
          Sto 5 g_39 v37 <| gh fun _ =>
          sh94_1 ω a0 c_1 v2 g_39 v38 K) I L ∧ (New (.cells #[(Value.bool false), (Value.slice none 0 0), (Value.int .i64 0), (Value.int .i64 0), (Value.int .i64 0)] 49 (0, 0)) <| gh <| Keep S fun g_40 =>
          Cal Tryz.prog ω 149 #[v29, v31, v33, v35] <| gh fun v41 =>
          Pv (exV v41 0) fun v42 =>
          Pv (exV v41 1) fun v43 =>
          Sto 5 g_40 v42 <| gh fun _ =>
          sh94_1 ω a0 c_1 v2 g_40 v43 K) I L))
theorem sh94_eq (ω : Om) (a0 a1 : Value) (K : Value → M) : vcF Tryz.prog ω Tryz.f94 [a0, a1] K = sh94 ω a0 a1 K := by kernel_rfl
theorem cal94 {ω : Om} {a0 a1 : Value} {K : Value → M} {I : Imm} {L : LH} (h : sh94 ω a0 a1 (fun v => Gh (K v)) I L) : Cal Tryz.prog ω 94 #[a0, a1] K I L :=
  Cal.gh (cal_of_vc mixed Tryz.func94 (by rw [sh94_eq]; exact h))
def sh95 (ω : Om) (a0 : Value) (a1 : Value) (K : Value → M) : M :=
  New (.cells (Value.cells a1) 56 (0, 0)) <| gh fun c_1 =>
  New (.cells #[(Value.int .i64 0), (Value.bool false), (Value.slice none 0 0), (Value.int .i64 0), (Value.int .i64 0), (Value.int .i64 0), (Value.slice none 0 0), (Value.int .i64 0), (Value.int .i64 0), (Value.int .i64 0), (Value.int .i64 0)] 52 (0, 0)) <| gh fun v2 =>
  Pv (fldV 12 c_1) fun v3 =>
  Rv none (ldNR 2 v3) fun v4 =>
  Cal Tryz.prog ω 151 #[a0, v4] <| gh fun v5 =>
  Pv (unV .not v5) fun v6 =>
  Br v6
    (Cal Tryz.prog ω 34 #[(Value.int .i64 141)] <| gh fun v7 =>
    Sto 11 v2 v7 <| gh fun _ =>
    Rv none (ldNR 11 v2) fun v8 =>
    K v8)
    (Draw fun S =>
      Pv (nilV a0) fun v9 =>
      Pv (fldV 2 v9) fun v10 =>
      Rv (some S) (ld1R v10) fun v11 =>
      Pv (fldV 12 c_1) fun v12 =>
      Rv (some S) (ldNR 2 v12) fun v13 =>
      Pv (fldV 3 c_1) fun v14 =>
      Rv (some S) (ldNR 2 v14) fun v15 =>
      Pv (fldV 1 c_1) fun v16 =>
      Rv (some S) (ld1R v16) fun v17 =>
      Pv (fldV 14 c_1) fun v18 =>
      Rv (some S) (ld1R v18) fun v19 =>
      Cal Tryz.prog ω 152 #[v11, v13, v15, v17, v19] <| gh fun v20 =>
      Pv (exV v20 0) fun v21 =>
      Pv (exV v20 1) fun v22 =>
      Pv (exV v20 2) fun v23 =>
      Pv (binIV .neq v23 (Value.int .i64 0)) fun v24 =>
      Br v24
        (Pv (bldV #[(Value.int .i64 0), (Value.bool false), (Value.slice none 0 0), (Value.int .i64 0), (Value.int .i64 0), (Value.int .i64 0), (Value.slice none 0 0), (Value.int .i64 0), (Value.int .i64 0), (Value.int .i64 0), (Value.int .i64 0)] #[(0, 1), (1, 5), (6, 1), (7, 2), (9, 1), (10, 1)] [(0, v23), (4, v22)]) fun v25 =>
        Sto 11 v2 v25 <| gh fun _ =>
        Rv none (ldNR 11 v2) fun v26 =>
        K v26)
        (Draw fun S =>
          Pv (nilV a0) fun v27 =>
          Pv (fldV 4 v27) fun v28 =>
          Rv (some S) (ldNR 3 v28) fun v29 =>
          Pv (fldV 3 c_1) fun v30 =>
          Rv (some S) (ldNR 2 v30) fun v31 =>
          Pv (fldV 1 c_1) fun v32 =>
          Rv (some S) (ld1R v32) fun v33 =>
          Cal Tryz.prog ω 153 #[v29, v31, v33] <| gh fun v34 =>
          Pv (nilV a0) fun v35 =>
          Pv (fldV 4 v35) fun v36 =>
          Sto 3 v36 v34 <| gh fun _ =>
          Pv (bldV #[(Value.int .i64 0), (Value.bool false), (Value.slice none 0 0), (Value.int .i64 0), (Value.int .i64 0), (Value.int .i64 0), (Value.slice none 0 0), (Value.int .i64 0), (Value.int .i64 0), (Value.int .i64 0), (Value.int .i64 0)] #[(0, 1), (1, 5), (6, 1), (7, 2), (9, 1), (10, 1)] [(2, v21)]) fun v37 =>
          Sto 11 v2 v37 <| gh fun _ =>
          Rv none (ldNR 11 v2) fun v38 =>
          K v38))
theorem sh95_eq (ω : Om) (a0 a1 : Value) (K : Value → M) : vcF Tryz.prog ω Tryz.f95 [a0, a1] K = sh95 ω a0 a1 K := by kernel_rfl
theorem cal95 {ω : Om} {a0 a1 : Value} {K : Value → M} {I : Imm} {L : LH} (h : sh95 ω a0 a1 (fun v => Gh (K v)) I L) : Cal Tryz.prog ω 95 #[a0, a1] K I L :=
  Cal.gh (cal_of_vc mixed Tryz.func95 (by rw [sh95_eq]; exact h))
def sh96_3 (ω : Om) (p4 : Value) (p13 : Value) (K : Value → M) : M :=
  Rv none (ldNR 11 p13) fun v61 =>
  Sto 11 p4 v61 <| gh fun _ =>
  Rv none (ldNR 11 p4) fun v62 =>
  K v62
def sh96_2 (ω : Om) (p0 : Value) (p3 : Value) (p4 : Value) (p8 : Value) (p11 : Value) (p12 : Value) (K : Value → M) : M :=
  Rv none (ldNR 2 p11) fun v54 =>
  Pv (bldV #[(Value.int .i64 0), (Value.bool false), (Value.slice none 0 0), (Value.int .i64 0), (Value.int .i64 0), (Value.int .i64 0), (Value.slice none 0 0), (Value.int .i64 0), (Value.int .i64 0), (Value.int .i64 0), (Value.int .i64 0)] #[(0, 1), (1, 5), (6, 1), (7, 2), (9, 1), (10, 1)] [(0, p8), (3, v54), (4, p12)]) fun v55 =>
  New (.cells #[(Value.int .i64 0), (Value.bool false), (Value.slice none 0 0), (Value.int .i64 0), (Value.int .i64 0), (Value.int .i64 0), (Value.slice none 0 0), (Value.int .i64 0), (Value.int .i64 0), (Value.int .i64 0), (Value.int .i64 0)] 52 (0, 0)) <| gh fun r_56 =>
  Sto 11 r_56 v55 <| gh fun _ =>
  Pv (binIV .eql p8 (Value.int .i64 0)) fun v57 =>
  Br v57
    (Rv none (ldNR 15 p3) fun v58 =>
    Rv none (ldNR 11 r_56) fun v59 =>
    Cal Tryz.prog ω 157 #[p0, v58, v59] <| gh fun v60 =>
    sh96_3 ω p4 r_56 K)
    (sh96_3 ω p4 r_56 K)
def sh96_1 (ω : Om) (p0 : Value) (p3 : Value) (p4 : Value) (p7 : Value) (p8 : Value) (K : Value → M) : M :=
  Draw fun S =>
    Pv (nilV p0) fun v42 =>
    Pv (fldV 4 v42) fun v43 =>
    Rv (some S) (ldNR 3 v43) fun v44 =>
    Rv (some S) (ldNR 2 p7) fun v45 =>
    Pv (fldV 1 p3) fun v46 =>
    Rv (some S) (ld1R v46) fun v47 =>
    Cal Tryz.prog ω 155 #[v44, v45, v47] <| gh fun v48 =>
    Pv (exV v48 0) fun v49 =>
    Pv (exV v48 1) fun v50 =>
    Sto 2 p7 v49 <| gh fun _ =>
    Pv (binIV .neq v50 (Value.int .i64 0)) fun v51 =>
    Br v51
      (Cal Tryz.prog ω 34 #[v50] <| gh fun v52 =>
      Sto 11 p4 v52 <| gh fun _ =>
      Rv none (ldNR 11 p4) fun v53 =>
      K v53)
      (Draw fun S =>
        Pv (nilV p0) fun v63 =>
        Pv (fldV 2 v63) fun v64 =>
        Rv (some S) (ld1R v64) fun v65 =>
        Pv (fldV 10 p3) fun v66 =>
        Rv (some S) (ld1R v66) fun v67 =>
        Pv (fldV 1 p3) fun v68 =>
        Rv (some S) (ld1R v68) fun v69 =>
        Rv (some S) (ldNR 2 p7) fun v70 =>
        Pv (fldV 9 p3) fun v71 =>
        Rv (some S) (ld1R v71) fun v72 =>
        Pv (fldV 11 p3) fun v73 =>
        Rv (some S) (ld1R v73) fun v74 =>
        Pv (bldV #[(Value.slice none 0 0), (Value.int .i64 0), (Value.int .i64 0), (Value.int .i64 0), (Value.bool false), (Value.slice none 0 0)] #[(0, 1), (1, 1), (2, 2), (4, 1), (5, 1)] [(0, v67), (1, v69), (2, v70), (3, v72), (4, v74)]) fun v75 =>
        (fun I L => (Cal Tryz.prog ω 156 #[v65, v75] <| gh fun v76 =>
          Pv (exV v76 0) fun v77 =>
          Pv (exV v76 1) fun v78 =>
          Pv (exV v76 2) fun v79 =>
          New (.cells #[(Value.int .i64 0), (Value.int .i64 0)] 41 (0, 0)) <| gh <| Keep S fun at_80 =>
          Sto 2 at_80 v77 <| gh fun _ =>
          sh96_2 ω p0 p3 p4 v79 at_80 v78 K) I L ∧ (New (.cells #[(Value.int .i64 0), (Value.int .i64 0)] 41 (0, 0)) <| gh <| Keep S fun at_81 =>
          Cal Tryz.prog ω 156 #[v65, v75] <| gh fun v82 =>
          Pv (exV v82 0) fun v83 =>
          Pv (exV v82 1) fun v84 =>
          Pv (exV v82 2) fun v85 =>
          Sto 2 at_81 v83 <| gh fun _ =>
          sh96_2 ω p0 p3 p4 v85 at_81 v84 K) I L))
def sh96 (ω : Om) (a0 : Value) (a1 : Value) (K : Value → M) : M :=
  New (.cells (Value.cells a1) 56 (0, 0)) <| gh fun c_1 =>
  New (.cells #[(Value.int .i64 0), (Value.bool false), (Value.slice none 0 0), (Value.int .i64 0), (Value.int .i64 0), (Value.int .i64 0), (Value.slice none 0 0), (Value.int .i64 0), (Value.int .i64 0), (Value.int .i64 0), (Value.int .i64 0)] 52 (0, 0)) <| gh fun v2 =>
  Draw fun S =>
    Pv (nilV a0) fun v3 =>
    Pv (fldV 0 v3) fun v4 =>
    Rv (some S) (ldNR 2 v4) fun v5 =>
    Pv (fldV 10 c_1) fun v6 =>
    Rv (some S) (ld1R v6) fun v7 =>
    Cal Tryz.prog ω 148 #[v5, v7] <| gh fun v8 =>
    Pv (unV .not v8) fun v9 =>
    Br v9
      (Cal Tryz.prog ω 34 #[(Value.int .i64 141)] <| gh fun v10 =>
      Sto 11 v2 v10 <| gh fun _ =>
      Rv none (ldNR 11 v2) fun v11 =>
      K v11)
      (Rv none (ldNR 15 c_1) fun v12 =>
      Cal Tryz.prog ω 154 #[a0, v12] <| gh fun v13 =>
      Pv (exV v13 0) fun v14 =>
      Pv (exV v13 1) fun v15 =>
      New (.cells #[(Value.int .i64 0), (Value.bool false), (Value.slice none 0 0), (Value.int .i64 0), (Value.int .i64 0), (Value.int .i64 0), (Value.slice none 0 0), (Value.int .i64 0), (Value.int .i64 0), (Value.int .i64 0), (Value.int .i64 0)] 52 (0, 0)) <| gh fun old_16 =>
      Sto 11 old_16 v14 <| gh fun _ =>
      Br v15
        (Rv none (ldNR 11 old_16) fun v17 =>
        Sto 11 v2 v17 <| gh fun _ =>
        Rv none (ldNR 11 v2) fun v18 =>
        K v18)
        (Pv (fldV 3 c_1) fun v19 =>
        Rv none (ldNR 2 v19) fun v20 =>
        New (.cells #[(Value.int .i64 0), (Value.int .i64 0)] 41 (0, 0)) <| gh fun w_21 =>
        Sto 2 w_21 v20 <| gh fun _ =>
        Draw fun S =>
          Pv (nilV a0) fun v22 =>
          Pv (fldV 3 v22) fun v23 =>
          Rv (some S) (ld1R v23) fun v24 =>
          Pv (fldV 10 c_1) fun v25 =>
          Rv (some S) (ld1R v25) fun v26 =>
          Rv (some S) (bsR v26) fun v27 =>
          Rv (some S) (lkR .string (Value.agg #[(Value.int .i64 0), (Value.int .i64 0), (Value.int .i64 0)]) true v24 v27) fun v28 =>
          Pv (exV v28 0) fun v29 =>
          Pv (exV v28 1) fun v30 =>
          New (.cells #[(Value.int .i64 0), (Value.int .i64 0), (Value.int .i64 0)] 159 (0, 0)) <| gh <| Keep S fun k_31 =>
          Sto 3 k_31 v29 <| gh fun _ =>
          Br v30
            (Rv none (ldNR 3 k_31) fun v32 =>
            Rv none (ldNR 2 w_21) fun v33 =>
            Pv (fldV 1 c_1) fun v34 =>
            Rv none (ld1R v34) fun v35 =>
            Cal Tryz.prog ω 155 #[v32, v33, v35] <| gh fun v36 =>
            Pv (exV v36 0) fun v37 =>
            Pv (exV v36 1) fun v38 =>
            Sto 2 w_21 v37 <| gh fun _ =>
            Pv (binIV .neq v38 (Value.int .i64 0)) fun v39 =>
            Br v39
              (Cal Tryz.prog ω 34 #[v38] <| gh fun v40 =>
              Sto 11 v2 v40 <| gh fun _ =>
              Rv none (ldNR 11 v2) fun v41 =>
              K v41)
              (sh96_1 ω a0 c_1 v2 w_21 v38 K))
            (sh96_1 ω a0 c_1 v2 w_21 (Value.int .i64 0) K)))
theorem sh96_eq (ω : Om) (a0 a1 : Value) (K : Value → M) : vcF Tryz.prog ω Tryz.f96 [a0, a1] K = sh96 ω a0 a1 K := by kernel_rfl
theorem cal96 {ω : Om} {a0 a1 : Value} {K : Value → M} {I : Imm} {L : LH} (h : sh96 ω a0 a1 (fun v => Gh (K v)) I L) : Cal Tryz.prog ω 96 #[a0, a1] K I L :=
  Cal.gh (cal_of_vc mixed Tryz.func96 (by rw [sh96_eq]; exact h))
def sh97 (ω : Om) (a0 : Value) (a1 : Value) (K : Value → M) : M :=
  New (.cells (Value.cells a1) 56 (0, 0)) <| gh fun c_1 =>
  New (.cells #[(Value.int .i64 0), (Value.bool false), (Value.slice none 0 0), (Value.int .i64 0), (Value.int .i64 0), (Value.int .i64 0), (Value.slice none 0 0), (Value.int .i64 0), (Value.int .i64 0), (Value.int .i64 0), (Value.int .i64 0)] 52 (0, 0)) <| gh fun v2 =>
  Pv (fldV 12 c_1) fun v3 =>
  Rv none (ldNR 2 v3) fun v4 =>
  Cal Tryz.prog ω 151 #[a0, v4] <| gh fun v5 =>
  Pv (unV .not v5) fun v6 =>
  Br v6
    (Cal Tryz.prog ω 34 #[(Value.int .i64 141)] <| gh fun v7 =>
    Sto 11 v2 v7 <| gh fun _ =>
    Rv none (ldNR 11 v2) fun v8 =>
    K v8)
    (Rv none (ldNR 15 c_1) fun v9 =>
    Cal Tryz.prog ω 154 #[a0, v9] <| gh fun v10 =>
    Pv (exV v10 0) fun v11 =>
    Pv (exV v10 1) fun v12 =>
    New (.cells #[(Value.int .i64 0), (Value.bool false), (Value.slice none 0 0), (Value.int .i64 0), (Value.int .i64 0), (Value.int .i64 0), (Value.slice none 0 0), (Value.int .i64 0), (Value.int .i64 0), (Value.int .i64 0), (Value.int .i64 0)] 52 (0, 0)) <| gh fun old_13 =>
    Sto 11 old_13 v11 <| gh fun _ =>
    Br v12
      (Rv none (ldNR 11 old_13) fun v14 =>
      Sto 11 v2 v14 <| gh fun _ =>
      Rv none (ldNR 11 v2) fun v15 =>
      K v15)
      (Pv (fldV 5 c_1) fun v16 =>
      Rv none (ldNR 2 v16) fun v17 =>
      Pv (fldV 3 c_1) fun v18 =>
      Rv none (ldNR 2 v18) fun v19 =>
      Cal Tryz.prog ω 158 #[v17, v19] <| gh fun v20 =>
      Pv (binIV .lss v20 (Value.int .i64 0)) fun v21 =>
      Br v21
        (Cal Tryz.prog ω 34 #[(Value.int .i64 1)] <| gh fun v22 =>
        Sto 11 v2 v22 <| gh fun _ =>
        Rv none (ldNR 11 v2) fun v23 =>
        K v23)
        (Draw fun S =>
          Pv (nilV a0) fun v24 =>
          Pv (fldV 2 v24) fun v25 =>
          Rv (some S) (ld1R v25) fun v26 =>
          Pv (fldV 12 c_1) fun v27 =>
          Rv (some S) (ldNR 2 v27) fun v28 =>
          Pv (fldV 3 c_1) fun v29 =>
          Rv (some S) (ldNR 2 v29) fun v30 =>
          Pv (fldV 5 c_1) fun v31 =>
          Rv (some S) (ldNR 2 v31) fun v32 =>
          Pv (fldV 1 c_1) fun v33 =>
          Rv (some S) (ld1R v33) fun v34 =>
          Cal Tryz.prog ω 159 #[v26, v28, v30, v32, v34] <| gh fun v35 =>
          Pv (exV v35 0) fun v36 =>
          Pv (exV v35 1) fun v37 =>
          Pv (binIV .neq v37 (Value.int .i64 0)) fun v38 =>
          Br v38
            (Cal Tryz.prog ω 34 #[v37] <| gh fun v39 =>
            Sto 11 v2 v39 <| gh fun _ =>
            Rv none (ldNR 11 v2) fun v40 =>
            K v40)
            (Br v36
              (Cal Tryz.prog ω 34 #[(Value.int .i64 144)] <| gh fun v41 =>
              Sto 11 v2 v41 <| gh fun _ =>
              Rv none (ldNR 11 v2) fun v42 =>
              K v42)
              (Draw fun S =>
                Pv (nilV a0) fun v43 =>
                Pv (fldV 4 v43) fun v44 =>
                Rv (some S) (ldNR 3 v44) fun v45 =>
                Pv (fldV 5 c_1) fun v46 =>
                Rv (some S) (ldNR 2 v46) fun v47 =>
                Pv (fldV 1 c_1) fun v48 =>
                Rv (some S) (ld1R v48) fun v49 =>
                Cal Tryz.prog ω 153 #[v45, v47, v49] <| gh fun v50 =>
                Pv (nilV a0) fun v51 =>
                Pv (fldV 4 v51) fun v52 =>
                Sto 3 v52 v50 <| gh fun _ =>
                Rv none (ldNR 15 c_1) fun v53 =>
                Pv (bldV #[(Value.int .i64 0), (Value.bool false), (Value.slice none 0 0), (Value.int .i64 0), (Value.int .i64 0), (Value.int .i64 0), (Value.slice none 0 0), (Value.int .i64 0), (Value.int .i64 0), (Value.int .i64 0), (Value.int .i64 0)] #[(0, 1), (1, 5), (6, 1), (7, 2), (9, 1), (10, 1)] []) fun v54 =>
                Cal Tryz.prog ω 157 #[a0, v53, v54] <| gh fun v55 =>
                Pv (bldV #[(Value.int .i64 0), (Value.bool false), (Value.slice none 0 0), (Value.int .i64 0), (Value.int .i64 0), (Value.int .i64 0), (Value.slice none 0 0), (Value.int .i64 0), (Value.int .i64 0), (Value.int .i64 0), (Value.int .i64 0)] #[(0, 1), (1, 5), (6, 1), (7, 2), (9, 1), (10, 1)] []) fun v56 =>
                Sto 11 v2 v56 <| gh fun _ =>
                Rv none (ldNR 11 v2) fun v57 =>
                K v57)))))
theorem sh97_eq (ω : Om) (a0 a1 : Value) (K : Value → M) : vcF Tryz.prog ω Tryz.f97 [a0, a1] K = sh97 ω a0 a1 K := by kernel_rfl
theorem cal97 {ω : Om} {a0 a1 : Value} {K : Value → M} {I : Imm} {L : LH} (h : sh97 ω a0 a1 (fun v => Gh (K v)) I L) : Cal Tryz.prog ω 97 #[a0, a1] K I L :=
  Cal.gh (cal_of_vc mixed Tryz.func97 (by rw [sh97_eq]; exact h))
def sh98 (ω : Om) (a0 : Value) (a1 : Value) (K : Value → M) : M :=
  New (.cells (Value.cells a1) 56 (0, 0)) <| gh fun c_1 =>
  New (.cells #[(Value.int .i64 0), (Value.bool false), (Value.slice none 0 0), (Value.int .i64 0), (Value.int .i64 0), (Value.int .i64 0), (Value.slice none 0 0), (Value.int .i64 0), (Value.int .i64 0), (Value.int .i64 0), (Value.int .i64 0)] 52 (0, 0)) <| gh fun v2 =>
  Rv none (ldNR 15 c_1) fun v3 =>
  Cal Tryz.prog ω 154 #[a0, v3] <| gh fun v4 =>
  Pv (exV v4 0) fun v5 =>
  Pv (exV v4 1) fun v6 =>
  New (.cells #[(Value.int .i64 0), (Value.bool false), (Value.slice none 0 0), (Value.int .i64 0), (Value.int .i64 0), (Value.int .i64 0), (Value.slice none 0 0), (Value.int .i64 0), (Value.int .i64 0), (Value.int .i64 0), (Value.int .i64 0)] 52 (0, 0)) <| gh fun old_7 =>
  Sto 11 old_7 v5 <| gh fun _ =>
  Br v6
    (Rv none (ldNR 11 old_7) fun v8 =>
    Sto 11 v2 v8 <| gh fun _ =>
    Rv none (ldNR 11 v2) fun v9 =>
    K v9)
    (Pv (fldV 1 c_1) fun v10 =>
    Rv none (ld1R v10) fun v11 =>
    Pv (fldV 3 c_1) fun v12 =>
    Rv none (ldNR 2 v12) fun v13 =>
    Cal Tryz.prog ω 160 #[a0, v11, (Value.int .i64 1), v13] <| gh fun v14 =>
    Pv (unV .not v14) fun v15 =>
    Br v15
      (Cal Tryz.prog ω 34 #[(Value.int .i64 143)] <| gh fun v16 =>
      Sto 11 v2 v16 <| gh fun _ =>
      Rv none (ldNR 11 v2) fun v17 =>
      K v17)
      (Draw fun S =>
        Pv (nilV a0) fun v18 =>
        Pv (fldV 7 v18) fun v19 =>
        Rv (some S) (ld1R v19) fun v20 =>
        Pv (fldV 1 c_1) fun v21 =>
        Rv (some S) (ld1R v21) fun v22 =>
        Rv (some S) (lkR (.int .i64) (Value.agg #[(Value.int .i64 0), (Value.int .i64 0), (Value.int .i64 0)]) false v20 v22) fun v23 =>
        Pv (fldvV false 0 1 v23) fun v24 =>
        Pv (bldV #[(Value.int .i64 0), (Value.bool false), (Value.slice none 0 0), (Value.int .i64 0), (Value.int .i64 0), (Value.int .i64 0), (Value.slice none 0 0), (Value.int .i64 0), (Value.int .i64 0), (Value.int .i64 0), (Value.int .i64 0)] #[(0, 1), (1, 5), (6, 1), (7, 2), (9, 1), (10, 1)] [(5, v24)]) fun v25 =>
        New (.cells #[(Value.int .i64 0), (Value.bool false), (Value.slice none 0 0), (Value.int .i64 0), (Value.int .i64 0), (Value.int .i64 0), (Value.slice none 0 0), (Value.int .i64 0), (Value.int .i64 0), (Value.int .i64 0), (Value.int .i64 0)] 52 (0, 0)) <| gh <| Keep S fun r_26 =>
        Sto 11 r_26 v25 <| gh fun _ =>
        Pv (fldV 10 r_26) fun v27 =>
        Rv none (ld1R v27) fun v28 =>
        Pv (binIV .neq v28 (Value.int .i64 1)) fun v29 =>
        Br v29
          (Pv (fldV 0 r_26) fun v30 =>
          Sto 1 v30 (Value.int .i64 142) <| gh fun _ =>
          Rv none (ldNR 11 r_26) fun v31 =>
          Sto 11 v2 v31 <| gh fun _ =>
          Rv none (ldNR 11 v2) fun v32 =>
          K v32)
          (Rv none (ldNR 15 c_1) fun v33 =>
          Pv (bldV #[(Value.int .i64 0), (Value.bool false), (Value.slice none 0 0), (Value.int .i64 0), (Value.int .i64 0), (Value.int .i64 0), (Value.slice none 0 0), (Value.int .i64 0), (Value.int .i64 0), (Value.int .i64 0), (Value.int .i64 0)] #[(0, 1), (1, 5), (6, 1), (7, 2), (9, 1), (10, 1)] []) fun v34 =>
          Cal Tryz.prog ω 157 #[a0, v33, v34] <| gh fun v35 =>
          Rv none (ldNR 11 r_26) fun v36 =>
          Sto 11 v2 v36 <| gh fun _ =>
          Rv none (ldNR 11 v2) fun v37 =>
          K v37)))
theorem sh98_eq (ω : Om) (a0 a1 : Value) (K : Value → M) : vcF Tryz.prog ω Tryz.f98 [a0, a1] K = sh98 ω a0 a1 K := by kernel_rfl
theorem cal98 {ω : Om} {a0 a1 : Value} {K : Value → M} {I : Imm} {L : LH} (h : sh98 ω a0 a1 (fun v => Gh (K v)) I L) : Cal Tryz.prog ω 98 #[a0, a1] K I L :=
  Cal.gh (cal_of_vc mixed Tryz.func98 (by rw [sh98_eq]; exact h))
def sh99_3 (ω : Om) (p4 : Value) (p7 : Value) (K : Value → M) : M :=
  Rv none (ldNR 11 p7) fun v46 =>
  Sto 11 p4 v46 <| gh fun _ =>
  Rv none (ldNR 11 p4) fun v47 =>
  K v47
def sh99_2 (ω : Om) (p0 : Value) (p3 : Value) (p4 : Value) (p5 : Value) (K : Value → M) : M :=
  Draw fun S =>
    Pv (nilV p0) fun v29 =>
    Pv (fldV 7 v29) fun v30 =>
    Rv (some S) (ld1R v30) fun v31 =>
    Pv (fldV 1 p3) fun v32 =>
    Rv (some S) (ld1R v32) fun v33 =>
    Rv (some S) (lkR (.int .i64) (Value.agg #[(Value.int .i64 0), (Value.int .i64 0), (Value.int .i64 0)]) false v31 v33) fun v34 =>
    New (.cells #[(Value.int .i64 0), (Value.int .i64 0), (Value.int .i64 0)] 194 (0, 0)) <| gh <| Keep S fun x_35 =>
    Sto 3 x_35 v34 <| gh fun _ =>
    Pv (fldV 0 x_35) fun v36 =>
    Rv none (ld1R v36) fun v37 =>
    Pv (fldV 1 x_35) fun v38 =>
    Rv none (ldNR 2 v38) fun v39 =>
    Pv (bldV #[(Value.int .i64 0), (Value.bool false), (Value.slice none 0 0), (Value.int .i64 0), (Value.int .i64 0), (Value.int .i64 0), (Value.slice none 0 0), (Value.int .i64 0), (Value.int .i64 0), (Value.int .i64 0), (Value.int .i64 0)] #[(0, 1), (1, 5), (6, 1), (7, 2), (9, 1), (10, 1)] [(5, v37), (3, v39)]) fun v40 =>
    New (.cells #[(Value.int .i64 0), (Value.bool false), (Value.slice none 0 0), (Value.int .i64 0), (Value.int .i64 0), (Value.int .i64 0), (Value.slice none 0 0), (Value.int .i64 0), (Value.int .i64 0), (Value.int .i64 0), (Value.int .i64 0)] 52 (0, 0)) <| gh fun r_41 =>
    Sto 11 r_41 v40 <| gh fun _ =>
    Pv (fldV 0 x_35) fun v42 =>
    Rv none (ld1R v42) fun v43 =>
    Pv (binIV .neq v43 p5) fun v44 =>
    Br v44
      (Pv (fldV 0 r_41) fun v45 =>
      Sto 1 v45 (Value.int .i64 142) <| gh fun _ =>
      sh99_3 ω p4 r_41 K)
      (sh99_3 ω p4 r_41 K)
def sh99_1 (ω : Om) (p0 : Value) (p3 : Value) (p4 : Value) (p5 : Value) (K : Value → M) : M :=
  Draw fun S =>
    Pv (nilV p0) fun v13 =>
    Pv (fldV 7 v13) fun v14 =>
    Rv (some S) (ld1R v14) fun v15 =>
    Pv (fldV 1 p3) fun v16 =>
    Rv (some S) (ld1R v16) fun v17 =>
    Rv (some S) (lkR (.int .i64) (Value.agg #[(Value.int .i64 0), (Value.int .i64 0), (Value.int .i64 0)]) false v15 v17) fun v18 =>
    Pv (fldvV false 0 1 v18) fun v19 =>
    Pv (binIV .eql v19 (Value.int .i64 1)) fun v20 =>
    Br v20
      (Draw fun S =>
        Pv (nilV p0) fun v21 =>
        Pv (fldV 7 v21) fun v22 =>
        Rv (some S) (ld1R v22) fun v23 =>
        Pv (fldV 1 p3) fun v24 =>
        Rv (some S) (ld1R v24) fun v25 =>
        Pv (fldV 3 p3) fun v26 =>
        Rv (some S) (ldNR 2 v26) fun v27 =>
        Pv (bldV #[(Value.int .i64 0), (Value.int .i64 0), (Value.int .i64 0)] #[(0, 1), (1, 2)] [(0, p5), (1, v27)]) fun v28 =>
        PutM (.int .i64) v23 v25 v28 <| gh fun _ =>
        sh99_2 ω p0 p3 p4 p5 K)
      (sh99_2 ω p0 p3 p4 p5 K)
def sh99 (ω : Om) (a0 : Value) (a1 : Value) (K : Value → M) : M :=
  New (.cells (Value.cells a1) 56 (0, 0)) <| gh fun c_1 =>
  New (.cells #[(Value.int .i64 0), (Value.bool false), (Value.slice none 0 0), (Value.int .i64 0), (Value.int .i64 0), (Value.int .i64 0), (Value.slice none 0 0), (Value.int .i64 0), (Value.int .i64 0), (Value.int .i64 0), (Value.int .i64 0)] 52 (0, 0)) <| gh fun v2 =>
  Pv (fldV 1 c_1) fun v3 =>
  Rv none (ld1R v3) fun v4 =>
  Pv (fldV 3 c_1) fun v5 =>
  Rv none (ldNR 2 v5) fun v6 =>
  Cal Tryz.prog ω 160 #[a0, v4, (Value.int .i64 3), v6] <| gh fun v7 =>
  Pv (unV .not v7) fun v8 =>
  Br v8
    (Cal Tryz.prog ω 34 #[(Value.int .i64 143)] <| gh fun v9 =>
    Sto 11 v2 v9 <| gh fun _ =>
    Rv none (ldNR 11 v2) fun v10 =>
    K v10)
    (Pv (fldV 8 c_1) fun v11 =>
    Rv none (ld1R v11) fun v12 =>
    Br v12
      (sh99_1 ω a0 c_1 v2 (Value.int .i64 2) K)
      (sh99_1 ω a0 c_1 v2 (Value.int .i64 3) K))
theorem sh99_eq (ω : Om) (a0 a1 : Value) (K : Value → M) : vcF Tryz.prog ω Tryz.f99 [a0, a1] K = sh99 ω a0 a1 K := by kernel_rfl
theorem cal99 {ω : Om} {a0 a1 : Value} {K : Value → M} {I : Imm} {L : LH} (h : sh99 ω a0 a1 (fun v => Gh (K v)) I L) : Cal Tryz.prog ω 99 #[a0, a1] K I L :=
  Cal.gh (cal_of_vc mixed Tryz.func99 (by rw [sh99_eq]; exact h))
def sh100_2 (ω : Om) (p4 : Value) (p5 : Value) (K : Value → M) : M :=
  Pv (fldV 0 p5) fun v40 =>
  Rv none (ld1R v40) fun v41 =>
  Pv (fldV 1 p5) fun v42 =>
  Rv none (ldNR 2 v42) fun v43 =>
  Pv (bldV #[(Value.int .i64 0), (Value.bool false), (Value.slice none 0 0), (Value.int .i64 0), (Value.int .i64 0), (Value.int .i64 0), (Value.slice none 0 0), (Value.int .i64 0), (Value.int .i64 0), (Value.int .i64 0), (Value.int .i64 0)] #[(0, 1), (1, 5), (6, 1), (7, 2), (9, 1), (10, 1)] [(5, v41), (3, v43)]) fun v44 =>
  Sto 11 p4 v44 <| gh fun _ =>
  Rv none (ldNR 11 p4) fun v45 =>
  K v45
def sh100_1 (ω : Om) (p0 : Value) (p3 : Value) (p4 : Value) (p5 : Value) (K : Value → M) : M :=
  Pv (fldV 0 p5) fun v33 =>
  Sto 1 v33 (Value.int .i64 3) <| gh fun _ =>
  Draw fun S =>
    Pv (nilV p0) fun v34 =>
    Pv (fldV 7 v34) fun v35 =>
    Rv (some S) (ld1R v35) fun v36 =>
    Pv (fldV 1 p3) fun v37 =>
    Rv (some S) (ld1R v37) fun v38 =>
    Rv (some S) (ldNR 3 p5) fun v39 =>
    PutM (.int .i64) v36 v38 v39 <| gh fun _ =>
    sh100_2 ω p4 p5 K
def sh100 (ω : Om) (a0 : Value) (a1 : Value) (K : Value → M) : M :=
  New (.cells (Value.cells a1) 56 (0, 0)) <| gh fun c_1 =>
  New (.cells #[(Value.int .i64 0), (Value.bool false), (Value.slice none 0 0), (Value.int .i64 0), (Value.int .i64 0), (Value.int .i64 0), (Value.slice none 0 0), (Value.int .i64 0), (Value.int .i64 0), (Value.int .i64 0), (Value.int .i64 0)] 52 (0, 0)) <| gh fun v2 =>
  Pv (fldV 1 c_1) fun v3 =>
  Rv none (ld1R v3) fun v4 =>
  Pv (fldV 3 c_1) fun v5 =>
  Rv none (ldNR 2 v5) fun v6 =>
  Cal Tryz.prog ω 160 #[a0, v4, (Value.int .i64 3), v6] <| gh fun v7 =>
  Pv (unV .not v7) fun v8 =>
  Br v8
    (Cal Tryz.prog ω 34 #[(Value.int .i64 143)] <| gh fun v9 =>
    Sto 11 v2 v9 <| gh fun _ =>
    Rv none (ldNR 11 v2) fun v10 =>
    K v10)
    (Draw fun S =>
      Pv (nilV a0) fun v11 =>
      Pv (fldV 7 v11) fun v12 =>
      Rv (some S) (ld1R v12) fun v13 =>
      Pv (fldV 1 c_1) fun v14 =>
      Rv (some S) (ld1R v14) fun v15 =>
      Rv (some S) (lkR (.int .i64) (Value.agg #[(Value.int .i64 0), (Value.int .i64 0), (Value.int .i64 0)]) false v13 v15) fun v16 =>
      New (.cells #[(Value.int .i64 0), (Value.int .i64 0), (Value.int .i64 0)] 194 (0, 0)) <| gh <| Keep S fun x_17 =>
      Sto 3 x_17 v16 <| gh fun _ =>
      Pv (fldV 3 c_1) fun v18 =>
      Rv none (ldNR 2 v18) fun v19 =>
      Pv (fldV 1 x_17) fun v20 =>
      Rv none (ldNR 2 v20) fun v21 =>
      Cal Tryz.prog ω 158 #[v19, v21] <| gh fun v22 =>
      Pv (fldV 0 x_17) fun v23 =>
      Rv none (ld1R v23) fun v24 =>
      Pv (binIV .eql v24 (Value.int .i64 1)) fun v25 =>
      Gd v25 true
        (Pv (binIV .lss v22 (Value.int .i64 0)) fun v26 =>
        Gd v26 false
          (Pv (binIV .eql v22 (Value.int .i64 0)) fun v27 =>
          Gd v27 true
            (Pv (fldV 7 c_1) fun v28 =>
            Rv none (ld1R v28) fun v29 =>
            Pv (fldV 1 c_1) fun v30 =>
            Rv none (ld1R v30) fun v31 =>
            Pv (binIV .lss v29 v31) fun v32 =>
            Br v32
              (sh100_1 ω a0 c_1 v2 x_17 K)
              (sh100_2 ω v2 x_17 K))
            (sh100_2 ω v2 x_17 K))
          (sh100_1 ω a0 c_1 v2 x_17 K))
        (sh100_2 ω v2 x_17 K))
theorem sh100_eq (ω : Om) (a0 a1 : Value) (K : Value → M) : vcF Tryz.prog ω Tryz.f100 [a0, a1] K = sh100 ω a0 a1 K := by kernel_rfl
theorem cal100 {ω : Om} {a0 a1 : Value} {K : Value → M} {I : Imm} {L : LH} (h : sh100 ω a0 a1 (fun v => Gh (K v)) I L) : Cal Tryz.prog ω 100 #[a0, a1] K I L :=
  Cal.gh (cal_of_vc mixed Tryz.func100 (by rw [sh100_eq]; exact h))
def sh101 (ω : Om) (a0 : Value) (a1 : Value) (K : Value → M) : M :=
  New (.cells (Value.cells a1) 56 (0, 0)) <| gh fun c_1 =>
  New (.cells #[(Value.int .i64 0), (Value.bool false), (Value.slice none 0 0), (Value.int .i64 0), (Value.int .i64 0), (Value.int .i64 0), (Value.slice none 0 0), (Value.int .i64 0), (Value.int .i64 0), (Value.int .i64 0), (Value.int .i64 0)] 52 (0, 0)) <| gh fun v2 =>
  Draw fun S =>
    Pv (nilV a0) fun v3 =>
    Pv (fldV 7 v3) fun v4 =>
    Rv (some S) (ld1R v4) fun v5 =>
    Pv (fldV 1 c_1) fun v6 =>
    Rv (some S) (ld1R v6) fun v7 =>
    Rv (some S) (lkR (.int .i64) (Value.agg #[(Value.int .i64 0), (Value.int .i64 0), (Value.int .i64 0)]) false v5 v7) fun v8 =>
    Pv (fldvV false 0 1 v8) fun v9 =>
    Pv (binIV .eql v9 (Value.int .i64 1)) fun v10 =>
    Br v10
      (Cal Tryz.prog ω 34 #[(Value.int .i64 142)] <| gh fun v11 =>
      Sto 11 v2 v11 <| gh fun _ =>
      Rv none (ldNR 11 v2) fun v12 =>
      K v12)
      (Draw fun S =>
        Pv (nilV a0) fun v13 =>
        Pv (fldV 7 v13) fun v14 =>
        Rv (some S) (ld1R v14) fun v15 =>
        Pv (fldV 1 c_1) fun v16 =>
        Rv (some S) (ld1R v16) fun v17 =>
        DelM (.int .i64) v15 v17 <| gh fun _ =>
        Pv (bldV #[(Value.int .i64 0), (Value.bool false), (Value.slice none 0 0), (Value.int .i64 0), (Value.int .i64 0), (Value.int .i64 0), (Value.slice none 0 0), (Value.int .i64 0), (Value.int .i64 0), (Value.int .i64 0), (Value.int .i64 0)] #[(0, 1), (1, 5), (6, 1), (7, 2), (9, 1), (10, 1)] []) fun v18 =>
        Sto 11 v2 v18 <| gh fun _ =>
        Rv none (ldNR 11 v2) fun v19 =>
        K v19)
theorem sh101_eq (ω : Om) (a0 a1 : Value) (K : Value → M) : vcF Tryz.prog ω Tryz.f101 [a0, a1] K = sh101 ω a0 a1 K := by kernel_rfl
theorem cal101 {ω : Om} {a0 a1 : Value} {K : Value → M} {I : Imm} {L : LH} (h : sh101 ω a0 a1 (fun v => Gh (K v)) I L) : Cal Tryz.prog ω 101 #[a0, a1] K I L :=
  Cal.gh (cal_of_vc mixed Tryz.func101 (by rw [sh101_eq]; exact h))
def sh102_3 (ω : Om) (p21 : Value) (Kn0 : (Value × Unit) → M) (K : Value → M) : M :=
  Pv (binIV .add p21 (Value.int .i64 1)) fun v29 =>
  Kn0 (v29, ())
def sh102_4 (ω : Om) (p4 : Value) (p8 : Value) (K : Value → M) : M :=
  Cal Tryz.prog ω 34 #[p8] <| gh fun v45 =>
  Sto 11 p4 v45 <| gh fun _ =>
  Rv none (ldNR 11 p4) fun v46 =>
  K v46
def sh102_6 (ω : Om) (p4 : Value) (K : Value → M) : M :=
  Pv (bldV #[(Value.int .i64 0), (Value.bool false), (Value.slice none 0 0), (Value.int .i64 0), (Value.int .i64 0), (Value.int .i64 0), (Value.slice none 0 0), (Value.int .i64 0), (Value.int .i64 0), (Value.int .i64 0), (Value.int .i64 0)] #[(0, 1), (1, 5), (6, 1), (7, 2), (9, 1), (10, 1)] []) fun v47 =>
  Sto 11 p4 v47 <| gh fun _ =>
  Rv none (ldNR 11 p4) fun v48 =>
  K v48
def sh102_1 (ω : Om) (p0 : Value) (p3 : Value) (p4 : Value) (p19 : Value) (p20 : Value) (x21 : Value) (Kn0 : (Value × Unit) → M) (K : Value → M) : M :=
  Pv (binIV .lss x21 p20) fun v14 =>
  Br v14
    (Pv (ixV 6 p19 x21) fun v15 =>
    Rv none (ldNR 6 v15) fun v16 =>
    New (.cells #[(Value.slice none 0 0), (Value.int .i64 0), (Value.int .i64 0), (Value.int .i64 0), (Value.bool false), (Value.slice none 0 0)] 190 (0, 0)) <| gh fun x_17 =>
    Sto 6 x_17 v16 <| gh fun _ =>
    Pv (fldV 1 x_17) fun v18 =>
    Rv none (ld1R v18) fun v19 =>
    Pv (fldV 1 p3) fun v20 =>
    Rv none (ld1R v20) fun v21 =>
    Pv (binIV .neq v19 v21) fun v22 =>
    Gd v22 false
      (Pv (fldV 12 p3) fun v23 =>
      Rv none (ldNR 2 v23) fun v24 =>
      Pv (fldV 0 x_17) fun v25 =>
      Rv none (ld1R v25) fun v26 =>
      Cal Tryz.prog ω 148 #[v24, v26] <| gh fun v27 =>
      Pv (unV .not v27) fun v28 =>
      Br v28
        (sh102_3 ω x21 Kn0 K)
        (Draw fun S =>
          Pv (nilV p0) fun v30 =>
          Pv (fldV 2 v30) fun v31 =>
          Rv (some S) (ld1R v31) fun v32 =>
          Pv (fldV 0 x_17) fun v33 =>
          Rv (some S) (ld1R v33) fun v34 =>
          Pv (fldV 1 p3) fun v35 =>
          Rv (some S) (ld1R v35) fun v36 =>
          Pv (fldV 8 p3) fun v37 =>
          Rv (some S) (ld1R v37) fun v38 =>
          Pv (fldV 3 p3) fun v39 =>
          Rv (some S) (ldNR 2 v39) fun v40 =>
          Cal Tryz.prog ω 161 #[v32, v34, v36, v38, v40] <| gh fun v41 =>
          Pv (exV v41 0) fun v42 =>
          Pv (exV v41 1) fun v43 =>
          Pv (binIV .neq v43 (Value.int .i64 0)) fun v44 =>
          Br v44
            (sh102_4 ω p4 v43 K)
            (sh102_3 ω x21 Kn0 K)))
      (sh102_3 ω x21 Kn0 K))
    (sh102_6 ω p4 K)
def sh102 (ω : Om) (a0 : Value) (a1 : Value) (K : Value → M) : M :=
  New (.cells (Value.cells a1) 56 (0, 0)) <| gh fun c_1 =>
  New (.cells #[(Value.int .i64 0), (Value.bool false), (Value.slice none 0 0), (Value.int .i64 0), (Value.int .i64 0), (Value.int .i64 0), (Value.slice none 0 0), (Value.int .i64 0), (Value.int .i64 0), (Value.int .i64 0), (Value.int .i64 0)] 52 (0, 0)) <| gh fun v2 =>
  Pv (fldV 12 c_1) fun v3 =>
  Rv none (ldNR 2 v3) fun v4 =>
  Cal Tryz.prog ω 151 #[a0, v4] <| gh fun v5 =>
  Pv (unV .not v5) fun v6 =>
  Br v6
    (Cal Tryz.prog ω 34 #[(Value.int .i64 141)] <| gh fun v7 =>
    Sto 11 v2 v7 <| gh fun _ =>
    Rv none (ldNR 11 v2) fun v8 =>
    K v8)
    (Pv (nilV a0) fun v9 =>
    Pv (fldV 2 v9) fun v10 =>
    Rv none (ld1R v10) fun v11 =>
    Cal Tryz.prog ω 120 #[v11] <| gh fun v12 =>
    Pv (lenV v12) fun v13 =>
    LoopM (((Value.int .i64 0), ()) : Value × Unit) fun s Kn0 =>
    sh102_1 ω a0 c_1 v2 v12 v13 s.1 Kn0 K)
theorem sh102_eq (ω : Om) (a0 a1 : Value) (K : Value → M) : vcF Tryz.prog ω Tryz.f102 [a0, a1] K = sh102 ω a0 a1 K := by kernel_rfl
theorem cal102 {ω : Om} {a0 a1 : Value} {K : Value → M} {I : Imm} {L : LH} (h : sh102 ω a0 a1 (fun v => Gh (K v)) I L) : Cal Tryz.prog ω 102 #[a0, a1] K I L :=
  Cal.gh (cal_of_vc mixed Tryz.func102 (by rw [sh102_eq]; exact h))
def sh103 (ω : Om) (a0 : Value) (a1 : Value) (K : Value → M) : M :=
  New (.cells (Value.cells a1) 56 (0, 0)) <| gh fun c_1 =>
  New (.cells #[(Value.int .i64 0), (Value.bool false), (Value.slice none 0 0), (Value.int .i64 0), (Value.int .i64 0), (Value.int .i64 0), (Value.slice none 0 0), (Value.int .i64 0), (Value.int .i64 0), (Value.int .i64 0), (Value.int .i64 0)] 52 (0, 0)) <| gh fun v2 =>
  Draw fun S =>
    Pv (nilV a0) fun v3 =>
    Pv (fldV 2 v3) fun v4 =>
    Rv (some S) (ld1R v4) fun v5 =>
    Pv (fldV 3 c_1) fun v6 =>
    Rv (some S) (ldNR 2 v6) fun v7 =>
    Cal Tryz.prog ω 162 #[v5, v7] <| gh fun v8 =>
    Pv (exV v8 0) fun v9 =>
    Pv (exV v8 1) fun v10 =>
    Cal Tryz.prog ω 34 #[v10] <| gh fun v11 =>
    Sto 11 v2 v11 <| gh fun _ =>
    Rv none (ldNR 11 v2) fun v12 =>
    K v12
theorem sh103_eq (ω : Om) (a0 a1 : Value) (K : Value → M) : vcF Tryz.prog ω Tryz.f103 [a0, a1] K = sh103 ω a0 a1 K := by kernel_rfl
theorem cal103 {ω : Om} {a0 a1 : Value} {K : Value → M} {I : Imm} {L : LH} (h : sh103 ω a0 a1 (fun v => Gh (K v)) I L) : Cal Tryz.prog ω 103 #[a0, a1] K I L :=
  Cal.gh (cal_of_vc mixed Tryz.func103 (by rw [sh103_eq]; exact h))
def sh104_1 (ω : Om) (p4 : Value) (p5 : Value) (K : Value → M) : M :=
  Cal Tryz.prog ω 34 #[(Value.int .i64 141)] <| gh fun v17 =>
  Sto 11 p4 v17 <| gh fun _ =>
  Rv none (ldNR 11 p4) fun v18 =>
  K (Value.tuple #[v18, (Value.pointer none)])
def sh104_2 (ω : Om) (p4 : Value) (p5 : Value) (p7 : Value) (K : Value → M) : M :=
  Cal Tryz.prog ω 34 #[p7] <| gh fun v28 =>
  Sto 11 p4 v28 <| gh fun _ =>
  Rv none (ldNR 11 p4) fun v29 =>
  K (Value.tuple #[v29, (Value.pointer none)])
def sh104_4 (ω : Om) (p8 : Value) (p9 : Value) (p10 : Value) (Kn0 : (Unit) → M) (K : Value → M) : M :=
  Draw fun S =>
    Pv (nilV p8) fun v68 =>
    Pv (fldV 3 v68) fun v69 =>
    Rv (some S) (ld1R v69) fun v70 =>
    Rv (some S) (ldNR 3 p10) fun v71 =>
    PutM .string v70 p9 v71 <| gh fun _ =>
    Kn0 (())
def sh104_7 (ω : Om) (p0 : Value) (p3 : Value) (p4 : Value) (p5 : Value) (p8 : Value) (K : Value → M) : M :=
  Pv (nilV p0) fun v72 =>
  Pv (fldV 3 v72) fun v73 =>
  Rv none (ld1R v73) fun v74 =>
  Cal Tryz.prog ω 164 #[v74, (Value.func (Fn.func 165) #[] #[p3])] <| gh fun v75 =>
  Pv (fldV 10 p3) fun v76 =>
  Rv none (ld1R v76) fun v77 =>
  Cal Tryz.prog ω 82 #[v77] <| gh fun v78 =>
  Pv (nilV p0) fun v79 =>
  Pv (fldV 0 v79) fun v80 =>
  Pv (fldV 1 v80) fun v81 =>
  Sto 1 v81 v78 <| gh fun _ =>
  Pv (bldV #[(Value.int .i64 0), (Value.bool false), (Value.slice none 0 0), (Value.int .i64 0), (Value.int .i64 0), (Value.int .i64 0), (Value.slice none 0 0), (Value.int .i64 0), (Value.int .i64 0), (Value.int .i64 0), (Value.int .i64 0)] #[(0, 1), (1, 5), (6, 1), (7, 2), (9, 1), (10, 1)] []) fun v82 =>
  Sto 11 p4 v82 <| gh fun _ =>
  Rv none (ldNR 11 p4) fun v83 =>
  K (Value.tuple #[v83, p8])
def sh104_3 (ω : Om) (p0 : Value) (p3 : Value) (p4 : Value) (p5 : Value) (p8 : Value) (p80 : Value) (Kn0 : (Unit) → M) (K : Value → M) : M :=
  NxtM p80 <| gh fun v58 =>
  Pv (exV v58 0) fun v59 =>
  Br v59
    (Rv none (entR p80) fun v60 =>
    Pv (exV v60 0) fun v61 =>
    Pv (exV v60 1) fun v62 =>
    New (.cells #[(Value.int .i64 0), (Value.int .i64 0), (Value.int .i64 0)] 159 (0, 0)) <| gh fun k_63 =>
    Sto 3 k_63 v62 <| gh fun _ =>
    Pv (fldV 10 p3) fun v64 =>
    Rv none (ld1R v64) fun v65 =>
    Rv none (bsR v65) fun v66 =>
    Pv (binSV .geq v61 v66) fun v67 =>
    Br v67
      (sh104_4 ω p8 v61 k_63 Kn0 K)
      (Kn0 (())))
    (sh104_7 ω p0 p3 p4 p5 p8 K)
def sh104 (ω : Om) (a0 : Value) (a1 : Value) (K : Value → M) : M :=
  New (.cells (Value.cells a1) 56 (0, 0)) <| gh fun c_1 =>
  New (.cells #[(Value.int .i64 0), (Value.bool false), (Value.slice none 0 0), (Value.int .i64 0), (Value.int .i64 0), (Value.int .i64 0), (Value.slice none 0 0), (Value.int .i64 0), (Value.int .i64 0), (Value.int .i64 0), (Value.int .i64 0)] 52 (0, 0)) <| gh fun v2 =>
  Draw fun S =>
    Pv (nilV a0) fun v3 =>
    Pv (fldV 0 v3) fun v4 =>
    Rv (some S) (ldNR 2 v4) fun v5 =>
    Pv (fldV 10 c_1) fun v6 =>
    Rv (some S) (ld1R v6) fun v7 =>
    Cal Tryz.prog ω 148 #[v5, v7] <| gh <| Keep S fun v8 =>
    Pv (unV .not v8) fun v9 =>
    Gd v9 false
      (Pv (fldV 10 c_1) fun v10 =>
      Rv (some S) (ld1R v10) fun v11 =>
      Pv (nilV a0) fun v12 =>
      Pv (fldV 0 v12) fun v13 =>
      Pv (fldV 0 v13) fun v14 =>
      Rv (some S) (ld1R v14) fun v15 =>
      Cal Tryz.prog ω 77 #[v11, v15] <| gh fun v16 =>
      Br v16
        (sh104_1 ω v2 (Value.pointer none) K)
        (Draw fun S =>
          Pv (nilV a0) fun v19 =>
          Pv (fldV 2 v19) fun v20 =>
          Rv (some S) (ld1R v20) fun v21 =>
          Pv (fldV 10 c_1) fun v22 =>
          Rv (some S) (ld1R v22) fun v23 =>
          Cal Tryz.prog ω 88 #[v21, v23] <| gh fun v24 =>
          Pv (exV v24 0) fun v25 =>
          Pv (exV v24 1) fun v26 =>
          Pv (binIV .neq v26 (Value.int .i64 0)) fun v27 =>
          Br v27
            (sh104_2 ω v2 (Value.pointer none) v26 K)
            (Draw fun S =>
              Pv (fldV 10 c_1) fun v30 =>
              Rv (some S) (ld1R v30) fun v31 =>
              Pv (nilV a0) fun v32 =>
              Pv (fldV 0 v32) fun v33 =>
              Pv (fldV 1 v33) fun v34 =>
              Rv (some S) (ld1R v34) fun v35 =>
              Pv (bldV #[(Value.slice none 0 0), (Value.slice none 0 0)] #[(0, 1), (1, 1)] [(0, v31), (1, v35)]) fun v36 =>
              Cal Tryz.prog ω 31 #[v36, v25] <| gh fun v37 =>
              Draw fun S =>
                Pv (nilV a0) fun v38 =>
                Pv (fldV 4 v38) fun v39 =>
                Rv (some S) (ldNR 3 v39) fun v40 =>
                Pv (nilV a0) fun v41 =>
                Pv (fldV 9 v41) fun v42 =>
                Rv (some S) (ld1R v42) fun v43 =>
                Pv (nilV a0) fun v44 =>
                Pv (fldV 8 v44) fun v45 =>
                Rv (some S) (ld1R v45) fun v46 =>
                Cal Tryz.prog ω 163 #[v46] <| gh <| Keep S fun v47 =>
                Pv (nilV v37) fun v48 =>
                Pv (fldV 4 v48) fun v49 =>
                Sto 3 v49 v40 <| gh fun _ =>
                Pv (nilV v37) fun v50 =>
                Pv (fldV 9 v50) fun v51 =>
                Sto 1 v51 v43 <| gh fun _ =>
                Pv (nilV v37) fun v52 =>
                Pv (fldV 8 v52) fun v53 =>
                Sto 1 v53 v47 <| gh fun _ =>
                Pv (nilV a0) fun v54 =>
                Pv (fldV 3 v54) fun v55 =>
                Rv none (ld1R v55) fun v56 =>
                RngMp v56 <| gh fun v57 =>
                LoopM ((()) : Unit) fun s Kn0 =>
                sh104_3 ω a0 c_1 v2 (Value.pointer none) v37 v57 Kn0 K)))
      (sh104_1 ω v2 (Value.pointer none) K)
theorem sh104_eq (ω : Om) (a0 a1 : Value) (K : Value → M) : vcF Tryz.prog ω Tryz.f104 [a0, a1] K = sh104 ω a0 a1 K := by kernel_rfl
theorem cal104 {ω : Om} {a0 a1 : Value} {K : Value → M} {I : Imm} {L : LH} (h : sh104 ω a0 a1 (fun v => Gh (K v)) I L) : Cal Tryz.prog ω 104 #[a0, a1] K I L :=
  Cal.gh (cal_of_vc mixed Tryz.func104 (by rw [sh104_eq]; exact h))
def sh120_3 (ω : Om) (p2 : Value) (p3 : Value) (Q0 : Nat) (K : Value → M) : M :=
  Rv none (ld1R p3) fun v28 =>
  Tak Q0 <|
  K v28
def sh120 (ω : Om) (a0 : Value) (K : Value → M) : M :=
  New (.cells #[(Value.slice none 0 0)] 118 (0, 0)) <| gh fun out_1 =>
  Pv (bldV #[(Value.slice none 0 0), (Value.slice none 0 0)] #[(0, 1), (1, 1)] []) fun v2 =>
  Cal Tryz.prog ω 177 #[a0, v2] <| gh fun v3 =>
  RngF2 Tryz.prog ω v3 (fun r1_0 r1_1 Bg Nk Xk Rk =>
      Bg (Pv (nilV r1_1) fun v4 =>
      Pv (fldV 1 v4) fun v5 =>
      Rv none (ldNR 5 v5) fun v6 =>
      New (.cells #[(Value.int .i64 0), (Value.int .i64 0), (Value.bool false), (Value.string (ByteArray.mk #[])), (Value.int .i64 0)] 255 (0, 0)) <| gh fun x_7 =>
      Sto 5 x_7 v6 <| gh fun _ =>
      Pv (fldV 4 x_7) fun v8 =>
      Rv none (ld1R v8) fun v9 =>
      Pv (binIV .neq v9 (Value.int .i64 0)) fun v10 =>
      Br v10
        (Rv none (ld1R out_1) fun v11 =>
        CvSB 5 r1_0 <| gh fun v12 =>
        Pv (fldV 4 x_7) fun v13 =>
        Rv none (ld1R v13) fun v14 =>
        Pv (fldV 0 x_7) fun v15 =>
        Pv (fldV 0 v15) fun v16 =>
        Rv none (ldNR 2 v16) fun v17 =>
        Pv (fldV 0 x_7) fun v18 =>
        Pv (fldV 2 v18) fun v19 =>
        Rv none (ld1R v19) fun v20 =>
        Pv (fldV 0 x_7) fun v21 =>
        Pv (fldV 3 v21) fun v22 =>
        Rv none (ld1R v22) fun v23 =>
        CvSB 5 v23 <| gh fun v24 =>
        Pv (bldV #[(Value.slice none 0 0), (Value.int .i64 0), (Value.int .i64 0), (Value.int .i64 0), (Value.bool false), (Value.slice none 0 0)] #[(0, 1), (1, 1), (2, 2), (4, 1), (5, 1)] [(0, v12), (1, v14), (2, v17), (3, v20), (4, v24)]) fun v25 =>
        BldS 190 6 #[(Value.slice none 0 0), (Value.int .i64 0), (Value.int .i64 0), (Value.int .i64 0), (Value.bool false), (Value.slice none 0 0)] 1 [(0, v25)] <| gh fun v26 =>
        App 190 6 80 #[(Value.slice none 0 0), (Value.int .i64 0), (Value.int .i64 0), (Value.int .i64 0), (Value.bool false), (Value.slice none 0 0)] v11 v26 <| gh fun v27 =>
        Sto 1 out_1 v27 <| gh fun _ =>
        Nk)
        (Nk)))
    (fun D1 => sh120_3 ω (Value.slice none 0 0) out_1 D1 K)
    (fun _ => [])
    (fun D1 => Tak D1 <|
      K (Value.slice none 0 0))
theorem sh120_eq (ω : Om) (a0 : Value) (K : Value → M) : vcF Tryz.prog ω Tryz.f120 [a0] K = sh120 ω a0 K := by kernel_rfl
theorem cal120 {ω : Om} {a0 : Value} {K : Value → M} {I : Imm} {L : LH} (h : sh120 ω a0 (fun v => Gh (K v)) I L) : Cal Tryz.prog ω 120 #[a0] K I L :=
  Cal.gh (cal_of_vc mixed Tryz.func120 (by rw [sh120_eq]; exact h))
def sh121_3 (ω : Om) (p0 : Value) (p2 : Value) (p3 : Value) (K : Value → M) : M :=
  Pv (cvIV .u8 p0) fun v7 =>
  BldS 5 1 #[(Value.int .u8 0)] 1 [(0, v7)] <| gh fun v8 =>
  App 5 1 1 #[(Value.int .u8 0)] p3 v8 <| gh fun v9 =>
  Cal Tryz.prog ω 178 #[v9] <| gh fun v10 =>
  K v10
def sh121_1 (ω : Om) (p2 : Value) (x0 : Value) (x3 : Value) (Kn0 : (Value × Value × Unit) → M) (K : Value → M) : M :=
  Pv (binIV .gtr x0 (Value.int .u64 127)) fun v1 =>
  Br v1
    (Pv (cvIV .u8 x0) fun v2 =>
    Pv (binIV .or v2 (Value.int .u8 128)) fun v3 =>
    BldS 5 1 #[(Value.int .u8 0)] 1 [(0, v3)] <| gh fun v4 =>
    App 5 1 1 #[(Value.int .u8 0)] x3 v4 <| gh fun v5 =>
    Pv (binIV .shr x0 (Value.int .u64 7)) fun v6 =>
    Kn0 (v6, v5, ()))
    (sh121_3 ω x0 p2 x3 K)
def sh121 (ω : Om) (a0 : Value) (K : Value → M) : M :=
  LoopM ((a0, (Value.slice none 0 0), ()) : Value × Value × Unit) fun s Kn0 =>
  sh121_1 ω (Value.slice none 0 0) s.1 s.2.1 Kn0 K
theorem sh121_eq (ω : Om) (a0 : Value) (K : Value → M) : vcF Tryz.prog ω Tryz.f121 [a0] K = sh121 ω a0 K := by kernel_rfl
theorem cal121 {ω : Om} {a0 : Value} {K : Value → M} {I : Imm} {L : LH} (h : sh121 ω a0 (fun v => Gh (K v)) I L) : Cal Tryz.prog ω 121 #[a0] K I L :=
  Cal.gh (cal_of_vc mixed Tryz.func121 (by rw [sh121_eq]; exact h))
def sh124_2 (ω : Om) (p2 : Value) (p3 : Value) (p4 : Value) (p5 : Value) (p6 : Value) (p30 : Value) (K : Value → M) : M :=
  Br p30
    (K (Value.tuple #[(Value.int .u64 0), (Value.int .i64 0), (Value.int .i64 11)]))
    (Pv (binIV .add p6 (Value.int .i64 1)) fun v15 =>
    K (Value.tuple #[p5, v15, (Value.int .i64 0)]))
def sh124_3 (ω : Om) (p2 : Value) (p3 : Value) (p4 : Value) (p5 : Value) (p6 : Value) (p7 : Value) (p30 : Value) (K : Value → M) : M :=
  Pv (binIV .eql p6 (Value.int .i64 9)) fun v16 =>
  Gd v16 true
    (Pv (binIV .gtr p7 (Value.int .u8 1)) fun v17 =>
    sh124_2 ω p2 p3 p4 p5 p6 v17 K)
    (sh124_2 ω p2 p3 p4 p5 p6 (Value.bool false) K)
def sh124_1 (ω : Om) (p0 : Value) (x2 : Value) (x3 : Value) (x4 : Value) (x5 : Value) (x8 : Value) (Kn0 : (Value × Value × Value × Value × Value × Unit) → M) (K : Value → M) : M :=
  Pv (binIV .lss x8 (Value.int .i64 10)) fun v1 =>
  Br v1
    (Pv (lenV p0) fun v2 =>
    Pv (binIV .eql x8 v2) fun v3 =>
    Br v3
      (K (Value.tuple #[(Value.int .u64 0), (Value.int .i64 0), (Value.int .i64 10)]))
      (Pv (ixV 1 p0 x8) fun v4 =>
      Rv none (ld1R v4) fun v5 =>
      Pv (binIV .and v5 (Value.int .u8 127)) fun v6 =>
      Pv (cvIV .u64 v6) fun v7 =>
      Pv (binIV .mul (Value.int .i64 7) x8) fun v8 =>
      Pv (binIV .shl v7 v8) fun v9 =>
      Pv (binIV .or x5 v9) fun v10 =>
      Pv (binIV .gtr v5 (Value.int .u8 127)) fun v11 =>
      Br v11
        (Pv (binIV .add x8 (Value.int .i64 1)) fun v12 =>
        Kn0 (x2, x3, x4, v10, v12, ()))
        (Pv (binIV .gtr x8 (Value.int .i64 0)) fun v13 =>
        Gd v13 true
          (Pv (binIV .eql v5 (Value.int .u8 0)) fun v14 =>
          Br v14
            (sh124_2 ω x2 x3 x4 v10 x8 v14 K)
            (sh124_3 ω x2 x3 x4 v10 x8 v5 v14 K))
          (sh124_3 ω x2 x3 x4 v10 x8 v5 (Value.bool false) K))))
    (K (Value.tuple #[(Value.int .u64 0), (Value.int .i64 0), (Value.int .i64 11)]))
def sh124 (ω : Om) (a0 : Value) (K : Value → M) : M :=
  LoopM (((Value.int .u64 0), (Value.int .i64 0), (Value.int .i64 0), (Value.int .u64 0), (Value.int .i64 0), ()) : Value × Value × Value × Value × Value × Unit) fun s Kn0 =>
  sh124_1 ω a0 s.1 s.2.1 s.2.2.1 s.2.2.2.1 s.2.2.2.2.1 Kn0 K
theorem sh124_eq (ω : Om) (a0 : Value) (K : Value → M) : vcF Tryz.prog ω Tryz.f124 [a0] K = sh124 ω a0 K := by kernel_rfl
theorem cal124 {ω : Om} {a0 : Value} {K : Value → M} {I : Imm} {L : LH} (h : sh124 ω a0 (fun v => Gh (K v)) I L) : Cal Tryz.prog ω 124 #[a0] K I L :=
  Cal.gh (cal_of_vc mixed Tryz.func124 (by rw [sh124_eq]; exact h))
def sh125 (ω : Om) (a0 : Value) (K : Value → M) : M :=
  Pv (binIV .geq a0 (Value.int .i64 0)) fun v1 =>
  Gd v1 true
    (Pv (binIV .leq a0 (Value.int .i64 9007199254740991)) fun v2 =>
    K v2)
    (K (Value.bool false))
theorem sh125_eq (ω : Om) (a0 : Value) (K : Value → M) : vcF Tryz.prog ω Tryz.f125 [a0] K = sh125 ω a0 K := by kernel_rfl
theorem cal125 {ω : Om} {a0 : Value} {K : Value → M} {I : Imm} {L : LH} (h : sh125 ω a0 (fun v => Gh (K v)) I L) : Cal Tryz.prog ω 125 #[a0] K I L :=
  Cal.gh (cal_of_vc mixed Tryz.func125 (by rw [sh125_eq]; exact h))
def sh126 (ω : Om) (a0 : Value) (K : Value → M) : M :=
  Cal Tryz.prog ω 179 #[a0] <| gh fun v1 =>
  Cal Tryz.prog ω 180 #[v1] <| gh fun v2 =>
  K v1
theorem sh126_eq (ω : Om) (a0 : Value) (K : Value → M) : vcF Tryz.prog ω Tryz.f126 [a0] K = sh126 ω a0 K := by kernel_rfl
theorem cal126 {ω : Om} {a0 : Value} {K : Value → M} {I : Imm} {L : LH} (h : sh126 ω a0 (fun v => Gh (K v)) I L) : Cal Tryz.prog ω 126 #[a0] K I L :=
  Cal.gh (cal_of_vc mixed Tryz.func126 (by rw [sh126_eq]; exact h))
def sh127 (ω : Om) (a0 : Value) (K : Value → M) : M :=
  New (.cells (Value.cells a0) 157 (0, 0)) <| gh fun m_1 =>
  K (Value.func (Fn.func 181) #[] #[m_1])
theorem sh127_eq (ω : Om) (a0 : Value) (K : Value → M) : vcF Tryz.prog ω Tryz.f127 [a0] K = sh127 ω a0 K := by kernel_rfl
theorem cal127 {ω : Om} {a0 : Value} {K : Value → M} {I : Imm} {L : LH} (h : sh127 ω a0 (fun v => Gh (K v)) I L) : Cal Tryz.prog ω 127 #[a0] K I L :=
  Cal.gh (cal_of_vc mixed Tryz.func127 (by rw [sh127_eq]; exact h))
def sh130 (ω : Om) (a0 : Value) (K : Value → M) : M :=
  New (.cells (Value.cells a0) 161 (0, 0)) <| gh fun m_1 =>
  K (Value.func (Fn.func 185) #[] #[m_1])
theorem sh130_eq (ω : Om) (a0 : Value) (K : Value → M) : vcF Tryz.prog ω Tryz.f130 [a0] K = sh130 ω a0 K := by kernel_rfl
theorem cal130 {ω : Om} {a0 : Value} {K : Value → M} {I : Imm} {L : LH} (h : sh130 ω a0 (fun v => Gh (K v)) I L) : Cal Tryz.prog ω 130 #[a0] K I L :=
  Cal.gh (cal_of_vc mixed Tryz.func130 (by rw [sh130_eq]; exact h))
def sh131 (ω : Om) (a0 : Value) (K : Value → M) : M :=
  Pv (nilV a0) fun v1 =>
  Pv (fldV 2 v1) fun v2 =>
  Rv none (ldNR 2 v2) fun v3 =>
  Cal Tryz.prog ω 186 #[v3] <| gh fun v4 =>
  Pv (exV v4 0) fun v5 =>
  Pv (exV v4 1) fun v6 =>
  BldS 5 1 #[(Value.int .u8 0)] 1 [(0, (Value.int .u8 102))] <| gh fun v7 =>
  Cal Tryz.prog ω 187 #[a0, v7, v5, (Value.bool false)] <| gh fun v8 =>
  K (Value.tuple #[])
theorem sh131_eq (ω : Om) (a0 : Value) (K : Value → M) : vcF Tryz.prog ω Tryz.f131 [a0] K = sh131 ω a0 K := by kernel_rfl
theorem cal131 {ω : Om} {a0 : Value} {K : Value → M} {I : Imm} {L : LH} (h : sh131 ω a0 (fun v => Gh (K v)) I L) : Cal Tryz.prog ω 131 #[a0] K I L :=
  Cal.gh (cal_of_vc mixed Tryz.func131 (by rw [sh131_eq]; exact h))
def sh132_3 (ω : Om) (p15 : Value) (Kn0 : (Value × Unit) → M) (K : Value → M) : M :=
  Pv (binIV .add p15 (Value.int .i64 1)) fun v11 =>
  Kn0 (v11, ())
def sh132_5 (ω : Om) (p0 : Value) (p1 : Value) (p2 : Value) (p3 : Value) (K : Value → M) : M :=
  Pv (nilV p2) fun v14 =>
  Pv (fldV 1 v14) fun v15 =>
  Pv (fldV 4 v15) fun v16 =>
  Rv none (ld1R v16) fun v17 =>
  Pv (binIV .eql v17 (Value.int .i64 0)) fun v18 =>
  Br v18
    (K (Value.tuple #[]))
    (Br p3
      (BldS 5 1 #[(Value.int .u8 0)] 1 [(0, (Value.int .u8 105))] <| gh fun v19 =>
      App 5 1 1 #[(Value.int .u8 0)] v19 p1 <| gh fun v20 =>
      Cal Tryz.prog ω 187 #[p0, v20, (Value.slice none 0 0), (Value.bool true)] <| gh fun v21 =>
      K (Value.tuple #[]))
      (Cal Tryz.prog ω 190 #[p0, p1] <| gh fun v22 =>
      K (Value.tuple #[])))
def sh132_1 (ω : Om) (p0 : Value) (p1 : Value) (p2 : Value) (p3 : Value) (p13 : Value) (p14 : Value) (x15 : Value) (Kn0 : (Value × Unit) → M) (K : Value → M) : M :=
  Pv (binIV .lss x15 p14) fun v5 =>
  Br v5
    (Pv (ixV 4 p13 x15) fun v6 =>
    Rv none (ldNR 4 v6) fun v7 =>
    New (.cells #[(Value.int .i64 0), (Value.int .i64 0), (Value.bool false), (Value.string (ByteArray.mk #[]))] 253 (0, 0)) <| gh fun v_8 =>
    Sto 4 v_8 v7 <| gh fun _ =>
    Br p3
      (Rv none (ldNR 4 v_8) fun v9 =>
      Cal Tryz.prog ω 188 #[p0, p1, v9] <| gh fun v10 =>
      sh132_3 ω x15 Kn0 K)
      (Rv none (ldNR 4 v_8) fun v12 =>
      Cal Tryz.prog ω 189 #[p0, p1, v12] <| gh fun v13 =>
      sh132_3 ω x15 Kn0 K))
    (sh132_5 ω p0 p1 p2 p3 K)
def sh132 (ω : Om) (a0 : Value) (a1 : Value) (a2 : Value) (a3 : Value) (K : Value → M) : M :=
  Pv (nilV a2) fun v1 =>
  Pv (fldV 0 v1) fun v2 =>
  Rv none (ld1R v2) fun v3 =>
  Pv (lenV v3) fun v4 =>
  LoopM (((Value.int .i64 0), ()) : Value × Unit) fun s Kn0 =>
  sh132_1 ω a0 a1 a2 a3 v3 v4 s.1 Kn0 K
theorem sh132_eq (ω : Om) (a0 a1 a2 a3 : Value) (K : Value → M) : vcF Tryz.prog ω Tryz.f132 [a0, a1, a2, a3] K = sh132 ω a0 a1 a2 a3 K := by kernel_rfl
theorem cal132 {ω : Om} {a0 a1 a2 a3 : Value} {K : Value → M} {I : Imm} {L : LH} (h : sh132 ω a0 a1 a2 a3 (fun v => Gh (K v)) I L) : Cal Tryz.prog ω 132 #[a0, a1, a2, a3] K I L :=
  Cal.gh (cal_of_vc mixed Tryz.func132 (by rw [sh132_eq]; exact h))
def sh143 (ω : Om) (a0 : Value) (K : Value → M) : M :=
  Pv (lenV a0) fun v1 =>
  Pv (binIV .geq v1 (Value.int .i64 1)) fun v2 =>
  Gd v2 true
    (Pv (lenV a0) fun v3 =>
    Pv (binIV .leq v3 (Value.int .i64 110)) fun v4 =>
    K v4)
    (K (Value.bool false))
theorem sh143_eq (ω : Om) (a0 : Value) (K : Value → M) : vcF Tryz.prog ω Tryz.f143 [a0] K = sh143 ω a0 K := by kernel_rfl
theorem cal143 {ω : Om} {a0 : Value} {K : Value → M} {I : Imm} {L : LH} (h : sh143 ω a0 (fun v => Gh (K v)) I L) : Cal Tryz.prog ω 143 #[a0] K I L :=
  Cal.gh (cal_of_vc mixed Tryz.func143 (by rw [sh143_eq]; exact h))
def sh144_4 (ω : Om) (p0 : Value) (p1 : Value) (p4 : Value) (p5 : Value) (p6 : Value) (p7 : Value) (K : Value → M) : M :=
  Pv (binIV .lss p7 p6) fun v11 =>
  Gd v11 true
    (Pv (ixV 1 p0 p7) fun v12 =>
    Rv none (ld1R v12) fun v13 =>
    Pv (binSV .eql v13 p1) fun v14 =>
    Gd v14 false
      (Pv (ixV 1 p0 p7) fun v15 =>
      Rv none (ld1R v15) fun v16 =>
      Cal Tryz.prog ω 211 #[v16] <| gh fun v17 =>
      Gd v17 true
        (Cal Tryz.prog ω 211 #[p1] <| gh fun v18 =>
        K (Value.tuple #[p7, v18]))
        (K (Value.tuple #[p7, (Value.bool false)])))
      (K (Value.tuple #[p7, (Value.bool true)])))
    (K (Value.tuple #[p7, (Value.bool false)]))
def sh144_1 (ω : Om) (p0 : Value) (p1 : Value) (p4 : Value) (p5 : Value) (p6 : Value) (x7 : Value) (x8 : Value) (Kn0 : (Value × Value × Unit) → M) (K : Value → M) : M :=
  Pv (binIV .lss x7 x8) fun v2 =>
  Br v2
    (Pv (binIV .add x7 x8) fun v3 =>
    Pv (cvIV .u64 v3) fun v4 =>
    Pv (binIV .shr v4 (Value.int .u64 1)) fun v5 =>
    Pv (cvIV .i64 v5) fun v6 =>
    Pv (ixV 1 p0 v6) fun v7 =>
    Rv none (ld1R v7) fun v8 =>
    Cal Tryz.prog ω 210 #[v8, p1] <| gh fun v9 =>
    Br v9
      (Pv (binIV .add v6 (Value.int .i64 1)) fun v10 =>
      Kn0 (v10, x8, ()))
      (Kn0 (x7, v6, ())))
    (sh144_4 ω p0 p1 p4 p5 p6 x7 K)
def sh144 (ω : Om) (a0 : Value) (a1 : Value) (K : Value → M) : M :=
  Pv (lenV a0) fun v1 =>
  LoopM (((Value.int .i64 0), v1, ()) : Value × Value × Unit) fun s Kn0 =>
  sh144_1 ω a0 a1 (Value.int .i64 0) (Value.bool false) v1 s.1 s.2.1 Kn0 K
theorem sh144_eq (ω : Om) (a0 a1 : Value) (K : Value → M) : vcF Tryz.prog ω Tryz.f144 [a0, a1] K = sh144 ω a0 a1 K := by kernel_rfl
theorem cal144 {ω : Om} {a0 a1 : Value} {K : Value → M} {I : Imm} {L : LH} (h : sh144 ω a0 a1 (fun v => Gh (K v)) I L) : Cal Tryz.prog ω 144 #[a0, a1] K I L :=
  Cal.gh (cal_of_vc mixed Tryz.func144 (by rw [sh144_eq]; exact h))
def sh145 (ω : Om) (a0 : Value) (K : Value → M) : M :=
  Pv (binNV .eql a0 (Value.slice none 0 0)) fun v1 =>
  Br v1
    (K (Value.slice none 0 0))
    (BldS 9 1 #[(Value.string (ByteArray.mk #[]))] 0 [] <| gh fun v2 =>
    App 9 1 16 #[(Value.string (ByteArray.mk #[]))] v2 a0 <| gh fun v3 =>
    K v3)
theorem sh145_eq (ω : Om) (a0 : Value) (K : Value → M) : vcF Tryz.prog ω Tryz.f145 [a0] K = sh145 ω a0 K := by kernel_rfl
theorem cal145 {ω : Om} {a0 : Value} {K : Value → M} {I : Imm} {L : LH} (h : sh145 ω a0 (fun v => Gh (K v)) I L) : Cal Tryz.prog ω 145 #[a0] K I L :=
  Cal.gh (cal_of_vc mixed Tryz.func145 (by rw [sh145_eq]; exact h))
def sh146 (ω : Om) (a0 : Value) (K : Value → M) : M :=
  Pv (binIV .geq a0 (Value.int .i64 0)) fun v1 =>
  Gd v1 true
    (Pv (binIV .leq a0 (Value.int .i64 9007199254740991)) fun v2 =>
    K v2)
    (K (Value.bool false))
theorem sh146_eq (ω : Om) (a0 : Value) (K : Value → M) : vcF Tryz.prog ω Tryz.f146 [a0] K = sh146 ω a0 K := by kernel_rfl
theorem cal146 {ω : Om} {a0 : Value} {K : Value → M} {I : Imm} {L : LH} (h : sh146 ω a0 (fun v => Gh (K v)) I L) : Cal Tryz.prog ω 146 #[a0] K I L :=
  Cal.gh (cal_of_vc mixed Tryz.func146 (by rw [sh146_eq]; exact h))
def sh147 (ω : Om) (a0 : Value) (a1 : Value) (a2 : Value) (K : Value → M) : M :=
  New (.cells (Value.cells a1) 56 (0, 0)) <| gh fun c_1 =>
  New (.cells #[(Value.int .i64 0), (Value.bool false), (Value.slice none 0 0), (Value.int .i64 0), (Value.int .i64 0), (Value.int .i64 0), (Value.slice none 0 0), (Value.int .i64 0), (Value.int .i64 0), (Value.int .i64 0), (Value.int .i64 0)] 52 (0, 0)) <| gh fun v2 =>
  Rv none (ld1R a2) fun v3 =>
  Rv none (ldNR 15 c_1) fun v4 =>
  CalV Tryz.prog ω v3 #[a0, v4] <| gh fun v5 =>
  Sto 11 v2 v5 <| gh fun _ =>
  Rv none (ldNR 11 v2) fun v6 =>
  K (Value.tuple #[v6, (Value.pointer none)])
theorem sh147_eq (ω : Om) (a0 a1 a2 : Value) (K : Value → M) : vcF Tryz.prog ω Tryz.f147 [a0, a1, a2] K = sh147 ω a0 a1 a2 K := by kernel_rfl
theorem cal147 {ω : Om} {a0 a1 a2 : Value} {K : Value → M} {I : Imm} {L : LH} (h : sh147 ω a0 a1 a2 (fun v => Gh (K v)) I L) : Cal Tryz.prog ω 147 #[a0, a1, a2] K I L :=
  Cal.gh (cal_of_vc mixed Tryz.func147 (by rw [sh147_eq]; exact h))
def sh148 (ω : Om) (a0 : Value) (a1 : Value) (K : Value → M) : M :=
  New (.cells (Value.cells a0) 31 (0, 0)) <| gh fun p_1 =>
  Pv (fldV 0 p_1) fun v2 =>
  Rv none (ld1R v2) fun v3 =>
  Cal Tryz.prog ω 85 #[a1, v3] <| gh fun v4 =>
  Pv (binIV .geq v4 (Value.int .i64 0)) fun v5 =>
  Gd v5 true
    (Pv (fldV 1 p_1) fun v6 =>
    Rv none (ld1R v6) fun v7 =>
    Pv (lenV v7) fun v8 =>
    Pv (binIV .eql v8 (Value.int .i64 0)) fun v9 =>
    Gd v9 false
      (Pv (fldV 1 p_1) fun v10 =>
      Rv none (ld1R v10) fun v11 =>
      Cal Tryz.prog ω 85 #[a1, v11] <| gh fun v12 =>
      Pv (binIV .lss v12 (Value.int .i64 0)) fun v13 =>
      K v13)
      (K (Value.bool true)))
    (K (Value.bool false))
theorem sh148_eq (ω : Om) (a0 a1 : Value) (K : Value → M) : vcF Tryz.prog ω Tryz.f148 [a0, a1] K = sh148 ω a0 a1 K := by kernel_rfl
theorem cal148 {ω : Om} {a0 a1 : Value} {K : Value → M} {I : Imm} {L : LH} (h : sh148 ω a0 a1 (fun v => Gh (K v)) I L) : Cal Tryz.prog ω 148 #[a0, a1] K I L :=
  Cal.gh (cal_of_vc mixed Tryz.func148 (by rw [sh148_eq]; exact h))
def sh149_1 (ω : Om) (p0 : Value) (p3 : Value) (p6 : Value) (p8 : Value) (p9 : Value) (p10 : Value) (p18 : Value) (K : Value → M) : M :=
  Br p18
    (Pv (bldV #[(Value.bool false), (Value.slice none 0 0), (Value.int .i64 0), (Value.int .i64 0), (Value.int .i64 0)] #[(0, 1), (1, 1), (2, 2), (4, 1)] []) fun v10 =>
    Sto 5 p8 v10 <| gh fun _ =>
    Rv none (ldNR 5 p8) fun v11 =>
    K (Value.tuple #[v11, (Value.int .i64 1)]))
    (Draw fun S =>
      Pv (nilV p0) fun v12 =>
      Pv (fldV 2 v12) fun v13 =>
      Rv (some S) (ldNR 2 v13) fun v14 =>
      Rv (some S) (ldNR 2 p6) fun v15 =>
      Cal Tryz.prog ω 213 #[v14, v15] <| gh fun v16 =>
      Br v16
        (Pv (bldV #[(Value.bool false), (Value.slice none 0 0), (Value.int .i64 0), (Value.int .i64 0), (Value.int .i64 0)] #[(0, 1), (1, 1), (2, 2), (4, 1)] []) fun v17 =>
        Sto 5 p8 v17 <| gh fun _ =>
        Rv none (ldNR 5 p8) fun v18 =>
        K (Value.tuple #[v18, (Value.int .i64 131)]))
        (Pv (binPV .eql p10 (Value.pointer none)) fun v19 =>
        Br v19
          (Pv (bldV #[(Value.bool false), (Value.slice none 0 0), (Value.int .i64 0), (Value.int .i64 0), (Value.int .i64 0)] #[(0, 1), (1, 1), (2, 2), (4, 1)] []) fun v20 =>
          Sto 5 p8 v20 <| gh fun _ =>
          Rv none (ldNR 5 p8) fun v21 =>
          K (Value.tuple #[v21, (Value.int .i64 0)]))
          (Rv none (ldNR 2 p6) fun v22 =>
          Cal Tryz.prog ω 214 #[p10, v22, p3] <| gh fun v23 =>
          Pv (exV v23 0) fun v24 =>
          Pv (exV v23 1) fun v25 =>
          Sto 5 p8 v24 <| gh fun _ =>
          Rv none (ldNR 5 p8) fun v26 =>
          K (Value.tuple #[v26, v25]))))
def sh149 (ω : Om) (a0 : Value) (a1 : Value) (a2 : Value) (a3 : Value) (K : Value → M) : M :=
  New (.cells (Value.cells a2) 41 (0, 0)) <| gh fun at_1 =>
  New (.cells #[(Value.bool false), (Value.slice none 0 0), (Value.int .i64 0), (Value.int .i64 0), (Value.int .i64 0)] 49 (0, 0)) <| gh fun v2 =>
  Draw fun S =>
    Pv (nilV a0) fun v3 =>
    Pv (fldV 0 v3) fun v4 =>
    Rv (some S) (ld1R v4) fun v5 =>
    Rv (some S) (bsR a1) fun v6 =>
    Rv (some S) (lkR .string (Value.pointer none) false v5 v6) fun v7 =>
    Cal Tryz.prog ω 143 #[a1] <| gh fun v8 =>
    Pv (unV .not v8) fun v9 =>
    Br v9
      (sh149_1 ω a0 a3 at_1 v2 (Value.int .i64 0) v7 v9 K)
      (Rv none (ldNR 2 at_1) fun v27 =>
      Cal Tryz.prog ω 212 #[v27, a3] <| gh fun v28 =>
      Pv (unV .not v28) fun v29 =>
      sh149_1 ω a0 a3 at_1 v2 (Value.int .i64 0) v7 v29 K)
theorem sh149_eq (ω : Om) (a0 a1 a2 a3 : Value) (K : Value → M) : vcF Tryz.prog ω Tryz.f149 [a0, a1, a2, a3] K = sh149 ω a0 a1 a2 a3 K := by kernel_rfl
theorem cal149 {ω : Om} {a0 a1 a2 a3 : Value} {K : Value → M} {I : Imm} {L : LH} (h : sh149 ω a0 a1 a2 a3 (fun v => Gh (K v)) I L) : Cal Tryz.prog ω 149 #[a0, a1, a2, a3] K I L :=
  Cal.gh (cal_of_vc mixed Tryz.func149 (by rw [sh149_eq]; exact h))
def sh150_5 (ω : Om) (p0 : Value) (p1 : Value) (p3 : Value) (p6 : Value) (K : Value → M) : M :=
  Draw fun S =>
    Pv (nilV p0) fun v44 =>
    Pv (fldV 3 v44) fun v45 =>
    Rv (some S) (ld1R v45) fun v46 =>
    Rv (some S) (bsR p1) fun v47 =>
    Pv (nilV p0) fun v48 =>
    Pv (fldV 3 v48) fun v49 =>
    Rv (some S) (ld1R v49) fun v50 =>
    Rv (some S) (bsR p1) fun v51 =>
    Rv (some S) (lkR .string (Value.agg #[(Value.int .i64 0), (Value.int .i64 0), (Value.int .i64 0)]) false v50 v51) fun v52 =>
    Rv (some S) (ldNR 2 p6) fun v53 =>
    Cal Tryz.prog ω 153 #[v52, v53, p3] <| gh <| Keep S fun v54 =>
    PutM .string v46 v47 v54 <| gh fun _ =>
    K (Value.tuple #[])
def sh150_4 (ω : Om) (p0 : Value) (p1 : Value) (p3 : Value) (p6 : Value) (K : Value → M) : M :=
  NewM <| gh fun v41 =>
  Pv (nilV p0) fun v42 =>
  Pv (fldV 3 v42) fun v43 =>
  Sto 1 v43 v41 <| gh fun _ =>
  sh150_5 ω p0 p1 p3 p6 K
def sh150_2 (ω : Om) (p0 : Value) (p1 : Value) (p3 : Value) (p6 : Value) (p38 : Value) (p39 : Value) (x40 : Value) (Kn0 : (Value × Unit) → M) (K : Value → M) : M :=
  Pv (binIV .lss x40 p39) fun v22 =>
  Br v22
    (Pv (ixV 1 p38 x40) fun v23 =>
    Rv none (ld1R v23) fun v24 =>
    Pv (nilV p0) fun v25 =>
    Pv (fldV 3 v25) fun v26 =>
    Rv none (ld1R v26) fun v27 =>
    Rv none (lkR .string (Value.agg #[(Value.int .i64 0), (Value.int .i64 0), (Value.int .i64 0)]) false v27 v24) fun v28 =>
    New (.cells #[(Value.int .i64 0), (Value.int .i64 0), (Value.int .i64 0)] 159 (0, 0)) <| gh fun k_29 =>
    Sto 3 k_29 v28 <| gh fun _ =>
    Draw fun S =>
      Pv (nilV p0) fun v30 =>
      Pv (fldV 4 v30) fun v31 =>
      Rv (some S) (ldNR 3 v31) fun v32 =>
      Pv (fldV 0 k_29) fun v33 =>
      Rv (some S) (ldNR 2 v33) fun v34 =>
      Pv (fldV 2 k_29) fun v35 =>
      Rv (some S) (ld1R v35) fun v36 =>
      Cal Tryz.prog ω 153 #[v32, v34, v36] <| gh fun v37 =>
      Pv (nilV p0) fun v38 =>
      Pv (fldV 4 v38) fun v39 =>
      Sto 3 v39 v37 <| gh fun _ =>
      Pv (binIV .add x40 (Value.int .i64 1)) fun v40 =>
      Kn0 (v40, ()))
    (sh150_4 ω p0 p1 p3 p6 K)
def sh150_1 (ω : Om) (p0 : Value) (p1 : Value) (p3 : Value) (p6 : Value) (K : Value → M) : M :=
  Pv (nilV p0) fun v16 =>
  Pv (fldV 3 v16) fun v17 =>
  Rv none (ld1R v17) fun v18 =>
  Cal Tryz.prog ω 127 #[v18] <| gh fun v19 =>
  Cal Tryz.prog ω 126 #[v19] <| gh fun v20 =>
  Pv (lenV v20) fun v21 =>
  LoopM (((Value.int .i64 0), ()) : Value × Unit) fun s Kn0 =>
  sh150_2 ω p0 p1 p3 p6 v20 v21 s.1 Kn0 K
def sh150_6 (ω : Om) (p0 : Value) (p1 : Value) (p3 : Value) (p6 : Value) (K : Value → M) : M :=
  Draw fun S =>
    Pv (nilV p0) fun v55 =>
    Pv (fldV 3 v55) fun v56 =>
    Rv (some S) (ld1R v56) fun v57 =>
    Rv (some S) (bsR p1) fun v58 =>
    Pv (nilV p0) fun v59 =>
    Pv (fldV 3 v59) fun v60 =>
    Rv (some S) (ld1R v60) fun v61 =>
    Rv (some S) (bsR p1) fun v62 =>
    Rv (some S) (lkR .string (Value.agg #[(Value.int .i64 0), (Value.int .i64 0), (Value.int .i64 0)]) false v61 v62) fun v63 =>
    Rv (some S) (ldNR 2 p6) fun v64 =>
    Cal Tryz.prog ω 153 #[v63, v64, p3] <| gh <| Keep S fun v65 =>
    PutM .string v57 v58 v65 <| gh fun _ =>
    K (Value.tuple #[])
def sh150 (ω : Om) (a0 : Value) (a1 : Value) (a2 : Value) (a3 : Value) (K : Value → M) : M :=
  New (.cells (Value.cells a2) 41 (0, 0)) <| gh fun at_1 =>
  Draw fun S =>
    Pv (nilV a0) fun v2 =>
    Pv (fldV 3 v2) fun v3 =>
    Rv (some S) (ld1R v3) fun v4 =>
    Rv (some S) (bsR a1) fun v5 =>
    Rv (some S) (lkR .string (Value.agg #[(Value.int .i64 0), (Value.int .i64 0), (Value.int .i64 0)]) true v4 v5) fun v6 =>
    Pv (exV v6 0) fun v7 =>
    Pv (exV v6 1) fun v8 =>
    New (.cells #[(Value.int .i64 0), (Value.int .i64 0), (Value.int .i64 0)] 159 (0, 0)) <| gh <| Keep S fun v9 =>
    Sto 3 v9 v7 <| gh fun _ =>
    Pv (unV .not v8) fun v10 =>
    Gd v10 true
      (Pv (nilV a0) fun v11 =>
      Pv (fldV 3 v11) fun v12 =>
      Rv none (ld1R v12) fun v13 =>
      Rv none (lenMR v13) fun v14 =>
      Pv (binIV .eql v14 (Value.int .i64 32)) fun v15 =>
      Br v15
        (sh150_1 ω a0 a1 a3 at_1 K)
        (sh150_6 ω a0 a1 a3 at_1 K))
      (sh150_6 ω a0 a1 a3 at_1 K)
theorem sh150_eq (ω : Om) (a0 a1 a2 a3 : Value) (K : Value → M) : vcF Tryz.prog ω Tryz.f150 [a0, a1, a2, a3] K = sh150 ω a0 a1 a2 a3 K := by kernel_rfl
theorem cal150 {ω : Om} {a0 a1 a2 a3 : Value} {K : Value → M} {I : Imm} {L : LH} (h : sh150 ω a0 a1 a2 a3 (fun v => Gh (K v)) I L) : Cal Tryz.prog ω 150 #[a0, a1, a2, a3] K I L :=
  Cal.gh (cal_of_vc mixed Tryz.func150 (by rw [sh150_eq]; exact h))
def sh151 (ω : Om) (a0 : Value) (a1 : Value) (K : Value → M) : M :=
  New (.cells (Value.cells a1) 31 (0, 0)) <| gh fun p_1 =>
  Draw fun S =>
    Pv (nilV a0) fun v2 =>
    Pv (fldV 0 v2) fun v3 =>
    Pv (fldV 0 v3) fun v4 =>
    Rv (some S) (ld1R v4) fun v5 =>
    Pv (fldV 0 p_1) fun v6 =>
    Rv (some S) (ld1R v6) fun v7 =>
    Cal Tryz.prog ω 85 #[v5, v7] <| gh fun v8 =>
    Pv (binIV .gtr v8 (Value.int .i64 0)) fun v9 =>
    Br v9
      (K (Value.bool false))
      (Draw fun S =>
        Pv (nilV a0) fun v10 =>
        Pv (fldV 0 v10) fun v11 =>
        Pv (fldV 1 v11) fun v12 =>
        Rv (some S) (ld1R v12) fun v13 =>
        Pv (lenV v13) fun v14 =>
        Pv (binIV .eql v14 (Value.int .i64 0)) fun v15 =>
        Gd v15 false
          (Pv (fldV 1 p_1) fun v16 =>
          Rv (some S) (ld1R v16) fun v17 =>
          Pv (lenV v17) fun v18 =>
          Pv (binIV .gtr v18 (Value.int .i64 0)) fun v19 =>
          Gd v19 true
            (Pv (fldV 1 p_1) fun v20 =>
            Rv (some S) (ld1R v20) fun v21 =>
            Pv (nilV a0) fun v22 =>
            Pv (fldV 0 v22) fun v23 =>
            Pv (fldV 1 v23) fun v24 =>
            Rv (some S) (ld1R v24) fun v25 =>
            Cal Tryz.prog ω 85 #[v21, v25] <| gh fun v26 =>
            Pv (binIV .leq v26 (Value.int .i64 0)) fun v27 =>
            K v27)
            (K (Value.bool false)))
          (K (Value.bool true)))
theorem sh151_eq (ω : Om) (a0 a1 : Value) (K : Value → M) : vcF Tryz.prog ω Tryz.f151 [a0, a1] K = sh151 ω a0 a1 K := by kernel_rfl
theorem cal151 {ω : Om} {a0 a1 : Value} {K : Value → M} {I : Imm} {L : LH} (h : sh151 ω a0 a1 (fun v => Gh (K v)) I L) : Cal Tryz.prog ω 151 #[a0, a1] K I L :=
  Cal.gh (cal_of_vc mixed Tryz.func151 (by rw [sh151_eq]; exact h))
def sh152_2 (ω : Om) (p9 : Value) (p13 : Value) (Nk : M) (Xk : Nat → M) (K : Value → M) : M :=
  Rv none (ld1R p13) fun v44 =>
  Pv (lenV v44) fun v45 =>
  Rv none (ld1R p9) fun v46 =>
  Pv (binIV .eql v45 v46) fun v47 =>
  Br v47
    (Xk 1)
    (Nk)
def sh152_4 (ω : Om) (p10 : Value) (p11 : Value) (p12 : Value) (p13 : Value) (Q0 : Nat) (K : Value → M) : M :=
  Rv none (ld1R p13) fun v48 =>
  Cal Tryz.prog ω 215 #[v48] <| gh fun v49 =>
  Sto 1 p10 v49 <| gh fun _ =>
  Sto 1 p11 (Value.int .i64 0) <| gh fun _ =>
  Sto 1 p12 (Value.int .i64 0) <| gh fun _ =>
  Tak Q0 <|
  Rv none (ld1R p10) fun v50 =>
  Rv none (ld1R p11) fun v51 =>
  Rv none (ld1R p12) fun v52 =>
  K (Value.tuple #[v50, v51, v52])
def sh152_1 (ω : Om) (p0 : Value) (p6 : Value) (p7 : Value) (p8 : Value) (p9 : Value) (p10 : Value) (p11 : Value) (p12 : Value) (p18 : Value) (K : Value → M) : M :=
  Br p18
    (Sto 1 p10 (Value.slice none 0 0) <| gh fun _ =>
    Sto 1 p11 (Value.int .i64 0) <| gh fun _ =>
    Sto 1 p12 (Value.int .i64 1) <| gh fun _ =>
    Rv none (ld1R p10) fun v12 =>
    Rv none (ld1R p11) fun v13 =>
    Rv none (ld1R p12) fun v14 =>
    K (Value.tuple #[v12, v13, v14]))
    (Draw fun S =>
      Pv (nilV p0) fun v15 =>
      Pv (fldV 2 v15) fun v16 =>
      Rv (some S) (ldNR 2 v16) fun v17 =>
      Rv (some S) (ldNR 2 p7) fun v18 =>
      Cal Tryz.prog ω 213 #[v17, v18] <| gh fun v19 =>
      Br v19
        (Sto 1 p10 (Value.slice none 0 0) <| gh fun _ =>
        Sto 1 p11 (Value.int .i64 0) <| gh fun _ =>
        Sto 1 p12 (Value.int .i64 131) <| gh fun _ =>
        Rv none (ld1R p10) fun v20 =>
        Rv none (ld1R p11) fun v21 =>
        Rv none (ld1R p12) fun v22 =>
        K (Value.tuple #[v20, v21, v22]))
        (New (.cells #[(Value.slice none 0 0)] 50 (0, 0)) <| gh fun out_23 =>
        Rv none (ldNR 2 p6) fun v24 =>
        Cal Tryz.prog ω 177 #[p0, v24] <| gh fun v25 =>
        RngF2 Tryz.prog ω v25 (fun r1_0 r1_1 Bg Nk Xk Rk =>
            Bg (Rv none (ldNR 2 p7) fun v26 =>
            Rv none (ld1R p8) fun v27 =>
            Cal Tryz.prog ω 214 #[r1_1, v26, v27] <| gh fun v28 =>
            Pv (exV v28 0) fun v29 =>
            Pv (exV v28 1) fun v30 =>
            New (.cells #[(Value.bool false), (Value.slice none 0 0), (Value.int .i64 0), (Value.int .i64 0), (Value.int .i64 0)] 49 (0, 0)) <| gh fun g_31 =>
            Sto 5 g_31 v29 <| gh fun _ =>
            Pv (binIV .neq v30 (Value.int .i64 0)) fun v32 =>
            Br v32
              (DrawW [p10] fun S =>
                Pv (fldV 4 g_31) fun v33 =>
                Rv (some S) (ld1R v33) fun v34 =>
                Sto 1 p10 (Value.slice none 0 0) <| gh <| Keep S fun _ =>
                Sto 1 p11 v34 <| gh fun _ =>
                Sto 1 p12 v30 <| gh fun _ =>
                Rk)
              (Pv (fldV 0 g_31) fun v35 =>
              Rv none (ld1R v35) fun v36 =>
              Br v36
                (Rv none (ld1R out_23) fun v37 =>
                CvSB 5 r1_0 <| gh fun v38 =>
                Pv (fldV 1 g_31) fun v39 =>
                Rv none (ld1R v39) fun v40 =>
                Pv (bldV #[(Value.slice none 0 0), (Value.slice none 0 0)] #[(0, 1), (1, 1)] [(0, v38), (1, v40)]) fun v41 =>
                BldS 113 2 #[(Value.slice none 0 0), (Value.slice none 0 0)] 1 [(0, v41)] <| gh fun v42 =>
                App 113 2 48 #[(Value.slice none 0 0), (Value.slice none 0 0)] v37 v42 <| gh fun v43 =>
                Sto 1 out_23 v43 <| gh fun _ =>
                sh152_2 ω p9 out_23 Nk Xk K)
                (sh152_2 ω p9 out_23 Nk Xk K))))
          (fun D1 => sh152_4 ω p10 p11 p12 out_23 D1 K)
          (fun D1 => [(1, sh152_4 ω p10 p11 p12 out_23 D1 K)])
          (fun D1 => Tak D1 <|
            Rv none (ld1R p10) fun v53 =>
            Rv none (ld1R p11) fun v54 =>
            Rv none (ld1R p12) fun v55 =>
            K (Value.tuple #[v53, v54, v55]))))
def sh152 (ω : Om) (a0 : Value) (a1 : Value) (a2 : Value) (a3 : Value) (a4 : Value) (K : Value → M) : M :=
  New (.cells (Value.cells a1) 31 (0, 0)) <| gh fun p_1 =>
  New (.cells (Value.cells a2) 41 (0, 0)) <| gh fun at_2 =>
  New (.cells (Value.cells a3) 3 (0, 0)) <| gh fun txn_3 =>
  New (.cells (Value.cells a4) 3 (0, 0)) <| gh fun most_4 =>
  New (.cells #[(Value.slice none 0 0)] 50 (0, 0)) <| gh fun v5 =>
  New (.cells #[(Value.int .i64 0)] 3 (0, 0)) <| gh fun v6 =>
  New (.cells #[(Value.int .i64 0)] 26 (0, 0)) <| gh fun v7 =>
  Rv none (ldNR 2 at_2) fun v8 =>
  Rv none (ld1R txn_3) fun v9 =>
  Cal Tryz.prog ω 212 #[v8, v9] <| gh fun v10 =>
  Pv (unV .not v10) fun v11 =>
  Br v11
    (sh152_1 ω a0 p_1 at_2 txn_3 most_4 v5 v6 v7 v11 K)
    (Rv none (ld1R most_4) fun v56 =>
    Pv (binIV .lss v56 (Value.int .i64 1)) fun v57 =>
    sh152_1 ω a0 p_1 at_2 txn_3 most_4 v5 v6 v7 v57 K)
theorem sh152_eq (ω : Om) (a0 a1 a2 a3 a4 : Value) (K : Value → M) : vcF Tryz.prog ω Tryz.f152 [a0, a1, a2, a3, a4] K = sh152 ω a0 a1 a2 a3 a4 K := by kernel_rfl
theorem cal152 {ω : Om} {a0 a1 a2 a3 a4 : Value} {K : Value → M} {I : Imm} {L : LH} (h : sh152 ω a0 a1 a2 a3 a4 (fun v => Gh (K v)) I L) : Cal Tryz.prog ω 152 #[a0, a1, a2, a3, a4] K I L :=
  Cal.gh (cal_of_vc mixed Tryz.func152 (by rw [sh152_eq]; exact h))
def sh153_3 (ω : Om) (p3 : Value) (p6 : Value) (K : Value → M) : M :=
  Rv none (ldNR 3 p3) fun v17 =>
  Sto 3 p6 v17 <| gh fun _ =>
  Rv none (ldNR 3 p6) fun v18 =>
  K v18
def sh153_1 (ω : Om) (p3 : Value) (p6 : Value) (K : Value → M) : M :=
  Pv (fldV 2 p3) fun v16 =>
  Sto 1 v16 (Value.int .i64 0) <| gh fun _ =>
  sh153_3 ω p3 p6 K
def sh153 (ω : Om) (a0 : Value) (a1 : Value) (a2 : Value) (K : Value → M) : M :=
  New (.cells (Value.cells a0) 159 (0, 0)) <| gh fun k_1 =>
  New (.cells (Value.cells a1) 41 (0, 0)) <| gh fun at_2 =>
  New (.cells #[(Value.int .i64 0), (Value.int .i64 0), (Value.int .i64 0)] 159 (0, 0)) <| gh fun v3 =>
  Rv none (ldNR 2 at_2) fun v4 =>
  Pv (fldV 0 k_1) fun v5 =>
  Rv none (ldNR 2 v5) fun v6 =>
  Cal Tryz.prog ω 158 #[v4, v6] <| gh fun v7 =>
  Pv (binIV .gtr v7 (Value.int .i64 0)) fun v8 =>
  Br v8
    (Rv none (ldNR 2 at_2) fun v9 =>
    Pv (bldV #[(Value.int .i64 0), (Value.int .i64 0), (Value.int .i64 0)] #[(0, 2), (2, 1)] [(0, v9), (1, a2)]) fun v10 =>
    Sto 3 v3 v10 <| gh fun _ =>
    Rv none (ldNR 3 v3) fun v11 =>
    K v11)
    (Pv (binIV .eql v7 (Value.int .i64 0)) fun v12 =>
    Gd v12 true
      (Pv (fldV 2 k_1) fun v13 =>
      Rv none (ld1R v13) fun v14 =>
      Pv (binIV .neq a2 v14) fun v15 =>
      Br v15
        (sh153_1 ω k_1 v3 K)
        (sh153_3 ω k_1 v3 K))
      (sh153_3 ω k_1 v3 K))
theorem sh153_eq (ω : Om) (a0 a1 a2 : Value) (K : Value → M) : vcF Tryz.prog ω Tryz.f153 [a0, a1, a2] K = sh153 ω a0 a1 a2 K := by kernel_rfl
theorem cal153 {ω : Om} {a0 a1 a2 : Value} {K : Value → M} {I : Imm} {L : LH} (h : sh153 ω a0 a1 a2 (fun v => Gh (K v)) I L) : Cal Tryz.prog ω 153 #[a0, a1, a2] K I L :=
  Cal.gh (cal_of_vc mixed Tryz.func153 (by rw [sh153_eq]; exact h))
def sh154_1 (ω : Om) (p4 : Value) (p5 : Value) (p6 : Value) (K : Value → M) : M :=
  Pv (fldV 1 p6) fun v17 =>
  Rv none (ld1R v17) fun v18 =>
  Pv (fldV 2 p6) fun v19 =>
  Rv none (ldNR 2 v19) fun v20 =>
  Pv (bldV #[(Value.int .i64 0), (Value.bool false), (Value.slice none 0 0), (Value.int .i64 0), (Value.int .i64 0), (Value.int .i64 0), (Value.slice none 0 0), (Value.int .i64 0), (Value.int .i64 0), (Value.int .i64 0), (Value.int .i64 0)] #[(0, 1), (1, 5), (6, 1), (7, 2), (9, 1), (10, 1)] [(0, v18), (3, v20)]) fun v21 =>
  Sto 11 p4 v21 <| gh fun _ =>
  Rv none (ldNR 11 p4) fun v22 =>
  K (Value.tuple #[v22, (Value.bool true)])
def sh154_3 (ω : Om) (p4 : Value) (p5 : Value) (p32 : Value) (K : Value → M) : M :=
  Br p32
    (Cal Tryz.prog ω 34 #[(Value.int .i64 144)] <| gh fun v28 =>
    Sto 11 p4 v28 <| gh fun _ =>
    Rv none (ldNR 11 p4) fun v29 =>
    K (Value.tuple #[v29, (Value.bool true)]))
    (Pv (bldV #[(Value.int .i64 0), (Value.bool false), (Value.slice none 0 0), (Value.int .i64 0), (Value.int .i64 0), (Value.int .i64 0), (Value.slice none 0 0), (Value.int .i64 0), (Value.int .i64 0), (Value.int .i64 0), (Value.int .i64 0)] #[(0, 1), (1, 5), (6, 1), (7, 2), (9, 1), (10, 1)] []) fun v30 =>
    Sto 11 p4 v30 <| gh fun _ =>
    Rv none (ldNR 11 p4) fun v31 =>
    K (Value.tuple #[v31, (Value.bool false)]))
def sh154_4 (ω : Om) (p0 : Value) (p3 : Value) (p4 : Value) (p5 : Value) (p7 : Value) (p32 : Value) (K : Value → M) : M :=
  Draw fun S =>
    Pv (unV .not p7) fun v32 =>
    Gd v32 true
      (Pv (fldV 1 p3) fun v33 =>
      Rv (some S) (ld1R v33) fun v34 =>
      Pv (nilV p0) fun v35 =>
      Pv (fldV 9 v35) fun v36 =>
      Rv (some S) (ld1R v36) fun v37 =>
      Pv (binIV .leq v34 v37) fun v38 =>
      sh154_3 ω p4 p5 v38 K)
      (sh154_3 ω p4 p5 (Value.bool false) K)
def sh154_2 (ω : Om) (p0 : Value) (p3 : Value) (p4 : Value) (p5 : Value) (p6 : Value) (p7 : Value) (K : Value → M) : M :=
  Gd p7 true
    (Pv (fldV 2 p3) fun v23 =>
    Rv none (ld1R v23) fun v24 =>
    Pv (fldV 0 p6) fun v25 =>
    Rv none (ld1R v25) fun v26 =>
    Pv (binIV .lss v24 v26) fun v27 =>
    Br v27
      (sh154_3 ω p4 p5 v27 K)
      (sh154_4 ω p0 p3 p4 p5 p7 v27 K))
    (sh154_4 ω p0 p3 p4 p5 p7 (Value.bool false) K)
def sh154 (ω : Om) (a0 : Value) (a1 : Value) (K : Value → M) : M :=
  New (.cells (Value.cells a1) 56 (0, 0)) <| gh fun c_1 =>
  New (.cells #[(Value.int .i64 0), (Value.bool false), (Value.slice none 0 0), (Value.int .i64 0), (Value.int .i64 0), (Value.int .i64 0), (Value.slice none 0 0), (Value.int .i64 0), (Value.int .i64 0), (Value.int .i64 0), (Value.int .i64 0)] 52 (0, 0)) <| gh fun v2 =>
  Draw fun S =>
    Pv (nilV a0) fun v3 =>
    Pv (fldV 8 v3) fun v4 =>
    Rv (some S) (ld1R v4) fun v5 =>
    Pv (fldV 1 c_1) fun v6 =>
    Rv (some S) (ld1R v6) fun v7 =>
    Rv (some S) (lkR (.int .i64) (Value.agg #[(Value.int .i64 0), (Value.int .i64 0), (Value.int .i64 0), (Value.int .i64 0)]) true v5 v7) fun v8 =>
    Pv (exV v8 0) fun v9 =>
    Pv (exV v8 1) fun v10 =>
    New (.cells #[(Value.int .i64 0), (Value.int .i64 0), (Value.int .i64 0), (Value.int .i64 0)] 209 (0, 0)) <| gh <| Keep S fun x_11 =>
    Sto 4 x_11 v9 <| gh fun _ =>
    Gd v10 true
      (Pv (fldV 0 x_11) fun v12 =>
      Rv none (ld1R v12) fun v13 =>
      Pv (fldV 2 c_1) fun v14 =>
      Rv none (ld1R v14) fun v15 =>
      Pv (binIV .eql v13 v15) fun v16 =>
      Br v16
        (sh154_1 ω v2 (Value.bool false) x_11 K)
        (sh154_2 ω a0 c_1 v2 (Value.bool false) x_11 v10 K))
      (sh154_2 ω a0 c_1 v2 (Value.bool false) x_11 v10 K)
theorem sh154_eq (ω : Om) (a0 a1 : Value) (K : Value → M) : vcF Tryz.prog ω Tryz.f154 [a0, a1] K = sh154 ω a0 a1 K := by kernel_rfl
theorem cal154 {ω : Om} {a0 a1 : Value} {K : Value → M} {I : Imm} {L : LH} (h : sh154 ω a0 a1 (fun v => Gh (K v)) I L) : Cal Tryz.prog ω 154 #[a0, a1] K I L :=
  Cal.gh (cal_of_vc mixed Tryz.func154 (by rw [sh154_eq]; exact h))
def sh155_1 (ω : Om) (p3 : Value) (p6 : Value) (p7 : Value) (K : Value → M) : M :=
  Pv (fldV 0 p3) fun v12 =>
  Rv none (ldNR 2 v12) fun v13 =>
  Sto 2 p6 v13 <| gh fun _ =>
  Rv none (ldNR 2 p6) fun v14 =>
  K (Value.tuple #[v14, (Value.int .i64 0)])
def sh155_3 (ω : Om) (p3 : Value) (p4 : Value) (p6 : Value) (p7 : Value) (p24 : Value) (K : Value → M) : M :=
  Br p24
    (Rv none (ldNR 2 p4) fun v18 =>
    Sto 2 p6 v18 <| gh fun _ =>
    Rv none (ldNR 2 p6) fun v19 =>
    K (Value.tuple #[v19, (Value.int .i64 0)]))
    (Pv (fldV 0 p3) fun v20 =>
    Rv none (ldNR 2 v20) fun v21 =>
    Cal Tryz.prog ω 216 #[v21] <| gh fun v22 =>
    Pv (exV v22 0) fun v23 =>
    Pv (exV v22 1) fun v24 =>
    Sto 2 p6 v23 <| gh fun _ =>
    Rv none (ldNR 2 p6) fun v25 =>
    K (Value.tuple #[v25, v24]))
def sh155_2 (ω : Om) (p2 : Value) (p3 : Value) (p4 : Value) (p6 : Value) (p7 : Value) (p8 : Value) (K : Value → M) : M :=
  Pv (fldV 2 p3) fun v15 =>
  Rv none (ld1R v15) fun v16 =>
  Pv (binIV .eql v16 p2) fun v17 =>
  Br v17
    (sh155_3 ω p3 p4 p6 p7 v17 K)
    (Pv (binIV .lss p8 (Value.int .i64 0)) fun v26 =>
    sh155_3 ω p3 p4 p6 p7 v26 K)
def sh155 (ω : Om) (a0 : Value) (a1 : Value) (a2 : Value) (K : Value → M) : M :=
  New (.cells (Value.cells a0) 159 (0, 0)) <| gh fun k_1 =>
  New (.cells (Value.cells a1) 41 (0, 0)) <| gh fun w_2 =>
  New (.cells #[(Value.int .i64 0), (Value.int .i64 0)] 41 (0, 0)) <| gh fun v3 =>
  Pv (fldV 0 k_1) fun v4 =>
  Rv none (ldNR 2 v4) fun v5 =>
  Rv none (ldNR 2 w_2) fun v6 =>
  Cal Tryz.prog ω 158 #[v5, v6] <| gh fun v7 =>
  Pv (fldV 2 k_1) fun v8 =>
  Rv none (ld1R v8) fun v9 =>
  Pv (binIV .eql v9 a2) fun v10 =>
  Gd v10 true
    (Pv (binIV .gtr v7 (Value.int .i64 0)) fun v11 =>
    Br v11
      (sh155_1 ω k_1 v3 (Value.int .i64 0) K)
      (sh155_2 ω a2 k_1 w_2 v3 (Value.int .i64 0) v7 K))
    (sh155_2 ω a2 k_1 w_2 v3 (Value.int .i64 0) v7 K)
theorem sh155_eq (ω : Om) (a0 a1 a2 : Value) (K : Value → M) : vcF Tryz.prog ω Tryz.f155 [a0, a1, a2] K = sh155 ω a0 a1 a2 K := by kernel_rfl
theorem cal155 {ω : Om} {a0 a1 a2 : Value} {K : Value → M} {I : Imm} {L : LH} (h : sh155 ω a0 a1 a2 (fun v => Gh (K v)) I L) : Cal Tryz.prog ω 155 #[a0, a1, a2] K I L :=
  Cal.gh (cal_of_vc mixed Tryz.func155 (by rw [sh155_eq]; exact h))
def sh156_1 (ω : Om) (p4 : Value) (p5 : Value) (p6 : Value) (K : Value → M) : M :=
  Pv (bldV #[(Value.int .i64 0), (Value.int .i64 0)] #[(0, 1), (1, 1)] []) fun v25 =>
  Sto 2 p4 v25 <| gh fun _ =>
  Rv none (ldNR 2 p4) fun v26 =>
  K (Value.tuple #[v26, (Value.int .i64 0), (Value.int .i64 1)])
def sh156_4 (ω : Om) (p4 : Value) (p5 : Value) (p6 : Value) (p8 : Value) (K : Value → M) : M :=
  DrawW [p4] fun S =>
    Pv (bldV #[(Value.int .i64 0), (Value.int .i64 0)] #[(0, 1), (1, 1)] []) fun v58 =>
    Pv (nilV p8) fun v59 =>
    Pv (fldV 1 v59) fun v60 =>
    Pv (fldV 4 v60) fun v61 =>
    Rv (some S) (ld1R v61) fun v62 =>
    Sto 2 p4 v58 <| gh <| Keep S fun _ =>
    Rv none (ldNR 2 p4) fun v63 =>
    K (Value.tuple #[v63, v62, (Value.int .i64 130)])
def sh156_8 (ω : Om) (p0 : Value) (p3 : Value) (p4 : Value) (p5 : Value) (p6 : Value) (p7 : Value) (K : Value → M) : M :=
  Pv (fldV 0 p3) fun v111 =>
  Rv none (ld1R v111) fun v112 =>
  Rv none (bsR v112) fun v113 =>
  Cal Tryz.prog ω 206 #[p0, v113] <| gh fun v114 =>
  Rv none (ldNR 2 p7) fun v115 =>
  Pv (fldV 4 p3) fun v116 =>
  Rv none (ld1R v116) fun v117 =>
  Pv (fldV 5 p3) fun v118 =>
  Rv none (ld1R v118) fun v119 =>
  Rv none (bsR v119) fun v120 =>
  Pv (bldV #[(Value.int .i64 0), (Value.int .i64 0), (Value.bool false), (Value.string (ByteArray.mk #[]))] #[(0, 2), (2, 1), (3, 1)] [(0, v115), (1, v117), (2, v120)]) fun v121 =>
  Pv (fldV 1 p3) fun v122 =>
  Rv none (ld1R v122) fun v123 =>
  Pv (bldV #[(Value.int .i64 0), (Value.int .i64 0), (Value.bool false), (Value.string (ByteArray.mk #[])), (Value.int .i64 0)] #[(0, 4), (4, 1)] [(0, v121), (1, v123)]) fun v124 =>
  Pv (nilV v114) fun v125 =>
  Pv (fldV 1 v125) fun v126 =>
  Sto 5 v126 v124 <| gh fun _ =>
  Pv (fldV 0 p3) fun v127 =>
  Rv none (ld1R v127) fun v128 =>
  Rv none (bsR v128) fun v129 =>
  Cal Tryz.prog ω 190 #[p0, v129] <| gh fun v130 =>
  Rv none (ldNR 2 p7) fun v131 =>
  Sto 2 p4 v131 <| gh fun _ =>
  Rv none (ldNR 2 p4) fun v132 =>
  K (Value.tuple #[v132, (Value.int .i64 0), (Value.int .i64 0)])
def sh156_7 (ω : Om) (p0 : Value) (p3 : Value) (p4 : Value) (p5 : Value) (p6 : Value) (p7 : Value) (p8 : Value) (p9 : Value) (K : Value → M) : M :=
  Pv (nilV p8) fun v96 =>
  Pv (fldV 0 v96) fun v97 =>
  Rv none (ld1R v97) fun v98 =>
  Pv (binIV .sub p9 (Value.int .i64 1)) fun v99 =>
  Pv (ixV 4 v98 v99) fun v100 =>
  Pv (fldV 0 v100) fun v101 =>
  Rv none (ldNR 2 v101) fun v102 =>
  Cal Tryz.prog ω 216 #[v102] <| gh fun v103 =>
  Pv (exV v103 0) fun v104 =>
  Pv (exV v103 1) fun v105 =>
  New (.cells #[(Value.int .i64 0), (Value.int .i64 0)] 41 (0, 0)) <| gh fun next_106 =>
  Sto 2 next_106 v104 <| gh fun _ =>
  Pv (binIV .neq v105 (Value.int .i64 0)) fun v107 =>
  Br v107
    (Pv (bldV #[(Value.int .i64 0), (Value.int .i64 0)] #[(0, 1), (1, 1)] []) fun v108 =>
    Sto 2 p4 v108 <| gh fun _ =>
    Rv none (ldNR 2 p4) fun v109 =>
    K (Value.tuple #[v109, (Value.int .i64 0), v105]))
    (Rv none (ldNR 2 next_106) fun v110 =>
    Sto 2 p7 v110 <| gh fun _ =>
    sh156_8 ω p0 p3 p4 p5 p6 p7 K)
def sh156_6 (ω : Om) (p0 : Value) (p3 : Value) (p4 : Value) (p5 : Value) (p6 : Value) (p7 : Value) (p8 : Value) (K : Value → M) : M :=
  Pv (nilV p8) fun v81 =>
  Pv (fldV 0 v81) fun v82 =>
  Rv none (ld1R v82) fun v83 =>
  Pv (lenV v83) fun v84 =>
  Draw fun S =>
    Pv (binIV .gtr v84 (Value.int .i64 0)) fun v85 =>
    Gd v85 true
      (Rv (some S) (ldNR 2 p7) fun v86 =>
      Pv (nilV p8) fun v87 =>
      Pv (fldV 0 v87) fun v88 =>
      Rv (some S) (ld1R v88) fun v89 =>
      Pv (binIV .sub v84 (Value.int .i64 1)) fun v90 =>
      Pv (ixV 4 v89 v90) fun v91 =>
      Pv (fldV 0 v91) fun v92 =>
      Rv (some S) (ldNR 2 v92) fun v93 =>
      Cal Tryz.prog ω 213 #[v86, v93] <| gh fun v94 =>
      Pv (unV .not v94) fun v95 =>
      Br v95
        (sh156_7 ω p0 p3 p4 p5 p6 p7 p8 v84 K)
        (sh156_8 ω p0 p3 p4 p5 p6 p7 K))
      (sh156_8 ω p0 p3 p4 p5 p6 p7 K)
def sh156_5 (ω : Om) (p0 : Value) (p3 : Value) (p4 : Value) (p5 : Value) (p6 : Value) (p7 : Value) (p8 : Value) (K : Value → M) : M :=
  Pv (nilV p8) fun v76 =>
  Pv (fldV 1 v76) fun v77 =>
  Pv (fldV 0 v77) fun v78 =>
  Pv (fldV 0 v78) fun v79 =>
  Rv none (ldNR 2 v79) fun v80 =>
  Sto 2 p7 v80 <| gh fun _ =>
  sh156_6 ω p0 p3 p4 p5 p6 p7 p8 K
def sh156_3 (ω : Om) (p0 : Value) (p3 : Value) (p4 : Value) (p5 : Value) (p6 : Value) (p7 : Value) (K : Value → M) : M :=
  Draw fun S =>
    Pv (nilV p0) fun v38 =>
    Pv (fldV 0 v38) fun v39 =>
    Rv (some S) (ld1R v39) fun v40 =>
    Pv (fldV 0 p3) fun v41 =>
    Rv (some S) (ld1R v41) fun v42 =>
    Rv (some S) (bsR v42) fun v43 =>
    Rv (some S) (lkR .string (Value.pointer none) false v40 v43) fun v44 =>
    Pv (binPV .neq v44 (Value.pointer none)) fun v45 =>
    Br v45
      (Draw fun S =>
        Pv (nilV v44) fun v46 =>
        Pv (fldV 1 v46) fun v47 =>
        Pv (fldV 4 v47) fun v48 =>
        Rv (some S) (ld1R v48) fun v49 =>
        Pv (binIV .neq v49 (Value.int .i64 0)) fun v50 =>
        Gd v50 true
          (Pv (nilV v44) fun v51 =>
          Pv (fldV 1 v51) fun v52 =>
          Pv (fldV 4 v52) fun v53 =>
          Rv (some S) (ld1R v53) fun v54 =>
          Pv (fldV 1 p3) fun v55 =>
          Rv (some S) (ld1R v55) fun v56 =>
          Pv (binIV .neq v54 v56) fun v57 =>
          Br v57
            (sh156_4 ω p4 p5 p6 v44 K)
            (Draw fun S =>
              Pv (nilV v44) fun v64 =>
              Pv (fldV 1 v64) fun v65 =>
              Pv (fldV 4 v65) fun v66 =>
              Rv (some S) (ld1R v66) fun v67 =>
              Pv (binIV .neq v67 (Value.int .i64 0)) fun v68 =>
              Gd v68 true
                (Pv (nilV v44) fun v69 =>
                Pv (fldV 1 v69) fun v70 =>
                Pv (fldV 0 v70) fun v71 =>
                Pv (fldV 0 v71) fun v72 =>
                Rv (some S) (ldNR 2 v72) fun v73 =>
                Rv (some S) (ldNR 2 p7) fun v74 =>
                Cal Tryz.prog ω 213 #[v73, v74] <| gh fun v75 =>
                Br v75
                  (sh156_5 ω p0 p3 p4 p5 p6 p7 v44 K)
                  (sh156_6 ω p0 p3 p4 p5 p6 p7 v44 K))
                (sh156_6 ω p0 p3 p4 p5 p6 p7 v44 K)))
          (Draw fun S =>
            Pv (nilV v44) fun v133 =>
            Pv (fldV 1 v133) fun v134 =>
            Pv (fldV 4 v134) fun v135 =>
            Rv (some S) (ld1R v135) fun v136 =>
            Pv (binIV .neq v136 (Value.int .i64 0)) fun v137 =>
            Gd v137 true
              (Pv (nilV v44) fun v138 =>
              Pv (fldV 1 v138) fun v139 =>
              Pv (fldV 0 v139) fun v140 =>
              Pv (fldV 0 v140) fun v141 =>
              Rv (some S) (ldNR 2 v141) fun v142 =>
              Rv (some S) (ldNR 2 p7) fun v143 =>
              Cal Tryz.prog ω 213 #[v142, v143] <| gh fun v144 =>
              Br v144
                (sh156_5 ω p0 p3 p4 p5 p6 p7 v44 K)
                (sh156_6 ω p0 p3 p4 p5 p6 p7 v44 K))
              (sh156_6 ω p0 p3 p4 p5 p6 p7 v44 K)))
      (sh156_8 ω p0 p3 p4 p5 p6 p7 K)
def sh156_2 (ω : Om) (p0 : Value) (p3 : Value) (p4 : Value) (p5 : Value) (p6 : Value) (p7 : Value) (K : Value → M) : M :=
  Pv (nilV p0) fun v35 =>
  Pv (fldV 2 v35) fun v36 =>
  Rv none (ldNR 2 v36) fun v37 =>
  Sto 2 p7 v37 <| gh fun _ =>
  sh156_3 ω p0 p3 p4 p5 p6 p7 K
def sh156 (ω : Om) (a0 : Value) (a1 : Value) (K : Value → M) : M :=
  New (.cells (Value.cells a1) 190 (0, 0)) <| gh fun x_1 =>
  New (.cells #[(Value.int .i64 0), (Value.int .i64 0)] 41 (0, 0)) <| gh fun v2 =>
  Pv (fldV 0 x_1) fun v3 =>
  Rv none (ld1R v3) fun v4 =>
  Cal Tryz.prog ω 143 #[v4] <| gh fun v5 =>
  Pv (unV .not v5) fun v6 =>
  Gd v6 false
    (Pv (fldV 1 x_1) fun v7 =>
    Rv none (ld1R v7) fun v8 =>
    Cal Tryz.prog ω 217 #[v8] <| gh fun v9 =>
    Pv (unV .not v9) fun v10 =>
    Gd v10 false
      (Pv (fldV 2 x_1) fun v11 =>
      Rv none (ldNR 2 v11) fun v12 =>
      Cal Tryz.prog ω 89 #[v12] <| gh fun v13 =>
      Pv (unV .not v13) fun v14 =>
      Gd v14 false
        (Pv (fldV 5 x_1) fun v15 =>
        Rv none (ld1R v15) fun v16 =>
        Pv (lenV v16) fun v17 =>
        Pv (binIV .gtr v17 (Value.int .i64 10000)) fun v18 =>
        Gd v18 false
          (Pv (fldV 4 x_1) fun v19 =>
          Rv none (ld1R v19) fun v20 =>
          Gd v20 true
            (Pv (fldV 5 x_1) fun v21 =>
            Rv none (ld1R v21) fun v22 =>
            Pv (lenV v22) fun v23 =>
            Pv (binIV .gtr v23 (Value.int .i64 0)) fun v24 =>
            Br v24
              (sh156_1 ω v2 (Value.int .i64 0) (Value.int .i64 0) K)
              (Pv (fldV 2 x_1) fun v27 =>
              Rv none (ldNR 2 v27) fun v28 =>
              New (.cells #[(Value.int .i64 0), (Value.int .i64 0)] 41 (0, 0)) <| gh fun at_29 =>
              Sto 2 at_29 v28 <| gh fun _ =>
              Draw fun S =>
                Pv (nilV a0) fun v30 =>
                Pv (fldV 2 v30) fun v31 =>
                Rv (some S) (ldNR 2 v31) fun v32 =>
                Rv (some S) (ldNR 2 at_29) fun v33 =>
                Cal Tryz.prog ω 213 #[v32, v33] <| gh fun v34 =>
                Br v34
                  (sh156_2 ω a0 x_1 v2 (Value.int .i64 0) (Value.int .i64 0) at_29 K)
                  (sh156_3 ω a0 x_1 v2 (Value.int .i64 0) (Value.int .i64 0) at_29 K)))
            (Pv (fldV 2 x_1) fun v145 =>
            Rv none (ldNR 2 v145) fun v146 =>
            New (.cells #[(Value.int .i64 0), (Value.int .i64 0)] 41 (0, 0)) <| gh fun at_147 =>
            Sto 2 at_147 v146 <| gh fun _ =>
            Draw fun S =>
              Pv (nilV a0) fun v148 =>
              Pv (fldV 2 v148) fun v149 =>
              Rv (some S) (ldNR 2 v149) fun v150 =>
              Rv (some S) (ldNR 2 at_147) fun v151 =>
              Cal Tryz.prog ω 213 #[v150, v151] <| gh fun v152 =>
              Br v152
                (sh156_2 ω a0 x_1 v2 (Value.int .i64 0) (Value.int .i64 0) at_147 K)
                (sh156_3 ω a0 x_1 v2 (Value.int .i64 0) (Value.int .i64 0) at_147 K)))
          (sh156_1 ω v2 (Value.int .i64 0) (Value.int .i64 0) K))
        (sh156_1 ω v2 (Value.int .i64 0) (Value.int .i64 0) K))
      (sh156_1 ω v2 (Value.int .i64 0) (Value.int .i64 0) K))
    (sh156_1 ω v2 (Value.int .i64 0) (Value.int .i64 0) K)
theorem sh156_eq (ω : Om) (a0 a1 : Value) (K : Value → M) : vcF Tryz.prog ω Tryz.f156 [a0, a1] K = sh156 ω a0 a1 K := by kernel_rfl
theorem cal156 {ω : Om} {a0 a1 : Value} {K : Value → M} {I : Imm} {L : LH} (h : sh156 ω a0 a1 (fun v => Gh (K v)) I L) : Cal Tryz.prog ω 156 #[a0, a1] K I L :=
  Cal.gh (cal_of_vc mixed Tryz.func156 (by rw [sh156_eq]; exact h))
def sh157 (ω : Om) (a0 : Value) (a1 : Value) (a2 : Value) (K : Value → M) : M :=
  New (.cells (Value.cells a1) 56 (0, 0)) <| gh fun c_1 =>
  New (.cells (Value.cells a2) 52 (0, 0)) <| gh fun r_2 =>
  Draw fun S =>
    Pv (nilV a0) fun v3 =>
    Pv (fldV 8 v3) fun v4 =>
    Rv (some S) (ld1R v4) fun v5 =>
    Pv (fldV 1 c_1) fun v6 =>
    Rv (some S) (ld1R v6) fun v7 =>
    Pv (fldV 2 c_1) fun v8 =>
    Rv (some S) (ld1R v8) fun v9 =>
    Pv (fldV 0 r_2) fun v10 =>
    Rv (some S) (ld1R v10) fun v11 =>
    Pv (fldV 7 r_2) fun v12 =>
    Rv (some S) (ldNR 2 v12) fun v13 =>
    Pv (bldV #[(Value.int .i64 0), (Value.int .i64 0), (Value.int .i64 0), (Value.int .i64 0)] #[(0, 1), (1, 1), (2, 2)] [(0, v9), (1, v11), (2, v13)]) fun v14 =>
    PutM (.int .i64) v5 v7 v14 <| gh fun _ =>
    Pv (nilV a0) fun v15 =>
    Pv (fldV 8 v15) fun v16 =>
    Rv none (ld1R v16) fun v17 =>
    Rv none (lenMR v17) fun v18 =>
    Pv (binIV .gtr v18 (Value.int .i64 64)) fun v19 =>
    Br v19
      (Pv (nilV a0) fun v20 =>
      Pv (fldV 8 v20) fun v21 =>
      Rv none (ld1R v21) fun v22 =>
      Cal Tryz.prog ω 130 #[v22] <| gh fun v23 =>
      Cal Tryz.prog ω 182 #[v23] <| gh fun v24 =>
      Cal Tryz.prog ω 218 #[v24] <| gh fun v25 =>
      Pv (nilV a0) fun v26 =>
      Pv (fldV 8 v26) fun v27 =>
      Rv none (ld1R v27) fun v28 =>
      DelM (.int .i64) v28 v25 <| gh fun _ =>
      Pv (nilV a0) fun v29 =>
      Pv (fldV 9 v29) fun v30 =>
      Sto 1 v30 v25 <| gh fun _ =>
      K (Value.tuple #[]))
      (K (Value.tuple #[]))
theorem sh157_eq (ω : Om) (a0 a1 a2 : Value) (K : Value → M) : vcF Tryz.prog ω Tryz.f157 [a0, a1, a2] K = sh157 ω a0 a1 a2 K := by kernel_rfl
theorem cal157 {ω : Om} {a0 a1 a2 : Value} {K : Value → M} {I : Imm} {L : LH} (h : sh157 ω a0 a1 a2 (fun v => Gh (K v)) I L) : Cal Tryz.prog ω 157 #[a0, a1, a2] K I L :=
  Cal.gh (cal_of_vc mixed Tryz.func157 (by rw [sh157_eq]; exact h))
def sh158 (ω : Om) (a0 : Value) (a1 : Value) (K : Value → M) : M :=
  New (.cells (Value.cells a0) 41 (0, 0)) <| gh fun a_1 =>
  New (.cells (Value.cells a1) 41 (0, 0)) <| gh fun b_2 =>
  Draw fun S =>
    Pv (fldV 0 a_1) fun v3 =>
    Rv (some S) (ld1R v3) fun v4 =>
    Pv (fldV 0 b_2) fun v5 =>
    Rv (some S) (ld1R v5) fun v6 =>
    Cal Tryz.prog ω 220 #[v4, v6] <| gh <| Keep S fun v7 =>
    Pv (fldV 1 a_1) fun v8 =>
    Rv (some S) (ld1R v8) fun v9 =>
    Pv (fldV 1 b_2) fun v10 =>
    Rv (some S) (ld1R v10) fun v11 =>
    Cal Tryz.prog ω 220 #[v9, v11] <| gh fun v12 =>
    BldS 3 1 #[(Value.int .i64 0)] 2 [(0, v7), (1, v12)] <| gh fun v13 =>
    Cal Tryz.prog ω 219 #[v13] <| gh fun v14 =>
    K v14
theorem sh158_eq (ω : Om) (a0 a1 : Value) (K : Value → M) : vcF Tryz.prog ω Tryz.f158 [a0, a1] K = sh158 ω a0 a1 K := by kernel_rfl
theorem cal158 {ω : Om} {a0 a1 : Value} {K : Value → M} {I : Imm} {L : LH} (h : sh158 ω a0 a1 (fun v => Gh (K v)) I L) : Cal Tryz.prog ω 158 #[a0, a1] K I L :=
  Cal.gh (cal_of_vc mixed Tryz.func158 (by rw [sh158_eq]; exact h))
def sh159_2 (ω : Om) (p10 : Value) (p11 : Value) (Rk : M) (K : Value → M) : M :=
  Sto 1 p10 (Value.bool true) <| gh fun _ =>
  Sto 1 p11 (Value.int .i64 0) <| gh fun _ =>
  Rk
def sh159_3 (ω : Om) (p10 : Value) (p11 : Value) (Rk : M) (K : Value → M) : M :=
  Sto 1 p10 (Value.bool true) <| gh fun _ =>
  Sto 1 p11 (Value.int .i64 0) <| gh fun _ =>
  Rk
def sh159_5 (ω : Om) (p10 : Value) (p11 : Value) (Q0 : Nat) (K : Value → M) : M :=
  Sto 1 p10 (Value.bool false) <| gh fun _ =>
  Sto 1 p11 (Value.int .i64 0) <| gh fun _ =>
  Tak Q0 <|
  Rv none (ld1R p10) fun v65 =>
  Rv none (ld1R p11) fun v66 =>
  K (Value.tuple #[v65, v66])
def sh159_1 (ω : Om) (p0 : Value) (p6 : Value) (p7 : Value) (p8 : Value) (p9 : Value) (p10 : Value) (p11 : Value) (p15 : Value) (K : Value → M) : M :=
  Br p15
    (Sto 1 p10 (Value.bool false) <| gh fun _ =>
    Sto 1 p11 (Value.int .i64 1) <| gh fun _ =>
    Rv none (ld1R p10) fun v11 =>
    Rv none (ld1R p11) fun v12 =>
    K (Value.tuple #[v11, v12]))
    (Draw fun S =>
      Pv (nilV p0) fun v13 =>
      Pv (fldV 2 v13) fun v14 =>
      Rv (some S) (ldNR 2 v14) fun v15 =>
      Rv (some S) (ldNR 2 p7) fun v16 =>
      Cal Tryz.prog ω 213 #[v15, v16] <| gh fun v17 =>
      Br v17
        (Sto 1 p10 (Value.bool false) <| gh fun _ =>
        Sto 1 p11 (Value.int .i64 131) <| gh fun _ =>
        Rv none (ld1R p10) fun v18 =>
        Rv none (ld1R p11) fun v19 =>
        K (Value.tuple #[v18, v19]))
        (Rv none (ldNR 2 p6) fun v20 =>
        Cal Tryz.prog ω 177 #[p0, v20] <| gh fun v21 =>
        RngF2 Tryz.prog ω v21 (fun r1_0 r1_1 Bg Nk Xk Rk =>
            Bg (Draw fun S =>
              Pv (nilV r1_1) fun v22 =>
              Pv (fldV 1 v22) fun v23 =>
              Pv (fldV 4 v23) fun v24 =>
              Rv (some S) (ld1R v24) fun v25 =>
              Pv (binIV .neq v25 (Value.int .i64 0)) fun v26 =>
              Gd v26 true
                (Pv (nilV r1_1) fun v27 =>
                Pv (fldV 1 v27) fun v28 =>
                Pv (fldV 4 v28) fun v29 =>
                Rv (some S) (ld1R v29) fun v30 =>
                Rv (some S) (ld1R p9) fun v31 =>
                Pv (binIV .neq v30 v31) fun v32 =>
                Gd v32 true
                  (Pv (nilV r1_1) fun v33 =>
                  Pv (fldV 1 v33) fun v34 =>
                  Pv (fldV 0 v34) fun v35 =>
                  Pv (fldV 0 v35) fun v36 =>
                  Rv (some S) (ldNR 2 v36) fun v37 =>
                  Rv (some S) (ldNR 2 p8) fun v38 =>
                  Cal Tryz.prog ω 213 #[v37, v38] <| gh fun v39 =>
                  Pv (unV .not v39) fun v40 =>
                  Br v40
                    (sh159_2 ω p10 p11 Rk K)
                    (Rv none (ldNR 2 p8) fun v41 =>
                    Cal Tryz.prog ω 221 #[r1_1, v41] <| gh fun v42 =>
                    Draw fun S =>
                      Pv (binPV .neq v42 (Value.pointer none)) fun v43 =>
                      Gd v43 true
                        (Pv (nilV v42) fun v44 =>
                        Pv (fldV 0 v44) fun v45 =>
                        Rv (some S) (ldNR 2 v45) fun v46 =>
                        Rv (some S) (ldNR 2 p7) fun v47 =>
                        Cal Tryz.prog ω 213 #[v46, v47] <| gh fun v48 =>
                        Br v48
                          (sh159_3 ω p10 p11 Rk K)
                          (Nk))
                        (Nk)))
                  (Rv none (ldNR 2 p8) fun v49 =>
                  Cal Tryz.prog ω 221 #[r1_1, v49] <| gh fun v50 =>
                  Draw fun S =>
                    Pv (binPV .neq v50 (Value.pointer none)) fun v51 =>
                    Gd v51 true
                      (Pv (nilV v50) fun v52 =>
                      Pv (fldV 0 v52) fun v53 =>
                      Rv (some S) (ldNR 2 v53) fun v54 =>
                      Rv (some S) (ldNR 2 p7) fun v55 =>
                      Cal Tryz.prog ω 213 #[v54, v55] <| gh fun v56 =>
                      Br v56
                        (sh159_3 ω p10 p11 Rk K)
                        (Nk))
                      (Nk)))
                (Rv none (ldNR 2 p8) fun v57 =>
                Cal Tryz.prog ω 221 #[r1_1, v57] <| gh fun v58 =>
                Draw fun S =>
                  Pv (binPV .neq v58 (Value.pointer none)) fun v59 =>
                  Gd v59 true
                    (Pv (nilV v58) fun v60 =>
                    Pv (fldV 0 v60) fun v61 =>
                    Rv (some S) (ldNR 2 v61) fun v62 =>
                    Rv (some S) (ldNR 2 p7) fun v63 =>
                    Cal Tryz.prog ω 213 #[v62, v63] <| gh fun v64 =>
                    Br v64
                      (sh159_3 ω p10 p11 Rk K)
                      (Nk))
                    (Nk))))
          (fun D1 => sh159_5 ω p10 p11 D1 K)
          (fun _ => [])
          (fun D1 => Tak D1 <|
            Rv none (ld1R p10) fun v67 =>
            Rv none (ld1R p11) fun v68 =>
            K (Value.tuple #[v67, v68]))))
def sh159 (ω : Om) (a0 : Value) (a1 : Value) (a2 : Value) (a3 : Value) (a4 : Value) (K : Value → M) : M :=
  New (.cells (Value.cells a1) 31 (0, 0)) <| gh fun p_1 =>
  New (.cells (Value.cells a2) 41 (0, 0)) <| gh fun from_2 =>
  New (.cells (Value.cells a3) 41 (0, 0)) <| gh fun to_3 =>
  New (.cells (Value.cells a4) 3 (0, 0)) <| gh fun txn_4 =>
  New (.cells #[(Value.bool false)] 4 (0, 0)) <| gh fun v5 =>
  New (.cells #[(Value.int .i64 0)] 26 (0, 0)) <| gh fun v6 =>
  Rv none (ldNR 2 from_2) fun v7 =>
  Rv none (ld1R txn_4) fun v8 =>
  Cal Tryz.prog ω 212 #[v7, v8] <| gh fun v9 =>
  Pv (unV .not v9) fun v10 =>
  Br v10
    (sh159_1 ω a0 p_1 from_2 to_3 txn_4 v5 v6 v10 K)
    (Rv none (ldNR 2 to_3) fun v69 =>
    Cal Tryz.prog ω 89 #[v69] <| gh fun v70 =>
    Pv (unV .not v70) fun v71 =>
    sh159_1 ω a0 p_1 from_2 to_3 txn_4 v5 v6 v71 K)
theorem sh159_eq (ω : Om) (a0 a1 a2 a3 a4 : Value) (K : Value → M) : vcF Tryz.prog ω Tryz.f159 [a0, a1, a2, a3, a4] K = sh159 ω a0 a1 a2 a3 a4 K := by kernel_rfl
theorem cal159 {ω : Om} {a0 a1 a2 a3 a4 : Value} {K : Value → M} {I : Imm} {L : LH} (h : sh159 ω a0 a1 a2 a3 a4 (fun v => Gh (K v)) I L) : Cal Tryz.prog ω 159 #[a0, a1, a2, a3, a4] K I L :=
  Cal.gh (cal_of_vc mixed Tryz.func159 (by rw [sh159_eq]; exact h))
def sh160 (ω : Om) (a0 : Value) (a1 : Value) (a2 : Value) (a3 : Value) (K : Value → M) : M :=
  New (.cells (Value.cells a3) 41 (0, 0)) <| gh fun at_1 =>
  Pv (nilV a0) fun v2 =>
  Pv (fldV 7 v2) fun v3 =>
  Rv none (ld1R v3) fun v4 =>
  Rv none (lkR (.int .i64) (Value.agg #[(Value.int .i64 0), (Value.int .i64 0), (Value.int .i64 0)]) true v4 a1) fun v5 =>
  Pv (exV v5 0) fun v6 =>
  Pv (exV v5 1) fun v7 =>
  New (.cells #[(Value.int .i64 0), (Value.int .i64 0), (Value.int .i64 0)] 194 (0, 0)) <| gh fun v8 =>
  Sto 3 v8 v6 <| gh fun _ =>
  Br v7
    (K (Value.bool true))
    (Pv (nilV a0) fun v9 =>
    Pv (fldV 7 v9) fun v10 =>
    Rv none (ld1R v10) fun v11 =>
    Rv none (lenMR v11) fun v12 =>
    Pv (binIV .geq v12 (Value.int .i64 64)) fun v13 =>
    Br v13
      (K (Value.bool false))
      (Draw fun S =>
        Pv (nilV a0) fun v14 =>
        Pv (fldV 7 v14) fun v15 =>
        Rv (some S) (ld1R v15) fun v16 =>
        Rv (some S) (ldNR 2 at_1) fun v17 =>
        Pv (bldV #[(Value.int .i64 0), (Value.int .i64 0), (Value.int .i64 0)] #[(0, 1), (1, 2)] [(0, a2), (1, v17)]) fun v18 =>
        PutM (.int .i64) v16 a1 v18 <| gh fun _ =>
        K (Value.bool true)))
theorem sh160_eq (ω : Om) (a0 a1 a2 a3 : Value) (K : Value → M) : vcF Tryz.prog ω Tryz.f160 [a0, a1, a2, a3] K = sh160 ω a0 a1 a2 a3 K := by kernel_rfl
theorem cal160 {ω : Om} {a0 a1 a2 a3 : Value} {K : Value → M} {I : Imm} {L : LH} (h : sh160 ω a0 a1 a2 a3 (fun v => Gh (K v)) I L) : Cal Tryz.prog ω 160 #[a0, a1, a2, a3] K I L :=
  Cal.gh (cal_of_vc mixed Tryz.func160 (by rw [sh160_eq]; exact h))
def sh161_5 (ω : Om) (p0 : Value) (p1 : Value) (p10 : Value) (p11 : Value) (K : Value → M) : M :=
  Rv none (bsR p1) fun v62 =>
  Cal Tryz.prog ω 222 #[p0, v62] <| gh fun v63 =>
  K (Value.tuple #[(Value.bool true), (Value.int .i64 0)])
def sh161_4 (ω : Om) (p0 : Value) (p1 : Value) (p9 : Value) (p10 : Value) (p11 : Value) (p12 : Value) (p13 : Value) (K : Value → M) : M :=
  Rv none (ldNR 2 p9) fun v49 =>
  Pv (fldV 0 p13) fun v50 =>
  Sto 2 v50 v49 <| gh fun _ =>
  Draw fun S =>
    Pv (nilV p12) fun v51 =>
    Pv (fldV 0 v51) fun v52 =>
    Rv (some S) (ld1R v52) fun v53 =>
    Rv (some S) (ldNR 4 p13) fun v54 =>
    BldS 253 4 #[(Value.int .i64 0), (Value.int .i64 0), (Value.bool false), (Value.string (ByteArray.mk #[]))] 1 [(0, v54)] <| gh <| Keep S fun v55 =>
    App 253 4 40 #[(Value.int .i64 0), (Value.int .i64 0), (Value.bool false), (Value.string (ByteArray.mk #[]))] v53 v55 <| gh fun v56 =>
    Pv (nilV p12) fun v57 =>
    Pv (fldV 0 v57) fun v58 =>
    Sto 1 v58 v56 <| gh fun _ =>
    Rv none (bsR p1) fun v59 =>
    Rv none (ldNR 4 p13) fun v60 =>
    Cal Tryz.prog ω 189 #[p0, v59, v60] <| gh fun v61 =>
    sh161_5 ω p0 p1 p10 p11 K
def sh161 (ω : Om) (a0 : Value) (a1 : Value) (a2 : Value) (a3 : Value) (a4 : Value) (K : Value → M) : M :=
  New (.cells (Value.cells a4) 41 (0, 0)) <| gh fun at_1 =>
  Cal Tryz.prog ω 143 #[a1] <| gh fun v2 =>
  Pv (unV .not v2) fun v3 =>
  Gd v3 false
    (Cal Tryz.prog ω 217 #[a2] <| gh fun v4 =>
    Pv (unV .not v4) fun v5 =>
    Gd v5 false
      (Gd a3 true
        (Rv none (ldNR 2 at_1) fun v6 =>
        Cal Tryz.prog ω 89 #[v6] <| gh fun v7 =>
        Pv (unV .not v7) fun v8 =>
        Br v8
          (K (Value.tuple #[(Value.bool false), (Value.int .i64 1)]))
          (Draw fun S =>
            Pv (nilV a0) fun v9 =>
            Pv (fldV 0 v9) fun v10 =>
            Rv (some S) (ld1R v10) fun v11 =>
            Rv (some S) (bsR a1) fun v12 =>
            Rv (some S) (lkR .string (Value.pointer none) false v11 v12) fun v13 =>
            Pv (binPV .eql v13 (Value.pointer none)) fun v14 =>
            Gd v14 false
              (Pv (nilV v13) fun v15 =>
              Pv (fldV 1 v15) fun v16 =>
              Pv (fldV 4 v16) fun v17 =>
              Rv none (ld1R v17) fun v18 =>
              Pv (binIV .neq v18 a2) fun v19 =>
              Br v19
                (K (Value.tuple #[(Value.bool false), (Value.int .i64 0)]))
                (Pv (nilV v13) fun v20 =>
                Pv (fldV 1 v20) fun v21 =>
                Pv (fldV 0 v21) fun v22 =>
                Rv none (ldNR 4 v22) fun v23 =>
                New (.cells #[(Value.int .i64 0), (Value.int .i64 0), (Value.bool false), (Value.string (ByteArray.mk #[]))] 253 (0, 0)) <| gh fun v_24 =>
                Sto 4 v_24 v23 <| gh fun _ =>
                Pv (nilV v13) fun v25 =>
                Pv (fldV 0 v25) fun v26 =>
                Rv none (ld1R v26) fun v27 =>
                Pv (lenV v27) fun v28 =>
                Draw fun S =>
                  Gd a3 true
                    (Pv (fldV 0 v_24) fun v29 =>
                    Rv (some S) (ldNR 2 v29) fun v30 =>
                    Rv (some S) (ldNR 2 at_1) fun v31 =>
                    Cal Tryz.prog ω 213 #[v30, v31] <| gh <| Keep S fun v32 =>
                    Gd v32 false
                      (Pv (binIV .gtr v28 (Value.int .i64 0)) fun v33 =>
                      Gd v33 true
                        (Rv (some S) (ldNR 2 at_1) fun v34 =>
                        Pv (nilV v13) fun v35 =>
                        Pv (fldV 0 v35) fun v36 =>
                        Rv (some S) (ld1R v36) fun v37 =>
                        Pv (binIV .sub v28 (Value.int .i64 1)) fun v38 =>
                        Pv (ixV 4 v37 v38) fun v39 =>
                        Pv (fldV 0 v39) fun v40 =>
                        Rv (some S) (ldNR 2 v40) fun v41 =>
                        Cal Tryz.prog ω 213 #[v34, v41] <| gh fun v42 =>
                        Pv (unV .not v42) fun v43 =>
                        Br v43
                          (K (Value.tuple #[(Value.bool false), (Value.int .i64 1)]))
                          (Pv (bldV #[(Value.int .i64 0), (Value.int .i64 0), (Value.bool false), (Value.string (ByteArray.mk #[])), (Value.int .i64 0)] #[(0, 4), (4, 1)] []) fun v44 =>
                          Pv (nilV v13) fun v45 =>
                          Pv (fldV 1 v45) fun v46 =>
                          Sto 5 v46 v44 <| gh fun _ =>
                          Rv none (bsR a1) fun v47 =>
                          Cal Tryz.prog ω 190 #[a0, v47] <| gh fun v48 =>
                          Br a3
                            (sh161_4 ω a0 a1 at_1 (Value.bool false) (Value.int .i64 0) v13 v_24 K)
                            (sh161_5 ω a0 a1 (Value.bool false) (Value.int .i64 0) K)))
                        (Pv (bldV #[(Value.int .i64 0), (Value.int .i64 0), (Value.bool false), (Value.string (ByteArray.mk #[])), (Value.int .i64 0)] #[(0, 4), (4, 1)] []) fun v64 =>
                        Pv (nilV v13) fun v65 =>
                        Pv (fldV 1 v65) fun v66 =>
                        Sto 5 v66 v64 <| gh fun _ =>
                        Rv none (bsR a1) fun v67 =>
                        Cal Tryz.prog ω 190 #[a0, v67] <| gh fun v68 =>
                        Br a3
                          (sh161_4 ω a0 a1 at_1 (Value.bool false) (Value.int .i64 0) v13 v_24 K)
                          (sh161_5 ω a0 a1 (Value.bool false) (Value.int .i64 0) K)))
                      (K (Value.tuple #[(Value.bool false), (Value.int .i64 1)])))
                    ((fun I L => S I L ∧ (Pv (bldV #[(Value.int .i64 0), (Value.int .i64 0), (Value.bool false), (Value.string (ByteArray.mk #[])), (Value.int .i64 0)] #[(0, 4), (4, 1)] []) fun v69 =>
                    Pv (nilV v13) fun v70 =>
                    Pv (fldV 1 v70) fun v71 =>
                    Sto 5 v71 v69 <| gh fun _ =>
                    Rv none (bsR a1) fun v72 =>
                    Cal Tryz.prog ω 190 #[a0, v72] <| gh fun v73 =>
                    Br a3
                      (sh161_4 ω a0 a1 at_1 (Value.bool false) (Value.int .i64 0) v13 v_24 K)
                      (sh161_5 ω a0 a1 (Value.bool false) (Value.int .i64 0) K)) I L))))
              (K (Value.tuple #[(Value.bool false), (Value.int .i64 0)]))))
        (Draw fun S =>
          Pv (nilV a0) fun v74 =>
          Pv (fldV 0 v74) fun v75 =>
          Rv (some S) (ld1R v75) fun v76 =>
          Rv (some S) (bsR a1) fun v77 =>
          Rv (some S) (lkR .string (Value.pointer none) false v76 v77) fun v78 =>
          Pv (binPV .eql v78 (Value.pointer none)) fun v79 =>
          Gd v79 false
            (Pv (nilV v78) fun v80 =>
            Pv (fldV 1 v80) fun v81 =>
            Pv (fldV 4 v81) fun v82 =>
            Rv none (ld1R v82) fun v83 =>
            Pv (binIV .neq v83 a2) fun v84 =>
            Br v84
              (K (Value.tuple #[(Value.bool false), (Value.int .i64 0)]))
              (Pv (nilV v78) fun v85 =>
              Pv (fldV 1 v85) fun v86 =>
              Pv (fldV 0 v86) fun v87 =>
              Rv none (ldNR 4 v87) fun v88 =>
              New (.cells #[(Value.int .i64 0), (Value.int .i64 0), (Value.bool false), (Value.string (ByteArray.mk #[]))] 253 (0, 0)) <| gh fun v_89 =>
              Sto 4 v_89 v88 <| gh fun _ =>
              Pv (nilV v78) fun v90 =>
              Pv (fldV 0 v90) fun v91 =>
              Rv none (ld1R v91) fun v92 =>
              Pv (lenV v92) fun v93 =>
              Draw fun S =>
                Gd a3 true
                  (Pv (fldV 0 v_89) fun v94 =>
                  Rv (some S) (ldNR 2 v94) fun v95 =>
                  Rv (some S) (ldNR 2 at_1) fun v96 =>
                  Cal Tryz.prog ω 213 #[v95, v96] <| gh <| Keep S fun v97 =>
                  Gd v97 false
                    (Pv (binIV .gtr v93 (Value.int .i64 0)) fun v98 =>
                    Gd v98 true
                      (Rv (some S) (ldNR 2 at_1) fun v99 =>
                      Pv (nilV v78) fun v100 =>
                      Pv (fldV 0 v100) fun v101 =>
                      Rv (some S) (ld1R v101) fun v102 =>
                      Pv (binIV .sub v93 (Value.int .i64 1)) fun v103 =>
                      Pv (ixV 4 v102 v103) fun v104 =>
                      Pv (fldV 0 v104) fun v105 =>
                      Rv (some S) (ldNR 2 v105) fun v106 =>
                      Cal Tryz.prog ω 213 #[v99, v106] <| gh fun v107 =>
                      Pv (unV .not v107) fun v108 =>
                      Br v108
                        (K (Value.tuple #[(Value.bool false), (Value.int .i64 1)]))
                        (Pv (bldV #[(Value.int .i64 0), (Value.int .i64 0), (Value.bool false), (Value.string (ByteArray.mk #[])), (Value.int .i64 0)] #[(0, 4), (4, 1)] []) fun v109 =>
                        Pv (nilV v78) fun v110 =>
                        Pv (fldV 1 v110) fun v111 =>
                        Sto 5 v111 v109 <| gh fun _ =>
                        Rv none (bsR a1) fun v112 =>
                        Cal Tryz.prog ω 190 #[a0, v112] <| gh fun v113 =>
                        Br a3
                          (sh161_4 ω a0 a1 at_1 (Value.bool false) (Value.int .i64 0) v78 v_89 K)
                          (sh161_5 ω a0 a1 (Value.bool false) (Value.int .i64 0) K)))
                      (Pv (bldV #[(Value.int .i64 0), (Value.int .i64 0), (Value.bool false), (Value.string (ByteArray.mk #[])), (Value.int .i64 0)] #[(0, 4), (4, 1)] []) fun v114 =>
                      Pv (nilV v78) fun v115 =>
                      Pv (fldV 1 v115) fun v116 =>
                      Sto 5 v116 v114 <| gh fun _ =>
                      Rv none (bsR a1) fun v117 =>
                      Cal Tryz.prog ω 190 #[a0, v117] <| gh fun v118 =>
                      Br a3
                        (sh161_4 ω a0 a1 at_1 (Value.bool false) (Value.int .i64 0) v78 v_89 K)
                        (sh161_5 ω a0 a1 (Value.bool false) (Value.int .i64 0) K)))
                    (K (Value.tuple #[(Value.bool false), (Value.int .i64 1)])))
                  ((fun I L => S I L ∧ (Pv (bldV #[(Value.int .i64 0), (Value.int .i64 0), (Value.bool false), (Value.string (ByteArray.mk #[])), (Value.int .i64 0)] #[(0, 4), (4, 1)] []) fun v119 =>
                  Pv (nilV v78) fun v120 =>
                  Pv (fldV 1 v120) fun v121 =>
                  Sto 5 v121 v119 <| gh fun _ =>
                  Rv none (bsR a1) fun v122 =>
                  Cal Tryz.prog ω 190 #[a0, v122] <| gh fun v123 =>
                  Br a3
                    (sh161_4 ω a0 a1 at_1 (Value.bool false) (Value.int .i64 0) v78 v_89 K)
                    (sh161_5 ω a0 a1 (Value.bool false) (Value.int .i64 0) K)) I L))))
            (K (Value.tuple #[(Value.bool false), (Value.int .i64 0)]))))
      (K (Value.tuple #[(Value.bool false), (Value.int .i64 1)])))
    (K (Value.tuple #[(Value.bool false), (Value.int .i64 1)]))
theorem sh161_eq (ω : Om) (a0 a1 a2 a3 a4 : Value) (K : Value → M) : vcF Tryz.prog ω Tryz.f161 [a0, a1, a2, a3, a4] K = sh161 ω a0 a1 a2 a3 a4 K := by kernel_rfl
theorem cal161 {ω : Om} {a0 a1 a2 a3 a4 : Value} {K : Value → M} {I : Imm} {L : LH} (h : sh161 ω a0 a1 a2 a3 a4 (fun v => Gh (K v)) I L) : Cal Tryz.prog ω 161 #[a0, a1, a2, a3, a4] K I L :=
  Cal.gh (cal_of_vc mixed Tryz.func161 (by rw [sh161_eq]; exact h))
def sh162_4 (ω : Om) (p34 : Value) (Kn0 : (Value × Unit) → M) (K : Value → M) : M :=
  Pv (binIV .add p34 (Value.int .i64 1)) fun v41 =>
  Kn0 (v41, ())
def sh162_5 (ω : Om) (p2 : Value) (p6 : Value) (p8 : Value) (p9 : Value) (p11 : Value) (p12 : Value) (p34 : Value) (Kn0 : (Value × Unit) → M) (K : Value → M) : M :=
  Pv (nilV p9) fun v42 =>
  Pv (fldV 0 v42) fun v43 =>
  Rv none (ld1R v43) fun v44 =>
  Cal Tryz.prog ω 223 #[v44, (Value.func (Fn.func 224) #[] #[p11, p12, p6, p2, p8])] <| gh fun v45 =>
  Pv (nilV p9) fun v46 =>
  Pv (fldV 0 v46) fun v47 =>
  Sto 1 v47 v45 <| gh fun _ =>
  Rv none (ld1R p2) fun v48 =>
  Rv none (ld1R p8) fun v49 =>
  Cal Tryz.prog ω 222 #[v48, v49] <| gh fun v50 =>
  sh162_4 ω p34 Kn0 K
def sh162_7 (ω : Om) (p4 : Value) (p5 : Value) (p6 : Value) (K : Value → M) : M :=
  Rv none (ld1R p6) fun v61 =>
  K (Value.tuple #[v61, (Value.int .i64 0)])
def sh162_2 (ω : Om) (p2 : Value) (p4 : Value) (p5 : Value) (p6 : Value) (p32 : Value) (p33 : Value) (x34 : Value) (Kn0 : (Value × Unit) → M) (K : Value → M) : M :=
  Pv (binIV .lss x34 p33) fun v25 =>
  Br v25
    (Pv (ixV 1 p32 x34) fun v26 =>
    Rv none (ld1R v26) fun v27 =>
    New (.cells #[(Value.string (ByteArray.mk #[]))] 9 (0, 0)) <| gh fun key_28 =>
    Sto 1 key_28 v27 <| gh fun _ =>
    Draw fun S =>
      Rv (some S) (ld1R p2) fun v29 =>
      Pv (nilV v29) fun v30 =>
      Pv (fldV 0 v30) fun v31 =>
      Rv (some S) (ld1R v31) fun v32 =>
      Rv (some S) (ld1R key_28) fun v33 =>
      Rv (some S) (lkR .string (Value.pointer none) false v32 v33) fun v34 =>
      Rv none (ld1R p2) fun v35 =>
      Pv (nilV v35) fun v36 =>
      Pv (fldV 2 v36) fun v37 =>
      Rv none (ldNR 2 v37) fun v38 =>
      Cal Tryz.prog ω 221 #[v34, v38] <| gh fun v39 =>
      Pv (binPV .eql v39 (Value.pointer none)) fun v40 =>
      Br v40
        (sh162_4 ω x34 Kn0 K)
        (Draw fun S =>
          Pv (nilV v39) fun v51 =>
          Pv (fldV 0 v51) fun v52 =>
          Rv (some S) (ldNR 2 v52) fun v53 =>
          Pv (nilV v39) fun v54 =>
          Pv (fldV 2 v54) fun v55 =>
          Rv (some S) (ld1R v55) fun v56 =>
          (fun I L => (New (.cells #[(Value.int .i64 0), (Value.int .i64 0)] 41 (0, 0)) <| gh <| Keep S fun limit_57 =>
            New (.cells #[(Value.bool false)] 4 (0, 0)) <| gh <| Keep S fun del_58 =>
            Sto 2 limit_57 v53 <| gh <| Keep S fun _ =>
            Sto 1 del_58 v56 <| gh fun _ =>
            sh162_5 ω p2 p6 key_28 v34 limit_57 del_58 x34 Kn0 K) I L ∧ (New (.cells #[(Value.bool false)] 4 (0, 0)) <| gh <| Keep S fun del_59 =>
            New (.cells #[(Value.int .i64 0), (Value.int .i64 0)] 41 (0, 0)) <| gh <| Keep S fun limit_60 =>
            Sto 2 limit_60 v53 <| gh <| Keep S fun _ =>
            Sto 1 del_59 v56 <| gh fun _ =>
            sh162_5 ω p2 p6 key_28 v34 limit_60 del_59 x34 Kn0 K) I L)))
    (sh162_7 ω p4 p5 p6 K)
def sh162_1 (ω : Om) (p2 : Value) (p4 : Value) (p5 : Value) (K : Value → M) : M :=
  New (.cells #[(Value.int .i64 0)] 3 (0, 0)) <| gh fun gone_18 =>
  Sto 1 gone_18 (Value.int .i64 0) <| gh fun _ =>
  Rv none (ld1R p2) fun v19 =>
  Pv (nilV v19) fun v20 =>
  Pv (fldV 1 v20) fun v21 =>
  Rv none (ld1R v21) fun v22 =>
  Cal Tryz.prog ω 145 #[v22] <| gh fun v23 =>
  Pv (lenV v23) fun v24 =>
  LoopM (((Value.int .i64 0), ()) : Value × Unit) fun s Kn0 =>
  sh162_2 ω p2 p4 p5 gone_18 v23 v24 s.1 Kn0 K
def sh162 (ω : Om) (a0 : Value) (a1 : Value) (K : Value → M) : M :=
  New (.cells (Value.cells a0) 99 (0, 0)) <| gh fun s_1 =>
  New (.cells (Value.cells a1) 41 (0, 0)) <| gh fun below_2 =>
  Rv none (ldNR 2 below_2) fun v3 =>
  Cal Tryz.prog ω 89 #[v3] <| gh fun v4 =>
  Pv (unV .not v4) fun v5 =>
  Br v5
    (K (Value.tuple #[(Value.int .i64 0), (Value.int .i64 1)]))
    (Draw fun S =>
      Rv (some S) (ldNR 2 below_2) fun v6 =>
      Rv (some S) (ld1R s_1) fun v7 =>
      Pv (nilV v7) fun v8 =>
      Pv (fldV 2 v8) fun v9 =>
      Rv (some S) (ldNR 2 v9) fun v10 =>
      Cal Tryz.prog ω 213 #[v6, v10] <| gh fun v11 =>
      Br v11
        (Rv none (ld1R s_1) fun v12 =>
        Rv none (ldNR 2 below_2) fun v13 =>
        Pv (nilV v12) fun v14 =>
        Pv (fldV 2 v14) fun v15 =>
        Sto 2 v15 v13 <| gh fun _ =>
        Rv none (ld1R s_1) fun v16 =>
        Cal Tryz.prog ω 131 #[v16] <| gh fun v17 =>
        sh162_1 ω s_1 (Value.int .i64 0) (Value.int .i64 0) K)
        (sh162_1 ω s_1 (Value.int .i64 0) (Value.int .i64 0) K))
theorem sh162_eq (ω : Om) (a0 a1 : Value) (K : Value → M) : vcF Tryz.prog ω Tryz.f162 [a0, a1] K = sh162 ω a0 a1 K := by kernel_rfl
theorem cal162 {ω : Om} {a0 a1 : Value} {K : Value → M} {I : Imm} {L : LH} (h : sh162 ω a0 a1 (fun v => Gh (K v)) I L) : Cal Tryz.prog ω 162 #[a0, a1] K I L :=
  Cal.gh (cal_of_vc mixed Tryz.func162 (by rw [sh162_eq]; exact h))
def sh164_1 (ω : Om) (p0 : Value) (p1 : Value) (p7 : Value) (Kn0 : (Unit) → M) (K : Value → M) : M :=
  NxtM p7 <| gh fun v2 =>
  Pv (exV v2 0) fun v3 =>
  Br v3
    (Rv none (entR p7) fun v4 =>
    Pv (exV v4 0) fun v5 =>
    Pv (exV v4 1) fun v6 =>
    New (.cells #[(Value.int .i64 0), (Value.int .i64 0), (Value.int .i64 0)] 159 (0, 0)) <| gh fun v_7 =>
    Sto 3 v_7 v6 <| gh fun _ =>
    Rv none (ldNR 3 v_7) fun v8 =>
    CalV Tryz.prog ω p1 #[v5, v8] <| gh fun v9 =>
    Br v9
      (DelM .string p0 v5 <| gh fun _ =>
      Kn0 (()))
      (Kn0 (())))
    (K (Value.tuple #[]))
def sh164 (ω : Om) (a0 : Value) (a1 : Value) (K : Value → M) : M :=
  RngMp a0 <| gh fun v1 =>
  LoopM ((()) : Unit) fun s Kn0 =>
  sh164_1 ω a0 a1 v1 Kn0 K
theorem sh164_eq (ω : Om) (a0 a1 : Value) (K : Value → M) : vcF Tryz.prog ω Tryz.f164 [a0, a1] K = sh164 ω a0 a1 K := by kernel_rfl
theorem cal164 {ω : Om} {a0 a1 : Value} {K : Value → M} {I : Imm} {L : LH} (h : sh164 ω a0 a1 (fun v => Gh (K v)) I L) : Cal Tryz.prog ω 164 #[a0, a1] K I L :=
  Cal.gh (cal_of_vc mixed Tryz.func164 (by rw [sh164_eq]; exact h))
def sh165 (ω : Om) (a0 : Value) (a1 : Value) (a2 : Value) (K : Value → M) : M :=
  New (.cells (Value.cells a1) 159 (0, 0)) <| gh fun v1 =>
  Pv (fldV 10 a2) fun v2 =>
  Rv none (ld1R v2) fun v3 =>
  Rv none (bsR v3) fun v4 =>
  Pv (binSV .geq a0 v4) fun v5 =>
  K v5
theorem sh165_eq (ω : Om) (a0 a1 a2 : Value) (K : Value → M) : vcF Tryz.prog ω Tryz.f165 [a0, a1, a2] K = sh165 ω a0 a1 a2 K := by kernel_rfl
theorem cal165 {ω : Om} {a0 a1 a2 : Value} {K : Value → M} {I : Imm} {L : LH} (h : sh165 ω a0 a1 a2 (fun v => Gh (K v)) I L) : Cal Tryz.prog ω 165 #[a0, a1, a2] K I L :=
  Cal.gh (cal_of_vc mixed Tryz.func165 (by rw [sh165_eq]; exact h))
def sh177 (ω : Om) (a0 : Value) (a1 : Value) (K : Value → M) : M :=
  New (.cells (Value.cells a0) 99 (0, 0)) <| gh fun s_1 =>
  New (.cells (Value.cells a1) 31 (0, 0)) <| gh fun p_2 =>
  K (Value.func (Fn.func 229) #[] #[s_1, p_2])
theorem sh177_eq (ω : Om) (a0 a1 : Value) (K : Value → M) : vcF Tryz.prog ω Tryz.f177 [a0, a1] K = sh177 ω a0 a1 K := by kernel_rfl
theorem cal177 {ω : Om} {a0 a1 : Value} {K : Value → M} {I : Imm} {L : LH} (h : sh177 ω a0 a1 (fun v => Gh (K v)) I L) : Cal Tryz.prog ω 177 #[a0, a1] K I L :=
  Cal.gh (cal_of_vc mixed Tryz.func177 (by rw [sh177_eq]; exact h))
def sh178 (ω : Om) (a0 : Value) (K : Value → M) : M :=
  Pv (lenV a0) fun v1 =>
  Pv (lenV a0) fun v2 =>
  Pv (slcV 1 a0 none (some v1) (some v2)) fun v3 =>
  K v3
theorem sh178_eq (ω : Om) (a0 : Value) (K : Value → M) : vcF Tryz.prog ω Tryz.f178 [a0] K = sh178 ω a0 K := by kernel_rfl
theorem cal178 {ω : Om} {a0 : Value} {K : Value → M} {I : Imm} {L : LH} (h : sh178 ω a0 (fun v => Gh (K v)) I L) : Cal Tryz.prog ω 178 #[a0] K I L :=
  Cal.gh (cal_of_vc mixed Tryz.func178 (by rw [sh178_eq]; exact h))
def sh179 (ω : Om) (a0 : Value) (K : Value → M) : M :=
  Cal Tryz.prog ω 230 #[(Value.slice none 0 0), a0] <| gh fun v1 =>
  K v1
theorem sh179_eq (ω : Om) (a0 : Value) (K : Value → M) : vcF Tryz.prog ω Tryz.f179 [a0] K = sh179 ω a0 K := by kernel_rfl
theorem cal179 {ω : Om} {a0 : Value} {K : Value → M} {I : Imm} {L : LH} (h : sh179 ω a0 (fun v => Gh (K v)) I L) : Cal Tryz.prog ω 179 #[a0] K I L :=
  Cal.gh (cal_of_vc mixed Tryz.func179 (by rw [sh179_eq]; exact h))
def sh181_1 (ω : Om) (p0 : Value) (p5 : Value) (Kn0 : (Unit) → M) (K : Value → M) : M :=
  NxtM p5 <| gh fun v3 =>
  Pv (exV v3 0) fun v4 =>
  Br v4
    (Rv none (entR p5) fun v5 =>
    Pv (exV v5 0) fun v6 =>
    CalV Tryz.prog ω p0 #[v6] <| gh fun v7 =>
    Pv (unV .not v7) fun v8 =>
    Br v8
      (K (Value.tuple #[]))
      (Kn0 (())))
    (K (Value.tuple #[]))
def sh181 (ω : Om) (a0 : Value) (a1 : Value) (K : Value → M) : M :=
  Rv none (ld1R a1) fun v1 =>
  RngMp v1 <| gh fun v2 =>
  LoopM ((()) : Unit) fun s Kn0 =>
  sh181_1 ω a0 v2 Kn0 K
theorem sh181_eq (ω : Om) (a0 a1 : Value) (K : Value → M) : vcF Tryz.prog ω Tryz.f181 [a0, a1] K = sh181 ω a0 a1 K := by kernel_rfl
theorem cal181 {ω : Om} {a0 a1 : Value} {K : Value → M} {I : Imm} {L : LH} (h : sh181 ω a0 a1 (fun v => Gh (K v)) I L) : Cal Tryz.prog ω 181 #[a0, a1] K I L :=
  Cal.gh (cal_of_vc mixed Tryz.func181 (by rw [sh181_eq]; exact h))
def sh182 (ω : Om) (a0 : Value) (K : Value → M) : M :=
  Cal Tryz.prog ω 232 #[(Value.slice none 0 0), a0] <| gh fun v1 =>
  K v1
theorem sh182_eq (ω : Om) (a0 : Value) (K : Value → M) : vcF Tryz.prog ω Tryz.f182 [a0] K = sh182 ω a0 K := by kernel_rfl
theorem cal182 {ω : Om} {a0 : Value} {K : Value → M} {I : Imm} {L : LH} (h : sh182 ω a0 (fun v => Gh (K v)) I L) : Cal Tryz.prog ω 182 #[a0] K I L :=
  Cal.gh (cal_of_vc mixed Tryz.func182 (by rw [sh182_eq]; exact h))
def sh185_1 (ω : Om) (p0 : Value) (p5 : Value) (Kn0 : (Unit) → M) (K : Value → M) : M :=
  NxtM p5 <| gh fun v3 =>
  Pv (exV v3 0) fun v4 =>
  Br v4
    (Rv none (entR p5) fun v5 =>
    Pv (exV v5 0) fun v6 =>
    CalV Tryz.prog ω p0 #[v6] <| gh fun v7 =>
    Pv (unV .not v7) fun v8 =>
    Br v8
      (K (Value.tuple #[]))
      (Kn0 (())))
    (K (Value.tuple #[]))
def sh185 (ω : Om) (a0 : Value) (a1 : Value) (K : Value → M) : M :=
  Rv none (ld1R a1) fun v1 =>
  RngMp v1 <| gh fun v2 =>
  LoopM ((()) : Unit) fun s Kn0 =>
  sh185_1 ω a0 v2 Kn0 K
theorem sh185_eq (ω : Om) (a0 a1 : Value) (K : Value → M) : vcF Tryz.prog ω Tryz.f185 [a0, a1] K = sh185 ω a0 a1 K := by kernel_rfl
theorem cal185 {ω : Om} {a0 a1 : Value} {K : Value → M} {I : Imm} {L : LH} (h : sh185 ω a0 a1 (fun v => Gh (K v)) I L) : Cal Tryz.prog ω 185 #[a0, a1] K I L :=
  Cal.gh (cal_of_vc mixed Tryz.func185 (by rw [sh185_eq]; exact h))
def sh186_3 (ω : Om) (p1 : Value) (p2 : Value) (p3 : Value) (p4 : Value) (K : Value → M) : M :=
  Pv (fldV 1 p1) fun v14 =>
  Rv none (ld1R v14) fun v15 =>
  Pv (binIV .shr v15 (Value.int .u64 8)) fun v16 =>
  Pv (cvIV .u8 v16) fun v17 =>
  Pv (fldV 1 p1) fun v18 =>
  Rv none (ld1R v18) fun v19 =>
  Pv (cvIV .u8 v19) fun v20 =>
  BldS 5 1 #[(Value.int .u8 0)] 2 [(0, v17), (1, v20)] <| gh fun v21 =>
  App 5 1 1 #[(Value.int .u8 0)] p4 v21 <| gh fun v22 =>
  K (Value.tuple #[v22, (Value.int .i64 0)])
def sh186_1 (ω : Om) (p1 : Value) (p2 : Value) (p3 : Value) (x4 : Value) (x5 : Value) (Kn0 : (Value × Value × Unit) → M) (K : Value → M) : M :=
  Pv (binIV .geq x5 (Value.int .i64 0)) fun v6 =>
  Br v6
    (Pv (fldV 0 p1) fun v7 =>
    Rv none (ld1R v7) fun v8 =>
    Pv (binIV .shr v8 x5) fun v9 =>
    Pv (cvIV .u8 v9) fun v10 =>
    BldS 5 1 #[(Value.int .u8 0)] 1 [(0, v10)] <| gh fun v11 =>
    App 5 1 1 #[(Value.int .u8 0)] x4 v11 <| gh fun v12 =>
    Pv (binIV .sub x5 (Value.int .i64 8)) fun v13 =>
    Kn0 (v12, v13, ()))
    (sh186_3 ω p1 p2 p3 x4 K)
def sh186 (ω : Om) (a0 : Value) (K : Value → M) : M :=
  New (.cells (Value.cells a0) 41 (0, 0)) <| gh fun s_1 =>
  Rv none (ldNR 2 s_1) fun v2 =>
  Cal Tryz.prog ω 89 #[v2] <| gh fun v3 =>
  Pv (unV .not v3) fun v4 =>
  Br v4
    (K (Value.tuple #[(Value.slice none 0 0), (Value.int .i64 80)]))
    (MkS 5 1 #[(Value.int .u8 0)] (Value.int .i64 0) (Value.int .i64 9) <| gh fun v5 =>
    LoopM ((v5, (Value.int .i64 48), ()) : Value × Value × Unit) fun s Kn0 =>
    sh186_1 ω s_1 (Value.slice none 0 0) (Value.int .i64 0) s.1 s.2.1 Kn0 K)
theorem sh186_eq (ω : Om) (a0 : Value) (K : Value → M) : vcF Tryz.prog ω Tryz.f186 [a0] K = sh186 ω a0 K := by kernel_rfl
theorem cal186 {ω : Om} {a0 : Value} {K : Value → M} {I : Imm} {L : LH} (h : sh186 ω a0 (fun v => Gh (K v)) I L) : Cal Tryz.prog ω 186 #[a0] K I L :=
  Cal.gh (cal_of_vc mixed Tryz.func186 (by rw [sh186_eq]; exact h))
def sh187 (ω : Om) (a0 : Value) (a1 : Value) (a2 : Value) (a3 : Value) (K : Value → M) : M :=
  Draw fun S =>
    Pv (nilV a0) fun v1 =>
    Pv (fldV 4 v1) fun v2 =>
    Rv (some S) (ld1R v2) fun v3 =>
    Rv (some S) (bsR a1) fun v4 =>
    Pv (bldV #[(Value.bool false), (Value.slice none 0 0), (Value.slice none 0 0)] #[(0, 1), (1, 1), (2, 1)] [(0, a3), (1, a1), (2, a2)]) fun v5 =>
    PutM .string v3 v4 v5 <| gh fun _ =>
    K (Value.tuple #[])
theorem sh187_eq (ω : Om) (a0 a1 a2 a3 : Value) (K : Value → M) : vcF Tryz.prog ω Tryz.f187 [a0, a1, a2, a3] K = sh187 ω a0 a1 a2 a3 K := by kernel_rfl
theorem cal187 {ω : Om} {a0 a1 a2 a3 : Value} {K : Value → M} {I : Imm} {L : LH} (h : sh187 ω a0 a1 a2 a3 (fun v => Gh (K v)) I L) : Cal Tryz.prog ω 187 #[a0, a1, a2, a3] K I L :=
  Cal.gh (cal_of_vc mixed Tryz.func187 (by rw [sh187_eq]; exact h))
def sh188 (ω : Om) (a0 : Value) (a1 : Value) (a2 : Value) (K : Value → M) : M :=
  New (.cells (Value.cells a2) 253 (0, 0)) <| gh fun v_1 =>
  Rv none (ldNR 4 v_1) fun v2 =>
  Cal Tryz.prog ω 234 #[a1, v2] <| gh fun v3 =>
  Cal Tryz.prog ω 187 #[a0, v3, (Value.slice none 0 0), (Value.bool true)] <| gh fun v4 =>
  K (Value.tuple #[])
theorem sh188_eq (ω : Om) (a0 a1 a2 : Value) (K : Value → M) : vcF Tryz.prog ω Tryz.f188 [a0, a1, a2] K = sh188 ω a0 a1 a2 K := by kernel_rfl
theorem cal188 {ω : Om} {a0 a1 a2 : Value} {K : Value → M} {I : Imm} {L : LH} (h : sh188 ω a0 a1 a2 (fun v => Gh (K v)) I L) : Cal Tryz.prog ω 188 #[a0, a1, a2] K I L :=
  Cal.gh (cal_of_vc mixed Tryz.func188 (by rw [sh188_eq]; exact h))
def sh189 (ω : Om) (a0 : Value) (a1 : Value) (a2 : Value) (K : Value → M) : M :=
  New (.cells (Value.cells a2) 253 (0, 0)) <| gh fun v_1 =>
  Draw fun S =>
    Rv (some S) (ldNR 4 v_1) fun v2 =>
    Cal Tryz.prog ω 234 #[a1, v2] <| gh <| Keep S fun v3 =>
    Rv (some S) (ldNR 4 v_1) fun v4 =>
    Cal Tryz.prog ω 235 #[v4] <| gh fun v5 =>
    Cal Tryz.prog ω 187 #[a0, v3, v5, (Value.bool false)] <| gh fun v6 =>
    K (Value.tuple #[])
theorem sh189_eq (ω : Om) (a0 a1 a2 : Value) (K : Value → M) : vcF Tryz.prog ω Tryz.f189 [a0, a1, a2] K = sh189 ω a0 a1 a2 K := by kernel_rfl
theorem cal189 {ω : Om} {a0 a1 a2 : Value} {K : Value → M} {I : Imm} {L : LH} (h : sh189 ω a0 a1 a2 (fun v => Gh (K v)) I L) : Cal Tryz.prog ω 189 #[a0, a1, a2] K I L :=
  Cal.gh (cal_of_vc mixed Tryz.func189 (by rw [sh189_eq]; exact h))
end Go.Proofs.YtmmfcgbfbcamcaaGreatDoor
