/-
  Lemmas, part 3: laid together by a program.
-/
import Derived.Test.YtmmfcgbfbcamcaaGreatDoorChecked
import Derived.Test.YtmmfcgbfbcamcaaGreatDoorP2
set_option maxRecDepth 100000
set_option linter.unusedVariables false
namespace Go.Proofs.YtmmfcgbfbcamcaaGreatDoor
open Go.SL
theorem mixed : Tryz.prog.follows .mixedOrders = true := by kernel_rfl
def sh5 (ω : Om) (a0 : Value) (K : Value → M) : M :=
  New (.cells (Value.cells a0) 56 (0, 0)) <| gh fun c_1 =>
  Cal Tryz.prog ω 10 #[] <| gh fun v2 =>
  Rv none (ldNR 15 c_1) fun v3 =>
  Cal Tryz.prog ω 19 #[v3] <| gh fun v4 =>
  Pv (exV v4 0) fun v5 =>
  Pv (exV v4 1) fun v6 =>
  Rv none (ldNR 15 c_1) fun v7 =>
  Cal Tryz.prog ω 20 #[v7] <| gh fun v8 =>
  Pv (unV .not v8) fun v9 =>
  Br v9
    (Gd v2 true
      (Pv (binIV .eql v6 (Value.int .i64 140)) fun v10 =>
      Gd v10 true
        (Pv (lenV v5) fun v11 =>
        Pv (binIV .eql v11 (Value.int .i64 0)) fun v12 =>
        K v12)
        (K (Value.bool false)))
      (K (Value.bool false)))
    (Cal Tryz.prog ω 21 #[v5] <| gh fun v13 =>
    Pv (exV v13 0) fun v14 =>
    Pv (exV v13 1) fun v15 =>
    New (.cells #[(Value.int .i64 0), (Value.int .i64 0), (Value.int .i64 0), (Value.int .i64 0), (Value.int .i64 0), (Value.int .i64 0), (Value.int .i64 0), (Value.int .i64 0), (Value.bool false), (Value.bool false), (Value.slice none 0 0), (Value.slice none 0 0), (Value.slice none 0 0), (Value.slice none 0 0), (Value.int .i64 0)] 56 (0, 0)) <| gh fun d_16 =>
    Sto 15 d_16 v14 <| gh fun _ =>
    Rv none (ldNR 15 c_1) fun v17 =>
    Rv none (ldNR 15 d_16) fun v18 =>
    Cal Tryz.prog ω 22 #[v17, v18] <| gh fun v19 =>
    Gd v2 true
      (Pv (binIV .eql v6 (Value.int .i64 0)) fun v20 =>
      Gd v20 true
        (Pv (binIV .eql v15 (Value.int .i64 0)) fun v21 =>
        Gd v21 true
          (Gd v19 true
            (Pv (lenV v5) fun v22 =>
            Pv (binIV .leq v22 (Value.int .i64 12000)) fun v23 =>
            K v23)
            (K (Value.bool false)))
          (K (Value.bool false)))
        (K (Value.bool false)))
      (K (Value.bool false)))
theorem sh5_eq (ω : Om) (a0 : Value) (K : Value → M) : vcF Tryz.prog ω Tryz.f5 [a0] K = sh5 ω a0 K := by kernel_rfl
theorem cal5 {ω : Om} {a0 : Value} {K : Value → M} {I : Imm} {L : LH} (h : sh5 ω a0 (fun v => Gh (K v)) I L) : Cal Tryz.prog ω 5 #[a0] K I L :=
  Cal.gh (cal_of_vc mixed Tryz.func5 (by rw [sh5_eq]; exact h))
def sh10 (ω : Om) (K : Value → M) : M :=
  Pv (bldV #[(Value.slice none 0 0), (Value.slice none 0 0)] #[(0, 1), (1, 1)] []) fun v1 =>
  Cal Tryz.prog ω 11 #[v1] <| gh fun v2 =>
  Pv (exV v2 0) fun v3 =>
  Pv (exV v2 1) fun v4 =>
  Pv (binIV .neq v4 (Value.int .i64 0)) fun v5 =>
  Gd v5 false
    (Pv (binPV .eql v3 (Value.pointer none)) fun v6 =>
    Br v6
      (K (Value.bool false))
      (BldS 5 1 #[(Value.int .u8 0)] 1 [(0, (Value.int .u8 97))] <| gh fun v7 =>
      MrkS v7 <| gh fun v8 =>
      BldS 5 1 #[(Value.int .u8 0)] 1 [(0, (Value.int .u8 120))] <| gh fun v9 =>
      MrkS v9 <| gh fun v10 =>
      Pv (bldV #[(Value.int .i64 0), (Value.int .i64 0), (Value.int .i64 0), (Value.int .i64 0), (Value.int .i64 0), (Value.int .i64 0), (Value.int .i64 0), (Value.int .i64 0), (Value.bool false), (Value.bool false), (Value.slice none 0 0), (Value.slice none 0 0), (Value.slice none 0 0), (Value.slice none 0 0), (Value.int .i64 0)] #[(0, 1), (1, 1), (2, 1), (3, 2), (5, 2), (7, 1), (8, 1), (9, 1), (10, 1), (11, 1), (12, 2), (14, 1)] [(0, (Value.int .i64 3)), (1, (Value.int .i64 1)), (2, (Value.int .i64 1)), (8, v8), (9, v10)]) fun v11 =>
      Cal Tryz.prog ω 12 #[v3, v11] <| gh fun v12 =>
      Pv (exV v12 0) fun v13 =>
      Pv (exV v12 1) fun v14 =>
      New (.cells #[(Value.int .i64 0), (Value.bool false), (Value.slice none 0 0), (Value.int .i64 0), (Value.int .i64 0), (Value.int .i64 0), (Value.slice none 0 0), (Value.int .i64 0), (Value.int .i64 0), (Value.int .i64 0), (Value.int .i64 0)] 52 (0, 0)) <| gh fun a_15 =>
      Sto 11 a_15 v13 <| gh fun _ =>
      BldS 5 1 #[(Value.int .u8 0)] 1 [(0, (Value.int .u8 97))] <| gh fun v16 =>
      MrkS v16 <| gh fun v17 =>
      Pv (bldV #[(Value.int .i64 0), (Value.int .i64 0), (Value.int .i64 0), (Value.int .i64 0), (Value.int .i64 0), (Value.int .i64 0), (Value.int .i64 0), (Value.int .i64 0), (Value.bool false), (Value.bool false), (Value.slice none 0 0), (Value.slice none 0 0), (Value.slice none 0 0), (Value.slice none 0 0), (Value.int .i64 0)] #[(0, 1), (1, 1), (2, 1), (3, 2), (5, 2), (7, 1), (8, 1), (9, 1), (10, 1), (11, 1), (12, 2), (14, 1)] [(0, (Value.int .i64 1)), (1, (Value.int .i64 1)), (8, v17)]) fun v18 =>
      Cal Tryz.prog ω 12 #[v3, v18] <| gh fun v19 =>
      Pv (exV v19 0) fun v20 =>
      Pv (exV v19 1) fun v21 =>
      New (.cells #[(Value.int .i64 0), (Value.bool false), (Value.slice none 0 0), (Value.int .i64 0), (Value.int .i64 0), (Value.int .i64 0), (Value.slice none 0 0), (Value.int .i64 0), (Value.int .i64 0), (Value.int .i64 0), (Value.int .i64 0)] 52 (0, 0)) <| gh fun b_22 =>
      Sto 11 b_22 v20 <| gh fun _ =>
      Pv (fldV 0 a_15) fun v23 =>
      Rv none (ld1R v23) fun v24 =>
      Pv (binIV .eql v24 (Value.int .i64 0)) fun v25 =>
      Gd v25 true
        (Pv (fldV 0 b_22) fun v26 =>
        Rv none (ld1R v26) fun v27 =>
        Pv (binIV .eql v27 (Value.int .i64 0)) fun v28 =>
        Gd v28 true
          (Pv (fldV 1 b_22) fun v29 =>
          Pv (fldV 1 v29) fun v30 =>
          Rv none (ld1R v30) fun v31 =>
          Rv none (bsR v31) fun v32 =>
          Pv (binSV .eql v32 (Value.string (ByteArray.mk #[120]))) fun v33 =>
          K v33)
          (K (Value.bool false)))
        (K (Value.bool false))))
    (K (Value.bool false))
theorem sh10_eq (ω : Om) (K : Value → M) : vcF Tryz.prog ω Tryz.f10 [] K = sh10 ω K := by kernel_rfl
theorem cal10 {ω : Om} {K : Value → M} {I : Imm} {L : LH} (h : sh10 ω (fun v => Gh (K v)) I L) : Cal Tryz.prog ω 10 #[] K I L :=
  Cal.gh (cal_of_vc mixed Tryz.func10 (by rw [sh10_eq]; exact h))
def sh11 (ω : Om) (a0 : Value) (K : Value → M) : M :=
  New (.cells (Value.cells a0) 31 (0, 0)) <| gh fun p_1 =>
  Rv none (ldNR 2 p_1) fun v2 =>
  Cal Tryz.prog ω 30 #[v2] <| gh fun v3 =>
  Pv (unV .not v3) fun v4 =>
  Br v4
    (K (Value.tuple #[(Value.pointer none), (Value.int .i64 1)]))
    (Draw fun S =>
      Rv (some S) (ldNR 2 p_1) fun v5 =>
      Cal Tryz.prog ω 32 #[] <| gh <| Keep S fun v6 =>
      Cal Tryz.prog ω 31 #[v5, v6] <| gh fun v7 =>
      K (Value.tuple #[v7, (Value.int .i64 0)]))
theorem sh11_eq (ω : Om) (a0 : Value) (K : Value → M) : vcF Tryz.prog ω Tryz.f11 [a0] K = sh11 ω a0 K := by kernel_rfl
theorem cal11 {ω : Om} {a0 : Value} {K : Value → M} {I : Imm} {L : LH} (h : sh11 ω a0 (fun v => Gh (K v)) I L) : Cal Tryz.prog ω 11 #[a0] K I L :=
  Cal.gh (cal_of_vc mixed Tryz.func11 (by rw [sh11_eq]; exact h))
def sh12 (ω : Om) (a0 : Value) (a1 : Value) (K : Value → M) : M :=
  New (.cells (Value.cells a1) 56 (0, 0)) <| gh fun c_1 =>
  New (.cells #[(Value.int .i64 0), (Value.bool false), (Value.slice none 0 0), (Value.int .i64 0), (Value.int .i64 0), (Value.int .i64 0), (Value.slice none 0 0), (Value.int .i64 0), (Value.int .i64 0), (Value.int .i64 0), (Value.int .i64 0)] 52 (0, 0)) <| gh fun v2 =>
  Rv none (ldNR 15 c_1) fun v3 =>
  Cal Tryz.prog ω 33 #[v3] <| gh fun v4 =>
  Pv (unV .not v4) fun v5 =>
  Br v5
    (Cal Tryz.prog ω 34 #[(Value.int .i64 140)] <| gh fun v6 =>
    Sto 11 v2 v6 <| gh fun _ =>
    Rv none (ldNR 11 v2) fun v7 =>
    K (Value.tuple #[v7, (Value.pointer none)]))
    (Draw fun S =>
      Cal Tryz.prog ω 35 #[] <| gh <| Keep S fun v8 =>
      Pv (fldV 0 c_1) fun v9 =>
      Rv (some S) (ld1R v9) fun v10 =>
      Pv (ixAV false 1 12 v8 v10) fun v11 =>
      Rv (some S) (ldNR 15 c_1) fun v12 =>
      CalV Tryz.prog ω v11 #[a0, v12] <| gh fun v13 =>
      Pv (exV v13 0) fun v14 =>
      Pv (exV v13 1) fun v15 =>
      Sto 11 v2 v14 <| gh fun _ =>
      Rv none (ldNR 11 v2) fun v16 =>
      K (Value.tuple #[v16, v15]))
theorem sh12_eq (ω : Om) (a0 a1 : Value) (K : Value → M) : vcF Tryz.prog ω Tryz.f12 [a0, a1] K = sh12 ω a0 a1 K := by kernel_rfl
theorem cal12 {ω : Om} {a0 a1 : Value} {K : Value → M} {I : Imm} {L : LH} (h : sh12 ω a0 a1 (fun v => Gh (K v)) I L) : Cal Tryz.prog ω 12 #[a0, a1] K I L :=
  Cal.gh (cal_of_vc mixed Tryz.func12 (by rw [sh12_eq]; exact h))
def sh19 (ω : Om) (a0 : Value) (K : Value → M) : M :=
  New (.cells (Value.cells a0) 56 (0, 0)) <| gh fun c_1 =>
  Rv none (ldNR 15 c_1) fun v2 =>
  Cal Tryz.prog ω 33 #[v2] <| gh fun v3 =>
  Pv (unV .not v3) fun v4 =>
  Br v4
    (K (Value.tuple #[(Value.slice none 0 0), (Value.int .i64 140)]))
    (Pv (bldV #[(Value.slice none 0 0)] #[(0, 1)] []) fun v5 =>
    New (.cells (Value.cells v5) 141 (0, 0)) <| gh fun v6 =>
    Pv (fldV 0 c_1) fun v7 =>
    Rv none (ld1R v7) fun v8 =>
    Pv (fldV 1 c_1) fun v9 =>
    Rv none (ld1R v9) fun v10 =>
    Pv (fldV 2 c_1) fun v11 =>
    Rv none (ld1R v11) fun v12 =>
    Pv (fldV 7 c_1) fun v13 =>
    Rv none (ld1R v13) fun v14 =>
    Pv (fldV 14 c_1) fun v15 =>
    Rv none (ld1R v15) fun v16 =>
    BldS 3 1 #[(Value.int .i64 0)] 5 [(0, v8), (1, v10), (2, v12), (3, v14), (4, v16)] <| gh fun v17 =>
    Cal Tryz.prog ω 61 #[v6, v17] <| gh fun v18 =>
    Pv (fldV 3 c_1) fun v19 =>
    Rv none (ldNR 2 v19) fun v20 =>
    Cal Tryz.prog ω 62 #[v6, v20] <| gh fun v21 =>
    Pv (fldV 5 c_1) fun v22 =>
    Rv none (ldNR 2 v22) fun v23 =>
    Cal Tryz.prog ω 62 #[v6, v23] <| gh fun v24 =>
    Pv (fldV 8 c_1) fun v25 =>
    Rv none (ld1R v25) fun v26 =>
    Cal Tryz.prog ω 63 #[v6, v26] <| gh fun v27 =>
    Pv (fldV 9 c_1) fun v28 =>
    Rv none (ld1R v28) fun v29 =>
    Cal Tryz.prog ω 63 #[v6, v29] <| gh fun v30 =>
    Pv (fldV 10 c_1) fun v31 =>
    Rv none (ld1R v31) fun v32 =>
    Cal Tryz.prog ω 64 #[v6, v32] <| gh fun v33 =>
    Pv (fldV 11 c_1) fun v34 =>
    Rv none (ld1R v34) fun v35 =>
    Cal Tryz.prog ω 64 #[v6, v35] <| gh fun v36 =>
    Pv (fldV 12 c_1) fun v37 =>
    Rv none (ldNR 2 v37) fun v38 =>
    Cal Tryz.prog ω 65 #[v6, v38] <| gh fun v39 =>
    Pv (nilV v6) fun v40 =>
    Pv (fldV 0 v40) fun v41 =>
    Rv none (ld1R v41) fun v42 =>
    K (Value.tuple #[v42, (Value.int .i64 0)]))
theorem sh19_eq (ω : Om) (a0 : Value) (K : Value → M) : vcF Tryz.prog ω Tryz.f19 [a0] K = sh19 ω a0 K := by kernel_rfl
theorem cal19 {ω : Om} {a0 : Value} {K : Value → M} {I : Imm} {L : LH} (h : sh19 ω a0 (fun v => Gh (K v)) I L) : Cal Tryz.prog ω 19 #[a0] K I L :=
  Cal.gh (cal_of_vc mixed Tryz.func19 (by rw [sh19_eq]; exact h))
def sh20_2 (ω : Om) (p1 : Value) (p2 : Value) (p5 : Value) (p6 : Value) (K : Value → M) : M :=
  Rv none (ldNR 15 p1) fun v33 =>
  Cal Tryz.prog ω 70 #[v33, (Value.bool false), (Value.bool true), (Value.bool true), (Value.bool true), (Value.bool true), (Value.bool true), (Value.bool true)] <| gh fun v34 =>
  Gd v34 true
    (Gd p6 true
      (Gd p5 false
        (Pv (fldV 1 p1) fun v35 =>
        Rv none (ld1R v35) fun v36 =>
        Pv (binIV .eql v36 (Value.int .i64 0)) fun v37 =>
        Gd v37 true
          (Pv (fldV 11 p1) fun v38 =>
          Rv none (ld1R v38) fun v39 =>
          Pv (lenV v39) fun v40 =>
          Pv (binIV .eql v40 (Value.int .i64 0)) fun v41 =>
          Gd v41 true
            (Pv (fldV 9 p1) fun v42 =>
            Rv none (ld1R v42) fun v43 =>
            Pv (unV .not v43) fun v44 =>
            K v44)
            (K (Value.bool false)))
          (K (Value.bool false)))
        (Pv (fldV 11 p1) fun v45 =>
        Rv none (ld1R v45) fun v46 =>
        Pv (lenV v46) fun v47 =>
        Pv (binIV .eql v47 (Value.int .i64 0)) fun v48 =>
        Gd v48 true
          (Pv (fldV 9 p1) fun v49 =>
          Rv none (ld1R v49) fun v50 =>
          Pv (unV .not v50) fun v51 =>
          K v51)
          (K (Value.bool false))))
      (K (Value.bool false)))
    (K (Value.bool false))
def sh20_3 (ω : Om) (p1 : Value) (p2 : Value) (p5 : Value) (p6 : Value) (p8 : Value) (p9 : Value) (p60 : Value) (K : Value → M) : M :=
  Pv (binIV .eql p60 (Value.int .i64 2)) fun v52 =>
  Br v52
    (Rv none (ldNR 15 p1) fun v53 =>
    Cal Tryz.prog ω 70 #[v53, (Value.bool true), (Value.bool false), (Value.bool true), (Value.bool true), (Value.bool true), (Value.bool false), (Value.bool true)] <| gh fun v54 =>
    Gd v54 true
      (Gd p5 false
        (Pv (fldV 1 p1) fun v55 =>
        Rv none (ld1R v55) fun v56 =>
        Pv (binIV .eql v56 (Value.int .i64 0)) fun v57 =>
        Gd v57 true
          (Pv (fldV 14 p1) fun v58 =>
          Rv none (ld1R v58) fun v59 =>
          Pv (binIV .geq v59 (Value.int .i64 1)) fun v60 =>
          Gd v60 true
            (Pv (fldV 14 p1) fun v61 =>
            Rv none (ld1R v61) fun v62 =>
            Pv (binIV .leq v62 (Value.int .i64 90)) fun v63 =>
            K v63)
            (K (Value.bool false)))
          (K (Value.bool false)))
        (Pv (fldV 14 p1) fun v64 =>
        Rv none (ld1R v64) fun v65 =>
        Pv (binIV .geq v65 (Value.int .i64 1)) fun v66 =>
        Gd v66 true
          (Pv (fldV 14 p1) fun v67 =>
          Rv none (ld1R v67) fun v68 =>
          Pv (binIV .leq v68 (Value.int .i64 90)) fun v69 =>
          K v69)
          (K (Value.bool false))))
      (K (Value.bool false)))
    (Pv (binIV .eql p60 (Value.int .i64 3)) fun v70 =>
    Br v70
      (Rv none (ldNR 15 p1) fun v71 =>
      Cal Tryz.prog ω 70 #[v71, (Value.bool false), (Value.bool true), (Value.bool true), (Value.bool true), (Value.bool true), (Value.bool true), (Value.bool false)] <| gh fun v72 =>
      Gd v72 true
        (Gd p5 true
          (Gd p6 true
            (Gd p8 true
              (Pv (fldV 2 p1) fun v73 =>
              Rv none (ld1R v73) fun v74 =>
              Pv (binIV .gtr v74 (Value.int .i64 0)) fun v75 =>
              Gd v75 true
                (Pv (fldV 11 p1) fun v76 =>
                Rv none (ld1R v76) fun v77 =>
                Pv (lenV v77) fun v78 =>
                Pv (binIV .leq v78 (Value.int .i64 10000)) fun v79 =>
                Gd v79 true
                  (Pv (fldV 9 p1) fun v80 =>
                  Rv none (ld1R v80) fun v81 =>
                  Pv (unV .not v81) fun v82 =>
                  Gd v82 false
                    (Pv (fldV 11 p1) fun v83 =>
                    Rv none (ld1R v83) fun v84 =>
                    Pv (lenV v84) fun v85 =>
                    Pv (binIV .eql v85 (Value.int .i64 0)) fun v86 =>
                    K v86)
                    (K (Value.bool true)))
                  (K (Value.bool false)))
                (K (Value.bool false)))
              (K (Value.bool false)))
            (K (Value.bool false)))
          (K (Value.bool false)))
        (K (Value.bool false)))
      (Pv (binIV .eql p60 (Value.int .i64 4)) fun v87 =>
      Br v87
        (Rv none (ldNR 15 p1) fun v88 =>
        Cal Tryz.prog ω 70 #[v88, (Value.bool true), (Value.bool false), (Value.bool true), (Value.bool true), (Value.bool false), (Value.bool true), (Value.bool false)] <| gh fun v89 =>
        Gd v89 true
          (Gd p5 true
            (Gd p8 true
              (Pv (fldV 2 p1) fun v90 =>
              Rv none (ld1R v90) fun v91 =>
              Pv (binIV .gtr v91 (Value.int .i64 0)) fun v92 =>
              K v92)
              (K (Value.bool false)))
            (K (Value.bool false)))
          (K (Value.bool false)))
        (Pv (binIV .eql p60 (Value.int .i64 5)) fun v93 =>
        Br v93
          (Rv none (ldNR 15 p1) fun v94 =>
          Cal Tryz.prog ω 70 #[v94, (Value.bool true), (Value.bool true), (Value.bool true), (Value.bool true), (Value.bool true), (Value.bool true), (Value.bool false)] <| gh fun v95 =>
          Gd v95 true
            (Gd p5 true
              (Gd p8 true
                (Pv (fldV 2 p1) fun v96 =>
                Rv none (ld1R v96) fun v97 =>
                Pv (binIV .gtr v97 (Value.int .i64 0)) fun v98 =>
                K v98)
                (K (Value.bool false)))
              (K (Value.bool false)))
            (K (Value.bool false)))
          (Pv (binIV .eql p60 (Value.int .i64 6)) fun v99 =>
          Br v99
            (Rv none (ldNR 15 p1) fun v100 =>
            Cal Tryz.prog ω 70 #[v100, (Value.bool true), (Value.bool true), (Value.bool true), (Value.bool false), (Value.bool true), (Value.bool true), (Value.bool true)] <| gh fun v101 =>
            Gd v101 true
              (K p5)
              (K (Value.bool false)))
            (Pv (binIV .eql p60 (Value.int .i64 7)) fun v102 =>
            Br v102
              (Pv (fldV 7 p1) fun v103 =>
              Rv none (ld1R v103) fun v104 =>
              Cal Tryz.prog ω 67 #[v104] <| gh fun v105 =>
              Rv none (ldNR 15 p1) fun v106 =>
              Cal Tryz.prog ω 70 #[v106, (Value.bool true), (Value.bool true), (Value.bool false), (Value.bool true), (Value.bool true), (Value.bool true), (Value.bool true)] <| gh fun v107 =>
              Gd v107 true
                (Gd p5 true
                  (K v105)
                  (K (Value.bool false)))
                (K (Value.bool false)))
              (Pv (binIV .eql p60 (Value.int .i64 8)) fun v108 =>
              Br v108
                (Rv none (ldNR 15 p1) fun v109 =>
                Cal Tryz.prog ω 70 #[v109, (Value.bool true), (Value.bool true), (Value.bool true), (Value.bool true), (Value.bool true), (Value.bool true), (Value.bool true)] <| gh fun v110 =>
                Gd v110 true
                  (Gd p5 true
                    (Pv (fldV 3 p1) fun v111 =>
                    Rv none (ldNR 2 v111) fun v112 =>
                    Pv (bldV #[(Value.int .i64 0), (Value.int .i64 0)] #[(0, 1), (1, 1)] []) fun v113 =>
                    Pv (binAV .eql [(TypeDesc.int .i64, 0), (TypeDesc.int .i64, 1)] v112 v113) fun v114 =>
                    K v114)
                    (K (Value.bool false)))
                  (K (Value.bool false)))
                (Pv (binIV .eql p60 (Value.int .i64 9)) fun v115 =>
                Br v115
                  (Rv none (ldNR 15 p1) fun v116 =>
                  Cal Tryz.prog ω 70 #[v116, (Value.bool true), (Value.bool false), (Value.bool true), (Value.bool false), (Value.bool true), (Value.bool true), (Value.bool true)] <| gh fun v117 =>
                  Gd v117 true
                    (K p5)
                    (K (Value.bool false)))
                  (Pv (binIV .eql p60 (Value.int .i64 10)) fun v118 =>
                  Br v118
                    (Rv none (ldNR 15 p1) fun v119 =>
                    Cal Tryz.prog ω 70 #[v119, (Value.bool true), (Value.bool true), (Value.bool true), (Value.bool true), (Value.bool true), (Value.bool true), (Value.bool true)] <| gh fun v120 =>
                    Gd v120 true
                      (Pv (fldV 1 p1) fun v121 =>
                      Rv none (ld1R v121) fun v122 =>
                      Pv (binIV .eql v122 (Value.int .i64 0)) fun v123 =>
                      K v123)
                      (K (Value.bool false)))
                    (Pv (binIV .eql p60 (Value.int .i64 11)) fun v124 =>
                    Br v124
                      (Rv none (ldNR 15 p1) fun v125 =>
                      Cal Tryz.prog ω 70 #[v125, (Value.bool false), (Value.bool true), (Value.bool false), (Value.bool true), (Value.bool true), (Value.bool true), (Value.bool true)] <| gh fun v126 =>
                      Gd v126 true
                        (Gd p9 true
                          (Gd p6 true
                            (Pv (fldV 11 p1) fun v127 =>
                            Rv none (ld1R v127) fun v128 =>
                            Pv (lenV v128) fun v129 =>
                            Pv (binIV .eql v129 (Value.int .i64 0)) fun v130 =>
                            Gd v130 true
                              (Pv (fldV 9 p1) fun v131 =>
                              Rv none (ld1R v131) fun v132 =>
                              Pv (unV .not v132) fun v133 =>
                              Gd v133 true
                                (Pv (fldV 7 p1) fun v134 =>
                                Rv none (ld1R v134) fun v135 =>
                                Pv (binIV .geq v135 (Value.int .i64 1)) fun v136 =>
                                Gd v136 true
                                  (Pv (fldV 7 p1) fun v137 =>
                                  Rv none (ld1R v137) fun v138 =>
                                  Pv (binIV .leq v138 (Value.int .i64 255)) fun v139 =>
                                  K v139)
                                  (K (Value.bool false)))
                                (K (Value.bool false)))
                              (K (Value.bool false)))
                            (K (Value.bool false)))
                          (K (Value.bool false)))
                        (K (Value.bool false)))
                      (K (Value.bool false)))))))))))
def sh20 (ω : Om) (a0 : Value) (K : Value → M) : M :=
  New (.cells (Value.cells a0) 56 (0, 0)) <| gh fun c_1 =>
  Pv (fldV 3 c_1) fun v2 =>
  Rv none (ldNR 2 v2) fun v3 =>
  Cal Tryz.prog ω 66 #[v3] <| gh fun v4 =>
  Pv (fldV 5 c_1) fun v5 =>
  Rv none (ldNR 2 v5) fun v6 =>
  Cal Tryz.prog ω 66 #[v6] <| gh fun v7 =>
  Pv (fldV 1 c_1) fun v8 =>
  Rv none (ld1R v8) fun v9 =>
  Cal Tryz.prog ω 67 #[v9] <| gh fun v10 =>
  Pv (fldV 10 c_1) fun v11 =>
  Rv none (ld1R v11) fun v12 =>
  Cal Tryz.prog ω 68 #[v12] <| gh fun v13 =>
  Pv (fldV 12 c_1) fun v14 =>
  Rv none (ldNR 2 v14) fun v15 =>
  Cal Tryz.prog ω 45 #[v15] <| gh fun v16 =>
  Pv (fldV 2 c_1) fun v17 =>
  Rv none (ld1R v17) fun v18 =>
  Cal Tryz.prog ω 69 #[v18] <| gh fun v19 =>
  Pv (unV .not v4) fun v20 =>
  Gd v20 false
    (Pv (unV .not v7) fun v21 =>
    Gd v21 false
      (Pv (unV .not v16) fun v22 =>
      Br v22
        (K (Value.bool false))
        (Pv (fldV 1 c_1) fun v23 =>
        Rv none (ld1R v23) fun v24 =>
        Pv (binIV .eql v24 (Value.int .i64 0)) fun v25 =>
        Gd v25 true
          (Pv (fldV 3 c_1) fun v26 =>
          Rv none (ldNR 2 v26) fun v27 =>
          Pv (bldV #[(Value.int .i64 0), (Value.int .i64 0)] #[(0, 1), (1, 1)] []) fun v28 =>
          Pv (binAV .eql [(TypeDesc.int .i64, 0), (TypeDesc.int .i64, 1)] v27 v28) fun v29 =>
          Pv (fldV 0 c_1) fun v30 =>
          Rv none (ld1R v30) fun v31 =>
          Pv (binIV .eql v31 (Value.int .i64 1)) fun v32 =>
          Br v32
            (sh20_2 ω c_1 (Value.bool false) v10 v13 K)
            (sh20_3 ω c_1 (Value.bool false) v10 v13 v19 v29 v31 K))
          (Pv (fldV 0 c_1) fun v140 =>
          Rv none (ld1R v140) fun v141 =>
          Pv (binIV .eql v141 (Value.int .i64 1)) fun v142 =>
          Br v142
            (sh20_2 ω c_1 (Value.bool false) v10 v13 K)
            (sh20_3 ω c_1 (Value.bool false) v10 v13 v19 (Value.bool false) v141 K))))
      (K (Value.bool false)))
    (K (Value.bool false))
theorem sh20_eq (ω : Om) (a0 : Value) (K : Value → M) : vcF Tryz.prog ω Tryz.f20 [a0] K = sh20 ω a0 K := by kernel_rfl
theorem cal20 {ω : Om} {a0 : Value} {K : Value → M} {I : Imm} {L : LH} (h : sh20 ω a0 (fun v => Gh (K v)) I L) : Cal Tryz.prog ω 20 #[a0] K I L :=
  Cal.gh (cal_of_vc mixed Tryz.func20 (by rw [sh20_eq]; exact h))
def sh21_1 (ω : Om) (p2 : Value) (p3 : Value) (K : Value → M) : M :=
  Pv (bldV #[(Value.int .i64 0), (Value.int .i64 0), (Value.int .i64 0), (Value.int .i64 0), (Value.int .i64 0), (Value.int .i64 0), (Value.int .i64 0), (Value.int .i64 0), (Value.bool false), (Value.bool false), (Value.slice none 0 0), (Value.slice none 0 0), (Value.slice none 0 0), (Value.slice none 0 0), (Value.int .i64 0)] #[(0, 1), (1, 1), (2, 1), (3, 2), (5, 2), (7, 1), (8, 1), (9, 1), (10, 1), (11, 1), (12, 2), (14, 1)] []) fun v34 =>
  Sto 15 p2 v34 <| gh fun _ =>
  Rv none (ldNR 15 p2) fun v35 =>
  K (Value.tuple #[v35, (Value.int .i64 140)])
def sh21 (ω : Om) (a0 : Value) (K : Value → M) : M :=
  New (.cells #[(Value.int .i64 0), (Value.int .i64 0), (Value.int .i64 0), (Value.int .i64 0), (Value.int .i64 0), (Value.int .i64 0), (Value.int .i64 0), (Value.int .i64 0), (Value.bool false), (Value.bool false), (Value.slice none 0 0), (Value.slice none 0 0), (Value.slice none 0 0), (Value.slice none 0 0), (Value.int .i64 0)] 56 (0, 0)) <| gh fun v1 =>
  Pv (bldV #[(Value.slice none 0 0), (Value.bool false)] #[(0, 1), (1, 1)] [(0, a0)]) fun v2 =>
  New (.cells (Value.cells v2) 152 (0, 0)) <| gh fun v3 =>
  Cal Tryz.prog ω 71 #[v3] <| gh fun v4 =>
  Cal Tryz.prog ω 71 #[v3] <| gh fun v5 =>
  Cal Tryz.prog ω 71 #[v3] <| gh fun v6 =>
  Cal Tryz.prog ω 71 #[v3] <| gh fun v7 =>
  Cal Tryz.prog ω 71 #[v3] <| gh fun v8 =>
  Pv (bldV #[(Value.int .i64 0), (Value.int .i64 0), (Value.int .i64 0), (Value.int .i64 0), (Value.int .i64 0), (Value.int .i64 0), (Value.int .i64 0), (Value.int .i64 0), (Value.bool false), (Value.bool false), (Value.slice none 0 0), (Value.slice none 0 0), (Value.slice none 0 0), (Value.slice none 0 0), (Value.int .i64 0)] #[(0, 1), (1, 1), (2, 1), (3, 2), (5, 2), (7, 1), (8, 1), (9, 1), (10, 1), (11, 1), (12, 2), (14, 1)] [(0, v4), (1, v5), (2, v6), (5, v7), (11, v8)]) fun v9 =>
  New (.cells #[(Value.int .i64 0), (Value.int .i64 0), (Value.int .i64 0), (Value.int .i64 0), (Value.int .i64 0), (Value.int .i64 0), (Value.int .i64 0), (Value.int .i64 0), (Value.bool false), (Value.bool false), (Value.slice none 0 0), (Value.slice none 0 0), (Value.slice none 0 0), (Value.slice none 0 0), (Value.int .i64 0)] 56 (0, 0)) <| gh fun c_10 =>
  Sto 15 c_10 v9 <| gh fun _ =>
  Cal Tryz.prog ω 72 #[v3] <| gh fun v11 =>
  Cal Tryz.prog ω 72 #[v3] <| gh fun v12 =>
  Pv (fldV 3 c_10) fun v13 =>
  Sto 2 v13 v11 <| gh fun _ =>
  Pv (fldV 5 c_10) fun v14 =>
  Sto 2 v14 v12 <| gh fun _ =>
  Cal Tryz.prog ω 73 #[v3] <| gh fun v15 =>
  Cal Tryz.prog ω 73 #[v3] <| gh fun v16 =>
  Pv (fldV 8 c_10) fun v17 =>
  Sto 1 v17 v15 <| gh fun _ =>
  Pv (fldV 9 c_10) fun v18 =>
  Sto 1 v18 v16 <| gh fun _ =>
  Cal Tryz.prog ω 74 #[v3] <| gh fun v19 =>
  Cal Tryz.prog ω 74 #[v3] <| gh fun v20 =>
  Cal Tryz.prog ω 75 #[v3] <| gh fun v21 =>
  Pv (fldV 10 c_10) fun v22 =>
  Sto 1 v22 v19 <| gh fun _ =>
  Pv (fldV 11 c_10) fun v23 =>
  Sto 1 v23 v20 <| gh fun _ =>
  Pv (fldV 12 c_10) fun v24 =>
  Sto 2 v24 v21 <| gh fun _ =>
  Rv none (ldNR 15 c_10) fun v25 =>
  Cal Tryz.prog ω 19 #[v25] <| gh fun v26 =>
  Pv (exV v26 0) fun v27 =>
  Pv (exV v26 1) fun v28 =>
  Cal Tryz.prog ω 76 #[v3] <| gh fun v29 =>
  Pv (unV .not v29) fun v30 =>
  Gd v30 false
    (Pv (binIV .neq v28 (Value.int .i64 0)) fun v31 =>
    Gd v31 false
      (Cal Tryz.prog ω 77 #[v27, a0] <| gh fun v32 =>
      Pv (unV .not v32) fun v33 =>
      Br v33
        (sh21_1 ω v1 (Value.int .i64 0) K)
        (Rv none (ldNR 15 c_10) fun v36 =>
        Sto 15 v1 v36 <| gh fun _ =>
        Rv none (ldNR 15 v1) fun v37 =>
        K (Value.tuple #[v37, (Value.int .i64 0)])))
      (sh21_1 ω v1 (Value.int .i64 0) K))
    (sh21_1 ω v1 (Value.int .i64 0) K)
theorem sh21_eq (ω : Om) (a0 : Value) (K : Value → M) : vcF Tryz.prog ω Tryz.f21 [a0] K = sh21 ω a0 K := by kernel_rfl
theorem cal21 {ω : Om} {a0 : Value} {K : Value → M} {I : Imm} {L : LH} (h : sh21 ω a0 (fun v => Gh (K v)) I L) : Cal Tryz.prog ω 21 #[a0] K I L :=
  Cal.gh (cal_of_vc mixed Tryz.func21 (by rw [sh21_eq]; exact h))
def sh22 (ω : Om) (a0 : Value) (a1 : Value) (K : Value → M) : M :=
  New (.cells (Value.cells a0) 56 (0, 0)) <| gh fun a_1 =>
  New (.cells (Value.cells a1) 56 (0, 0)) <| gh fun b_2 =>
  Pv (fldV 0 a_1) fun v3 =>
  Rv none (ld1R v3) fun v4 =>
  Pv (fldV 0 b_2) fun v5 =>
  Rv none (ld1R v5) fun v6 =>
  Pv (binIV .eql v4 v6) fun v7 =>
  Gd v7 true
    (Pv (fldV 1 a_1) fun v8 =>
    Rv none (ld1R v8) fun v9 =>
    Pv (fldV 1 b_2) fun v10 =>
    Rv none (ld1R v10) fun v11 =>
    Pv (binIV .eql v9 v11) fun v12 =>
    Gd v12 true
      (Pv (fldV 2 a_1) fun v13 =>
      Rv none (ld1R v13) fun v14 =>
      Pv (fldV 2 b_2) fun v15 =>
      Rv none (ld1R v15) fun v16 =>
      Pv (binIV .eql v14 v16) fun v17 =>
      Gd v17 true
        (Pv (fldV 3 a_1) fun v18 =>
        Rv none (ldNR 2 v18) fun v19 =>
        Pv (fldV 3 b_2) fun v20 =>
        Rv none (ldNR 2 v20) fun v21 =>
        Pv (binAV .eql [(TypeDesc.int .i64, 0), (TypeDesc.int .i64, 1)] v19 v21) fun v22 =>
        Gd v22 true
          (Pv (fldV 5 a_1) fun v23 =>
          Rv none (ldNR 2 v23) fun v24 =>
          Pv (fldV 5 b_2) fun v25 =>
          Rv none (ldNR 2 v25) fun v26 =>
          Pv (binAV .eql [(TypeDesc.int .i64, 0), (TypeDesc.int .i64, 1)] v24 v26) fun v27 =>
          Gd v27 true
            (Pv (fldV 7 a_1) fun v28 =>
            Rv none (ld1R v28) fun v29 =>
            Pv (fldV 7 b_2) fun v30 =>
            Rv none (ld1R v30) fun v31 =>
            Pv (binIV .eql v29 v31) fun v32 =>
            Gd v32 true
              (Pv (fldV 8 a_1) fun v33 =>
              Rv none (ld1R v33) fun v34 =>
              Pv (fldV 8 b_2) fun v35 =>
              Rv none (ld1R v35) fun v36 =>
              Pv (binBV .eql v34 v36) fun v37 =>
              Gd v37 true
                (Pv (fldV 9 a_1) fun v38 =>
                Rv none (ld1R v38) fun v39 =>
                Pv (fldV 9 b_2) fun v40 =>
                Rv none (ld1R v40) fun v41 =>
                Pv (binBV .eql v39 v41) fun v42 =>
                Gd v42 true
                  (Pv (fldV 10 a_1) fun v43 =>
                  Rv none (ld1R v43) fun v44 =>
                  Rv none (bsR v44) fun v45 =>
                  Pv (fldV 10 b_2) fun v46 =>
                  Rv none (ld1R v46) fun v47 =>
                  Rv none (bsR v47) fun v48 =>
                  Pv (binSV .eql v45 v48) fun v49 =>
                  Gd v49 true
                    (Pv (fldV 11 a_1) fun v50 =>
                    Rv none (ld1R v50) fun v51 =>
                    Rv none (bsR v51) fun v52 =>
                    Pv (fldV 11 b_2) fun v53 =>
                    Rv none (ld1R v53) fun v54 =>
                    Rv none (bsR v54) fun v55 =>
                    Pv (binSV .eql v52 v55) fun v56 =>
                    Gd v56 true
                      (Pv (fldV 12 a_1) fun v57 =>
                      Pv (fldV 0 v57) fun v58 =>
                      Rv none (ld1R v58) fun v59 =>
                      Rv none (bsR v59) fun v60 =>
                      Pv (fldV 12 b_2) fun v61 =>
                      Pv (fldV 0 v61) fun v62 =>
                      Rv none (ld1R v62) fun v63 =>
                      Rv none (bsR v63) fun v64 =>
                      Pv (binSV .eql v60 v64) fun v65 =>
                      Gd v65 true
                        (Pv (fldV 12 a_1) fun v66 =>
                        Pv (fldV 1 v66) fun v67 =>
                        Rv none (ld1R v67) fun v68 =>
                        Rv none (bsR v68) fun v69 =>
                        Pv (fldV 12 b_2) fun v70 =>
                        Pv (fldV 1 v70) fun v71 =>
                        Rv none (ld1R v71) fun v72 =>
                        Rv none (bsR v72) fun v73 =>
                        Pv (binSV .eql v69 v73) fun v74 =>
                        Gd v74 true
                          (Pv (fldV 14 a_1) fun v75 =>
                          Rv none (ld1R v75) fun v76 =>
                          Pv (fldV 14 b_2) fun v77 =>
                          Rv none (ld1R v77) fun v78 =>
                          Pv (binIV .eql v76 v78) fun v79 =>
                          K v79)
                          (K (Value.bool false)))
                        (K (Value.bool false)))
                      (K (Value.bool false)))
                    (K (Value.bool false)))
                  (K (Value.bool false)))
                (K (Value.bool false)))
              (K (Value.bool false)))
            (K (Value.bool false)))
          (K (Value.bool false)))
        (K (Value.bool false)))
      (K (Value.bool false)))
    (K (Value.bool false))
theorem sh22_eq (ω : Om) (a0 a1 : Value) (K : Value → M) : vcF Tryz.prog ω Tryz.f22 [a0, a1] K = sh22 ω a0 a1 K := by kernel_rfl
theorem cal22 {ω : Om} {a0 a1 : Value} {K : Value → M} {I : Imm} {L : LH} (h : sh22 ω a0 a1 (fun v => Gh (K v)) I L) : Cal Tryz.prog ω 22 #[a0, a1] K I L :=
  Cal.gh (cal_of_vc mixed Tryz.func22 (by rw [sh22_eq]; exact h))
def sh30 (ω : Om) (a0 : Value) (K : Value → M) : M :=
  New (.cells (Value.cells a0) 31 (0, 0)) <| gh fun p_1 =>
  Pv (fldV 0 p_1) fun v2 =>
  Rv none (ld1R v2) fun v3 =>
  Pv (lenV v3) fun v4 =>
  Pv (binIV .leq v4 (Value.int .i64 111)) fun v5 =>
  Gd v5 true
    (Pv (fldV 1 p_1) fun v6 =>
    Rv none (ld1R v6) fun v7 =>
    Pv (lenV v7) fun v8 =>
    Pv (binIV .leq v8 (Value.int .i64 111)) fun v9 =>
    Gd v9 true
      (Pv (fldV 1 p_1) fun v10 =>
      Rv none (ld1R v10) fun v11 =>
      Pv (lenV v11) fun v12 =>
      Pv (binIV .eql v12 (Value.int .i64 0)) fun v13 =>
      Gd v13 false
        (Pv (fldV 1 p_1) fun v14 =>
        Rv none (ld1R v14) fun v15 =>
        Pv (fldV 0 p_1) fun v16 =>
        Rv none (ld1R v16) fun v17 =>
        Cal Tryz.prog ω 85 #[v15, v17] <| gh fun v18 =>
        Pv (binIV .gtr v18 (Value.int .i64 0)) fun v19 =>
        K v19)
        (K (Value.bool true)))
      (K (Value.bool false)))
    (K (Value.bool false))
theorem sh30_eq (ω : Om) (a0 : Value) (K : Value → M) : vcF Tryz.prog ω Tryz.f30 [a0] K = sh30 ω a0 K := by kernel_rfl
theorem cal30 {ω : Om} {a0 : Value} {K : Value → M} {I : Imm} {L : LH} (h : sh30 ω a0 (fun v => Gh (K v)) I L) : Cal Tryz.prog ω 30 #[a0] K I L :=
  Cal.gh (cal_of_vc mixed Tryz.func30 (by rw [sh30_eq]; exact h))
def sh31 (ω : Om) (a0 : Value) (a1 : Value) (K : Value → M) : M :=
  New (.cells (Value.cells a0) 31 (0, 0)) <| gh fun p_1 =>
  Draw fun S =>
    Pv (fldV 0 p_1) fun v2 =>
    Rv (some S) (ld1R v2) fun v3 =>
    Cal Tryz.prog ω 82 #[v3] <| gh <| Keep S fun v4 =>
    Pv (fldV 1 p_1) fun v5 =>
    Rv (some S) (ld1R v5) fun v6 =>
    Cal Tryz.prog ω 82 #[v6] <| gh fun v7 =>
    Pv (bldV #[(Value.slice none 0 0), (Value.slice none 0 0)] #[(0, 1), (1, 1)] [(0, v4), (1, v7)]) fun v8 =>
    Sto 2 p_1 v8 <| gh fun _ =>
    Rv none (ldNR 2 p_1) fun v9 =>
    NewM <| gh fun v10 =>
    NewM <| gh fun v11 =>
    NewM <| gh fun v12 =>
    Pv (bldV #[(Value.slice none 0 0), (Value.slice none 0 0), (Value.pointer none), (Value.map none), (Value.int .i64 0), (Value.int .i64 0), (Value.int .i64 0), (Value.map none), (Value.map none), (Value.int .i64 0), (Value.slice none 0 0)] #[(0, 2), (2, 1), (3, 1), (4, 3), (7, 1), (8, 1), (9, 1), (10, 1)] [(0, v9), (1, a1), (2, v10), (4, v11), (5, v12)]) fun v13 =>
    New (.cells (Value.cells v13) 163 (0, 0)) <| gh fun v14 =>
    K v14
theorem sh31_eq (ω : Om) (a0 a1 : Value) (K : Value → M) : vcF Tryz.prog ω Tryz.f31 [a0, a1] K = sh31 ω a0 a1 K := by kernel_rfl
theorem cal31 {ω : Om} {a0 a1 : Value} {K : Value → M} {I : Imm} {L : LH} (h : sh31 ω a0 a1 (fun v => Gh (K v)) I L) : Cal Tryz.prog ω 31 #[a0, a1] K I L :=
  Cal.gh (cal_of_vc mixed Tryz.func31 (by rw [sh31_eq]; exact h))
def sh32 (ω : Om) (K : Value → M) : M :=
  NewM <| gh fun v1 =>
  NewM <| gh fun v2 =>
  Pv (bldV #[(Value.map none), (Value.slice none 0 0), (Value.int .i64 0), (Value.int .i64 0), (Value.map none)] #[(0, 1), (1, 1), (2, 2), (4, 1)] [(0, v1), (3, v2)]) fun v3 =>
  New (.cells (Value.cells v3) 179 (0, 0)) <| gh fun v4 =>
  K v4
theorem sh32_eq (ω : Om) (K : Value → M) : vcF Tryz.prog ω Tryz.f32 [] K = sh32 ω K := by kernel_rfl
theorem cal32 {ω : Om} {K : Value → M} {I : Imm} {L : LH} (h : sh32 ω (fun v => Gh (K v)) I L) : Cal Tryz.prog ω 32 #[] K I L :=
  Cal.gh (cal_of_vc mixed Tryz.func32 (by rw [sh32_eq]; exact h))
def sh33_4 (ω : Om) (p2 : Value) (p4 : Value) (p5 : Value) (K : Value → M) : M :=
  Gd p4 true
    (Rv none (ldNR 15 p5) fun v42 =>
    Cal Tryz.prog ω 92 #[v42] <| gh fun v43 =>
    K v43)
    (K (Value.bool false))
def sh33_2 (ω : Om) (p1 : Value) (p2 : Value) (p3 : Value) (p4 : Value) (p5 : Value) (K : Value → M) : M :=
  Gd p3 true
    (Pv (fldV 10 p1) fun v38 =>
    Rv none (ld1R v38) fun v39 =>
    Cal Tryz.prog ω 91 #[v39] <| gh fun v40 =>
    Pv (fldV 10 p5) fun v41 =>
    Sto 1 v41 (Value.slice none 0 0) <| gh fun _ =>
    sh33_4 ω p2 v40 p5 K)
    (Pv (fldV 10 p5) fun v44 =>
    Sto 1 v44 (Value.slice none 0 0) <| gh fun _ =>
    sh33_4 ω p2 (Value.bool false) p5 K)
def sh33_5 (ω : Om) (p1 : Value) (p2 : Value) (p3 : Value) (p4 : Value) (p5 : Value) (p49 : Value) (K : Value → M) : M :=
  Pv (binIV .eql p49 (Value.int .i64 2)) fun v45 =>
  Br v45
    (Gd p3 true
      (Pv (fldV 14 p1) fun v46 =>
      Rv none (ld1R v46) fun v47 =>
      Pv (binIV .geq v47 (Value.int .i64 1)) fun v48 =>
      Gd v48 true
        (Pv (fldV 14 p1) fun v49 =>
        Rv none (ld1R v49) fun v50 =>
        Pv (binIV .leq v50 (Value.int .i64 90)) fun v51 =>
        Pv (bldV #[(Value.slice none 0 0), (Value.slice none 0 0)] #[(0, 1), (1, 1)] []) fun v52 =>
        Pv (fldV 12 p5) fun v53 =>
        Sto 2 v53 v52 <| gh fun _ =>
        Pv (fldV 14 p5) fun v54 =>
        Sto 1 v54 (Value.int .i64 0) <| gh fun _ =>
        sh33_4 ω p2 v51 p5 K)
        (Pv (bldV #[(Value.slice none 0 0), (Value.slice none 0 0)] #[(0, 1), (1, 1)] []) fun v55 =>
        Pv (fldV 12 p5) fun v56 =>
        Sto 2 v56 v55 <| gh fun _ =>
        Pv (fldV 14 p5) fun v57 =>
        Sto 1 v57 (Value.int .i64 0) <| gh fun _ =>
        sh33_4 ω p2 (Value.bool false) p5 K))
      (Pv (bldV #[(Value.slice none 0 0), (Value.slice none 0 0)] #[(0, 1), (1, 1)] []) fun v58 =>
      Pv (fldV 12 p5) fun v59 =>
      Sto 2 v59 v58 <| gh fun _ =>
      Pv (fldV 14 p5) fun v60 =>
      Sto 1 v60 (Value.int .i64 0) <| gh fun _ =>
      sh33_4 ω p2 (Value.bool false) p5 K))
    (Pv (binIV .eql p49 (Value.int .i64 3)) fun v61 =>
    Br v61
      (Gd p4 true
        (Pv (fldV 2 p1) fun v62 =>
        Rv none (ld1R v62) fun v63 =>
        Pv (binIV .gtr v63 (Value.int .i64 0)) fun v64 =>
        Gd v64 true
          (Pv (fldV 10 p1) fun v65 =>
          Rv none (ld1R v65) fun v66 =>
          Cal Tryz.prog ω 91 #[v66] <| gh fun v67 =>
          Gd v67 true
            (Pv (fldV 11 p1) fun v68 =>
            Rv none (ld1R v68) fun v69 =>
            Pv (lenV v69) fun v70 =>
            Pv (binIV .leq v70 (Value.int .i64 10000)) fun v71 =>
            Gd v71 true
              (Pv (fldV 9 p1) fun v72 =>
              Rv none (ld1R v72) fun v73 =>
              Pv (unV .not v73) fun v74 =>
              Gd v74 false
                (Pv (fldV 11 p1) fun v75 =>
                Rv none (ld1R v75) fun v76 =>
                Pv (lenV v76) fun v77 =>
                Pv (binIV .eql v77 (Value.int .i64 0)) fun v78 =>
                Pv (fldV 2 p5) fun v79 =>
                Sto 1 v79 (Value.int .i64 0) <| gh fun _ =>
                Pv (fldV 10 p5) fun v80 =>
                Sto 1 v80 (Value.slice none 0 0) <| gh fun _ =>
                Pv (fldV 9 p5) fun v81 =>
                Sto 1 v81 (Value.bool false) <| gh fun _ =>
                Pv (fldV 11 p5) fun v82 =>
                Sto 1 v82 (Value.slice none 0 0) <| gh fun _ =>
                sh33_4 ω p2 v78 p5 K)
                (Pv (fldV 2 p5) fun v83 =>
                Sto 1 v83 (Value.int .i64 0) <| gh fun _ =>
                Pv (fldV 10 p5) fun v84 =>
                Sto 1 v84 (Value.slice none 0 0) <| gh fun _ =>
                Pv (fldV 9 p5) fun v85 =>
                Sto 1 v85 (Value.bool false) <| gh fun _ =>
                Pv (fldV 11 p5) fun v86 =>
                Sto 1 v86 (Value.slice none 0 0) <| gh fun _ =>
                sh33_4 ω p2 (Value.bool true) p5 K))
              (Pv (fldV 2 p5) fun v87 =>
              Sto 1 v87 (Value.int .i64 0) <| gh fun _ =>
              Pv (fldV 10 p5) fun v88 =>
              Sto 1 v88 (Value.slice none 0 0) <| gh fun _ =>
              Pv (fldV 9 p5) fun v89 =>
              Sto 1 v89 (Value.bool false) <| gh fun _ =>
              Pv (fldV 11 p5) fun v90 =>
              Sto 1 v90 (Value.slice none 0 0) <| gh fun _ =>
              sh33_4 ω p2 (Value.bool false) p5 K))
            (Pv (fldV 2 p5) fun v91 =>
            Sto 1 v91 (Value.int .i64 0) <| gh fun _ =>
            Pv (fldV 10 p5) fun v92 =>
            Sto 1 v92 (Value.slice none 0 0) <| gh fun _ =>
            Pv (fldV 9 p5) fun v93 =>
            Sto 1 v93 (Value.bool false) <| gh fun _ =>
            Pv (fldV 11 p5) fun v94 =>
            Sto 1 v94 (Value.slice none 0 0) <| gh fun _ =>
            sh33_4 ω p2 (Value.bool false) p5 K))
          (Pv (fldV 2 p5) fun v95 =>
          Sto 1 v95 (Value.int .i64 0) <| gh fun _ =>
          Pv (fldV 10 p5) fun v96 =>
          Sto 1 v96 (Value.slice none 0 0) <| gh fun _ =>
          Pv (fldV 9 p5) fun v97 =>
          Sto 1 v97 (Value.bool false) <| gh fun _ =>
          Pv (fldV 11 p5) fun v98 =>
          Sto 1 v98 (Value.slice none 0 0) <| gh fun _ =>
          sh33_4 ω p2 (Value.bool false) p5 K))
        (Pv (fldV 2 p5) fun v99 =>
        Sto 1 v99 (Value.int .i64 0) <| gh fun _ =>
        Pv (fldV 10 p5) fun v100 =>
        Sto 1 v100 (Value.slice none 0 0) <| gh fun _ =>
        Pv (fldV 9 p5) fun v101 =>
        Sto 1 v101 (Value.bool false) <| gh fun _ =>
        Pv (fldV 11 p5) fun v102 =>
        Sto 1 v102 (Value.slice none 0 0) <| gh fun _ =>
        sh33_4 ω p2 (Value.bool false) p5 K))
      (Pv (binIV .eql p49 (Value.int .i64 4)) fun v103 =>
      Br v103
        (Gd p4 true
          (Pv (fldV 2 p1) fun v104 =>
          Rv none (ld1R v104) fun v105 =>
          Pv (binIV .gtr v105 (Value.int .i64 0)) fun v106 =>
          Pv (bldV #[(Value.int .i64 0), (Value.int .i64 0)] #[(0, 1), (1, 1)] []) fun v107 =>
          Pv (bldV #[(Value.slice none 0 0), (Value.slice none 0 0)] #[(0, 1), (1, 1)] []) fun v108 =>
          Pv (fldV 2 p5) fun v109 =>
          Sto 1 v109 (Value.int .i64 0) <| gh fun _ =>
          Pv (fldV 5 p5) fun v110 =>
          Sto 2 v110 v107 <| gh fun _ =>
          Pv (fldV 12 p5) fun v111 =>
          Sto 2 v111 v108 <| gh fun _ =>
          sh33_4 ω p2 v106 p5 K)
          (Pv (bldV #[(Value.int .i64 0), (Value.int .i64 0)] #[(0, 1), (1, 1)] []) fun v112 =>
          Pv (bldV #[(Value.slice none 0 0), (Value.slice none 0 0)] #[(0, 1), (1, 1)] []) fun v113 =>
          Pv (fldV 2 p5) fun v114 =>
          Sto 1 v114 (Value.int .i64 0) <| gh fun _ =>
          Pv (fldV 5 p5) fun v115 =>
          Sto 2 v115 v112 <| gh fun _ =>
          Pv (fldV 12 p5) fun v116 =>
          Sto 2 v116 v113 <| gh fun _ =>
          sh33_4 ω p2 (Value.bool false) p5 K))
        (Pv (binIV .eql p49 (Value.int .i64 5)) fun v117 =>
        Br v117
          (Gd p4 true
            (Pv (fldV 2 p1) fun v118 =>
            Rv none (ld1R v118) fun v119 =>
            Pv (binIV .gtr v119 (Value.int .i64 0)) fun v120 =>
            Pv (fldV 2 p5) fun v121 =>
            Sto 1 v121 (Value.int .i64 0) <| gh fun _ =>
            sh33_4 ω p2 v120 p5 K)
            (Pv (fldV 2 p5) fun v122 =>
            Sto 1 v122 (Value.int .i64 0) <| gh fun _ =>
            sh33_4 ω p2 (Value.bool false) p5 K))
          (Pv (binIV .eql p49 (Value.int .i64 6)) fun v123 =>
          Br v123
            (Pv (fldV 8 p5) fun v124 =>
            Sto 1 v124 (Value.bool false) <| gh fun _ =>
            sh33_4 ω p2 p4 p5 K)
            (Pv (binIV .eql p49 (Value.int .i64 7)) fun v125 =>
            Br v125
              (Gd p4 true
                (Pv (fldV 7 p1) fun v126 =>
                Rv none (ld1R v126) fun v127 =>
                Cal Tryz.prog ω 90 #[v127] <| gh fun v128 =>
                Pv (fldV 7 p5) fun v129 =>
                Sto 1 v129 (Value.int .i64 0) <| gh fun _ =>
                sh33_4 ω p2 v128 p5 K)
                (Pv (fldV 7 p5) fun v130 =>
                Sto 1 v130 (Value.int .i64 0) <| gh fun _ =>
                sh33_4 ω p2 (Value.bool false) p5 K))
              (Pv (binIV .eql p49 (Value.int .i64 8)) fun v131 =>
              Br v131
                (Gd p4 true
                  (Pv (fldV 3 p1) fun v132 =>
                  Rv none (ldNR 2 v132) fun v133 =>
                  Pv (bldV #[(Value.int .i64 0), (Value.int .i64 0)] #[(0, 1), (1, 1)] []) fun v134 =>
                  Pv (binAV .eql [(TypeDesc.int .i64, 0), (TypeDesc.int .i64, 1)] v133 v134) fun v135 =>
                  sh33_4 ω p2 v135 p5 K)
                  (sh33_4 ω p2 (Value.bool false) p5 K))
                (Pv (binIV .eql p49 (Value.int .i64 9)) fun v136 =>
                Br v136
                  (Pv (bldV #[(Value.slice none 0 0), (Value.slice none 0 0)] #[(0, 1), (1, 1)] []) fun v137 =>
                  Pv (fldV 8 p5) fun v138 =>
                  Sto 1 v138 (Value.bool false) <| gh fun _ =>
                  Pv (fldV 12 p5) fun v139 =>
                  Sto 2 v139 v137 <| gh fun _ =>
                  sh33_4 ω p2 p4 p5 K)
                  (Pv (binIV .eql p49 (Value.int .i64 10)) fun v140 =>
                  Br v140
                    (Pv (fldV 1 p1) fun v141 =>
                    Rv none (ld1R v141) fun v142 =>
                    Pv (binIV .eql v142 (Value.int .i64 0)) fun v143 =>
                    sh33_4 ω p2 v143 p5 K)
                    (Pv (binIV .eql p49 (Value.int .i64 11)) fun v144 =>
                    Br v144
                      (Pv (fldV 1 p1) fun v145 =>
                      Rv none (ld1R v145) fun v146 =>
                      Pv (binIV .eql v146 (Value.int .i64 0)) fun v147 =>
                      Gd v147 true
                        (Pv (fldV 3 p1) fun v148 =>
                        Rv none (ldNR 2 v148) fun v149 =>
                        Pv (bldV #[(Value.int .i64 0), (Value.int .i64 0)] #[(0, 1), (1, 1)] []) fun v150 =>
                        Pv (binAV .eql [(TypeDesc.int .i64, 0), (TypeDesc.int .i64, 1)] v149 v150) fun v151 =>
                        Gd v151 true
                          (Pv (fldV 10 p1) fun v152 =>
                          Rv none (ld1R v152) fun v153 =>
                          Cal Tryz.prog ω 91 #[v153] <| gh fun v154 =>
                          Gd v154 true
                            (Pv (fldV 7 p1) fun v155 =>
                            Rv none (ld1R v155) fun v156 =>
                            Pv (binIV .geq v156 (Value.int .i64 1)) fun v157 =>
                            Gd v157 true
                              (Pv (fldV 7 p1) fun v158 =>
                              Rv none (ld1R v158) fun v159 =>
                              Pv (binIV .leq v159 (Value.int .i64 255)) fun v160 =>
                              Pv (fldV 10 p5) fun v161 =>
                              Sto 1 v161 (Value.slice none 0 0) <| gh fun _ =>
                              Pv (fldV 7 p5) fun v162 =>
                              Sto 1 v162 (Value.int .i64 0) <| gh fun _ =>
                              sh33_4 ω p2 v160 p5 K)
                              (Pv (fldV 10 p5) fun v163 =>
                              Sto 1 v163 (Value.slice none 0 0) <| gh fun _ =>
                              Pv (fldV 7 p5) fun v164 =>
                              Sto 1 v164 (Value.int .i64 0) <| gh fun _ =>
                              sh33_4 ω p2 (Value.bool false) p5 K))
                            (Pv (fldV 10 p5) fun v165 =>
                            Sto 1 v165 (Value.slice none 0 0) <| gh fun _ =>
                            Pv (fldV 7 p5) fun v166 =>
                            Sto 1 v166 (Value.int .i64 0) <| gh fun _ =>
                            sh33_4 ω p2 (Value.bool false) p5 K))
                          (Pv (fldV 10 p5) fun v167 =>
                          Sto 1 v167 (Value.slice none 0 0) <| gh fun _ =>
                          Pv (fldV 7 p5) fun v168 =>
                          Sto 1 v168 (Value.int .i64 0) <| gh fun _ =>
                          sh33_4 ω p2 (Value.bool false) p5 K))
                        (Pv (fldV 10 p5) fun v169 =>
                        Sto 1 v169 (Value.slice none 0 0) <| gh fun _ =>
                        Pv (fldV 7 p5) fun v170 =>
                        Sto 1 v170 (Value.int .i64 0) <| gh fun _ =>
                        sh33_4 ω p2 (Value.bool false) p5 K))
                      (K (Value.bool false)))))))))))
def sh33 (ω : Om) (a0 : Value) (K : Value → M) : M :=
  New (.cells (Value.cells a0) 56 (0, 0)) <| gh fun c_1 =>
  Pv (fldV 3 c_1) fun v2 =>
  Rv none (ldNR 2 v2) fun v3 =>
  Cal Tryz.prog ω 89 #[v3] <| gh fun v4 =>
  Pv (unV .not v4) fun v5 =>
  Gd v5 false
    (Pv (fldV 5 c_1) fun v6 =>
    Rv none (ldNR 2 v6) fun v7 =>
    Cal Tryz.prog ω 89 #[v7] <| gh fun v8 =>
    Pv (unV .not v8) fun v9 =>
    Gd v9 false
      (Pv (fldV 12 c_1) fun v10 =>
      Rv none (ldNR 2 v10) fun v11 =>
      Cal Tryz.prog ω 30 #[v11] <| gh fun v12 =>
      Pv (unV .not v12) fun v13 =>
      Gd v13 false
        (Pv (fldV 2 c_1) fun v14 =>
        Rv none (ld1R v14) fun v15 =>
        Pv (binIV .lss v15 (Value.int .i64 0)) fun v16 =>
        Gd v16 false
          (Pv (fldV 2 c_1) fun v17 =>
          Rv none (ld1R v17) fun v18 =>
          Pv (binIV .gtr v18 (Value.int .i64 9007199254740991)) fun v19 =>
          Br v19
            (K (Value.bool false))
            (Pv (fldV 1 c_1) fun v20 =>
            Rv none (ld1R v20) fun v21 =>
            Pv (binIV .eql v21 (Value.int .i64 0)) fun v22 =>
            Gd v22 false
              (Pv (fldV 1 c_1) fun v23 =>
              Rv none (ld1R v23) fun v24 =>
              Cal Tryz.prog ω 90 #[v24] <| gh fun v25 =>
              Pv (fldV 1 c_1) fun v26 =>
              Rv none (ld1R v26) fun v27 =>
              Cal Tryz.prog ω 90 #[v27] <| gh fun v28 =>
              Rv none (ldNR 15 c_1) fun v29 =>
              New (.cells #[(Value.int .i64 0), (Value.int .i64 0), (Value.int .i64 0), (Value.int .i64 0), (Value.int .i64 0), (Value.int .i64 0), (Value.int .i64 0), (Value.int .i64 0), (Value.bool false), (Value.bool false), (Value.slice none 0 0), (Value.slice none 0 0), (Value.slice none 0 0), (Value.slice none 0 0), (Value.int .i64 0)] 56 (0, 0)) <| gh fun left_30 =>
              Sto 15 left_30 v29 <| gh fun _ =>
              Pv (bldV #[(Value.int .i64 0), (Value.int .i64 0)] #[(0, 1), (1, 1)] []) fun v31 =>
              Pv (fldV 0 left_30) fun v32 =>
              Sto 1 v32 (Value.int .i64 0) <| gh fun _ =>
              Pv (fldV 1 left_30) fun v33 =>
              Sto 1 v33 (Value.int .i64 0) <| gh fun _ =>
              Pv (fldV 3 left_30) fun v34 =>
              Sto 2 v34 v31 <| gh fun _ =>
              Pv (fldV 0 c_1) fun v35 =>
              Rv none (ld1R v35) fun v36 =>
              Pv (binIV .eql v36 (Value.int .i64 1)) fun v37 =>
              Br v37
                (sh33_2 ω c_1 (Value.bool false) v25 v28 left_30 K)
                (sh33_5 ω c_1 (Value.bool false) v25 v28 left_30 v36 K))
              (Pv (fldV 1 c_1) fun v171 =>
              Rv none (ld1R v171) fun v172 =>
              Cal Tryz.prog ω 90 #[v172] <| gh fun v173 =>
              Rv none (ldNR 15 c_1) fun v174 =>
              New (.cells #[(Value.int .i64 0), (Value.int .i64 0), (Value.int .i64 0), (Value.int .i64 0), (Value.int .i64 0), (Value.int .i64 0), (Value.int .i64 0), (Value.int .i64 0), (Value.bool false), (Value.bool false), (Value.slice none 0 0), (Value.slice none 0 0), (Value.slice none 0 0), (Value.slice none 0 0), (Value.int .i64 0)] 56 (0, 0)) <| gh fun left_175 =>
              Sto 15 left_175 v174 <| gh fun _ =>
              Pv (bldV #[(Value.int .i64 0), (Value.int .i64 0)] #[(0, 1), (1, 1)] []) fun v176 =>
              Pv (fldV 0 left_175) fun v177 =>
              Sto 1 v177 (Value.int .i64 0) <| gh fun _ =>
              Pv (fldV 1 left_175) fun v178 =>
              Sto 1 v178 (Value.int .i64 0) <| gh fun _ =>
              Pv (fldV 3 left_175) fun v179 =>
              Sto 2 v179 v176 <| gh fun _ =>
              Pv (fldV 0 c_1) fun v180 =>
              Rv none (ld1R v180) fun v181 =>
              Pv (binIV .eql v181 (Value.int .i64 1)) fun v182 =>
              Br v182
                (sh33_2 ω c_1 (Value.bool false) (Value.bool true) v173 left_175 K)
                (sh33_5 ω c_1 (Value.bool false) (Value.bool true) v173 left_175 v181 K))))
          (K (Value.bool false)))
        (K (Value.bool false)))
      (K (Value.bool false)))
    (K (Value.bool false))
theorem sh33_eq (ω : Om) (a0 : Value) (K : Value → M) : vcF Tryz.prog ω Tryz.f33 [a0] K = sh33 ω a0 K := by kernel_rfl
theorem cal33 {ω : Om} {a0 : Value} {K : Value → M} {I : Imm} {L : LH} (h : sh33 ω a0 (fun v => Gh (K v)) I L) : Cal Tryz.prog ω 33 #[a0] K I L :=
  Cal.gh (cal_of_vc mixed Tryz.func33 (by rw [sh33_eq]; exact h))
def sh34 (ω : Om) (a0 : Value) (K : Value → M) : M :=
  New (.cells #[(Value.int .i64 0), (Value.bool false), (Value.slice none 0 0), (Value.int .i64 0), (Value.int .i64 0), (Value.int .i64 0), (Value.slice none 0 0), (Value.int .i64 0), (Value.int .i64 0), (Value.int .i64 0), (Value.int .i64 0)] 52 (0, 0)) <| gh fun v1 =>
  Pv (bldV #[(Value.int .i64 0), (Value.bool false), (Value.slice none 0 0), (Value.int .i64 0), (Value.int .i64 0), (Value.int .i64 0), (Value.slice none 0 0), (Value.int .i64 0), (Value.int .i64 0), (Value.int .i64 0), (Value.int .i64 0)] #[(0, 1), (1, 5), (6, 1), (7, 2), (9, 1), (10, 1)] [(0, a0)]) fun v2 =>
  Sto 11 v1 v2 <| gh fun _ =>
  Rv none (ldNR 11 v1) fun v3 =>
  K v3
theorem sh34_eq (ω : Om) (a0 : Value) (K : Value → M) : vcF Tryz.prog ω Tryz.f34 [a0] K = sh34 ω a0 K := by kernel_rfl
theorem cal34 {ω : Om} {a0 : Value} {K : Value → M} {I : Imm} {L : LH} (h : sh34 ω a0 (fun v => Gh (K v)) I L) : Cal Tryz.prog ω 34 #[a0] K I L :=
  Cal.gh (cal_of_vc mixed Tryz.func34 (by rw [sh34_eq]; exact h))
def sh35 (ω : Om) (K : Value → M) : M :=
  New (.cells #[Value.nilFunc, Value.nilFunc, Value.nilFunc, Value.nilFunc, Value.nilFunc, Value.nilFunc, Value.nilFunc, Value.nilFunc, Value.nilFunc, Value.nilFunc, Value.nilFunc, Value.nilFunc] 104 (0, 0)) <| gh fun v1 =>
  Cal Tryz.prog ω 93 #[(Value.func (.func 94) #[] #[])] <| gh fun v2 =>
  Cal Tryz.prog ω 93 #[(Value.func (.func 95) #[] #[])] <| gh fun v3 =>
  Cal Tryz.prog ω 93 #[(Value.func (.func 96) #[] #[])] <| gh fun v4 =>
  Cal Tryz.prog ω 93 #[(Value.func (.func 97) #[] #[])] <| gh fun v5 =>
  Cal Tryz.prog ω 93 #[(Value.func (.func 98) #[] #[])] <| gh fun v6 =>
  Cal Tryz.prog ω 93 #[(Value.func (.func 99) #[] #[])] <| gh fun v7 =>
  Cal Tryz.prog ω 93 #[(Value.func (.func 100) #[] #[])] <| gh fun v8 =>
  Cal Tryz.prog ω 93 #[(Value.func (.func 101) #[] #[])] <| gh fun v9 =>
  Cal Tryz.prog ω 93 #[(Value.func (.func 102) #[] #[])] <| gh fun v10 =>
  Cal Tryz.prog ω 93 #[(Value.func (.func 103) #[] #[])] <| gh fun v11 =>
  Pv (bldAV 1 #[Value.nilFunc, Value.nilFunc, Value.nilFunc, Value.nilFunc, Value.nilFunc, Value.nilFunc, Value.nilFunc, Value.nilFunc, Value.nilFunc, Value.nilFunc, Value.nilFunc, Value.nilFunc] [(1, v2), (2, v3), (3, v4), (4, v5), (5, v6), (6, v7), (7, v8), (8, v9), (9, v10), (10, v11), (11, (Value.func (.func 104) #[] #[]))]) fun v12 =>
  Sto 12 v1 v12 <| gh fun _ =>
  Rv none (ldNR 12 v1) fun v13 =>
  K v13
theorem sh35_eq (ω : Om) (K : Value → M) : vcF Tryz.prog ω Tryz.f35 [] K = sh35 ω K := by kernel_rfl
theorem cal35 {ω : Om} {K : Value → M} {I : Imm} {L : LH} (h : sh35 ω (fun v => Gh (K v)) I L) : Cal Tryz.prog ω 35 #[] K I L :=
  Cal.gh (cal_of_vc mixed Tryz.func35 (by rw [sh35_eq]; exact h))
def sh45 (ω : Om) (a0 : Value) (K : Value → M) : M :=
  New (.cells (Value.cells a0) 31 (0, 0)) <| gh fun p_1 =>
  Pv (fldV 0 p_1) fun v2 =>
  Rv none (ld1R v2) fun v3 =>
  Pv (lenV v3) fun v4 =>
  Pv (binIV .leq v4 (Value.int .i64 111)) fun v5 =>
  Gd v5 true
    (Pv (fldV 1 p_1) fun v6 =>
    Rv none (ld1R v6) fun v7 =>
    Pv (lenV v7) fun v8 =>
    Pv (binIV .leq v8 (Value.int .i64 111)) fun v9 =>
    Gd v9 true
      (Pv (fldV 1 p_1) fun v10 =>
      Rv none (ld1R v10) fun v11 =>
      Pv (lenV v11) fun v12 =>
      Pv (binIV .eql v12 (Value.int .i64 0)) fun v13 =>
      Gd v13 false
        (Pv (fldV 1 p_1) fun v14 =>
        Rv none (ld1R v14) fun v15 =>
        Rv none (bsR v15) fun v16 =>
        Pv (fldV 0 p_1) fun v17 =>
        Rv none (ld1R v17) fun v18 =>
        Rv none (bsR v18) fun v19 =>
        Pv (binSV .gtr v16 v19) fun v20 =>
        K v20)
        (K (Value.bool true)))
      (K (Value.bool false)))
    (K (Value.bool false))
theorem sh45_eq (ω : Om) (a0 : Value) (K : Value → M) : vcF Tryz.prog ω Tryz.f45 [a0] K = sh45 ω a0 K := by kernel_rfl
theorem cal45 {ω : Om} {a0 : Value} {K : Value → M} {I : Imm} {L : LH} (h : sh45 ω a0 (fun v => Gh (K v)) I L) : Cal Tryz.prog ω 45 #[a0] K I L :=
  Cal.gh (cal_of_vc mixed Tryz.func45 (by rw [sh45_eq]; exact h))
def sh61_1 (ω : Om) (p0 : Value) (p6 : Value) (p7 : Value) (x8 : Value) (Kn0 : (Value × Unit) → M) (K : Value → M) : M :=
  Pv (binIV .lss x8 p7) fun v2 =>
  Br v2
    (Pv (ixV 1 p6 x8) fun v3 =>
    Rv none (ld1R v3) fun v4 =>
    Draw fun S =>
      Pv (nilV p0) fun v5 =>
      Pv (fldV 0 v5) fun v6 =>
      Rv (some S) (ld1R v6) fun v7 =>
      Pv (cvIV .u64 v4) fun v8 =>
      Cal Tryz.prog ω 121 #[v8] <| gh <| Keep S fun v9 =>
      App 5 1 1 #[(Value.int .u8 0)] v7 v9 <| gh fun v10 =>
      Pv (nilV p0) fun v11 =>
      Pv (fldV 0 v11) fun v12 =>
      Sto 1 v12 v10 <| gh fun _ =>
      Pv (binIV .add x8 (Value.int .i64 1)) fun v13 =>
      Kn0 (v13, ()))
    (K (Value.tuple #[]))
def sh61 (ω : Om) (a0 : Value) (a1 : Value) (K : Value → M) : M :=
  Pv (lenV a1) fun v1 =>
  LoopM (((Value.int .i64 0), ()) : Value × Unit) fun s Kn0 =>
  sh61_1 ω a0 a1 v1 s.1 Kn0 K
theorem sh61_eq (ω : Om) (a0 a1 : Value) (K : Value → M) : vcF Tryz.prog ω Tryz.f61 [a0, a1] K = sh61 ω a0 a1 K := by kernel_rfl
theorem cal61 {ω : Om} {a0 a1 : Value} {K : Value → M} {I : Imm} {L : LH} (h : sh61 ω a0 a1 (fun v => Gh (K v)) I L) : Cal Tryz.prog ω 61 #[a0, a1] K I L :=
  Cal.gh (cal_of_vc mixed Tryz.func61 (by rw [sh61_eq]; exact h))
def sh62 (ω : Om) (a0 : Value) (a1 : Value) (K : Value → M) : M :=
  New (.cells (Value.cells a1) 41 (0, 0)) <| gh fun s_1 =>
  Pv (fldV 0 s_1) fun v2 =>
  Rv none (ld1R v2) fun v3 =>
  Pv (fldV 1 s_1) fun v4 =>
  Rv none (ld1R v4) fun v5 =>
  BldS 3 1 #[(Value.int .i64 0)] 2 [(0, v3), (1, v5)] <| gh fun v6 =>
  Cal Tryz.prog ω 61 #[a0, v6] <| gh fun v7 =>
  K (Value.tuple #[])
theorem sh62_eq (ω : Om) (a0 a1 : Value) (K : Value → M) : vcF Tryz.prog ω Tryz.f62 [a0, a1] K = sh62 ω a0 a1 K := by kernel_rfl
theorem cal62 {ω : Om} {a0 a1 : Value} {K : Value → M} {I : Imm} {L : LH} (h : sh62 ω a0 a1 (fun v => Gh (K v)) I L) : Cal Tryz.prog ω 62 #[a0, a1] K I L :=
  Cal.gh (cal_of_vc mixed Tryz.func62 (by rw [sh62_eq]; exact h))
def sh63 (ω : Om) (a0 : Value) (a1 : Value) (K : Value → M) : M :=
  Br a1
    (BldS 3 1 #[(Value.int .i64 0)] 1 [(0, (Value.int .i64 1))] <| gh fun v1 =>
    Cal Tryz.prog ω 61 #[a0, v1] <| gh fun v2 =>
    K (Value.tuple #[]))
    (BldS 3 1 #[(Value.int .i64 0)] 1 [(0, (Value.int .i64 0))] <| gh fun v3 =>
    Cal Tryz.prog ω 61 #[a0, v3] <| gh fun v4 =>
    K (Value.tuple #[]))
theorem sh63_eq (ω : Om) (a0 a1 : Value) (K : Value → M) : vcF Tryz.prog ω Tryz.f63 [a0, a1] K = sh63 ω a0 a1 K := by kernel_rfl
theorem cal63 {ω : Om} {a0 a1 : Value} {K : Value → M} {I : Imm} {L : LH} (h : sh63 ω a0 a1 (fun v => Gh (K v)) I L) : Cal Tryz.prog ω 63 #[a0, a1] K I L :=
  Cal.gh (cal_of_vc mixed Tryz.func63 (by rw [sh63_eq]; exact h))
def sh64 (ω : Om) (a0 : Value) (a1 : Value) (K : Value → M) : M :=
  Pv (lenV a1) fun v1 =>
  BldS 3 1 #[(Value.int .i64 0)] 1 [(0, v1)] <| gh fun v2 =>
  Cal Tryz.prog ω 61 #[a0, v2] <| gh fun v3 =>
  Pv (nilV a0) fun v4 =>
  Pv (fldV 0 v4) fun v5 =>
  Rv none (ld1R v5) fun v6 =>
  App 5 1 1 #[(Value.int .u8 0)] v6 a1 <| gh fun v7 =>
  Pv (nilV a0) fun v8 =>
  Pv (fldV 0 v8) fun v9 =>
  Sto 1 v9 v7 <| gh fun _ =>
  K (Value.tuple #[])
theorem sh64_eq (ω : Om) (a0 a1 : Value) (K : Value → M) : vcF Tryz.prog ω Tryz.f64 [a0, a1] K = sh64 ω a0 a1 K := by kernel_rfl
theorem cal64 {ω : Om} {a0 a1 : Value} {K : Value → M} {I : Imm} {L : LH} (h : sh64 ω a0 a1 (fun v => Gh (K v)) I L) : Cal Tryz.prog ω 64 #[a0, a1] K I L :=
  Cal.gh (cal_of_vc mixed Tryz.func64 (by rw [sh64_eq]; exact h))
def sh65 (ω : Om) (a0 : Value) (a1 : Value) (K : Value → M) : M :=
  New (.cells (Value.cells a1) 31 (0, 0)) <| gh fun p_1 =>
  Pv (fldV 0 p_1) fun v2 =>
  Rv none (ld1R v2) fun v3 =>
  Cal Tryz.prog ω 64 #[a0, v3] <| gh fun v4 =>
  Pv (fldV 1 p_1) fun v5 =>
  Rv none (ld1R v5) fun v6 =>
  Cal Tryz.prog ω 64 #[a0, v6] <| gh fun v7 =>
  K (Value.tuple #[])
theorem sh65_eq (ω : Om) (a0 a1 : Value) (K : Value → M) : vcF Tryz.prog ω Tryz.f65 [a0, a1] K = sh65 ω a0 a1 K := by kernel_rfl
theorem cal65 {ω : Om} {a0 a1 : Value} {K : Value → M} {I : Imm} {L : LH} (h : sh65 ω a0 a1 (fun v => Gh (K v)) I L) : Cal Tryz.prog ω 65 #[a0, a1] K I L :=
  Cal.gh (cal_of_vc mixed Tryz.func65 (by rw [sh65_eq]; exact h))
def sh66 (ω : Om) (a0 : Value) (K : Value → M) : M :=
  New (.cells (Value.cells a0) 41 (0, 0)) <| gh fun s_1 =>
  Pv (fldV 0 s_1) fun v2 =>
  Rv none (ld1R v2) fun v3 =>
  Cal Tryz.prog ω 122 #[v3] <| gh fun v4 =>
  Gd v4 true
    (Pv (fldV 1 s_1) fun v5 =>
    Rv none (ld1R v5) fun v6 =>
    Pv (binIV .geq v6 (Value.int .i64 0)) fun v7 =>
    Gd v7 true
      (Pv (fldV 1 s_1) fun v8 =>
      Rv none (ld1R v8) fun v9 =>
      Pv (binIV .leq v9 (Value.int .i64 65535)) fun v10 =>
      K v10)
      (K (Value.bool false)))
    (K (Value.bool false))
theorem sh66_eq (ω : Om) (a0 : Value) (K : Value → M) : vcF Tryz.prog ω Tryz.f66 [a0] K = sh66 ω a0 K := by kernel_rfl
theorem cal66 {ω : Om} {a0 : Value} {K : Value → M} {I : Imm} {L : LH} (h : sh66 ω a0 (fun v => Gh (K v)) I L) : Cal Tryz.prog ω 66 #[a0] K I L :=
  Cal.gh (cal_of_vc mixed Tryz.func66 (by rw [sh66_eq]; exact h))
def sh67 (ω : Om) (a0 : Value) (K : Value → M) : M :=
  Cal Tryz.prog ω 123 #[a0] <| gh fun v1 =>
  K v1
theorem sh67_eq (ω : Om) (a0 : Value) (K : Value → M) : vcF Tryz.prog ω Tryz.f67 [a0] K = sh67 ω a0 K := by kernel_rfl
theorem cal67 {ω : Om} {a0 : Value} {K : Value → M} {I : Imm} {L : LH} (h : sh67 ω a0 (fun v => Gh (K v)) I L) : Cal Tryz.prog ω 67 #[a0] K I L :=
  Cal.gh (cal_of_vc mixed Tryz.func67 (by rw [sh67_eq]; exact h))
def sh68 (ω : Om) (a0 : Value) (K : Value → M) : M :=
  Pv (lenV a0) fun v1 =>
  Pv (binIV .geq v1 (Value.int .i64 1)) fun v2 =>
  Gd v2 true
    (Pv (lenV a0) fun v3 =>
    Pv (binIV .leq v3 (Value.int .i64 110)) fun v4 =>
    K v4)
    (K (Value.bool false))
theorem sh68_eq (ω : Om) (a0 : Value) (K : Value → M) : vcF Tryz.prog ω Tryz.f68 [a0] K = sh68 ω a0 K := by kernel_rfl
theorem cal68 {ω : Om} {a0 : Value} {K : Value → M} {I : Imm} {L : LH} (h : sh68 ω a0 (fun v => Gh (K v)) I L) : Cal Tryz.prog ω 68 #[a0] K I L :=
  Cal.gh (cal_of_vc mixed Tryz.func68 (by rw [sh68_eq]; exact h))
def sh69 (ω : Om) (a0 : Value) (K : Value → M) : M :=
  Pv (binIV .geq a0 (Value.int .i64 0)) fun v1 =>
  Gd v1 true
    (Pv (binIV .leq a0 (Value.int .i64 9007199254740991)) fun v2 =>
    K v2)
    (K (Value.bool false))
theorem sh69_eq (ω : Om) (a0 : Value) (K : Value → M) : vcF Tryz.prog ω Tryz.f69 [a0] K = sh69 ω a0 K := by kernel_rfl
theorem cal69 {ω : Om} {a0 : Value} {K : Value → M} {I : Imm} {L : LH} (h : sh69 ω a0 (fun v => Gh (K v)) I L) : Cal Tryz.prog ω 69 #[a0] K I L :=
  Cal.gh (cal_of_vc mixed Tryz.func69 (by rw [sh69_eq]; exact h))
def sh70 (ω : Om) (a0 : Value) (a1 : Value) (a2 : Value) (a3 : Value) (a4 : Value) (a5 : Value) (a6 : Value) (a7 : Value) (K : Value → M) : M :=
  New (.cells (Value.cells a0) 56 (0, 0)) <| gh fun c_1 =>
  Gd a1 true
    (Pv (fldV 10 c_1) fun v2 =>
    Rv none (ld1R v2) fun v3 =>
    Pv (lenV v3) fun v4 =>
    Pv (binIV .gtr v4 (Value.int .i64 0)) fun v5 =>
    Gd v5 false
      (Pv (fldV 11 c_1) fun v6 =>
      Rv none (ld1R v6) fun v7 =>
      Pv (lenV v7) fun v8 =>
      Pv (binIV .gtr v8 (Value.int .i64 0)) fun v9 =>
      Gd v9 false
        (Pv (fldV 9 c_1) fun v10 =>
        Rv none (ld1R v10) fun v11 =>
        Br v11
          (K (Value.bool false))
          (Gd a2 true
            (Pv (fldV 12 c_1) fun v12 =>
            Pv (fldV 0 v12) fun v13 =>
            Rv none (ld1R v13) fun v14 =>
            Pv (lenV v14) fun v15 =>
            Pv (binIV .gtr v15 (Value.int .i64 0)) fun v16 =>
            Gd v16 false
              (Pv (fldV 12 c_1) fun v17 =>
              Pv (fldV 1 v17) fun v18 =>
              Rv none (ld1R v18) fun v19 =>
              Pv (lenV v19) fun v20 =>
              Pv (binIV .gtr v20 (Value.int .i64 0)) fun v21 =>
              Br v21
                (K (Value.bool false))
                (Pv (unV .not a3) fun v22 =>
                Gd v22 false
                  (Pv (fldV 7 c_1) fun v23 =>
                  Rv none (ld1R v23) fun v24 =>
                  Pv (binIV .eql v24 (Value.int .i64 0)) fun v25 =>
                  Gd v25 true
                    (Pv (unV .not a4) fun v26 =>
                    Gd v26 false
                      (Pv (fldV 8 c_1) fun v27 =>
                      Rv none (ld1R v27) fun v28 =>
                      Pv (unV .not v28) fun v29 =>
                      Gd v29 true
                        (Pv (unV .not a5) fun v30 =>
                        Gd v30 false
                          (Pv (fldV 5 c_1) fun v31 =>
                          Rv none (ldNR 2 v31) fun v32 =>
                          Pv (bldV #[(Value.int .i64 0), (Value.int .i64 0)] #[(0, 1), (1, 1)] []) fun v33 =>
                          Pv (binAV .eql [(TypeDesc.int .i64, 0), (TypeDesc.int .i64, 1)] v32 v33) fun v34 =>
                          Gd v34 true
                            (Pv (unV .not a6) fun v35 =>
                            Gd v35 false
                              (Pv (fldV 14 c_1) fun v36 =>
                              Rv none (ld1R v36) fun v37 =>
                              Pv (binIV .eql v37 (Value.int .i64 0)) fun v38 =>
                              Gd v38 true
                                (Pv (unV .not a7) fun v39 =>
                                Gd v39 false
                                  (Pv (fldV 2 c_1) fun v40 =>
                                  Rv none (ld1R v40) fun v41 =>
                                  Pv (binIV .eql v41 (Value.int .i64 0)) fun v42 =>
                                  K v42)
                                  (K (Value.bool true)))
                                (K (Value.bool false)))
                              (Pv (unV .not a7) fun v43 =>
                              Gd v43 false
                                (Pv (fldV 2 c_1) fun v44 =>
                                Rv none (ld1R v44) fun v45 =>
                                Pv (binIV .eql v45 (Value.int .i64 0)) fun v46 =>
                                K v46)
                                (K (Value.bool true))))
                            (K (Value.bool false)))
                          (Pv (unV .not a6) fun v47 =>
                          Gd v47 false
                            (Pv (fldV 14 c_1) fun v48 =>
                            Rv none (ld1R v48) fun v49 =>
                            Pv (binIV .eql v49 (Value.int .i64 0)) fun v50 =>
                            Gd v50 true
                              (Pv (unV .not a7) fun v51 =>
                              Gd v51 false
                                (Pv (fldV 2 c_1) fun v52 =>
                                Rv none (ld1R v52) fun v53 =>
                                Pv (binIV .eql v53 (Value.int .i64 0)) fun v54 =>
                                K v54)
                                (K (Value.bool true)))
                              (K (Value.bool false)))
                            (Pv (unV .not a7) fun v55 =>
                            Gd v55 false
                              (Pv (fldV 2 c_1) fun v56 =>
                              Rv none (ld1R v56) fun v57 =>
                              Pv (binIV .eql v57 (Value.int .i64 0)) fun v58 =>
                              K v58)
                              (K (Value.bool true)))))
                        (K (Value.bool false)))
                      (Pv (unV .not a5) fun v59 =>
                      Gd v59 false
                        (Pv (fldV 5 c_1) fun v60 =>
                        Rv none (ldNR 2 v60) fun v61 =>
                        Pv (bldV #[(Value.int .i64 0), (Value.int .i64 0)] #[(0, 1), (1, 1)] []) fun v62 =>
                        Pv (binAV .eql [(TypeDesc.int .i64, 0), (TypeDesc.int .i64, 1)] v61 v62) fun v63 =>
                        Gd v63 true
                          (Pv (unV .not a6) fun v64 =>
                          Gd v64 false
                            (Pv (fldV 14 c_1) fun v65 =>
                            Rv none (ld1R v65) fun v66 =>
                            Pv (binIV .eql v66 (Value.int .i64 0)) fun v67 =>
                            Gd v67 true
                              (Pv (unV .not a7) fun v68 =>
                              Gd v68 false
                                (Pv (fldV 2 c_1) fun v69 =>
                                Rv none (ld1R v69) fun v70 =>
                                Pv (binIV .eql v70 (Value.int .i64 0)) fun v71 =>
                                K v71)
                                (K (Value.bool true)))
                              (K (Value.bool false)))
                            (Pv (unV .not a7) fun v72 =>
                            Gd v72 false
                              (Pv (fldV 2 c_1) fun v73 =>
                              Rv none (ld1R v73) fun v74 =>
                              Pv (binIV .eql v74 (Value.int .i64 0)) fun v75 =>
                              K v75)
                              (K (Value.bool true))))
                          (K (Value.bool false)))
                        (Pv (unV .not a6) fun v76 =>
                        Gd v76 false
                          (Pv (fldV 14 c_1) fun v77 =>
                          Rv none (ld1R v77) fun v78 =>
                          Pv (binIV .eql v78 (Value.int .i64 0)) fun v79 =>
                          Gd v79 true
                            (Pv (unV .not a7) fun v80 =>
                            Gd v80 false
                              (Pv (fldV 2 c_1) fun v81 =>
                              Rv none (ld1R v81) fun v82 =>
                              Pv (binIV .eql v82 (Value.int .i64 0)) fun v83 =>
                              K v83)
                              (K (Value.bool true)))
                            (K (Value.bool false)))
                          (Pv (unV .not a7) fun v84 =>
                          Gd v84 false
                            (Pv (fldV 2 c_1) fun v85 =>
                            Rv none (ld1R v85) fun v86 =>
                            Pv (binIV .eql v86 (Value.int .i64 0)) fun v87 =>
                            K v87)
                            (K (Value.bool true))))))
                    (K (Value.bool false)))
                  (Pv (unV .not a4) fun v88 =>
                  Gd v88 false
                    (Pv (fldV 8 c_1) fun v89 =>
                    Rv none (ld1R v89) fun v90 =>
                    Pv (unV .not v90) fun v91 =>
                    Gd v91 true
                      (Pv (unV .not a5) fun v92 =>
                      Gd v92 false
                        (Pv (fldV 5 c_1) fun v93 =>
                        Rv none (ldNR 2 v93) fun v94 =>
                        Pv (bldV #[(Value.int .i64 0), (Value.int .i64 0)] #[(0, 1), (1, 1)] []) fun v95 =>
                        Pv (binAV .eql [(TypeDesc.int .i64, 0), (TypeDesc.int .i64, 1)] v94 v95) fun v96 =>
                        Gd v96 true
                          (Pv (unV .not a6) fun v97 =>
                          Gd v97 false
                            (Pv (fldV 14 c_1) fun v98 =>
                            Rv none (ld1R v98) fun v99 =>
                            Pv (binIV .eql v99 (Value.int .i64 0)) fun v100 =>
                            Gd v100 true
                              (Pv (unV .not a7) fun v101 =>
                              Gd v101 false
                                (Pv (fldV 2 c_1) fun v102 =>
                                Rv none (ld1R v102) fun v103 =>
                                Pv (binIV .eql v103 (Value.int .i64 0)) fun v104 =>
                                K v104)
                                (K (Value.bool true)))
                              (K (Value.bool false)))
                            (Pv (unV .not a7) fun v105 =>
                            Gd v105 false
                              (Pv (fldV 2 c_1) fun v106 =>
                              Rv none (ld1R v106) fun v107 =>
                              Pv (binIV .eql v107 (Value.int .i64 0)) fun v108 =>
                              K v108)
                              (K (Value.bool true))))
                          (K (Value.bool false)))
                        (Pv (unV .not a6) fun v109 =>
                        Gd v109 false
                          (Pv (fldV 14 c_1) fun v110 =>
                          Rv none (ld1R v110) fun v111 =>
                          Pv (binIV .eql v111 (Value.int .i64 0)) fun v112 =>
                          Gd v112 true
                            (Pv (unV .not a7) fun v113 =>
                            Gd v113 false
                              (Pv (fldV 2 c_1) fun v114 =>
                              Rv none (ld1R v114) fun v115 =>
                              Pv (binIV .eql v115 (Value.int .i64 0)) fun v116 =>
                              K v116)
                              (K (Value.bool true)))
                            (K (Value.bool false)))
                          (Pv (unV .not a7) fun v117 =>
                          Gd v117 false
                            (Pv (fldV 2 c_1) fun v118 =>
                            Rv none (ld1R v118) fun v119 =>
                            Pv (binIV .eql v119 (Value.int .i64 0)) fun v120 =>
                            K v120)
                            (K (Value.bool true)))))
                      (K (Value.bool false)))
                    (Pv (unV .not a5) fun v121 =>
                    Gd v121 false
                      (Pv (fldV 5 c_1) fun v122 =>
                      Rv none (ldNR 2 v122) fun v123 =>
                      Pv (bldV #[(Value.int .i64 0), (Value.int .i64 0)] #[(0, 1), (1, 1)] []) fun v124 =>
                      Pv (binAV .eql [(TypeDesc.int .i64, 0), (TypeDesc.int .i64, 1)] v123 v124) fun v125 =>
                      Gd v125 true
                        (Pv (unV .not a6) fun v126 =>
                        Gd v126 false
                          (Pv (fldV 14 c_1) fun v127 =>
                          Rv none (ld1R v127) fun v128 =>
                          Pv (binIV .eql v128 (Value.int .i64 0)) fun v129 =>
                          Gd v129 true
                            (Pv (unV .not a7) fun v130 =>
                            Gd v130 false
                              (Pv (fldV 2 c_1) fun v131 =>
                              Rv none (ld1R v131) fun v132 =>
                              Pv (binIV .eql v132 (Value.int .i64 0)) fun v133 =>
                              K v133)
                              (K (Value.bool true)))
                            (K (Value.bool false)))
                          (Pv (unV .not a7) fun v134 =>
                          Gd v134 false
                            (Pv (fldV 2 c_1) fun v135 =>
                            Rv none (ld1R v135) fun v136 =>
                            Pv (binIV .eql v136 (Value.int .i64 0)) fun v137 =>
                            K v137)
                            (K (Value.bool true))))
                        (K (Value.bool false)))
                      (Pv (unV .not a6) fun v138 =>
                      Gd v138 false
                        (Pv (fldV 14 c_1) fun v139 =>
                        Rv none (ld1R v139) fun v140 =>
                        Pv (binIV .eql v140 (Value.int .i64 0)) fun v141 =>
                        Gd v141 true
                          (Pv (unV .not a7) fun v142 =>
                          Gd v142 false
                            (Pv (fldV 2 c_1) fun v143 =>
                            Rv none (ld1R v143) fun v144 =>
                            Pv (binIV .eql v144 (Value.int .i64 0)) fun v145 =>
                            K v145)
                            (K (Value.bool true)))
                          (K (Value.bool false)))
                        (Pv (unV .not a7) fun v146 =>
                        Gd v146 false
                          (Pv (fldV 2 c_1) fun v147 =>
                          Rv none (ld1R v147) fun v148 =>
                          Pv (binIV .eql v148 (Value.int .i64 0)) fun v149 =>
                          K v149)
                          (K (Value.bool true))))))))
              (K (Value.bool false)))
            (Pv (unV .not a3) fun v150 =>
            Gd v150 false
              (Pv (fldV 7 c_1) fun v151 =>
              Rv none (ld1R v151) fun v152 =>
              Pv (binIV .eql v152 (Value.int .i64 0)) fun v153 =>
              Gd v153 true
                (Pv (unV .not a4) fun v154 =>
                Gd v154 false
                  (Pv (fldV 8 c_1) fun v155 =>
                  Rv none (ld1R v155) fun v156 =>
                  Pv (unV .not v156) fun v157 =>
                  Gd v157 true
                    (Pv (unV .not a5) fun v158 =>
                    Gd v158 false
                      (Pv (fldV 5 c_1) fun v159 =>
                      Rv none (ldNR 2 v159) fun v160 =>
                      Pv (bldV #[(Value.int .i64 0), (Value.int .i64 0)] #[(0, 1), (1, 1)] []) fun v161 =>
                      Pv (binAV .eql [(TypeDesc.int .i64, 0), (TypeDesc.int .i64, 1)] v160 v161) fun v162 =>
                      Gd v162 true
                        (Pv (unV .not a6) fun v163 =>
                        Gd v163 false
                          (Pv (fldV 14 c_1) fun v164 =>
                          Rv none (ld1R v164) fun v165 =>
                          Pv (binIV .eql v165 (Value.int .i64 0)) fun v166 =>
                          Gd v166 true
                            (Pv (unV .not a7) fun v167 =>
                            Gd v167 false
                              (Pv (fldV 2 c_1) fun v168 =>
                              Rv none (ld1R v168) fun v169 =>
                              Pv (binIV .eql v169 (Value.int .i64 0)) fun v170 =>
                              K v170)
                              (K (Value.bool true)))
                            (K (Value.bool false)))
                          (Pv (unV .not a7) fun v171 =>
                          Gd v171 false
                            (Pv (fldV 2 c_1) fun v172 =>
                            Rv none (ld1R v172) fun v173 =>
                            Pv (binIV .eql v173 (Value.int .i64 0)) fun v174 =>
                            K v174)
                            (K (Value.bool true))))
                        (K (Value.bool false)))
                      (Pv (unV .not a6) fun v175 =>
                      Gd v175 false
                        (Pv (fldV 14 c_1) fun v176 =>
                        Rv none (ld1R v176) fun v177 =>
                        Pv (binIV .eql v177 (Value.int .i64 0)) fun v178 =>
                        Gd v178 true
                          (Pv (unV .not a7) fun v179 =>
                          Gd v179 false
                            (Pv (fldV 2 c_1) fun v180 =>
                            Rv none (ld1R v180) fun v181 =>
                            Pv (binIV .eql v181 (Value.int .i64 0)) fun v182 =>
                            K v182)
                            (K (Value.bool true)))
                          (K (Value.bool false)))
                        (Pv (unV .not a7) fun v183 =>
                        Gd v183 false
                          (Pv (fldV 2 c_1) fun v184 =>
                          Rv none (ld1R v184) fun v185 =>
                          Pv (binIV .eql v185 (Value.int .i64 0)) fun v186 =>
                          K v186)
                          (K (Value.bool true)))))
                    (K (Value.bool false)))
                  (Pv (unV .not a5) fun v187 =>
                  Gd v187 false
                    (Pv (fldV 5 c_1) fun v188 =>
                    Rv none (ldNR 2 v188) fun v189 =>
                    Pv (bldV #[(Value.int .i64 0), (Value.int .i64 0)] #[(0, 1), (1, 1)] []) fun v190 =>
                    Pv (binAV .eql [(TypeDesc.int .i64, 0), (TypeDesc.int .i64, 1)] v189 v190) fun v191 =>
                    Gd v191 true
                      (Pv (unV .not a6) fun v192 =>
                      Gd v192 false
                        (Pv (fldV 14 c_1) fun v193 =>
                        Rv none (ld1R v193) fun v194 =>
                        Pv (binIV .eql v194 (Value.int .i64 0)) fun v195 =>
                        Gd v195 true
                          (Pv (unV .not a7) fun v196 =>
                          Gd v196 false
                            (Pv (fldV 2 c_1) fun v197 =>
                            Rv none (ld1R v197) fun v198 =>
                            Pv (binIV .eql v198 (Value.int .i64 0)) fun v199 =>
                            K v199)
                            (K (Value.bool true)))
                          (K (Value.bool false)))
                        (Pv (unV .not a7) fun v200 =>
                        Gd v200 false
                          (Pv (fldV 2 c_1) fun v201 =>
                          Rv none (ld1R v201) fun v202 =>
                          Pv (binIV .eql v202 (Value.int .i64 0)) fun v203 =>
                          K v203)
                          (K (Value.bool true))))
                      (K (Value.bool false)))
                    (Pv (unV .not a6) fun v204 =>
                    Gd v204 false
                      (Pv (fldV 14 c_1) fun v205 =>
                      Rv none (ld1R v205) fun v206 =>
                      Pv (binIV .eql v206 (Value.int .i64 0)) fun v207 =>
                      Gd v207 true
                        (Pv (unV .not a7) fun v208 =>
                        Gd v208 false
                          (Pv (fldV 2 c_1) fun v209 =>
                          Rv none (ld1R v209) fun v210 =>
                          Pv (binIV .eql v210 (Value.int .i64 0)) fun v211 =>
                          K v211)
                          (K (Value.bool true)))
                        (K (Value.bool false)))
                      (Pv (unV .not a7) fun v212 =>
                      Gd v212 false
                        (Pv (fldV 2 c_1) fun v213 =>
                        Rv none (ld1R v213) fun v214 =>
                        Pv (binIV .eql v214 (Value.int .i64 0)) fun v215 =>
                        K v215)
                        (K (Value.bool true))))))
                (K (Value.bool false)))
              (Pv (unV .not a4) fun v216 =>
              Gd v216 false
                (Pv (fldV 8 c_1) fun v217 =>
                Rv none (ld1R v217) fun v218 =>
                Pv (unV .not v218) fun v219 =>
                Gd v219 true
                  (Pv (unV .not a5) fun v220 =>
                  Gd v220 false
                    (Pv (fldV 5 c_1) fun v221 =>
                    Rv none (ldNR 2 v221) fun v222 =>
                    Pv (bldV #[(Value.int .i64 0), (Value.int .i64 0)] #[(0, 1), (1, 1)] []) fun v223 =>
                    Pv (binAV .eql [(TypeDesc.int .i64, 0), (TypeDesc.int .i64, 1)] v222 v223) fun v224 =>
                    Gd v224 true
                      (Pv (unV .not a6) fun v225 =>
                      Gd v225 false
                        (Pv (fldV 14 c_1) fun v226 =>
                        Rv none (ld1R v226) fun v227 =>
                        Pv (binIV .eql v227 (Value.int .i64 0)) fun v228 =>
                        Gd v228 true
                          (Pv (unV .not a7) fun v229 =>
                          Gd v229 false
                            (Pv (fldV 2 c_1) fun v230 =>
                            Rv none (ld1R v230) fun v231 =>
                            Pv (binIV .eql v231 (Value.int .i64 0)) fun v232 =>
                            K v232)
                            (K (Value.bool true)))
                          (K (Value.bool false)))
                        (Pv (unV .not a7) fun v233 =>
                        Gd v233 false
                          (Pv (fldV 2 c_1) fun v234 =>
                          Rv none (ld1R v234) fun v235 =>
                          Pv (binIV .eql v235 (Value.int .i64 0)) fun v236 =>
                          K v236)
                          (K (Value.bool true))))
                      (K (Value.bool false)))
                    (Pv (unV .not a6) fun v237 =>
                    Gd v237 false
                      (Pv (fldV 14 c_1) fun v238 =>
                      Rv none (ld1R v238) fun v239 =>
                      Pv (binIV .eql v239 (Value.int .i64 0)) fun v240 =>
                      Gd v240 true
                        (Pv (unV .not a7) fun v241 =>
                        Gd v241 false
                          (Pv (fldV 2 c_1) fun v242 =>
                          Rv none (ld1R v242) fun v243 =>
                          Pv (binIV .eql v243 (Value.int .i64 0)) fun v244 =>
                          K v244)
                          (K (Value.bool true)))
                        (K (Value.bool false)))
                      (Pv (unV .not a7) fun v245 =>
                      Gd v245 false
                        (Pv (fldV 2 c_1) fun v246 =>
                        Rv none (ld1R v246) fun v247 =>
                        Pv (binIV .eql v247 (Value.int .i64 0)) fun v248 =>
                        K v248)
                        (K (Value.bool true)))))
                  (K (Value.bool false)))
                (Pv (unV .not a5) fun v249 =>
                Gd v249 false
                  (Pv (fldV 5 c_1) fun v250 =>
                  Rv none (ldNR 2 v250) fun v251 =>
                  Pv (bldV #[(Value.int .i64 0), (Value.int .i64 0)] #[(0, 1), (1, 1)] []) fun v252 =>
                  Pv (binAV .eql [(TypeDesc.int .i64, 0), (TypeDesc.int .i64, 1)] v251 v252) fun v253 =>
                  Gd v253 true
                    (Pv (unV .not a6) fun v254 =>
                    Gd v254 false
                      (Pv (fldV 14 c_1) fun v255 =>
                      Rv none (ld1R v255) fun v256 =>
                      Pv (binIV .eql v256 (Value.int .i64 0)) fun v257 =>
                      Gd v257 true
                        (Pv (unV .not a7) fun v258 =>
                        Gd v258 false
                          (Pv (fldV 2 c_1) fun v259 =>
                          Rv none (ld1R v259) fun v260 =>
                          Pv (binIV .eql v260 (Value.int .i64 0)) fun v261 =>
                          K v261)
                          (K (Value.bool true)))
                        (K (Value.bool false)))
                      (Pv (unV .not a7) fun v262 =>
                      Gd v262 false
                        (Pv (fldV 2 c_1) fun v263 =>
                        Rv none (ld1R v263) fun v264 =>
                        Pv (binIV .eql v264 (Value.int .i64 0)) fun v265 =>
                        K v265)
                        (K (Value.bool true))))
                    (K (Value.bool false)))
                  (Pv (unV .not a6) fun v266 =>
                  Gd v266 false
                    (Pv (fldV 14 c_1) fun v267 =>
                    Rv none (ld1R v267) fun v268 =>
                    Pv (binIV .eql v268 (Value.int .i64 0)) fun v269 =>
                    Gd v269 true
                      (Pv (unV .not a7) fun v270 =>
                      Gd v270 false
                        (Pv (fldV 2 c_1) fun v271 =>
                        Rv none (ld1R v271) fun v272 =>
                        Pv (binIV .eql v272 (Value.int .i64 0)) fun v273 =>
                        K v273)
                        (K (Value.bool true)))
                      (K (Value.bool false)))
                    (Pv (unV .not a7) fun v274 =>
                    Gd v274 false
                      (Pv (fldV 2 c_1) fun v275 =>
                      Rv none (ld1R v275) fun v276 =>
                      Pv (binIV .eql v276 (Value.int .i64 0)) fun v277 =>
                      K v277)
                      (K (Value.bool true)))))))))
        (K (Value.bool false)))
      (K (Value.bool false)))
    (Gd a2 true
      (Pv (fldV 12 c_1) fun v278 =>
      Pv (fldV 0 v278) fun v279 =>
      Rv none (ld1R v279) fun v280 =>
      Pv (lenV v280) fun v281 =>
      Pv (binIV .gtr v281 (Value.int .i64 0)) fun v282 =>
      Gd v282 false
        (Pv (fldV 12 c_1) fun v283 =>
        Pv (fldV 1 v283) fun v284 =>
        Rv none (ld1R v284) fun v285 =>
        Pv (lenV v285) fun v286 =>
        Pv (binIV .gtr v286 (Value.int .i64 0)) fun v287 =>
        Br v287
          (K (Value.bool false))
          (Pv (unV .not a3) fun v288 =>
          Gd v288 false
            (Pv (fldV 7 c_1) fun v289 =>
            Rv none (ld1R v289) fun v290 =>
            Pv (binIV .eql v290 (Value.int .i64 0)) fun v291 =>
            Gd v291 true
              (Pv (unV .not a4) fun v292 =>
              Gd v292 false
                (Pv (fldV 8 c_1) fun v293 =>
                Rv none (ld1R v293) fun v294 =>
                Pv (unV .not v294) fun v295 =>
                Gd v295 true
                  (Pv (unV .not a5) fun v296 =>
                  Gd v296 false
                    (Pv (fldV 5 c_1) fun v297 =>
                    Rv none (ldNR 2 v297) fun v298 =>
                    Pv (bldV #[(Value.int .i64 0), (Value.int .i64 0)] #[(0, 1), (1, 1)] []) fun v299 =>
                    Pv (binAV .eql [(TypeDesc.int .i64, 0), (TypeDesc.int .i64, 1)] v298 v299) fun v300 =>
                    Gd v300 true
                      (Pv (unV .not a6) fun v301 =>
                      Gd v301 false
                        (Pv (fldV 14 c_1) fun v302 =>
                        Rv none (ld1R v302) fun v303 =>
                        Pv (binIV .eql v303 (Value.int .i64 0)) fun v304 =>
                        Gd v304 true
                          (Pv (unV .not a7) fun v305 =>
                          Gd v305 false
                            (Pv (fldV 2 c_1) fun v306 =>
                            Rv none (ld1R v306) fun v307 =>
                            Pv (binIV .eql v307 (Value.int .i64 0)) fun v308 =>
                            K v308)
                            (K (Value.bool true)))
                          (K (Value.bool false)))
                        (Pv (unV .not a7) fun v309 =>
                        Gd v309 false
                          (Pv (fldV 2 c_1) fun v310 =>
                          Rv none (ld1R v310) fun v311 =>
                          Pv (binIV .eql v311 (Value.int .i64 0)) fun v312 =>
                          K v312)
                          (K (Value.bool true))))
                      (K (Value.bool false)))
                    (Pv (unV .not a6) fun v313 =>
                    Gd v313 false
                      (Pv (fldV 14 c_1) fun v314 =>
                      Rv none (ld1R v314) fun v315 =>
                      Pv (binIV .eql v315 (Value.int .i64 0)) fun v316 =>
                      Gd v316 true
                        (Pv (unV .not a7) fun v317 =>
                        Gd v317 false
                          (Pv (fldV 2 c_1) fun v318 =>
                          Rv none (ld1R v318) fun v319 =>
                          Pv (binIV .eql v319 (Value.int .i64 0)) fun v320 =>
                          K v320)
                          (K (Value.bool true)))
                        (K (Value.bool false)))
                      (Pv (unV .not a7) fun v321 =>
                      Gd v321 false
                        (Pv (fldV 2 c_1) fun v322 =>
                        Rv none (ld1R v322) fun v323 =>
                        Pv (binIV .eql v323 (Value.int .i64 0)) fun v324 =>
                        K v324)
                        (K (Value.bool true)))))
                  (K (Value.bool false)))
                (Pv (unV .not a5) fun v325 =>
                Gd v325 false
                  (Pv (fldV 5 c_1) fun v326 =>
                  Rv none (ldNR 2 v326) fun v327 =>
                  Pv (bldV #[(Value.int .i64 0), (Value.int .i64 0)] #[(0, 1), (1, 1)] []) fun v328 =>
                  Pv (binAV .eql [(TypeDesc.int .i64, 0), (TypeDesc.int .i64, 1)] v327 v328) fun v329 =>
                  Gd v329 true
                    (Pv (unV .not a6) fun v330 =>
                    Gd v330 false
                      (Pv (fldV 14 c_1) fun v331 =>
                      Rv none (ld1R v331) fun v332 =>
                      Pv (binIV .eql v332 (Value.int .i64 0)) fun v333 =>
                      Gd v333 true
                        (Pv (unV .not a7) fun v334 =>
                        Gd v334 false
                          (Pv (fldV 2 c_1) fun v335 =>
                          Rv none (ld1R v335) fun v336 =>
                          Pv (binIV .eql v336 (Value.int .i64 0)) fun v337 =>
                          K v337)
                          (K (Value.bool true)))
                        (K (Value.bool false)))
                      (Pv (unV .not a7) fun v338 =>
                      Gd v338 false
                        (Pv (fldV 2 c_1) fun v339 =>
                        Rv none (ld1R v339) fun v340 =>
                        Pv (binIV .eql v340 (Value.int .i64 0)) fun v341 =>
                        K v341)
                        (K (Value.bool true))))
                    (K (Value.bool false)))
                  (Pv (unV .not a6) fun v342 =>
                  Gd v342 false
                    (Pv (fldV 14 c_1) fun v343 =>
                    Rv none (ld1R v343) fun v344 =>
                    Pv (binIV .eql v344 (Value.int .i64 0)) fun v345 =>
                    Gd v345 true
                      (Pv (unV .not a7) fun v346 =>
                      Gd v346 false
                        (Pv (fldV 2 c_1) fun v347 =>
                        Rv none (ld1R v347) fun v348 =>
                        Pv (binIV .eql v348 (Value.int .i64 0)) fun v349 =>
                        K v349)
                        (K (Value.bool true)))
                      (K (Value.bool false)))
                    (Pv (unV .not a7) fun v350 =>
                    Gd v350 false
                      (Pv (fldV 2 c_1) fun v351 =>
                      Rv none (ld1R v351) fun v352 =>
                      Pv (binIV .eql v352 (Value.int .i64 0)) fun v353 =>
                      K v353)
                      (K (Value.bool true))))))
              (K (Value.bool false)))
            (Pv (unV .not a4) fun v354 =>
            Gd v354 false
              (Pv (fldV 8 c_1) fun v355 =>
              Rv none (ld1R v355) fun v356 =>
              Pv (unV .not v356) fun v357 =>
              Gd v357 true
                (Pv (unV .not a5) fun v358 =>
                Gd v358 false
                  (Pv (fldV 5 c_1) fun v359 =>
                  Rv none (ldNR 2 v359) fun v360 =>
                  Pv (bldV #[(Value.int .i64 0), (Value.int .i64 0)] #[(0, 1), (1, 1)] []) fun v361 =>
                  Pv (binAV .eql [(TypeDesc.int .i64, 0), (TypeDesc.int .i64, 1)] v360 v361) fun v362 =>
                  Gd v362 true
                    (Pv (unV .not a6) fun v363 =>
                    Gd v363 false
                      (Pv (fldV 14 c_1) fun v364 =>
                      Rv none (ld1R v364) fun v365 =>
                      Pv (binIV .eql v365 (Value.int .i64 0)) fun v366 =>
                      Gd v366 true
                        (Pv (unV .not a7) fun v367 =>
                        Gd v367 false
                          (Pv (fldV 2 c_1) fun v368 =>
                          Rv none (ld1R v368) fun v369 =>
                          Pv (binIV .eql v369 (Value.int .i64 0)) fun v370 =>
                          K v370)
                          (K (Value.bool true)))
                        (K (Value.bool false)))
                      (Pv (unV .not a7) fun v371 =>
                      Gd v371 false
                        (Pv (fldV 2 c_1) fun v372 =>
                        Rv none (ld1R v372) fun v373 =>
                        Pv (binIV .eql v373 (Value.int .i64 0)) fun v374 =>
                        K v374)
                        (K (Value.bool true))))
                    (K (Value.bool false)))
                  (Pv (unV .not a6) fun v375 =>
                  Gd v375 false
                    (Pv (fldV 14 c_1) fun v376 =>
                    Rv none (ld1R v376) fun v377 =>
                    Pv (binIV .eql v377 (Value.int .i64 0)) fun v378 =>
                    Gd v378 true
                      (Pv (unV .not a7) fun v379 =>
                      Gd v379 false
                        (Pv (fldV 2 c_1) fun v380 =>
                        Rv none (ld1R v380) fun v381 =>
                        Pv (binIV .eql v381 (Value.int .i64 0)) fun v382 =>
                        K v382)
                        (K (Value.bool true)))
                      (K (Value.bool false)))
                    (Pv (unV .not a7) fun v383 =>
                    Gd v383 false
                      (Pv (fldV 2 c_1) fun v384 =>
                      Rv none (ld1R v384) fun v385 =>
                      Pv (binIV .eql v385 (Value.int .i64 0)) fun v386 =>
                      K v386)
                      (K (Value.bool true)))))
                (K (Value.bool false)))
              (Pv (unV .not a5) fun v387 =>
              Gd v387 false
                (Pv (fldV 5 c_1) fun v388 =>
                Rv none (ldNR 2 v388) fun v389 =>
                Pv (bldV #[(Value.int .i64 0), (Value.int .i64 0)] #[(0, 1), (1, 1)] []) fun v390 =>
                Pv (binAV .eql [(TypeDesc.int .i64, 0), (TypeDesc.int .i64, 1)] v389 v390) fun v391 =>
                Gd v391 true
                  (Pv (unV .not a6) fun v392 =>
                  Gd v392 false
                    (Pv (fldV 14 c_1) fun v393 =>
                    Rv none (ld1R v393) fun v394 =>
                    Pv (binIV .eql v394 (Value.int .i64 0)) fun v395 =>
                    Gd v395 true
                      (Pv (unV .not a7) fun v396 =>
                      Gd v396 false
                        (Pv (fldV 2 c_1) fun v397 =>
                        Rv none (ld1R v397) fun v398 =>
                        Pv (binIV .eql v398 (Value.int .i64 0)) fun v399 =>
                        K v399)
                        (K (Value.bool true)))
                      (K (Value.bool false)))
                    (Pv (unV .not a7) fun v400 =>
                    Gd v400 false
                      (Pv (fldV 2 c_1) fun v401 =>
                      Rv none (ld1R v401) fun v402 =>
                      Pv (binIV .eql v402 (Value.int .i64 0)) fun v403 =>
                      K v403)
                      (K (Value.bool true))))
                  (K (Value.bool false)))
                (Pv (unV .not a6) fun v404 =>
                Gd v404 false
                  (Pv (fldV 14 c_1) fun v405 =>
                  Rv none (ld1R v405) fun v406 =>
                  Pv (binIV .eql v406 (Value.int .i64 0)) fun v407 =>
                  Gd v407 true
                    (Pv (unV .not a7) fun v408 =>
                    Gd v408 false
                      (Pv (fldV 2 c_1) fun v409 =>
                      Rv none (ld1R v409) fun v410 =>
                      Pv (binIV .eql v410 (Value.int .i64 0)) fun v411 =>
                      K v411)
                      (K (Value.bool true)))
                    (K (Value.bool false)))
                  (Pv (unV .not a7) fun v412 =>
                  Gd v412 false
                    (Pv (fldV 2 c_1) fun v413 =>
                    Rv none (ld1R v413) fun v414 =>
                    Pv (binIV .eql v414 (Value.int .i64 0)) fun v415 =>
                    K v415)
                    (K (Value.bool true))))))))
        (K (Value.bool false)))
      (Pv (unV .not a3) fun v416 =>
      Gd v416 false
        (Pv (fldV 7 c_1) fun v417 =>
        Rv none (ld1R v417) fun v418 =>
        Pv (binIV .eql v418 (Value.int .i64 0)) fun v419 =>
        Gd v419 true
          (Pv (unV .not a4) fun v420 =>
          Gd v420 false
            (Pv (fldV 8 c_1) fun v421 =>
            Rv none (ld1R v421) fun v422 =>
            Pv (unV .not v422) fun v423 =>
            Gd v423 true
              (Pv (unV .not a5) fun v424 =>
              Gd v424 false
                (Pv (fldV 5 c_1) fun v425 =>
                Rv none (ldNR 2 v425) fun v426 =>
                Pv (bldV #[(Value.int .i64 0), (Value.int .i64 0)] #[(0, 1), (1, 1)] []) fun v427 =>
                Pv (binAV .eql [(TypeDesc.int .i64, 0), (TypeDesc.int .i64, 1)] v426 v427) fun v428 =>
                Gd v428 true
                  (Pv (unV .not a6) fun v429 =>
                  Gd v429 false
                    (Pv (fldV 14 c_1) fun v430 =>
                    Rv none (ld1R v430) fun v431 =>
                    Pv (binIV .eql v431 (Value.int .i64 0)) fun v432 =>
                    Gd v432 true
                      (Pv (unV .not a7) fun v433 =>
                      Gd v433 false
                        (Pv (fldV 2 c_1) fun v434 =>
                        Rv none (ld1R v434) fun v435 =>
                        Pv (binIV .eql v435 (Value.int .i64 0)) fun v436 =>
                        K v436)
                        (K (Value.bool true)))
                      (K (Value.bool false)))
                    (Pv (unV .not a7) fun v437 =>
                    Gd v437 false
                      (Pv (fldV 2 c_1) fun v438 =>
                      Rv none (ld1R v438) fun v439 =>
                      Pv (binIV .eql v439 (Value.int .i64 0)) fun v440 =>
                      K v440)
                      (K (Value.bool true))))
                  (K (Value.bool false)))
                (Pv (unV .not a6) fun v441 =>
                Gd v441 false
                  (Pv (fldV 14 c_1) fun v442 =>
                  Rv none (ld1R v442) fun v443 =>
                  Pv (binIV .eql v443 (Value.int .i64 0)) fun v444 =>
                  Gd v444 true
                    (Pv (unV .not a7) fun v445 =>
                    Gd v445 false
                      (Pv (fldV 2 c_1) fun v446 =>
                      Rv none (ld1R v446) fun v447 =>
                      Pv (binIV .eql v447 (Value.int .i64 0)) fun v448 =>
                      K v448)
                      (K (Value.bool true)))
                    (K (Value.bool false)))
                  (Pv (unV .not a7) fun v449 =>
                  Gd v449 false
                    (Pv (fldV 2 c_1) fun v450 =>
                    Rv none (ld1R v450) fun v451 =>
                    Pv (binIV .eql v451 (Value.int .i64 0)) fun v452 =>
                    K v452)
                    (K (Value.bool true)))))
              (K (Value.bool false)))
            (Pv (unV .not a5) fun v453 =>
            Gd v453 false
              (Pv (fldV 5 c_1) fun v454 =>
              Rv none (ldNR 2 v454) fun v455 =>
              Pv (bldV #[(Value.int .i64 0), (Value.int .i64 0)] #[(0, 1), (1, 1)] []) fun v456 =>
              Pv (binAV .eql [(TypeDesc.int .i64, 0), (TypeDesc.int .i64, 1)] v455 v456) fun v457 =>
              Gd v457 true
                (Pv (unV .not a6) fun v458 =>
                Gd v458 false
                  (Pv (fldV 14 c_1) fun v459 =>
                  Rv none (ld1R v459) fun v460 =>
                  Pv (binIV .eql v460 (Value.int .i64 0)) fun v461 =>
                  Gd v461 true
                    (Pv (unV .not a7) fun v462 =>
                    Gd v462 false
                      (Pv (fldV 2 c_1) fun v463 =>
                      Rv none (ld1R v463) fun v464 =>
                      Pv (binIV .eql v464 (Value.int .i64 0)) fun v465 =>
                      K v465)
                      (K (Value.bool true)))
                    (K (Value.bool false)))
                  (Pv (unV .not a7) fun v466 =>
                  Gd v466 false
                    (Pv (fldV 2 c_1) fun v467 =>
                    Rv none (ld1R v467) fun v468 =>
                    Pv (binIV .eql v468 (Value.int .i64 0)) fun v469 =>
                    K v469)
                    (K (Value.bool true))))
                (K (Value.bool false)))
              (Pv (unV .not a6) fun v470 =>
              Gd v470 false
                (Pv (fldV 14 c_1) fun v471 =>
                Rv none (ld1R v471) fun v472 =>
                Pv (binIV .eql v472 (Value.int .i64 0)) fun v473 =>
                Gd v473 true
                  (Pv (unV .not a7) fun v474 =>
                  Gd v474 false
                    (Pv (fldV 2 c_1) fun v475 =>
                    Rv none (ld1R v475) fun v476 =>
                    Pv (binIV .eql v476 (Value.int .i64 0)) fun v477 =>
                    K v477)
                    (K (Value.bool true)))
                  (K (Value.bool false)))
                (Pv (unV .not a7) fun v478 =>
                Gd v478 false
                  (Pv (fldV 2 c_1) fun v479 =>
                  Rv none (ld1R v479) fun v480 =>
                  Pv (binIV .eql v480 (Value.int .i64 0)) fun v481 =>
                  K v481)
                  (K (Value.bool true))))))
          (K (Value.bool false)))
        (Pv (unV .not a4) fun v482 =>
        Gd v482 false
          (Pv (fldV 8 c_1) fun v483 =>
          Rv none (ld1R v483) fun v484 =>
          Pv (unV .not v484) fun v485 =>
          Gd v485 true
            (Pv (unV .not a5) fun v486 =>
            Gd v486 false
              (Pv (fldV 5 c_1) fun v487 =>
              Rv none (ldNR 2 v487) fun v488 =>
              Pv (bldV #[(Value.int .i64 0), (Value.int .i64 0)] #[(0, 1), (1, 1)] []) fun v489 =>
              Pv (binAV .eql [(TypeDesc.int .i64, 0), (TypeDesc.int .i64, 1)] v488 v489) fun v490 =>
              Gd v490 true
                (Pv (unV .not a6) fun v491 =>
                Gd v491 false
                  (Pv (fldV 14 c_1) fun v492 =>
                  Rv none (ld1R v492) fun v493 =>
                  Pv (binIV .eql v493 (Value.int .i64 0)) fun v494 =>
                  Gd v494 true
                    (Pv (unV .not a7) fun v495 =>
                    Gd v495 false
                      (Pv (fldV 2 c_1) fun v496 =>
                      Rv none (ld1R v496) fun v497 =>
                      Pv (binIV .eql v497 (Value.int .i64 0)) fun v498 =>
                      K v498)
                      (K (Value.bool true)))
                    (K (Value.bool false)))
                  (Pv (unV .not a7) fun v499 =>
                  Gd v499 false
                    (Pv (fldV 2 c_1) fun v500 =>
                    Rv none (ld1R v500) fun v501 =>
                    Pv (binIV .eql v501 (Value.int .i64 0)) fun v502 =>
                    K v502)
                    (K (Value.bool true))))
                (K (Value.bool false)))
              (Pv (unV .not a6) fun v503 =>
              Gd v503 false
                (Pv (fldV 14 c_1) fun v504 =>
                Rv none (ld1R v504) fun v505 =>
                Pv (binIV .eql v505 (Value.int .i64 0)) fun v506 =>
                Gd v506 true
                  (Pv (unV .not a7) fun v507 =>
                  Gd v507 false
                    (Pv (fldV 2 c_1) fun v508 =>
                    Rv none (ld1R v508) fun v509 =>
                    Pv (binIV .eql v509 (Value.int .i64 0)) fun v510 =>
                    K v510)
                    (K (Value.bool true)))
                  (K (Value.bool false)))
                (Pv (unV .not a7) fun v511 =>
                Gd v511 false
                  (Pv (fldV 2 c_1) fun v512 =>
                  Rv none (ld1R v512) fun v513 =>
                  Pv (binIV .eql v513 (Value.int .i64 0)) fun v514 =>
                  K v514)
                  (K (Value.bool true)))))
            (K (Value.bool false)))
          (Pv (unV .not a5) fun v515 =>
          Gd v515 false
            (Pv (fldV 5 c_1) fun v516 =>
            Rv none (ldNR 2 v516) fun v517 =>
            Pv (bldV #[(Value.int .i64 0), (Value.int .i64 0)] #[(0, 1), (1, 1)] []) fun v518 =>
            Pv (binAV .eql [(TypeDesc.int .i64, 0), (TypeDesc.int .i64, 1)] v517 v518) fun v519 =>
            Gd v519 true
              (Pv (unV .not a6) fun v520 =>
              Gd v520 false
                (Pv (fldV 14 c_1) fun v521 =>
                Rv none (ld1R v521) fun v522 =>
                Pv (binIV .eql v522 (Value.int .i64 0)) fun v523 =>
                Gd v523 true
                  (Pv (unV .not a7) fun v524 =>
                  Gd v524 false
                    (Pv (fldV 2 c_1) fun v525 =>
                    Rv none (ld1R v525) fun v526 =>
                    Pv (binIV .eql v526 (Value.int .i64 0)) fun v527 =>
                    K v527)
                    (K (Value.bool true)))
                  (K (Value.bool false)))
                (Pv (unV .not a7) fun v528 =>
                Gd v528 false
                  (Pv (fldV 2 c_1) fun v529 =>
                  Rv none (ld1R v529) fun v530 =>
                  Pv (binIV .eql v530 (Value.int .i64 0)) fun v531 =>
                  K v531)
                  (K (Value.bool true))))
              (K (Value.bool false)))
            (Pv (unV .not a6) fun v532 =>
            Gd v532 false
              (Pv (fldV 14 c_1) fun v533 =>
              Rv none (ld1R v533) fun v534 =>
              Pv (binIV .eql v534 (Value.int .i64 0)) fun v535 =>
              Gd v535 true
                (Pv (unV .not a7) fun v536 =>
                Gd v536 false
                  (Pv (fldV 2 c_1) fun v537 =>
                  Rv none (ld1R v537) fun v538 =>
                  Pv (binIV .eql v538 (Value.int .i64 0)) fun v539 =>
                  K v539)
                  (K (Value.bool true)))
                (K (Value.bool false)))
              (Pv (unV .not a7) fun v540 =>
              Gd v540 false
                (Pv (fldV 2 c_1) fun v541 =>
                Rv none (ld1R v541) fun v542 =>
                Pv (binIV .eql v542 (Value.int .i64 0)) fun v543 =>
                K v543)
                (K (Value.bool true))))))))
theorem sh70_eq (ω : Om) (a0 a1 a2 a3 a4 a5 a6 a7 : Value) (K : Value → M) : vcF Tryz.prog ω Tryz.f70 [a0, a1, a2, a3, a4, a5, a6, a7] K = sh70 ω a0 a1 a2 a3 a4 a5 a6 a7 K := by kernel_rfl
theorem cal70 {ω : Om} {a0 a1 a2 a3 a4 a5 a6 a7 : Value} {K : Value → M} {I : Imm} {L : LH} (h : sh70 ω a0 a1 a2 a3 a4 a5 a6 a7 (fun v => Gh (K v)) I L) : Cal Tryz.prog ω 70 #[a0, a1, a2, a3, a4, a5, a6, a7] K I L :=
  Cal.gh (cal_of_vc mixed Tryz.func70 (by rw [sh70_eq]; exact h))
def sh71_1 (ω : Om) (p0 : Value) (p2 : Value) (K : Value → M) : M :=
  Pv (nilV p0) fun v10 =>
  Pv (fldV 1 v10) fun v11 =>
  Sto 1 v11 (Value.bool true) <| gh fun _ =>
  Pv (nilV p0) fun v12 =>
  Pv (fldV 0 v12) fun v13 =>
  Sto 1 v13 (Value.slice none 0 0) <| gh fun _ =>
  K (Value.int .i64 0)
def sh71 (ω : Om) (a0 : Value) (K : Value → M) : M :=
  Pv (nilV a0) fun v1 =>
  Pv (fldV 0 v1) fun v2 =>
  Rv none (ld1R v2) fun v3 =>
  Cal Tryz.prog ω 124 #[v3] <| gh fun v4 =>
  Pv (exV v4 0) fun v5 =>
  Pv (exV v4 1) fun v6 =>
  Pv (exV v4 2) fun v7 =>
  Pv (binIV .neq v7 (Value.int .i64 0)) fun v8 =>
  Gd v8 false
    (Pv (binIV .gtr v5 (Value.int .u64 9007199254740991)) fun v9 =>
    Br v9
      (sh71_1 ω a0 (Value.int .i64 0) K)
      (Pv (nilV a0) fun v14 =>
      Pv (fldV 0 v14) fun v15 =>
      Rv none (ld1R v15) fun v16 =>
      Pv (slcV 1 v16 (some v6) none none) fun v17 =>
      Pv (nilV a0) fun v18 =>
      Pv (fldV 0 v18) fun v19 =>
      Sto 1 v19 v17 <| gh fun _ =>
      Pv (cvIV .i64 v5) fun v20 =>
      K v20))
    (sh71_1 ω a0 (Value.int .i64 0) K)
theorem sh71_eq (ω : Om) (a0 : Value) (K : Value → M) : vcF Tryz.prog ω Tryz.f71 [a0] K = sh71 ω a0 K := by kernel_rfl
theorem cal71 {ω : Om} {a0 : Value} {K : Value → M} {I : Imm} {L : LH} (h : sh71 ω a0 (fun v => Gh (K v)) I L) : Cal Tryz.prog ω 71 #[a0] K I L :=
  Cal.gh (cal_of_vc mixed Tryz.func71 (by rw [sh71_eq]; exact h))
def sh72_1 (ω : Om) (p2 : Value) (p3 : Value) (K : Value → M) : M :=
  Rv none (ldNR 2 p3) fun v11 =>
  Sto 2 p2 v11 <| gh fun _ =>
  Rv none (ldNR 2 p2) fun v12 =>
  K v12
def sh72 (ω : Om) (a0 : Value) (K : Value → M) : M :=
  New (.cells #[(Value.int .i64 0), (Value.int .i64 0)] 41 (0, 0)) <| gh fun v1 =>
  Cal Tryz.prog ω 71 #[a0] <| gh fun v2 =>
  Cal Tryz.prog ω 71 #[a0] <| gh fun v3 =>
  Pv (bldV #[(Value.int .i64 0), (Value.int .i64 0)] #[(0, 1), (1, 1)] [(0, v2), (1, v3)]) fun v4 =>
  New (.cells #[(Value.int .i64 0), (Value.int .i64 0)] 41 (0, 0)) <| gh fun s_5 =>
  Sto 2 s_5 v4 <| gh fun _ =>
  Rv none (ldNR 2 s_5) fun v6 =>
  Cal Tryz.prog ω 89 #[v6] <| gh fun v7 =>
  Pv (unV .not v7) fun v8 =>
  Br v8
    (Pv (nilV a0) fun v9 =>
    Pv (fldV 1 v9) fun v10 =>
    Sto 1 v10 (Value.bool true) <| gh fun _ =>
    sh72_1 ω v1 s_5 K)
    (sh72_1 ω v1 s_5 K)
theorem sh72_eq (ω : Om) (a0 : Value) (K : Value → M) : vcF Tryz.prog ω Tryz.f72 [a0] K = sh72 ω a0 K := by kernel_rfl
theorem cal72 {ω : Om} {a0 : Value} {K : Value → M} {I : Imm} {L : LH} (h : sh72 ω a0 (fun v => Gh (K v)) I L) : Cal Tryz.prog ω 72 #[a0] K I L :=
  Cal.gh (cal_of_vc mixed Tryz.func72 (by rw [sh72_eq]; exact h))
def sh73 (ω : Om) (a0 : Value) (K : Value → M) : M :=
  Cal Tryz.prog ω 71 #[a0] <| gh fun v1 =>
  Pv (nilV a0) fun v2 =>
  Pv (fldV 1 v2) fun v3 =>
  Rv none (ld1R v3) fun v4 =>
  Gd v4 false
    (Pv (binIV .gtr v1 (Value.int .i64 1)) fun v5 =>
    Pv (nilV a0) fun v6 =>
    Pv (fldV 1 v6) fun v7 =>
    Sto 1 v7 v5 <| gh fun _ =>
    Pv (binIV .eql v1 (Value.int .i64 1)) fun v8 =>
    K v8)
    (Pv (nilV a0) fun v9 =>
    Pv (fldV 1 v9) fun v10 =>
    Sto 1 v10 (Value.bool true) <| gh fun _ =>
    Pv (binIV .eql v1 (Value.int .i64 1)) fun v11 =>
    K v11)
theorem sh73_eq (ω : Om) (a0 : Value) (K : Value → M) : vcF Tryz.prog ω Tryz.f73 [a0] K = sh73 ω a0 K := by kernel_rfl
theorem cal73 {ω : Om} {a0 : Value} {K : Value → M} {I : Imm} {L : LH} (h : sh73 ω a0 (fun v => Gh (K v)) I L) : Cal Tryz.prog ω 73 #[a0] K I L :=
  Cal.gh (cal_of_vc mixed Tryz.func73 (by rw [sh73_eq]; exact h))
def sh74 (ω : Om) (a0 : Value) (K : Value → M) : M :=
  Cal Tryz.prog ω 71 #[a0] <| gh fun v1 =>
  Pv (nilV a0) fun v2 =>
  Pv (fldV 0 v2) fun v3 =>
  Rv none (ld1R v3) fun v4 =>
  Pv (lenV v4) fun v5 =>
  Pv (binIV .gtr v1 v5) fun v6 =>
  Br v6
    (Pv (nilV a0) fun v7 =>
    Pv (fldV 1 v7) fun v8 =>
    Sto 1 v8 (Value.bool true) <| gh fun _ =>
    Pv (nilV a0) fun v9 =>
    Pv (fldV 0 v9) fun v10 =>
    Sto 1 v10 (Value.slice none 0 0) <| gh fun _ =>
    K (Value.slice none 0 0))
    (Pv (nilV a0) fun v11 =>
    Pv (fldV 0 v11) fun v12 =>
    Rv none (ld1R v12) fun v13 =>
    Pv (slcV 1 v13 none (some v1) none) fun v14 =>
    App 5 1 1 #[(Value.int .u8 0)] (Value.slice none 0 0) v14 <| gh fun v15 =>
    Pv (nilV a0) fun v16 =>
    Pv (fldV 0 v16) fun v17 =>
    Rv none (ld1R v17) fun v18 =>
    Pv (slcV 1 v18 (some v1) none none) fun v19 =>
    Pv (nilV a0) fun v20 =>
    Pv (fldV 0 v20) fun v21 =>
    Sto 1 v21 v19 <| gh fun _ =>
    K v15)
theorem sh74_eq (ω : Om) (a0 : Value) (K : Value → M) : vcF Tryz.prog ω Tryz.f74 [a0] K = sh74 ω a0 K := by kernel_rfl
theorem cal74 {ω : Om} {a0 : Value} {K : Value → M} {I : Imm} {L : LH} (h : sh74 ω a0 (fun v => Gh (K v)) I L) : Cal Tryz.prog ω 74 #[a0] K I L :=
  Cal.gh (cal_of_vc mixed Tryz.func74 (by rw [sh74_eq]; exact h))
def sh75 (ω : Om) (a0 : Value) (K : Value → M) : M :=
  New (.cells #[(Value.slice none 0 0), (Value.slice none 0 0)] 31 (0, 0)) <| gh fun v1 =>
  Cal Tryz.prog ω 74 #[a0] <| gh fun v2 =>
  Cal Tryz.prog ω 74 #[a0] <| gh fun v3 =>
  Pv (bldV #[(Value.slice none 0 0), (Value.slice none 0 0)] #[(0, 1), (1, 1)] [(0, v2), (1, v3)]) fun v4 =>
  Sto 2 v1 v4 <| gh fun _ =>
  Rv none (ldNR 2 v1) fun v5 =>
  K v5
theorem sh75_eq (ω : Om) (a0 : Value) (K : Value → M) : vcF Tryz.prog ω Tryz.f75 [a0] K = sh75 ω a0 K := by kernel_rfl
theorem cal75 {ω : Om} {a0 : Value} {K : Value → M} {I : Imm} {L : LH} (h : sh75 ω a0 (fun v => Gh (K v)) I L) : Cal Tryz.prog ω 75 #[a0] K I L :=
  Cal.gh (cal_of_vc mixed Tryz.func75 (by rw [sh75_eq]; exact h))
def sh76 (ω : Om) (a0 : Value) (K : Value → M) : M :=
  Pv (nilV a0) fun v1 =>
  Pv (fldV 1 v1) fun v2 =>
  Rv none (ld1R v2) fun v3 =>
  Pv (unV .not v3) fun v4 =>
  Gd v4 true
    (Pv (nilV a0) fun v5 =>
    Pv (fldV 0 v5) fun v6 =>
    Rv none (ld1R v6) fun v7 =>
    Pv (lenV v7) fun v8 =>
    Pv (binIV .eql v8 (Value.int .i64 0)) fun v9 =>
    K v9)
    (K (Value.bool false))
theorem sh76_eq (ω : Om) (a0 : Value) (K : Value → M) : vcF Tryz.prog ω Tryz.f76 [a0] K = sh76 ω a0 K := by kernel_rfl
theorem cal76 {ω : Om} {a0 : Value} {K : Value → M} {I : Imm} {L : LH} (h : sh76 ω a0 (fun v => Gh (K v)) I L) : Cal Tryz.prog ω 76 #[a0] K I L :=
  Cal.gh (cal_of_vc mixed Tryz.func76 (by rw [sh76_eq]; exact h))
def sh77 (ω : Om) (a0 : Value) (a1 : Value) (K : Value → M) : M :=
  Rv none (bsR a0) fun v1 =>
  Rv none (bsR a1) fun v2 =>
  Pv (binSV .eql v1 v2) fun v3 =>
  K v3
theorem sh77_eq (ω : Om) (a0 a1 : Value) (K : Value → M) : vcF Tryz.prog ω Tryz.f77 [a0, a1] K = sh77 ω a0 a1 K := by kernel_rfl
theorem cal77 {ω : Om} {a0 a1 : Value} {K : Value → M} {I : Imm} {L : LH} (h : sh77 ω a0 a1 (fun v => Gh (K v)) I L) : Cal Tryz.prog ω 77 #[a0, a1] K I L :=
  Cal.gh (cal_of_vc mixed Tryz.func77 (by rw [sh77_eq]; exact h))
def sh82 (ω : Om) (a0 : Value) (K : Value → M) : M :=
  Pv (binNV .eql a0 (Value.slice none 0 0)) fun v1 =>
  Br v1
    (K (Value.slice none 0 0))
    (BldS 5 1 #[(Value.int .u8 0)] 0 [] <| gh fun v2 =>
    App 5 1 1 #[(Value.int .u8 0)] v2 a0 <| gh fun v3 =>
    K v3)
theorem sh82_eq (ω : Om) (a0 : Value) (K : Value → M) : vcF Tryz.prog ω Tryz.f82 [a0] K = sh82 ω a0 K := by kernel_rfl
theorem cal82 {ω : Om} {a0 : Value} {K : Value → M} {I : Imm} {L : LH} (h : sh82 ω a0 (fun v => Gh (K v)) I L) : Cal Tryz.prog ω 82 #[a0] K I L :=
  Cal.gh (cal_of_vc mixed Tryz.func82 (by rw [sh82_eq]; exact h))
def sh85 (ω : Om) (a0 : Value) (a1 : Value) (K : Value → M) : M :=
  ExtE Tryz.prog ω Extern.BytealgCompare.compare #[a0, a1] <| gh fun v1 =>
  K v1
theorem sh85_eq (ω : Om) (a0 a1 : Value) (K : Value → M) : vcF Tryz.prog ω Tryz.f85 [a0, a1] K = sh85 ω a0 a1 K := by kernel_rfl
theorem cal85 {ω : Om} {a0 a1 : Value} {K : Value → M} {I : Imm} {L : LH} (h : sh85 ω a0 a1 (fun v => Gh (K v)) I L) : Cal Tryz.prog ω 85 #[a0, a1] K I L :=
  Cal.gh (cal_of_vc mixed Tryz.func85 (by rw [sh85_eq]; exact h))
def sh89 (ω : Om) (a0 : Value) (K : Value → M) : M :=
  New (.cells (Value.cells a0) 41 (0, 0)) <| gh fun s_1 =>
  Pv (fldV 0 s_1) fun v2 =>
  Rv none (ld1R v2) fun v3 =>
  Cal Tryz.prog ω 146 #[v3] <| gh fun v4 =>
  Gd v4 true
    (Pv (fldV 1 s_1) fun v5 =>
    Rv none (ld1R v5) fun v6 =>
    Pv (binIV .geq v6 (Value.int .i64 0)) fun v7 =>
    Gd v7 true
      (Pv (fldV 1 s_1) fun v8 =>
      Rv none (ld1R v8) fun v9 =>
      Pv (binIV .leq v9 (Value.int .i64 65535)) fun v10 =>
      K v10)
      (K (Value.bool false)))
    (K (Value.bool false))
theorem sh89_eq (ω : Om) (a0 : Value) (K : Value → M) : vcF Tryz.prog ω Tryz.f89 [a0] K = sh89 ω a0 K := by kernel_rfl
theorem cal89 {ω : Om} {a0 : Value} {K : Value → M} {I : Imm} {L : LH} (h : sh89 ω a0 (fun v => Gh (K v)) I L) : Cal Tryz.prog ω 89 #[a0] K I L :=
  Cal.gh (cal_of_vc mixed Tryz.func89 (by rw [sh89_eq]; exact h))
def sh90 (ω : Om) (a0 : Value) (K : Value → M) : M :=
  Pv (binIV .geq a0 (Value.int .i64 1)) fun v1 =>
  Gd v1 true
    (Pv (binIV .leq a0 (Value.int .i64 9007199254740991)) fun v2 =>
    K v2)
    (K (Value.bool false))
theorem sh90_eq (ω : Om) (a0 : Value) (K : Value → M) : vcF Tryz.prog ω Tryz.f90 [a0] K = sh90 ω a0 K := by kernel_rfl
theorem cal90 {ω : Om} {a0 : Value} {K : Value → M} {I : Imm} {L : LH} (h : sh90 ω a0 (fun v => Gh (K v)) I L) : Cal Tryz.prog ω 90 #[a0] K I L :=
  Cal.gh (cal_of_vc mixed Tryz.func90 (by rw [sh90_eq]; exact h))
def sh91 (ω : Om) (a0 : Value) (K : Value → M) : M :=
  Pv (lenV a0) fun v1 =>
  Pv (binIV .geq v1 (Value.int .i64 1)) fun v2 =>
  Gd v2 true
    (Pv (lenV a0) fun v3 =>
    Pv (binIV .leq v3 (Value.int .i64 110)) fun v4 =>
    K v4)
    (K (Value.bool false))
theorem sh91_eq (ω : Om) (a0 : Value) (K : Value → M) : vcF Tryz.prog ω Tryz.f91 [a0] K = sh91 ω a0 K := by kernel_rfl
theorem cal91 {ω : Om} {a0 : Value} {K : Value → M} {I : Imm} {L : LH} (h : sh91 ω a0 (fun v => Gh (K v)) I L) : Cal Tryz.prog ω 91 #[a0] K I L :=
  Cal.gh (cal_of_vc mixed Tryz.func91 (by rw [sh91_eq]; exact h))
def sh92 (ω : Om) (a0 : Value) (K : Value → M) : M :=
  New (.cells (Value.cells a0) 56 (0, 0)) <| gh fun c_1 =>
  Pv (fldV 2 c_1) fun v2 =>
  Rv none (ld1R v2) fun v3 =>
  Pv (fldV 7 c_1) fun v4 =>
  Rv none (ld1R v4) fun v5 =>
  Pv (binIV .add v3 v5) fun v6 =>
  Pv (fldV 14 c_1) fun v7 =>
  Rv none (ld1R v7) fun v8 =>
  Pv (binIV .add v6 v8) fun v9 =>
  Pv (fldV 10 c_1) fun v10 =>
  Rv none (ld1R v10) fun v11 =>
  Pv (lenV v11) fun v12 =>
  Pv (binIV .add v9 v12) fun v13 =>
  Pv (fldV 11 c_1) fun v14 =>
  Rv none (ld1R v14) fun v15 =>
  Pv (lenV v15) fun v16 =>
  Pv (binIV .add v13 v16) fun v17 =>
  Pv (fldV 12 c_1) fun v18 =>
  Pv (fldV 0 v18) fun v19 =>
  Rv none (ld1R v19) fun v20 =>
  Pv (lenV v20) fun v21 =>
  Pv (binIV .add v17 v21) fun v22 =>
  Pv (fldV 12 c_1) fun v23 =>
  Pv (fldV 1 v23) fun v24 =>
  Rv none (ld1R v24) fun v25 =>
  Pv (lenV v25) fun v26 =>
  Pv (binIV .add v22 v26) fun v27 =>
  Pv (binIV .eql v27 (Value.int .i64 0)) fun v28 =>
  Gd v28 true
    (Pv (fldV 2 c_1) fun v29 =>
    Rv none (ld1R v29) fun v30 =>
    Pv (binIV .eql v30 (Value.int .i64 0)) fun v31 =>
    Gd v31 true
      (Pv (fldV 7 c_1) fun v32 =>
      Rv none (ld1R v32) fun v33 =>
      Pv (binIV .eql v33 (Value.int .i64 0)) fun v34 =>
      Gd v34 true
        (Pv (fldV 14 c_1) fun v35 =>
        Rv none (ld1R v35) fun v36 =>
        Pv (binIV .eql v36 (Value.int .i64 0)) fun v37 =>
        Gd v37 true
          (Pv (fldV 5 c_1) fun v38 =>
          Rv none (ldNR 2 v38) fun v39 =>
          Pv (bldV #[(Value.int .i64 0), (Value.int .i64 0)] #[(0, 1), (1, 1)] []) fun v40 =>
          Pv (binAV .eql [(TypeDesc.int .i64, 0), (TypeDesc.int .i64, 1)] v39 v40) fun v41 =>
          Gd v41 true
            (Pv (fldV 8 c_1) fun v42 =>
            Rv none (ld1R v42) fun v43 =>
            Pv (unV .not v43) fun v44 =>
            Gd v44 true
              (Pv (fldV 9 c_1) fun v45 =>
              Rv none (ld1R v45) fun v46 =>
              Pv (unV .not v46) fun v47 =>
              K v47)
              (K (Value.bool false)))
            (K (Value.bool false)))
          (K (Value.bool false)))
        (K (Value.bool false)))
      (K (Value.bool false)))
    (K (Value.bool false))
theorem sh92_eq (ω : Om) (a0 : Value) (K : Value → M) : vcF Tryz.prog ω Tryz.f92 [a0] K = sh92 ω a0 K := by kernel_rfl
theorem cal92 {ω : Om} {a0 : Value} {K : Value → M} {I : Imm} {L : LH} (h : sh92 ω a0 (fun v => Gh (K v)) I L) : Cal Tryz.prog ω 92 #[a0] K I L :=
  Cal.gh (cal_of_vc mixed Tryz.func92 (by rw [sh92_eq]; exact h))
def sh93 (ω : Om) (a0 : Value) (K : Value → M) : M :=
  New (.cells (Value.cells a0) 181 (0, 0)) <| gh fun by_1 =>
  K (Value.func (Fn.func 147) #[] #[by_1])
theorem sh93_eq (ω : Om) (a0 : Value) (K : Value → M) : vcF Tryz.prog ω Tryz.f93 [a0] K = sh93 ω a0 K := by kernel_rfl
theorem cal93 {ω : Om} {a0 : Value} {K : Value → M} {I : Imm} {L : LH} (h : sh93 ω a0 (fun v => Gh (K v)) I L) : Cal Tryz.prog ω 93 #[a0] K I L :=
  Cal.gh (cal_of_vc mixed Tryz.func93 (by rw [sh93_eq]; exact h))
def sh94_1 (ω : Om) (p0 : Value) (p3 : Value) (p4 : Value) (p5 : Value) (p6 : Value) (K : Value → M) : M :=
  Pv (binIV .neq p6 (Value.int .i64 0)) fun v12 =>
  Br v12
    (Pv (fldV 4 p5) fun v13 =>
    Rv none (ld1R v13) fun v14 =>
    Pv (bldV #[(Value.int .i64 0), (Value.bool false), (Value.slice none 0 0), (Value.int .i64 0), (Value.int .i64 0), (Value.int .i64 0), (Value.slice none 0 0), (Value.int .i64 0), (Value.int .i64 0), (Value.int .i64 0), (Value.int .i64 0)] #[(0, 1), (1, 5), (6, 1), (7, 2), (9, 1), (10, 1)] [(0, p6), (4, v14)]) fun v15 =>
    Sto 11 p4 v15 <| gh fun _ =>
    Rv none (ldNR 11 p4) fun v16 =>
    K v16)
    (Pv (fldV 10 p3) fun v17 =>
    Rv none (ld1R v17) fun v18 =>
    Pv (fldV 3 p3) fun v19 =>
    Rv none (ldNR 2 v19) fun v20 =>
    Pv (fldV 1 p3) fun v21 =>
    Rv none (ld1R v21) fun v22 =>
    Cal Tryz.prog ω 150 #[p0, v18, v20, v22] <| gh fun v23 =>
    Rv none (ldNR 5 p5) fun v24 =>
    Pv (bldV #[(Value.int .i64 0), (Value.bool false), (Value.slice none 0 0), (Value.int .i64 0), (Value.int .i64 0), (Value.int .i64 0), (Value.slice none 0 0), (Value.int .i64 0), (Value.int .i64 0), (Value.int .i64 0), (Value.int .i64 0)] #[(0, 1), (1, 5), (6, 1), (7, 2), (9, 1), (10, 1)] [(1, v24)]) fun v25 =>
    Sto 11 p4 v25 <| gh fun _ =>
    Rv none (ldNR 11 p4) fun v26 =>
    K v26)
def sh94 (ω : Om) (a0 : Value) (a1 : Value) (K : Value → M) : M :=
  New (.cells (Value.cells a1) 56 (0, 0)) <| gh fun c_1 =>
  New (.cells #[(Value.int .i64 0), (Value.bool false), (Value.slice none 0 0), (Value.int .i64 0), (Value.int .i64 0), (Value.int .i64 0), (Value.slice none 0 0), (Value.int .i64 0), (Value.int .i64 0), (Value.int .i64 0), (Value.int .i64 0)] 52 (0, 0)) <| gh fun v2 =>
  Draw fun S =>
    Pv (nilV a0) fun v3 =>
    Pv (fldV 0 v3) fun v4 =>
    Rv (some S) (ldNR 2 v4) fun v5 =>
    Pv (fldV 10 c_1) fun v6 =>
    Rv (some S) (ld1R v6) fun v7 =>
    Cal Tryz.prog ω 148 #[v5, v7] <| gh fun v8 =>
    Pv (unV .not v8) fun v9 =>
    Br v9
      (Cal Tryz.prog ω 34 #[(Value.int .i64 141)] <| gh fun v10 =>
      Sto 11 v2 v10 <| gh fun _ =>
      Rv none (ldNR 11 v2) fun v11 =>
      K v11)
      (Draw fun S =>
        Pv (nilV a0) fun v27 =>
        Pv (fldV 2 v27) fun v28 =>
        Rv (some S) (ld1R v28) fun v29 =>
        Pv (fldV 10 c_1) fun v30 =>
        Rv (some S) (ld1R v30) fun v31 =>
        Pv (fldV 3 c_1) fun v32 =>
        Rv (some S) (ldNR 2 v32) fun v33 =>
        Pv (fldV 1 c_1) fun v34 =>
        Rv (some S) (ld1R v34) fun v35 =>
        (fun I L => (Cal Tryz.prog ω 149 #[v29, v31, v33, v35] <| gh fun v36 =>
          Pv (exV v36 0) fun v37 =>
          Pv (exV v36 1) fun v38 =>
          New (.cells #[(Value.bool false), (Value.slice none 0 0), (Value.int .i64 0), (Value.int .i64 0), (Value.int .i64 0)] 49 (0, 0)) <| gh <| Keep S fun g_39 =>
          Sto 5 g_39 v37 <| gh fun _ =>
          sh94_1 ω a0 c_1 v2 g_39 v38 K) I L ∧ (New (.cells #[(Value.bool false), (Value.slice none 0 0), (Value.int .i64 0), (Value.int .i64 0), (Value.int .i64 0)] 49 (0, 0)) <| gh <| Keep S fun g_40 =>
          Cal Tryz.prog ω 149 #[v29, v31, v33, v35] <| gh fun v41 =>
          Pv (exV v41 0) fun v42 =>
          Pv (exV v41 1) fun v43 =>
          Sto 5 g_40 v42 <| gh fun _ =>
          sh94_1 ω a0 c_1 v2 g_40 v43 K) I L))
theorem sh94_eq (ω : Om) (a0 a1 : Value) (K : Value → M) : vcF Tryz.prog ω Tryz.f94 [a0, a1] K = sh94 ω a0 a1 K := by kernel_rfl
theorem cal94 {ω : Om} {a0 a1 : Value} {K : Value → M} {I : Imm} {L : LH} (h : sh94 ω a0 a1 (fun v => Gh (K v)) I L) : Cal Tryz.prog ω 94 #[a0, a1] K I L :=
  Cal.gh (cal_of_vc mixed Tryz.func94 (by rw [sh94_eq]; exact h))
def sh95 (ω : Om) (a0 : Value) (a1 : Value) (K : Value → M) : M :=
  New (.cells (Value.cells a1) 56 (0, 0)) <| gh fun c_1 =>
  New (.cells #[(Value.int .i64 0), (Value.bool false), (Value.slice none 0 0), (Value.int .i64 0), (Value.int .i64 0), (Value.int .i64 0), (Value.slice none 0 0), (Value.int .i64 0), (Value.int .i64 0), (Value.int .i64 0), (Value.int .i64 0)] 52 (0, 0)) <| gh fun v2 =>
  Pv (fldV 12 c_1) fun v3 =>
  Rv none (ldNR 2 v3) fun v4 =>
  Cal Tryz.prog ω 151 #[a0, v4] <| gh fun v5 =>
  Pv (unV .not v5) fun v6 =>
  Br v6
    (Cal Tryz.prog ω 34 #[(Value.int .i64 141)] <| gh fun v7 =>
    Sto 11 v2 v7 <| gh fun _ =>
    Rv none (ldNR 11 v2) fun v8 =>
    K v8)
    (Draw fun S =>
      Pv (nilV a0) fun v9 =>
      Pv (fldV 2 v9) fun v10 =>
      Rv (some S) (ld1R v10) fun v11 =>
      Pv (fldV 12 c_1) fun v12 =>
      Rv (some S) (ldNR 2 v12) fun v13 =>
      Pv (fldV 3 c_1) fun v14 =>
      Rv (some S) (ldNR 2 v14) fun v15 =>
      Pv (fldV 1 c_1) fun v16 =>
      Rv (some S) (ld1R v16) fun v17 =>
      Pv (fldV 14 c_1) fun v18 =>
      Rv (some S) (ld1R v18) fun v19 =>
      Cal Tryz.prog ω 152 #[v11, v13, v15, v17, v19] <| gh fun v20 =>
      Pv (exV v20 0) fun v21 =>
      Pv (exV v20 1) fun v22 =>
      Pv (exV v20 2) fun v23 =>
      Pv (binIV .neq v23 (Value.int .i64 0)) fun v24 =>
      Br v24
        (Pv (bldV #[(Value.int .i64 0), (Value.bool false), (Value.slice none 0 0), (Value.int .i64 0), (Value.int .i64 0), (Value.int .i64 0), (Value.slice none 0 0), (Value.int .i64 0), (Value.int .i64 0), (Value.int .i64 0), (Value.int .i64 0)] #[(0, 1), (1, 5), (6, 1), (7, 2), (9, 1), (10, 1)] [(0, v23), (4, v22)]) fun v25 =>
        Sto 11 v2 v25 <| gh fun _ =>
        Rv none (ldNR 11 v2) fun v26 =>
        K v26)
        (Draw fun S =>
          Pv (nilV a0) fun v27 =>
          Pv (fldV 4 v27) fun v28 =>
          Rv (some S) (ldNR 3 v28) fun v29 =>
          Pv (fldV 3 c_1) fun v30 =>
          Rv (some S) (ldNR 2 v30) fun v31 =>
          Pv (fldV 1 c_1) fun v32 =>
          Rv (some S) (ld1R v32) fun v33 =>
          Cal Tryz.prog ω 153 #[v29, v31, v33] <| gh fun v34 =>
          Pv (nilV a0) fun v35 =>
          Pv (fldV 4 v35) fun v36 =>
          Sto 3 v36 v34 <| gh fun _ =>
          Pv (bldV #[(Value.int .i64 0), (Value.bool false), (Value.slice none 0 0), (Value.int .i64 0), (Value.int .i64 0), (Value.int .i64 0), (Value.slice none 0 0), (Value.int .i64 0), (Value.int .i64 0), (Value.int .i64 0), (Value.int .i64 0)] #[(0, 1), (1, 5), (6, 1), (7, 2), (9, 1), (10, 1)] [(2, v21)]) fun v37 =>
          Sto 11 v2 v37 <| gh fun _ =>
          Rv none (ldNR 11 v2) fun v38 =>
          K v38))
theorem sh95_eq (ω : Om) (a0 a1 : Value) (K : Value → M) : vcF Tryz.prog ω Tryz.f95 [a0, a1] K = sh95 ω a0 a1 K := by kernel_rfl
theorem cal95 {ω : Om} {a0 a1 : Value} {K : Value → M} {I : Imm} {L : LH} (h : sh95 ω a0 a1 (fun v => Gh (K v)) I L) : Cal Tryz.prog ω 95 #[a0, a1] K I L :=
  Cal.gh (cal_of_vc mixed Tryz.func95 (by rw [sh95_eq]; exact h))
def sh96_3 (ω : Om) (p4 : Value) (p13 : Value) (K : Value → M) : M :=
  Rv none (ldNR 11 p13) fun v61 =>
  Sto 11 p4 v61 <| gh fun _ =>
  Rv none (ldNR 11 p4) fun v62 =>
  K v62
def sh96_2 (ω : Om) (p0 : Value) (p3 : Value) (p4 : Value) (p8 : Value) (p11 : Value) (p12 : Value) (K : Value → M) : M :=
  Rv none (ldNR 2 p11) fun v54 =>
  Pv (bldV #[(Value.int .i64 0), (Value.bool false), (Value.slice none 0 0), (Value.int .i64 0), (Value.int .i64 0), (Value.int .i64 0), (Value.slice none 0 0), (Value.int .i64 0), (Value.int .i64 0), (Value.int .i64 0), (Value.int .i64 0)] #[(0, 1), (1, 5), (6, 1), (7, 2), (9, 1), (10, 1)] [(0, p8), (3, v54), (4, p12)]) fun v55 =>
  New (.cells #[(Value.int .i64 0), (Value.bool false), (Value.slice none 0 0), (Value.int .i64 0), (Value.int .i64 0), (Value.int .i64 0), (Value.slice none 0 0), (Value.int .i64 0), (Value.int .i64 0), (Value.int .i64 0), (Value.int .i64 0)] 52 (0, 0)) <| gh fun r_56 =>
  Sto 11 r_56 v55 <| gh fun _ =>
  Pv (binIV .eql p8 (Value.int .i64 0)) fun v57 =>
  Br v57
    (Rv none (ldNR 15 p3) fun v58 =>
    Rv none (ldNR 11 r_56) fun v59 =>
    Cal Tryz.prog ω 157 #[p0, v58, v59] <| gh fun v60 =>
    sh96_3 ω p4 r_56 K)
    (sh96_3 ω p4 r_56 K)
def sh96_1 (ω : Om) (p0 : Value) (p3 : Value) (p4 : Value) (p7 : Value) (p8 : Value) (K : Value → M) : M :=
  Draw fun S =>
    Pv (nilV p0) fun v42 =>
    Pv (fldV 4 v42) fun v43 =>
    Rv (some S) (ldNR 3 v43) fun v44 =>
    Rv (some S) (ldNR 2 p7) fun v45 =>
    Pv (fldV 1 p3) fun v46 =>
    Rv (some S) (ld1R v46) fun v47 =>
    Cal Tryz.prog ω 155 #[v44, v45, v47] <| gh fun v48 =>
    Pv (exV v48 0) fun v49 =>
    Pv (exV v48 1) fun v50 =>
    Sto 2 p7 v49 <| gh fun _ =>
    Pv (binIV .neq v50 (Value.int .i64 0)) fun v51 =>
    Br v51
      (Cal Tryz.prog ω 34 #[v50] <| gh fun v52 =>
      Sto 11 p4 v52 <| gh fun _ =>
      Rv none (ldNR 11 p4) fun v53 =>
      K v53)
      (Draw fun S =>
        Pv (nilV p0) fun v63 =>
        Pv (fldV 2 v63) fun v64 =>
        Rv (some S) (ld1R v64) fun v65 =>
        Pv (fldV 10 p3) fun v66 =>
        Rv (some S) (ld1R v66) fun v67 =>
        Pv (fldV 1 p3) fun v68 =>
        Rv (some S) (ld1R v68) fun v69 =>
        Rv (some S) (ldNR 2 p7) fun v70 =>
        Pv (fldV 9 p3) fun v71 =>
        Rv (some S) (ld1R v71) fun v72 =>
        Pv (fldV 11 p3) fun v73 =>
        Rv (some S) (ld1R v73) fun v74 =>
        Pv (bldV #[(Value.slice none 0 0), (Value.int .i64 0), (Value.int .i64 0), (Value.int .i64 0), (Value.bool false), (Value.slice none 0 0)] #[(0, 1), (1, 1), (2, 2), (4, 1), (5, 1)] [(0, v67), (1, v69), (2, v70), (3, v72), (4, v74)]) fun v75 =>
        (fun I L => (Cal Tryz.prog ω 156 #[v65, v75] <| gh fun v76 =>
          Pv (exV v76 0) fun v77 =>
          Pv (exV v76 1) fun v78 =>
          Pv (exV v76 2) fun v79 =>
          New (.cells #[(Value.int .i64 0), (Value.int .i64 0)] 41 (0, 0)) <| gh <| Keep S fun at_80 =>
          Sto 2 at_80 v77 <| gh fun _ =>
          sh96_2 ω p0 p3 p4 v79 at_80 v78 K) I L ∧ (New (.cells #[(Value.int .i64 0), (Value.int .i64 0)] 41 (0, 0)) <| gh <| Keep S fun at_81 =>
          Cal Tryz.prog ω 156 #[v65, v75] <| gh fun v82 =>
          Pv (exV v82 0) fun v83 =>
          Pv (exV v82 1) fun v84 =>
          Pv (exV v82 2) fun v85 =>
          Sto 2 at_81 v83 <| gh fun _ =>
          sh96_2 ω p0 p3 p4 v85 at_81 v84 K) I L))
def sh96 (ω : Om) (a0 : Value) (a1 : Value) (K : Value → M) : M :=
  New (.cells (Value.cells a1) 56 (0, 0)) <| gh fun c_1 =>
  New (.cells #[(Value.int .i64 0), (Value.bool false), (Value.slice none 0 0), (Value.int .i64 0), (Value.int .i64 0), (Value.int .i64 0), (Value.slice none 0 0), (Value.int .i64 0), (Value.int .i64 0), (Value.int .i64 0), (Value.int .i64 0)] 52 (0, 0)) <| gh fun v2 =>
  Draw fun S =>
    Pv (nilV a0) fun v3 =>
    Pv (fldV 0 v3) fun v4 =>
    Rv (some S) (ldNR 2 v4) fun v5 =>
    Pv (fldV 10 c_1) fun v6 =>
    Rv (some S) (ld1R v6) fun v7 =>
    Cal Tryz.prog ω 148 #[v5, v7] <| gh fun v8 =>
    Pv (unV .not v8) fun v9 =>
    Br v9
      (Cal Tryz.prog ω 34 #[(Value.int .i64 141)] <| gh fun v10 =>
      Sto 11 v2 v10 <| gh fun _ =>
      Rv none (ldNR 11 v2) fun v11 =>
      K v11)
      (Rv none (ldNR 15 c_1) fun v12 =>
      Cal Tryz.prog ω 154 #[a0, v12] <| gh fun v13 =>
      Pv (exV v13 0) fun v14 =>
      Pv (exV v13 1) fun v15 =>
      New (.cells #[(Value.int .i64 0), (Value.bool false), (Value.slice none 0 0), (Value.int .i64 0), (Value.int .i64 0), (Value.int .i64 0), (Value.slice none 0 0), (Value.int .i64 0), (Value.int .i64 0), (Value.int .i64 0), (Value.int .i64 0)] 52 (0, 0)) <| gh fun old_16 =>
      Sto 11 old_16 v14 <| gh fun _ =>
      Br v15
        (Rv none (ldNR 11 old_16) fun v17 =>
        Sto 11 v2 v17 <| gh fun _ =>
        Rv none (ldNR 11 v2) fun v18 =>
        K v18)
        (Pv (fldV 3 c_1) fun v19 =>
        Rv none (ldNR 2 v19) fun v20 =>
        New (.cells #[(Value.int .i64 0), (Value.int .i64 0)] 41 (0, 0)) <| gh fun w_21 =>
        Sto 2 w_21 v20 <| gh fun _ =>
        Draw fun S =>
          Pv (nilV a0) fun v22 =>
          Pv (fldV 3 v22) fun v23 =>
          Rv (some S) (ld1R v23) fun v24 =>
          Pv (fldV 10 c_1) fun v25 =>
          Rv (some S) (ld1R v25) fun v26 =>
          Rv (some S) (bsR v26) fun v27 =>
          Rv (some S) (lkR .string (Value.agg #[(Value.int .i64 0), (Value.int .i64 0), (Value.int .i64 0)]) true v24 v27) fun v28 =>
          Pv (exV v28 0) fun v29 =>
          Pv (exV v28 1) fun v30 =>
          New (.cells #[(Value.int .i64 0), (Value.int .i64 0), (Value.int .i64 0)] 159 (0, 0)) <| gh <| Keep S fun k_31 =>
          Sto 3 k_31 v29 <| gh fun _ =>
          Br v30
            (Rv none (ldNR 3 k_31) fun v32 =>
            Rv none (ldNR 2 w_21) fun v33 =>
            Pv (fldV 1 c_1) fun v34 =>
            Rv none (ld1R v34) fun v35 =>
            Cal Tryz.prog ω 155 #[v32, v33, v35] <| gh fun v36 =>
            Pv (exV v36 0) fun v37 =>
            Pv (exV v36 1) fun v38 =>
            Sto 2 w_21 v37 <| gh fun _ =>
            Pv (binIV .neq v38 (Value.int .i64 0)) fun v39 =>
            Br v39
              (Cal Tryz.prog ω 34 #[v38] <| gh fun v40 =>
              Sto 11 v2 v40 <| gh fun _ =>
              Rv none (ldNR 11 v2) fun v41 =>
              K v41)
              (sh96_1 ω a0 c_1 v2 w_21 v38 K))
            (sh96_1 ω a0 c_1 v2 w_21 (Value.int .i64 0) K)))
theorem sh96_eq (ω : Om) (a0 a1 : Value) (K : Value → M) : vcF Tryz.prog ω Tryz.f96 [a0, a1] K = sh96 ω a0 a1 K := by kernel_rfl
theorem cal96 {ω : Om} {a0 a1 : Value} {K : Value → M} {I : Imm} {L : LH} (h : sh96 ω a0 a1 (fun v => Gh (K v)) I L) : Cal Tryz.prog ω 96 #[a0, a1] K I L :=
  Cal.gh (cal_of_vc mixed Tryz.func96 (by rw [sh96_eq]; exact h))
def sh97 (ω : Om) (a0 : Value) (a1 : Value) (K : Value → M) : M :=
  New (.cells (Value.cells a1) 56 (0, 0)) <| gh fun c_1 =>
  New (.cells #[(Value.int .i64 0), (Value.bool false), (Value.slice none 0 0), (Value.int .i64 0), (Value.int .i64 0), (Value.int .i64 0), (Value.slice none 0 0), (Value.int .i64 0), (Value.int .i64 0), (Value.int .i64 0), (Value.int .i64 0)] 52 (0, 0)) <| gh fun v2 =>
  Pv (fldV 12 c_1) fun v3 =>
  Rv none (ldNR 2 v3) fun v4 =>
  Cal Tryz.prog ω 151 #[a0, v4] <| gh fun v5 =>
  Pv (unV .not v5) fun v6 =>
  Br v6
    (Cal Tryz.prog ω 34 #[(Value.int .i64 141)] <| gh fun v7 =>
    Sto 11 v2 v7 <| gh fun _ =>
    Rv none (ldNR 11 v2) fun v8 =>
    K v8)
    (Rv none (ldNR 15 c_1) fun v9 =>
    Cal Tryz.prog ω 154 #[a0, v9] <| gh fun v10 =>
    Pv (exV v10 0) fun v11 =>
    Pv (exV v10 1) fun v12 =>
    New (.cells #[(Value.int .i64 0), (Value.bool false), (Value.slice none 0 0), (Value.int .i64 0), (Value.int .i64 0), (Value.int .i64 0), (Value.slice none 0 0), (Value.int .i64 0), (Value.int .i64 0), (Value.int .i64 0), (Value.int .i64 0)] 52 (0, 0)) <| gh fun old_13 =>
    Sto 11 old_13 v11 <| gh fun _ =>
    Br v12
      (Rv none (ldNR 11 old_13) fun v14 =>
      Sto 11 v2 v14 <| gh fun _ =>
      Rv none (ldNR 11 v2) fun v15 =>
      K v15)
      (Pv (fldV 5 c_1) fun v16 =>
      Rv none (ldNR 2 v16) fun v17 =>
      Pv (fldV 3 c_1) fun v18 =>
      Rv none (ldNR 2 v18) fun v19 =>
      Cal Tryz.prog ω 158 #[v17, v19] <| gh fun v20 =>
      Pv (binIV .lss v20 (Value.int .i64 0)) fun v21 =>
      Br v21
        (Cal Tryz.prog ω 34 #[(Value.int .i64 1)] <| gh fun v22 =>
        Sto 11 v2 v22 <| gh fun _ =>
        Rv none (ldNR 11 v2) fun v23 =>
        K v23)
        (Draw fun S =>
          Pv (nilV a0) fun v24 =>
          Pv (fldV 2 v24) fun v25 =>
          Rv (some S) (ld1R v25) fun v26 =>
          Pv (fldV 12 c_1) fun v27 =>
          Rv (some S) (ldNR 2 v27) fun v28 =>
          Pv (fldV 3 c_1) fun v29 =>
          Rv (some S) (ldNR 2 v29) fun v30 =>
          Pv (fldV 5 c_1) fun v31 =>
          Rv (some S) (ldNR 2 v31) fun v32 =>
          Pv (fldV 1 c_1) fun v33 =>
          Rv (some S) (ld1R v33) fun v34 =>
          Cal Tryz.prog ω 159 #[v26, v28, v30, v32, v34] <| gh fun v35 =>
          Pv (exV v35 0) fun v36 =>
          Pv (exV v35 1) fun v37 =>
          Pv (binIV .neq v37 (Value.int .i64 0)) fun v38 =>
          Br v38
            (Cal Tryz.prog ω 34 #[v37] <| gh fun v39 =>
            Sto 11 v2 v39 <| gh fun _ =>
            Rv none (ldNR 11 v2) fun v40 =>
            K v40)
            (Br v36
              (Cal Tryz.prog ω 34 #[(Value.int .i64 144)] <| gh fun v41 =>
              Sto 11 v2 v41 <| gh fun _ =>
              Rv none (ldNR 11 v2) fun v42 =>
              K v42)
              (Draw fun S =>
                Pv (nilV a0) fun v43 =>
                Pv (fldV 4 v43) fun v44 =>
                Rv (some S) (ldNR 3 v44) fun v45 =>
                Pv (fldV 5 c_1) fun v46 =>
                Rv (some S) (ldNR 2 v46) fun v47 =>
                Pv (fldV 1 c_1) fun v48 =>
                Rv (some S) (ld1R v48) fun v49 =>
                Cal Tryz.prog ω 153 #[v45, v47, v49] <| gh fun v50 =>
                Pv (nilV a0) fun v51 =>
                Pv (fldV 4 v51) fun v52 =>
                Sto 3 v52 v50 <| gh fun _ =>
                Rv none (ldNR 15 c_1) fun v53 =>
                Pv (bldV #[(Value.int .i64 0), (Value.bool false), (Value.slice none 0 0), (Value.int .i64 0), (Value.int .i64 0), (Value.int .i64 0), (Value.slice none 0 0), (Value.int .i64 0), (Value.int .i64 0), (Value.int .i64 0), (Value.int .i64 0)] #[(0, 1), (1, 5), (6, 1), (7, 2), (9, 1), (10, 1)] []) fun v54 =>
                Cal Tryz.prog ω 157 #[a0, v53, v54] <| gh fun v55 =>
                Pv (bldV #[(Value.int .i64 0), (Value.bool false), (Value.slice none 0 0), (Value.int .i64 0), (Value.int .i64 0), (Value.int .i64 0), (Value.slice none 0 0), (Value.int .i64 0), (Value.int .i64 0), (Value.int .i64 0), (Value.int .i64 0)] #[(0, 1), (1, 5), (6, 1), (7, 2), (9, 1), (10, 1)] []) fun v56 =>
                Sto 11 v2 v56 <| gh fun _ =>
                Rv none (ldNR 11 v2) fun v57 =>
                K v57)))))
theorem sh97_eq (ω : Om) (a0 a1 : Value) (K : Value → M) : vcF Tryz.prog ω Tryz.f97 [a0, a1] K = sh97 ω a0 a1 K := by kernel_rfl
theorem cal97 {ω : Om} {a0 a1 : Value} {K : Value → M} {I : Imm} {L : LH} (h : sh97 ω a0 a1 (fun v => Gh (K v)) I L) : Cal Tryz.prog ω 97 #[a0, a1] K I L :=
  Cal.gh (cal_of_vc mixed Tryz.func97 (by rw [sh97_eq]; exact h))
def sh98 (ω : Om) (a0 : Value) (a1 : Value) (K : Value → M) : M :=
  New (.cells (Value.cells a1) 56 (0, 0)) <| gh fun c_1 =>
  New (.cells #[(Value.int .i64 0), (Value.bool false), (Value.slice none 0 0), (Value.int .i64 0), (Value.int .i64 0), (Value.int .i64 0), (Value.slice none 0 0), (Value.int .i64 0), (Value.int .i64 0), (Value.int .i64 0), (Value.int .i64 0)] 52 (0, 0)) <| gh fun v2 =>
  Rv none (ldNR 15 c_1) fun v3 =>
  Cal Tryz.prog ω 154 #[a0, v3] <| gh fun v4 =>
  Pv (exV v4 0) fun v5 =>
  Pv (exV v4 1) fun v6 =>
  New (.cells #[(Value.int .i64 0), (Value.bool false), (Value.slice none 0 0), (Value.int .i64 0), (Value.int .i64 0), (Value.int .i64 0), (Value.slice none 0 0), (Value.int .i64 0), (Value.int .i64 0), (Value.int .i64 0), (Value.int .i64 0)] 52 (0, 0)) <| gh fun old_7 =>
  Sto 11 old_7 v5 <| gh fun _ =>
  Br v6
    (Rv none (ldNR 11 old_7) fun v8 =>
    Sto 11 v2 v8 <| gh fun _ =>
    Rv none (ldNR 11 v2) fun v9 =>
    K v9)
    (Pv (fldV 1 c_1) fun v10 =>
    Rv none (ld1R v10) fun v11 =>
    Pv (fldV 3 c_1) fun v12 =>
    Rv none (ldNR 2 v12) fun v13 =>
    Cal Tryz.prog ω 160 #[a0, v11, (Value.int .i64 1), v13] <| gh fun v14 =>
    Pv (unV .not v14) fun v15 =>
    Br v15
      (Cal Tryz.prog ω 34 #[(Value.int .i64 143)] <| gh fun v16 =>
      Sto 11 v2 v16 <| gh fun _ =>
      Rv none (ldNR 11 v2) fun v17 =>
      K v17)
      (Draw fun S =>
        Pv (nilV a0) fun v18 =>
        Pv (fldV 7 v18) fun v19 =>
        Rv (some S) (ld1R v19) fun v20 =>
        Pv (fldV 1 c_1) fun v21 =>
        Rv (some S) (ld1R v21) fun v22 =>
        Rv (some S) (lkR (.int .i64) (Value.agg #[(Value.int .i64 0), (Value.int .i64 0), (Value.int .i64 0)]) false v20 v22) fun v23 =>
        Pv (fldvV false 0 1 v23) fun v24 =>
        Pv (bldV #[(Value.int .i64 0), (Value.bool false), (Value.slice none 0 0), (Value.int .i64 0), (Value.int .i64 0), (Value.int .i64 0), (Value.slice none 0 0), (Value.int .i64 0), (Value.int .i64 0), (Value.int .i64 0), (Value.int .i64 0)] #[(0, 1), (1, 5), (6, 1), (7, 2), (9, 1), (10, 1)] [(5, v24)]) fun v25 =>
        New (.cells #[(Value.int .i64 0), (Value.bool false), (Value.slice none 0 0), (Value.int .i64 0), (Value.int .i64 0), (Value.int .i64 0), (Value.slice none 0 0), (Value.int .i64 0), (Value.int .i64 0), (Value.int .i64 0), (Value.int .i64 0)] 52 (0, 0)) <| gh <| Keep S fun r_26 =>
        Sto 11 r_26 v25 <| gh fun _ =>
        Pv (fldV 10 r_26) fun v27 =>
        Rv none (ld1R v27) fun v28 =>
        Pv (binIV .neq v28 (Value.int .i64 1)) fun v29 =>
        Br v29
          (Pv (fldV 0 r_26) fun v30 =>
          Sto 1 v30 (Value.int .i64 142) <| gh fun _ =>
          Rv none (ldNR 11 r_26) fun v31 =>
          Sto 11 v2 v31 <| gh fun _ =>
          Rv none (ldNR 11 v2) fun v32 =>
          K v32)
          (Rv none (ldNR 15 c_1) fun v33 =>
          Pv (bldV #[(Value.int .i64 0), (Value.bool false), (Value.slice none 0 0), (Value.int .i64 0), (Value.int .i64 0), (Value.int .i64 0), (Value.slice none 0 0), (Value.int .i64 0), (Value.int .i64 0), (Value.int .i64 0), (Value.int .i64 0)] #[(0, 1), (1, 5), (6, 1), (7, 2), (9, 1), (10, 1)] []) fun v34 =>
          Cal Tryz.prog ω 157 #[a0, v33, v34] <| gh fun v35 =>
          Rv none (ldNR 11 r_26) fun v36 =>
          Sto 11 v2 v36 <| gh fun _ =>
          Rv none (ldNR 11 v2) fun v37 =>
          K v37)))
theorem sh98_eq (ω : Om) (a0 a1 : Value) (K : Value → M) : vcF Tryz.prog ω Tryz.f98 [a0, a1] K = sh98 ω a0 a1 K := by kernel_rfl
theorem cal98 {ω : Om} {a0 a1 : Value} {K : Value → M} {I : Imm} {L : LH} (h : sh98 ω a0 a1 (fun v => Gh (K v)) I L) : Cal Tryz.prog ω 98 #[a0, a1] K I L :=
  Cal.gh (cal_of_vc mixed Tryz.func98 (by rw [sh98_eq]; exact h))
def sh99_3 (ω : Om) (p4 : Value) (p7 : Value) (K : Value → M) : M :=
  Rv none (ldNR 11 p7) fun v46 =>
  Sto 11 p4 v46 <| gh fun _ =>
  Rv none (ldNR 11 p4) fun v47 =>
  K v47
def sh99_2 (ω : Om) (p0 : Value) (p3 : Value) (p4 : Value) (p5 : Value) (K : Value → M) : M :=
  Draw fun S =>
    Pv (nilV p0) fun v29 =>
    Pv (fldV 7 v29) fun v30 =>
    Rv (some S) (ld1R v30) fun v31 =>
    Pv (fldV 1 p3) fun v32 =>
    Rv (some S) (ld1R v32) fun v33 =>
    Rv (some S) (lkR (.int .i64) (Value.agg #[(Value.int .i64 0), (Value.int .i64 0), (Value.int .i64 0)]) false v31 v33) fun v34 =>
    New (.cells #[(Value.int .i64 0), (Value.int .i64 0), (Value.int .i64 0)] 194 (0, 0)) <| gh <| Keep S fun x_35 =>
    Sto 3 x_35 v34 <| gh fun _ =>
    Pv (fldV 0 x_35) fun v36 =>
    Rv none (ld1R v36) fun v37 =>
    Pv (fldV 1 x_35) fun v38 =>
    Rv none (ldNR 2 v38) fun v39 =>
    Pv (bldV #[(Value.int .i64 0), (Value.bool false), (Value.slice none 0 0), (Value.int .i64 0), (Value.int .i64 0), (Value.int .i64 0), (Value.slice none 0 0), (Value.int .i64 0), (Value.int .i64 0), (Value.int .i64 0), (Value.int .i64 0)] #[(0, 1), (1, 5), (6, 1), (7, 2), (9, 1), (10, 1)] [(5, v37), (3, v39)]) fun v40 =>
    New (.cells #[(Value.int .i64 0), (Value.bool false), (Value.slice none 0 0), (Value.int .i64 0), (Value.int .i64 0), (Value.int .i64 0), (Value.slice none 0 0), (Value.int .i64 0), (Value.int .i64 0), (Value.int .i64 0), (Value.int .i64 0)] 52 (0, 0)) <| gh fun r_41 =>
    Sto 11 r_41 v40 <| gh fun _ =>
    Pv (fldV 0 x_35) fun v42 =>
    Rv none (ld1R v42) fun v43 =>
    Pv (binIV .neq v43 p5) fun v44 =>
    Br v44
      (Pv (fldV 0 r_41) fun v45 =>
      Sto 1 v45 (Value.int .i64 142) <| gh fun _ =>
      sh99_3 ω p4 r_41 K)
      (sh99_3 ω p4 r_41 K)
def sh99_1 (ω : Om) (p0 : Value) (p3 : Value) (p4 : Value) (p5 : Value) (K : Value → M) : M :=
  Draw fun S =>
    Pv (nilV p0) fun v13 =>
    Pv (fldV 7 v13) fun v14 =>
    Rv (some S) (ld1R v14) fun v15 =>
    Pv (fldV 1 p3) fun v16 =>
    Rv (some S) (ld1R v16) fun v17 =>
    Rv (some S) (lkR (.int .i64) (Value.agg #[(Value.int .i64 0), (Value.int .i64 0), (Value.int .i64 0)]) false v15 v17) fun v18 =>
    Pv (fldvV false 0 1 v18) fun v19 =>
    Pv (binIV .eql v19 (Value.int .i64 1)) fun v20 =>
    Br v20
      (Draw fun S =>
        Pv (nilV p0) fun v21 =>
        Pv (fldV 7 v21) fun v22 =>
        Rv (some S) (ld1R v22) fun v23 =>
        Pv (fldV 1 p3) fun v24 =>
        Rv (some S) (ld1R v24) fun v25 =>
        Pv (fldV 3 p3) fun v26 =>
        Rv (some S) (ldNR 2 v26) fun v27 =>
        Pv (bldV #[(Value.int .i64 0), (Value.int .i64 0), (Value.int .i64 0)] #[(0, 1), (1, 2)] [(0, p5), (1, v27)]) fun v28 =>
        PutM (.int .i64) v23 v25 v28 <| gh fun _ =>
        sh99_2 ω p0 p3 p4 p5 K)
      (sh99_2 ω p0 p3 p4 p5 K)
def sh99 (ω : Om) (a0 : Value) (a1 : Value) (K : Value → M) : M :=
  New (.cells (Value.cells a1) 56 (0, 0)) <| gh fun c_1 =>
  New (.cells #[(Value.int .i64 0), (Value.bool false), (Value.slice none 0 0), (Value.int .i64 0), (Value.int .i64 0), (Value.int .i64 0), (Value.slice none 0 0), (Value.int .i64 0), (Value.int .i64 0), (Value.int .i64 0), (Value.int .i64 0)] 52 (0, 0)) <| gh fun v2 =>
  Pv (fldV 1 c_1) fun v3 =>
  Rv none (ld1R v3) fun v4 =>
  Pv (fldV 3 c_1) fun v5 =>
  Rv none (ldNR 2 v5) fun v6 =>
  Cal Tryz.prog ω 160 #[a0, v4, (Value.int .i64 3), v6] <| gh fun v7 =>
  Pv (unV .not v7) fun v8 =>
  Br v8
    (Cal Tryz.prog ω 34 #[(Value.int .i64 143)] <| gh fun v9 =>
    Sto 11 v2 v9 <| gh fun _ =>
    Rv none (ldNR 11 v2) fun v10 =>
    K v10)
    (Pv (fldV 8 c_1) fun v11 =>
    Rv none (ld1R v11) fun v12 =>
    Br v12
      (sh99_1 ω a0 c_1 v2 (Value.int .i64 2) K)
      (sh99_1 ω a0 c_1 v2 (Value.int .i64 3) K))
theorem sh99_eq (ω : Om) (a0 a1 : Value) (K : Value → M) : vcF Tryz.prog ω Tryz.f99 [a0, a1] K = sh99 ω a0 a1 K := by kernel_rfl
theorem cal99 {ω : Om} {a0 a1 : Value} {K : Value → M} {I : Imm} {L : LH} (h : sh99 ω a0 a1 (fun v => Gh (K v)) I L) : Cal Tryz.prog ω 99 #[a0, a1] K I L :=
  Cal.gh (cal_of_vc mixed Tryz.func99 (by rw [sh99_eq]; exact h))
def sh100_2 (ω : Om) (p4 : Value) (p5 : Value) (K : Value → M) : M :=
  Pv (fldV 0 p5) fun v40 =>
  Rv none (ld1R v40) fun v41 =>
  Pv (fldV 1 p5) fun v42 =>
  Rv none (ldNR 2 v42) fun v43 =>
  Pv (bldV #[(Value.int .i64 0), (Value.bool false), (Value.slice none 0 0), (Value.int .i64 0), (Value.int .i64 0), (Value.int .i64 0), (Value.slice none 0 0), (Value.int .i64 0), (Value.int .i64 0), (Value.int .i64 0), (Value.int .i64 0)] #[(0, 1), (1, 5), (6, 1), (7, 2), (9, 1), (10, 1)] [(5, v41), (3, v43)]) fun v44 =>
  Sto 11 p4 v44 <| gh fun _ =>
  Rv none (ldNR 11 p4) fun v45 =>
  K v45
def sh100_1 (ω : Om) (p0 : Value) (p3 : Value) (p4 : Value) (p5 : Value) (K : Value → M) : M :=
  Pv (fldV 0 p5) fun v33 =>
  Sto 1 v33 (Value.int .i64 3) <| gh fun _ =>
  Draw fun S =>
    Pv (nilV p0) fun v34 =>
    Pv (fldV 7 v34) fun v35 =>
    Rv (some S) (ld1R v35) fun v36 =>
    Pv (fldV 1 p3) fun v37 =>
    Rv (some S) (ld1R v37) fun v38 =>
    Rv (some S) (ldNR 3 p5) fun v39 =>
    PutM (.int .i64) v36 v38 v39 <| gh fun _ =>
    sh100_2 ω p4 p5 K
def sh100 (ω : Om) (a0 : Value) (a1 : Value) (K : Value → M) : M :=
  New (.cells (Value.cells a1) 56 (0, 0)) <| gh fun c_1 =>
  New (.cells #[(Value.int .i64 0), (Value.bool false), (Value.slice none 0 0), (Value.int .i64 0), (Value.int .i64 0), (Value.int .i64 0), (Value.slice none 0 0), (Value.int .i64 0), (Value.int .i64 0), (Value.int .i64 0), (Value.int .i64 0)] 52 (0, 0)) <| gh fun v2 =>
  Pv (fldV 1 c_1) fun v3 =>
  Rv none (ld1R v3) fun v4 =>
  Pv (fldV 3 c_1) fun v5 =>
  Rv none (ldNR 2 v5) fun v6 =>
  Cal Tryz.prog ω 160 #[a0, v4, (Value.int .i64 3), v6] <| gh fun v7 =>
  Pv (unV .not v7) fun v8 =>
  Br v8
    (Cal Tryz.prog ω 34 #[(Value.int .i64 143)] <| gh fun v9 =>
    Sto 11 v2 v9 <| gh fun _ =>
    Rv none (ldNR 11 v2) fun v10 =>
    K v10)
    (Draw fun S =>
      Pv (nilV a0) fun v11 =>
      Pv (fldV 7 v11) fun v12 =>
      Rv (some S) (ld1R v12) fun v13 =>
      Pv (fldV 1 c_1) fun v14 =>
      Rv (some S) (ld1R v14) fun v15 =>
      Rv (some S) (lkR (.int .i64) (Value.agg #[(Value.int .i64 0), (Value.int .i64 0), (Value.int .i64 0)]) false v13 v15) fun v16 =>
      New (.cells #[(Value.int .i64 0), (Value.int .i64 0), (Value.int .i64 0)] 194 (0, 0)) <| gh <| Keep S fun x_17 =>
      Sto 3 x_17 v16 <| gh fun _ =>
      Pv (fldV 3 c_1) fun v18 =>
      Rv none (ldNR 2 v18) fun v19 =>
      Pv (fldV 1 x_17) fun v20 =>
      Rv none (ldNR 2 v20) fun v21 =>
      Cal Tryz.prog ω 158 #[v19, v21] <| gh fun v22 =>
      Pv (fldV 0 x_17) fun v23 =>
      Rv none (ld1R v23) fun v24 =>
      Pv (binIV .eql v24 (Value.int .i64 1)) fun v25 =>
      Gd v25 true
        (Pv (binIV .lss v22 (Value.int .i64 0)) fun v26 =>
        Gd v26 false
          (Pv (binIV .eql v22 (Value.int .i64 0)) fun v27 =>
          Gd v27 true
            (Pv (fldV 7 c_1) fun v28 =>
            Rv none (ld1R v28) fun v29 =>
            Pv (fldV 1 c_1) fun v30 =>
            Rv none (ld1R v30) fun v31 =>
            Pv (binIV .lss v29 v31) fun v32 =>
            Br v32
              (sh100_1 ω a0 c_1 v2 x_17 K)
              (sh100_2 ω v2 x_17 K))
            (sh100_2 ω v2 x_17 K))
          (sh100_1 ω a0 c_1 v2 x_17 K))
        (sh100_2 ω v2 x_17 K))
theorem sh100_eq (ω : Om) (a0 a1 : Value) (K : Value → M) : vcF Tryz.prog ω Tryz.f100 [a0, a1] K = sh100 ω a0 a1 K := by kernel_rfl
theorem cal100 {ω : Om} {a0 a1 : Value} {K : Value → M} {I : Imm} {L : LH} (h : sh100 ω a0 a1 (fun v => Gh (K v)) I L) : Cal Tryz.prog ω 100 #[a0, a1] K I L :=
  Cal.gh (cal_of_vc mixed Tryz.func100 (by rw [sh100_eq]; exact h))
def sh101 (ω : Om) (a0 : Value) (a1 : Value) (K : Value → M) : M :=
  New (.cells (Value.cells a1) 56 (0, 0)) <| gh fun c_1 =>
  New (.cells #[(Value.int .i64 0), (Value.bool false), (Value.slice none 0 0), (Value.int .i64 0), (Value.int .i64 0), (Value.int .i64 0), (Value.slice none 0 0), (Value.int .i64 0), (Value.int .i64 0), (Value.int .i64 0), (Value.int .i64 0)] 52 (0, 0)) <| gh fun v2 =>
  Draw fun S =>
    Pv (nilV a0) fun v3 =>
    Pv (fldV 7 v3) fun v4 =>
    Rv (some S) (ld1R v4) fun v5 =>
    Pv (fldV 1 c_1) fun v6 =>
    Rv (some S) (ld1R v6) fun v7 =>
    Rv (some S) (lkR (.int .i64) (Value.agg #[(Value.int .i64 0), (Value.int .i64 0), (Value.int .i64 0)]) false v5 v7) fun v8 =>
    Pv (fldvV false 0 1 v8) fun v9 =>
    Pv (binIV .eql v9 (Value.int .i64 1)) fun v10 =>
    Br v10
      (Cal Tryz.prog ω 34 #[(Value.int .i64 142)] <| gh fun v11 =>
      Sto 11 v2 v11 <| gh fun _ =>
      Rv none (ldNR 11 v2) fun v12 =>
      K v12)
      (Draw fun S =>
        Pv (nilV a0) fun v13 =>
        Pv (fldV 7 v13) fun v14 =>
        Rv (some S) (ld1R v14) fun v15 =>
        Pv (fldV 1 c_1) fun v16 =>
        Rv (some S) (ld1R v16) fun v17 =>
        DelM (.int .i64) v15 v17 <| gh fun _ =>
        Pv (bldV #[(Value.int .i64 0), (Value.bool false), (Value.slice none 0 0), (Value.int .i64 0), (Value.int .i64 0), (Value.int .i64 0), (Value.slice none 0 0), (Value.int .i64 0), (Value.int .i64 0), (Value.int .i64 0), (Value.int .i64 0)] #[(0, 1), (1, 5), (6, 1), (7, 2), (9, 1), (10, 1)] []) fun v18 =>
        Sto 11 v2 v18 <| gh fun _ =>
        Rv none (ldNR 11 v2) fun v19 =>
        K v19)
theorem sh101_eq (ω : Om) (a0 a1 : Value) (K : Value → M) : vcF Tryz.prog ω Tryz.f101 [a0, a1] K = sh101 ω a0 a1 K := by kernel_rfl
theorem cal101 {ω : Om} {a0 a1 : Value} {K : Value → M} {I : Imm} {L : LH} (h : sh101 ω a0 a1 (fun v => Gh (K v)) I L) : Cal Tryz.prog ω 101 #[a0, a1] K I L :=
  Cal.gh (cal_of_vc mixed Tryz.func101 (by rw [sh101_eq]; exact h))
def sh102_3 (ω : Om) (p21 : Value) (Kn0 : (Value × Unit) → M) (K : Value → M) : M :=
  Pv (binIV .add p21 (Value.int .i64 1)) fun v29 =>
  Kn0 (v29, ())
def sh102_4 (ω : Om) (p4 : Value) (p8 : Value) (K : Value → M) : M :=
  Cal Tryz.prog ω 34 #[p8] <| gh fun v45 =>
  Sto 11 p4 v45 <| gh fun _ =>
  Rv none (ldNR 11 p4) fun v46 =>
  K v46
def sh102_6 (ω : Om) (p4 : Value) (K : Value → M) : M :=
  Pv (bldV #[(Value.int .i64 0), (Value.bool false), (Value.slice none 0 0), (Value.int .i64 0), (Value.int .i64 0), (Value.int .i64 0), (Value.slice none 0 0), (Value.int .i64 0), (Value.int .i64 0), (Value.int .i64 0), (Value.int .i64 0)] #[(0, 1), (1, 5), (6, 1), (7, 2), (9, 1), (10, 1)] []) fun v47 =>
  Sto 11 p4 v47 <| gh fun _ =>
  Rv none (ldNR 11 p4) fun v48 =>
  K v48
def sh102_1 (ω : Om) (p0 : Value) (p3 : Value) (p4 : Value) (p19 : Value) (p20 : Value) (x21 : Value) (Kn0 : (Value × Unit) → M) (K : Value → M) : M :=
  Pv (binIV .lss x21 p20) fun v14 =>
  Br v14
    (Pv (ixV 6 p19 x21) fun v15 =>
    Rv none (ldNR 6 v15) fun v16 =>
    New (.cells #[(Value.slice none 0 0), (Value.int .i64 0), (Value.int .i64 0), (Value.int .i64 0), (Value.bool false), (Value.slice none 0 0)] 190 (0, 0)) <| gh fun x_17 =>
    Sto 6 x_17 v16 <| gh fun _ =>
    Pv (fldV 1 x_17) fun v18 =>
    Rv none (ld1R v18) fun v19 =>
    Pv (fldV 1 p3) fun v20 =>
    Rv none (ld1R v20) fun v21 =>
    Pv (binIV .neq v19 v21) fun v22 =>
    Gd v22 false
      (Pv (fldV 12 p3) fun v23 =>
      Rv none (ldNR 2 v23) fun v24 =>
      Pv (fldV 0 x_17) fun v25 =>
      Rv none (ld1R v25) fun v26 =>
      Cal Tryz.prog ω 148 #[v24, v26] <| gh fun v27 =>
      Pv (unV .not v27) fun v28 =>
      Br v28
        (sh102_3 ω x21 Kn0 K)
        (Draw fun S =>
          Pv (nilV p0) fun v30 =>
          Pv (fldV 2 v30) fun v31 =>
          Rv (some S) (ld1R v31) fun v32 =>
          Pv (fldV 0 x_17) fun v33 =>
          Rv (some S) (ld1R v33) fun v34 =>
          Pv (fldV 1 p3) fun v35 =>
          Rv (some S) (ld1R v35) fun v36 =>
          Pv (fldV 8 p3) fun v37 =>
          Rv (some S) (ld1R v37) fun v38 =>
          Pv (fldV 3 p3) fun v39 =>
          Rv (some S) (ldNR 2 v39) fun v40 =>
          Cal Tryz.prog ω 161 #[v32, v34, v36, v38, v40] <| gh fun v41 =>
          Pv (exV v41 0) fun v42 =>
          Pv (exV v41 1) fun v43 =>
          Pv (binIV .neq v43 (Value.int .i64 0)) fun v44 =>
          Br v44
            (sh102_4 ω p4 v43 K)
            (sh102_3 ω x21 Kn0 K)))
      (sh102_3 ω x21 Kn0 K))
    (sh102_6 ω p4 K)
def sh102 (ω : Om) (a0 : Value) (a1 : Value) (K : Value → M) : M :=
  New (.cells (Value.cells a1) 56 (0, 0)) <| gh fun c_1 =>
  New (.cells #[(Value.int .i64 0), (Value.bool false), (Value.slice none 0 0), (Value.int .i64 0), (Value.int .i64 0), (Value.int .i64 0), (Value.slice none 0 0), (Value.int .i64 0), (Value.int .i64 0), (Value.int .i64 0), (Value.int .i64 0)] 52 (0, 0)) <| gh fun v2 =>
  Pv (fldV 12 c_1) fun v3 =>
  Rv none (ldNR 2 v3) fun v4 =>
  Cal Tryz.prog ω 151 #[a0, v4] <| gh fun v5 =>
  Pv (unV .not v5) fun v6 =>
  Br v6
    (Cal Tryz.prog ω 34 #[(Value.int .i64 141)] <| gh fun v7 =>
    Sto 11 v2 v7 <| gh fun _ =>
    Rv none (ldNR 11 v2) fun v8 =>
    K v8)
    (Pv (nilV a0) fun v9 =>
    Pv (fldV 2 v9) fun v10 =>
    Rv none (ld1R v10) fun v11 =>
    Cal Tryz.prog ω 120 #[v11] <| gh fun v12 =>
    Pv (lenV v12) fun v13 =>
    LoopM (((Value.int .i64 0), ()) : Value × Unit) fun s Kn0 =>
    sh102_1 ω a0 c_1 v2 v12 v13 s.1 Kn0 K)
theorem sh102_eq (ω : Om) (a0 a1 : Value) (K : Value → M) : vcF Tryz.prog ω Tryz.f102 [a0, a1] K = sh102 ω a0 a1 K := by kernel_rfl
theorem cal102 {ω : Om} {a0 a1 : Value} {K : Value → M} {I : Imm} {L : LH} (h : sh102 ω a0 a1 (fun v => Gh (K v)) I L) : Cal Tryz.prog ω 102 #[a0, a1] K I L :=
  Cal.gh (cal_of_vc mixed Tryz.func102 (by rw [sh102_eq]; exact h))
def sh103 (ω : Om) (a0 : Value) (a1 : Value) (K : Value → M) : M :=
  New (.cells (Value.cells a1) 56 (0, 0)) <| gh fun c_1 =>
  New (.cells #[(Value.int .i64 0), (Value.bool false), (Value.slice none 0 0), (Value.int .i64 0), (Value.int .i64 0), (Value.int .i64 0), (Value.slice none 0 0), (Value.int .i64 0), (Value.int .i64 0), (Value.int .i64 0), (Value.int .i64 0)] 52 (0, 0)) <| gh fun v2 =>
  Draw fun S =>
    Pv (nilV a0) fun v3 =>
    Pv (fldV 2 v3) fun v4 =>
    Rv (some S) (ld1R v4) fun v5 =>
    Pv (fldV 3 c_1) fun v6 =>
    Rv (some S) (ldNR 2 v6) fun v7 =>
    Cal Tryz.prog ω 162 #[v5, v7] <| gh fun v8 =>
    Pv (exV v8 0) fun v9 =>
    Pv (exV v8 1) fun v10 =>
    Cal Tryz.prog ω 34 #[v10] <| gh fun v11 =>
    Sto 11 v2 v11 <| gh fun _ =>
    Rv none (ldNR 11 v2) fun v12 =>
    K v12
theorem sh103_eq (ω : Om) (a0 a1 : Value) (K : Value → M) : vcF Tryz.prog ω Tryz.f103 [a0, a1] K = sh103 ω a0 a1 K := by kernel_rfl
theorem cal103 {ω : Om} {a0 a1 : Value} {K : Value → M} {I : Imm} {L : LH} (h : sh103 ω a0 a1 (fun v => Gh (K v)) I L) : Cal Tryz.prog ω 103 #[a0, a1] K I L :=
  Cal.gh (cal_of_vc mixed Tryz.func103 (by rw [sh103_eq]; exact h))
def sh120_3 (ω : Om) (p2 : Value) (p3 : Value) (Q0 : Nat) (K : Value → M) : M :=
  Rv none (ld1R p3) fun v28 =>
  Tak Q0 <|
  K v28
def sh120 (ω : Om) (a0 : Value) (K : Value → M) : M :=
  New (.cells #[(Value.slice none 0 0)] 118 (0, 0)) <| gh fun out_1 =>
  Pv (bldV #[(Value.slice none 0 0), (Value.slice none 0 0)] #[(0, 1), (1, 1)] []) fun v2 =>
  Cal Tryz.prog ω 177 #[a0, v2] <| gh fun v3 =>
  RngF2 Tryz.prog ω v3 (fun r1_0 r1_1 Bg Nk Xk Rk =>
      Bg (Pv (nilV r1_1) fun v4 =>
      Pv (fldV 1 v4) fun v5 =>
      Rv none (ldNR 5 v5) fun v6 =>
      New (.cells #[(Value.int .i64 0), (Value.int .i64 0), (Value.bool false), (Value.string (ByteArray.mk #[])), (Value.int .i64 0)] 255 (0, 0)) <| gh fun x_7 =>
      Sto 5 x_7 v6 <| gh fun _ =>
      Pv (fldV 4 x_7) fun v8 =>
      Rv none (ld1R v8) fun v9 =>
      Pv (binIV .neq v9 (Value.int .i64 0)) fun v10 =>
      Br v10
        (Rv none (ld1R out_1) fun v11 =>
        CvSB 5 r1_0 <| gh fun v12 =>
        Pv (fldV 4 x_7) fun v13 =>
        Rv none (ld1R v13) fun v14 =>
        Pv (fldV 0 x_7) fun v15 =>
        Pv (fldV 0 v15) fun v16 =>
        Rv none (ldNR 2 v16) fun v17 =>
        Pv (fldV 0 x_7) fun v18 =>
        Pv (fldV 2 v18) fun v19 =>
        Rv none (ld1R v19) fun v20 =>
        Pv (fldV 0 x_7) fun v21 =>
        Pv (fldV 3 v21) fun v22 =>
        Rv none (ld1R v22) fun v23 =>
        CvSB 5 v23 <| gh fun v24 =>
        Pv (bldV #[(Value.slice none 0 0), (Value.int .i64 0), (Value.int .i64 0), (Value.int .i64 0), (Value.bool false), (Value.slice none 0 0)] #[(0, 1), (1, 1), (2, 2), (4, 1), (5, 1)] [(0, v12), (1, v14), (2, v17), (3, v20), (4, v24)]) fun v25 =>
        BldS 190 6 #[(Value.slice none 0 0), (Value.int .i64 0), (Value.int .i64 0), (Value.int .i64 0), (Value.bool false), (Value.slice none 0 0)] 1 [(0, v25)] <| gh fun v26 =>
        App 190 6 80 #[(Value.slice none 0 0), (Value.int .i64 0), (Value.int .i64 0), (Value.int .i64 0), (Value.bool false), (Value.slice none 0 0)] v11 v26 <| gh fun v27 =>
        Sto 1 out_1 v27 <| gh fun _ =>
        Nk)
        (Nk)))
    (fun D1 => sh120_3 ω (Value.slice none 0 0) out_1 D1 K)
    (fun _ => [])
    (fun D1 => Tak D1 <|
      K (Value.slice none 0 0))
theorem sh120_eq (ω : Om) (a0 : Value) (K : Value → M) : vcF Tryz.prog ω Tryz.f120 [a0] K = sh120 ω a0 K := by kernel_rfl
theorem cal120 {ω : Om} {a0 : Value} {K : Value → M} {I : Imm} {L : LH} (h : sh120 ω a0 (fun v => Gh (K v)) I L) : Cal Tryz.prog ω 120 #[a0] K I L :=
  Cal.gh (cal_of_vc mixed Tryz.func120 (by rw [sh120_eq]; exact h))
def sh121_3 (ω : Om) (p0 : Value) (p2 : Value) (p3 : Value) (K : Value → M) : M :=
  Pv (cvIV .u8 p0) fun v7 =>
  BldS 5 1 #[(Value.int .u8 0)] 1 [(0, v7)] <| gh fun v8 =>
  App 5 1 1 #[(Value.int .u8 0)] p3 v8 <| gh fun v9 =>
  Cal Tryz.prog ω 178 #[v9] <| gh fun v10 =>
  K v10
def sh121_1 (ω : Om) (p2 : Value) (x0 : Value) (x3 : Value) (Kn0 : (Value × Value × Unit) → M) (K : Value → M) : M :=
  Pv (binIV .gtr x0 (Value.int .u64 127)) fun v1 =>
  Br v1
    (Pv (cvIV .u8 x0) fun v2 =>
    Pv (binIV .or v2 (Value.int .u8 128)) fun v3 =>
    BldS 5 1 #[(Value.int .u8 0)] 1 [(0, v3)] <| gh fun v4 =>
    App 5 1 1 #[(Value.int .u8 0)] x3 v4 <| gh fun v5 =>
    Pv (binIV .shr x0 (Value.int .u64 7)) fun v6 =>
    Kn0 (v6, v5, ()))
    (sh121_3 ω x0 p2 x3 K)
def sh121 (ω : Om) (a0 : Value) (K : Value → M) : M :=
  LoopM ((a0, (Value.slice none 0 0), ()) : Value × Value × Unit) fun s Kn0 =>
  sh121_1 ω (Value.slice none 0 0) s.1 s.2.1 Kn0 K
theorem sh121_eq (ω : Om) (a0 : Value) (K : Value → M) : vcF Tryz.prog ω Tryz.f121 [a0] K = sh121 ω a0 K := by kernel_rfl
theorem cal121 {ω : Om} {a0 : Value} {K : Value → M} {I : Imm} {L : LH} (h : sh121 ω a0 (fun v => Gh (K v)) I L) : Cal Tryz.prog ω 121 #[a0] K I L :=
  Cal.gh (cal_of_vc mixed Tryz.func121 (by rw [sh121_eq]; exact h))
def sh122 (ω : Om) (a0 : Value) (K : Value → M) : M :=
  Pv (binIV .geq a0 (Value.int .i64 0)) fun v1 =>
  Gd v1 true
    (Pv (binIV .leq a0 (Value.int .i64 9007199254740991)) fun v2 =>
    K v2)
    (K (Value.bool false))
theorem sh122_eq (ω : Om) (a0 : Value) (K : Value → M) : vcF Tryz.prog ω Tryz.f122 [a0] K = sh122 ω a0 K := by kernel_rfl
theorem cal122 {ω : Om} {a0 : Value} {K : Value → M} {I : Imm} {L : LH} (h : sh122 ω a0 (fun v => Gh (K v)) I L) : Cal Tryz.prog ω 122 #[a0] K I L :=
  Cal.gh (cal_of_vc mixed Tryz.func122 (by rw [sh122_eq]; exact h))
def sh123 (ω : Om) (a0 : Value) (K : Value → M) : M :=
  Pv (binIV .geq a0 (Value.int .i64 1)) fun v1 =>
  Gd v1 true
    (Pv (binIV .leq a0 (Value.int .i64 9007199254740991)) fun v2 =>
    K v2)
    (K (Value.bool false))
theorem sh123_eq (ω : Om) (a0 : Value) (K : Value → M) : vcF Tryz.prog ω Tryz.f123 [a0] K = sh123 ω a0 K := by kernel_rfl
theorem cal123 {ω : Om} {a0 : Value} {K : Value → M} {I : Imm} {L : LH} (h : sh123 ω a0 (fun v => Gh (K v)) I L) : Cal Tryz.prog ω 123 #[a0] K I L :=
  Cal.gh (cal_of_vc mixed Tryz.func123 (by rw [sh123_eq]; exact h))
def sh124_2 (ω : Om) (p2 : Value) (p3 : Value) (p4 : Value) (p5 : Value) (p6 : Value) (p30 : Value) (K : Value → M) : M :=
  Br p30
    (K (Value.tuple #[(Value.int .u64 0), (Value.int .i64 0), (Value.int .i64 11)]))
    (Pv (binIV .add p6 (Value.int .i64 1)) fun v15 =>
    K (Value.tuple #[p5, v15, (Value.int .i64 0)]))
def sh124_3 (ω : Om) (p2 : Value) (p3 : Value) (p4 : Value) (p5 : Value) (p6 : Value) (p7 : Value) (p30 : Value) (K : Value → M) : M :=
  Pv (binIV .eql p6 (Value.int .i64 9)) fun v16 =>
  Gd v16 true
    (Pv (binIV .gtr p7 (Value.int .u8 1)) fun v17 =>
    sh124_2 ω p2 p3 p4 p5 p6 v17 K)
    (sh124_2 ω p2 p3 p4 p5 p6 (Value.bool false) K)
def sh124_1 (ω : Om) (p0 : Value) (x2 : Value) (x3 : Value) (x4 : Value) (x5 : Value) (x8 : Value) (Kn0 : (Value × Value × Value × Value × Value × Unit) → M) (K : Value → M) : M :=
  Pv (binIV .lss x8 (Value.int .i64 10)) fun v1 =>
  Br v1
    (Pv (lenV p0) fun v2 =>
    Pv (binIV .eql x8 v2) fun v3 =>
    Br v3
      (K (Value.tuple #[(Value.int .u64 0), (Value.int .i64 0), (Value.int .i64 10)]))
      (Pv (ixV 1 p0 x8) fun v4 =>
      Rv none (ld1R v4) fun v5 =>
      Pv (binIV .and v5 (Value.int .u8 127)) fun v6 =>
      Pv (cvIV .u64 v6) fun v7 =>
      Pv (binIV .mul (Value.int .i64 7) x8) fun v8 =>
      Pv (binIV .shl v7 v8) fun v9 =>
      Pv (binIV .or x5 v9) fun v10 =>
      Pv (binIV .gtr v5 (Value.int .u8 127)) fun v11 =>
      Br v11
        (Pv (binIV .add x8 (Value.int .i64 1)) fun v12 =>
        Kn0 (x2, x3, x4, v10, v12, ()))
        (Pv (binIV .gtr x8 (Value.int .i64 0)) fun v13 =>
        Gd v13 true
          (Pv (binIV .eql v5 (Value.int .u8 0)) fun v14 =>
          Br v14
            (sh124_2 ω x2 x3 x4 v10 x8 v14 K)
            (sh124_3 ω x2 x3 x4 v10 x8 v5 v14 K))
          (sh124_3 ω x2 x3 x4 v10 x8 v5 (Value.bool false) K))))
    (K (Value.tuple #[(Value.int .u64 0), (Value.int .i64 0), (Value.int .i64 11)]))
def sh124 (ω : Om) (a0 : Value) (K : Value → M) : M :=
  LoopM (((Value.int .u64 0), (Value.int .i64 0), (Value.int .i64 0), (Value.int .u64 0), (Value.int .i64 0), ()) : Value × Value × Value × Value × Value × Unit) fun s Kn0 =>
  sh124_1 ω a0 s.1 s.2.1 s.2.2.1 s.2.2.2.1 s.2.2.2.2.1 Kn0 K
theorem sh124_eq (ω : Om) (a0 : Value) (K : Value → M) : vcF Tryz.prog ω Tryz.f124 [a0] K = sh124 ω a0 K := by kernel_rfl
theorem cal124 {ω : Om} {a0 : Value} {K : Value → M} {I : Imm} {L : LH} (h : sh124 ω a0 (fun v => Gh (K v)) I L) : Cal Tryz.prog ω 124 #[a0] K I L :=
  Cal.gh (cal_of_vc mixed Tryz.func124 (by rw [sh124_eq]; exact h))
def sh126 (ω : Om) (a0 : Value) (K : Value → M) : M :=
  Cal Tryz.prog ω 179 #[a0] <| gh fun v1 =>
  Cal Tryz.prog ω 180 #[v1] <| gh fun v2 =>
  K v1
theorem sh126_eq (ω : Om) (a0 : Value) (K : Value → M) : vcF Tryz.prog ω Tryz.f126 [a0] K = sh126 ω a0 K := by kernel_rfl
theorem cal126 {ω : Om} {a0 : Value} {K : Value → M} {I : Imm} {L : LH} (h : sh126 ω a0 (fun v => Gh (K v)) I L) : Cal Tryz.prog ω 126 #[a0] K I L :=
  Cal.gh (cal_of_vc mixed Tryz.func126 (by rw [sh126_eq]; exact h))
def sh127 (ω : Om) (a0 : Value) (K : Value → M) : M :=
  New (.cells (Value.cells a0) 157 (0, 0)) <| gh fun m_1 =>
  K (Value.func (Fn.func 181) #[] #[m_1])
theorem sh127_eq (ω : Om) (a0 : Value) (K : Value → M) : vcF Tryz.prog ω Tryz.f127 [a0] K = sh127 ω a0 K := by kernel_rfl
theorem cal127 {ω : Om} {a0 : Value} {K : Value → M} {I : Imm} {L : LH} (h : sh127 ω a0 (fun v => Gh (K v)) I L) : Cal Tryz.prog ω 127 #[a0] K I L :=
  Cal.gh (cal_of_vc mixed Tryz.func127 (by rw [sh127_eq]; exact h))
def sh130 (ω : Om) (a0 : Value) (K : Value → M) : M :=
  New (.cells (Value.cells a0) 161 (0, 0)) <| gh fun m_1 =>
  K (Value.func (Fn.func 185) #[] #[m_1])
theorem sh130_eq (ω : Om) (a0 : Value) (K : Value → M) : vcF Tryz.prog ω Tryz.f130 [a0] K = sh130 ω a0 K := by kernel_rfl
theorem cal130 {ω : Om} {a0 : Value} {K : Value → M} {I : Imm} {L : LH} (h : sh130 ω a0 (fun v => Gh (K v)) I L) : Cal Tryz.prog ω 130 #[a0] K I L :=
  Cal.gh (cal_of_vc mixed Tryz.func130 (by rw [sh130_eq]; exact h))
def sh131 (ω : Om) (a0 : Value) (K : Value → M) : M :=
  Pv (nilV a0) fun v1 =>
  Pv (fldV 2 v1) fun v2 =>
  Rv none (ldNR 2 v2) fun v3 =>
  Cal Tryz.prog ω 186 #[v3] <| gh fun v4 =>
  Pv (exV v4 0) fun v5 =>
  Pv (exV v4 1) fun v6 =>
  BldS 5 1 #[(Value.int .u8 0)] 1 [(0, (Value.int .u8 102))] <| gh fun v7 =>
  Cal Tryz.prog ω 187 #[a0, v7, v5, (Value.bool false)] <| gh fun v8 =>
  K (Value.tuple #[])
theorem sh131_eq (ω : Om) (a0 : Value) (K : Value → M) : vcF Tryz.prog ω Tryz.f131 [a0] K = sh131 ω a0 K := by kernel_rfl
theorem cal131 {ω : Om} {a0 : Value} {K : Value → M} {I : Imm} {L : LH} (h : sh131 ω a0 (fun v => Gh (K v)) I L) : Cal Tryz.prog ω 131 #[a0] K I L :=
  Cal.gh (cal_of_vc mixed Tryz.func131 (by rw [sh131_eq]; exact h))
def sh143 (ω : Om) (a0 : Value) (K : Value → M) : M :=
  Pv (lenV a0) fun v1 =>
  Pv (binIV .geq v1 (Value.int .i64 1)) fun v2 =>
  Gd v2 true
    (Pv (lenV a0) fun v3 =>
    Pv (binIV .leq v3 (Value.int .i64 110)) fun v4 =>
    K v4)
    (K (Value.bool false))
theorem sh143_eq (ω : Om) (a0 : Value) (K : Value → M) : vcF Tryz.prog ω Tryz.f143 [a0] K = sh143 ω a0 K := by kernel_rfl
theorem cal143 {ω : Om} {a0 : Value} {K : Value → M} {I : Imm} {L : LH} (h : sh143 ω a0 (fun v => Gh (K v)) I L) : Cal Tryz.prog ω 143 #[a0] K I L :=
  Cal.gh (cal_of_vc mixed Tryz.func143 (by rw [sh143_eq]; exact h))
def sh144_4 (ω : Om) (p0 : Value) (p1 : Value) (p4 : Value) (p5 : Value) (p6 : Value) (p7 : Value) (K : Value → M) : M :=
  Pv (binIV .lss p7 p6) fun v11 =>
  Gd v11 true
    (Pv (ixV 1 p0 p7) fun v12 =>
    Rv none (ld1R v12) fun v13 =>
    Pv (binSV .eql v13 p1) fun v14 =>
    Gd v14 false
      (Pv (ixV 1 p0 p7) fun v15 =>
      Rv none (ld1R v15) fun v16 =>
      Cal Tryz.prog ω 211 #[v16] <| gh fun v17 =>
      Gd v17 true
        (Cal Tryz.prog ω 211 #[p1] <| gh fun v18 =>
        K (Value.tuple #[p7, v18]))
        (K (Value.tuple #[p7, (Value.bool false)])))
      (K (Value.tuple #[p7, (Value.bool true)])))
    (K (Value.tuple #[p7, (Value.bool false)]))
def sh144_1 (ω : Om) (p0 : Value) (p1 : Value) (p4 : Value) (p5 : Value) (p6 : Value) (x7 : Value) (x8 : Value) (Kn0 : (Value × Value × Unit) → M) (K : Value → M) : M :=
  Pv (binIV .lss x7 x8) fun v2 =>
  Br v2
    (Pv (binIV .add x7 x8) fun v3 =>
    Pv (cvIV .u64 v3) fun v4 =>
    Pv (binIV .shr v4 (Value.int .u64 1)) fun v5 =>
    Pv (cvIV .i64 v5) fun v6 =>
    Pv (ixV 1 p0 v6) fun v7 =>
    Rv none (ld1R v7) fun v8 =>
    Cal Tryz.prog ω 210 #[v8, p1] <| gh fun v9 =>
    Br v9
      (Pv (binIV .add v6 (Value.int .i64 1)) fun v10 =>
      Kn0 (v10, x8, ()))
      (Kn0 (x7, v6, ())))
    (sh144_4 ω p0 p1 p4 p5 p6 x7 K)
def sh144 (ω : Om) (a0 : Value) (a1 : Value) (K : Value → M) : M :=
  Pv (lenV a0) fun v1 =>
  LoopM (((Value.int .i64 0), v1, ()) : Value × Value × Unit) fun s Kn0 =>
  sh144_1 ω a0 a1 (Value.int .i64 0) (Value.bool false) v1 s.1 s.2.1 Kn0 K
theorem sh144_eq (ω : Om) (a0 a1 : Value) (K : Value → M) : vcF Tryz.prog ω Tryz.f144 [a0, a1] K = sh144 ω a0 a1 K := by kernel_rfl
theorem cal144 {ω : Om} {a0 a1 : Value} {K : Value → M} {I : Imm} {L : LH} (h : sh144 ω a0 a1 (fun v => Gh (K v)) I L) : Cal Tryz.prog ω 144 #[a0, a1] K I L :=
  Cal.gh (cal_of_vc mixed Tryz.func144 (by rw [sh144_eq]; exact h))
def sh145 (ω : Om) (a0 : Value) (K : Value → M) : M :=
  Pv (binNV .eql a0 (Value.slice none 0 0)) fun v1 =>
  Br v1
    (K (Value.slice none 0 0))
    (BldS 9 1 #[(Value.string (ByteArray.mk #[]))] 0 [] <| gh fun v2 =>
    App 9 1 16 #[(Value.string (ByteArray.mk #[]))] v2 a0 <| gh fun v3 =>
    K v3)
theorem sh145_eq (ω : Om) (a0 : Value) (K : Value → M) : vcF Tryz.prog ω Tryz.f145 [a0] K = sh145 ω a0 K := by kernel_rfl
theorem cal145 {ω : Om} {a0 : Value} {K : Value → M} {I : Imm} {L : LH} (h : sh145 ω a0 (fun v => Gh (K v)) I L) : Cal Tryz.prog ω 145 #[a0] K I L :=
  Cal.gh (cal_of_vc mixed Tryz.func145 (by rw [sh145_eq]; exact h))
def sh146 (ω : Om) (a0 : Value) (K : Value → M) : M :=
  Pv (binIV .geq a0 (Value.int .i64 0)) fun v1 =>
  Gd v1 true
    (Pv (binIV .leq a0 (Value.int .i64 9007199254740991)) fun v2 =>
    K v2)
    (K (Value.bool false))
theorem sh146_eq (ω : Om) (a0 : Value) (K : Value → M) : vcF Tryz.prog ω Tryz.f146 [a0] K = sh146 ω a0 K := by kernel_rfl
theorem cal146 {ω : Om} {a0 : Value} {K : Value → M} {I : Imm} {L : LH} (h : sh146 ω a0 (fun v => Gh (K v)) I L) : Cal Tryz.prog ω 146 #[a0] K I L :=
  Cal.gh (cal_of_vc mixed Tryz.func146 (by rw [sh146_eq]; exact h))
def sh147 (ω : Om) (a0 : Value) (a1 : Value) (a2 : Value) (K : Value → M) : M :=
  New (.cells (Value.cells a1) 56 (0, 0)) <| gh fun c_1 =>
  New (.cells #[(Value.int .i64 0), (Value.bool false), (Value.slice none 0 0), (Value.int .i64 0), (Value.int .i64 0), (Value.int .i64 0), (Value.slice none 0 0), (Value.int .i64 0), (Value.int .i64 0), (Value.int .i64 0), (Value.int .i64 0)] 52 (0, 0)) <| gh fun v2 =>
  Rv none (ld1R a2) fun v3 =>
  Rv none (ldNR 15 c_1) fun v4 =>
  CalV Tryz.prog ω v3 #[a0, v4] <| gh fun v5 =>
  Sto 11 v2 v5 <| gh fun _ =>
  Rv none (ldNR 11 v2) fun v6 =>
  K (Value.tuple #[v6, (Value.pointer none)])
theorem sh147_eq (ω : Om) (a0 a1 a2 : Value) (K : Value → M) : vcF Tryz.prog ω Tryz.f147 [a0, a1, a2] K = sh147 ω a0 a1 a2 K := by kernel_rfl
theorem cal147 {ω : Om} {a0 a1 a2 : Value} {K : Value → M} {I : Imm} {L : LH} (h : sh147 ω a0 a1 a2 (fun v => Gh (K v)) I L) : Cal Tryz.prog ω 147 #[a0, a1, a2] K I L :=
  Cal.gh (cal_of_vc mixed Tryz.func147 (by rw [sh147_eq]; exact h))
def sh148 (ω : Om) (a0 : Value) (a1 : Value) (K : Value → M) : M :=
  New (.cells (Value.cells a0) 31 (0, 0)) <| gh fun p_1 =>
  Pv (fldV 0 p_1) fun v2 =>
  Rv none (ld1R v2) fun v3 =>
  Cal Tryz.prog ω 85 #[a1, v3] <| gh fun v4 =>
  Pv (binIV .geq v4 (Value.int .i64 0)) fun v5 =>
  Gd v5 true
    (Pv (fldV 1 p_1) fun v6 =>
    Rv none (ld1R v6) fun v7 =>
    Pv (lenV v7) fun v8 =>
    Pv (binIV .eql v8 (Value.int .i64 0)) fun v9 =>
    Gd v9 false
      (Pv (fldV 1 p_1) fun v10 =>
      Rv none (ld1R v10) fun v11 =>
      Cal Tryz.prog ω 85 #[a1, v11] <| gh fun v12 =>
      Pv (binIV .lss v12 (Value.int .i64 0)) fun v13 =>
      K v13)
      (K (Value.bool true)))
    (K (Value.bool false))
theorem sh148_eq (ω : Om) (a0 a1 : Value) (K : Value → M) : vcF Tryz.prog ω Tryz.f148 [a0, a1] K = sh148 ω a0 a1 K := by kernel_rfl
theorem cal148 {ω : Om} {a0 a1 : Value} {K : Value → M} {I : Imm} {L : LH} (h : sh148 ω a0 a1 (fun v => Gh (K v)) I L) : Cal Tryz.prog ω 148 #[a0, a1] K I L :=
  Cal.gh (cal_of_vc mixed Tryz.func148 (by rw [sh148_eq]; exact h))
def sh149_1 (ω : Om) (p0 : Value) (p3 : Value) (p6 : Value) (p8 : Value) (p9 : Value) (p10 : Value) (p18 : Value) (K : Value → M) : M :=
  Br p18
    (Pv (bldV #[(Value.bool false), (Value.slice none 0 0), (Value.int .i64 0), (Value.int .i64 0), (Value.int .i64 0)] #[(0, 1), (1, 1), (2, 2), (4, 1)] []) fun v10 =>
    Sto 5 p8 v10 <| gh fun _ =>
    Rv none (ldNR 5 p8) fun v11 =>
    K (Value.tuple #[v11, (Value.int .i64 1)]))
    (Draw fun S =>
      Pv (nilV p0) fun v12 =>
      Pv (fldV 2 v12) fun v13 =>
      Rv (some S) (ldNR 2 v13) fun v14 =>
      Rv (some S) (ldNR 2 p6) fun v15 =>
      Cal Tryz.prog ω 213 #[v14, v15] <| gh fun v16 =>
      Br v16
        (Pv (bldV #[(Value.bool false), (Value.slice none 0 0), (Value.int .i64 0), (Value.int .i64 0), (Value.int .i64 0)] #[(0, 1), (1, 1), (2, 2), (4, 1)] []) fun v17 =>
        Sto 5 p8 v17 <| gh fun _ =>
        Rv none (ldNR 5 p8) fun v18 =>
        K (Value.tuple #[v18, (Value.int .i64 131)]))
        (Pv (binPV .eql p10 (Value.pointer none)) fun v19 =>
        Br v19
          (Pv (bldV #[(Value.bool false), (Value.slice none 0 0), (Value.int .i64 0), (Value.int .i64 0), (Value.int .i64 0)] #[(0, 1), (1, 1), (2, 2), (4, 1)] []) fun v20 =>
          Sto 5 p8 v20 <| gh fun _ =>
          Rv none (ldNR 5 p8) fun v21 =>
          K (Value.tuple #[v21, (Value.int .i64 0)]))
          (Rv none (ldNR 2 p6) fun v22 =>
          Cal Tryz.prog ω 214 #[p10, v22, p3] <| gh fun v23 =>
          Pv (exV v23 0) fun v24 =>
          Pv (exV v23 1) fun v25 =>
          Sto 5 p8 v24 <| gh fun _ =>
          Rv none (ldNR 5 p8) fun v26 =>
          K (Value.tuple #[v26, v25]))))
def sh149 (ω : Om) (a0 : Value) (a1 : Value) (a2 : Value) (a3 : Value) (K : Value → M) : M :=
  New (.cells (Value.cells a2) 41 (0, 0)) <| gh fun at_1 =>
  New (.cells #[(Value.bool false), (Value.slice none 0 0), (Value.int .i64 0), (Value.int .i64 0), (Value.int .i64 0)] 49 (0, 0)) <| gh fun v2 =>
  Draw fun S =>
    Pv (nilV a0) fun v3 =>
    Pv (fldV 0 v3) fun v4 =>
    Rv (some S) (ld1R v4) fun v5 =>
    Rv (some S) (bsR a1) fun v6 =>
    Rv (some S) (lkR .string (Value.pointer none) false v5 v6) fun v7 =>
    Cal Tryz.prog ω 143 #[a1] <| gh fun v8 =>
    Pv (unV .not v8) fun v9 =>
    Br v9
      (sh149_1 ω a0 a3 at_1 v2 (Value.int .i64 0) v7 v9 K)
      (Rv none (ldNR 2 at_1) fun v27 =>
      Cal Tryz.prog ω 212 #[v27, a3] <| gh fun v28 =>
      Pv (unV .not v28) fun v29 =>
      sh149_1 ω a0 a3 at_1 v2 (Value.int .i64 0) v7 v29 K)
theorem sh149_eq (ω : Om) (a0 a1 a2 a3 : Value) (K : Value → M) : vcF Tryz.prog ω Tryz.f149 [a0, a1, a2, a3] K = sh149 ω a0 a1 a2 a3 K := by kernel_rfl
theorem cal149 {ω : Om} {a0 a1 a2 a3 : Value} {K : Value → M} {I : Imm} {L : LH} (h : sh149 ω a0 a1 a2 a3 (fun v => Gh (K v)) I L) : Cal Tryz.prog ω 149 #[a0, a1, a2, a3] K I L :=
  Cal.gh (cal_of_vc mixed Tryz.func149 (by rw [sh149_eq]; exact h))
def sh150_5 (ω : Om) (p0 : Value) (p1 : Value) (p3 : Value) (p6 : Value) (K : Value → M) : M :=
  Draw fun S =>
    Pv (nilV p0) fun v44 =>
    Pv (fldV 3 v44) fun v45 =>
    Rv (some S) (ld1R v45) fun v46 =>
    Rv (some S) (bsR p1) fun v47 =>
    Pv (nilV p0) fun v48 =>
    Pv (fldV 3 v48) fun v49 =>
    Rv (some S) (ld1R v49) fun v50 =>
    Rv (some S) (bsR p1) fun v51 =>
    Rv (some S) (lkR .string (Value.agg #[(Value.int .i64 0), (Value.int .i64 0), (Value.int .i64 0)]) false v50 v51) fun v52 =>
    Rv (some S) (ldNR 2 p6) fun v53 =>
    Cal Tryz.prog ω 153 #[v52, v53, p3] <| gh <| Keep S fun v54 =>
    PutM .string v46 v47 v54 <| gh fun _ =>
    K (Value.tuple #[])
def sh150_4 (ω : Om) (p0 : Value) (p1 : Value) (p3 : Value) (p6 : Value) (K : Value → M) : M :=
  NewM <| gh fun v41 =>
  Pv (nilV p0) fun v42 =>
  Pv (fldV 3 v42) fun v43 =>
  Sto 1 v43 v41 <| gh fun _ =>
  sh150_5 ω p0 p1 p3 p6 K
def sh150_2 (ω : Om) (p0 : Value) (p1 : Value) (p3 : Value) (p6 : Value) (p38 : Value) (p39 : Value) (x40 : Value) (Kn0 : (Value × Unit) → M) (K : Value → M) : M :=
  Pv (binIV .lss x40 p39) fun v22 =>
  Br v22
    (Pv (ixV 1 p38 x40) fun v23 =>
    Rv none (ld1R v23) fun v24 =>
    Pv (nilV p0) fun v25 =>
    Pv (fldV 3 v25) fun v26 =>
    Rv none (ld1R v26) fun v27 =>
    Rv none (lkR .string (Value.agg #[(Value.int .i64 0), (Value.int .i64 0), (Value.int .i64 0)]) false v27 v24) fun v28 =>
    New (.cells #[(Value.int .i64 0), (Value.int .i64 0), (Value.int .i64 0)] 159 (0, 0)) <| gh fun k_29 =>
    Sto 3 k_29 v28 <| gh fun _ =>
    Draw fun S =>
      Pv (nilV p0) fun v30 =>
      Pv (fldV 4 v30) fun v31 =>
      Rv (some S) (ldNR 3 v31) fun v32 =>
      Pv (fldV 0 k_29) fun v33 =>
      Rv (some S) (ldNR 2 v33) fun v34 =>
      Pv (fldV 2 k_29) fun v35 =>
      Rv (some S) (ld1R v35) fun v36 =>
      Cal Tryz.prog ω 153 #[v32, v34, v36] <| gh fun v37 =>
      Pv (nilV p0) fun v38 =>
      Pv (fldV 4 v38) fun v39 =>
      Sto 3 v39 v37 <| gh fun _ =>
      Pv (binIV .add x40 (Value.int .i64 1)) fun v40 =>
      Kn0 (v40, ()))
    (sh150_4 ω p0 p1 p3 p6 K)
def sh150_1 (ω : Om) (p0 : Value) (p1 : Value) (p3 : Value) (p6 : Value) (K : Value → M) : M :=
  Pv (nilV p0) fun v16 =>
  Pv (fldV 3 v16) fun v17 =>
  Rv none (ld1R v17) fun v18 =>
  Cal Tryz.prog ω 127 #[v18] <| gh fun v19 =>
  Cal Tryz.prog ω 126 #[v19] <| gh fun v20 =>
  Pv (lenV v20) fun v21 =>
  LoopM (((Value.int .i64 0), ()) : Value × Unit) fun s Kn0 =>
  sh150_2 ω p0 p1 p3 p6 v20 v21 s.1 Kn0 K
def sh150_6 (ω : Om) (p0 : Value) (p1 : Value) (p3 : Value) (p6 : Value) (K : Value → M) : M :=
  Draw fun S =>
    Pv (nilV p0) fun v55 =>
    Pv (fldV 3 v55) fun v56 =>
    Rv (some S) (ld1R v56) fun v57 =>
    Rv (some S) (bsR p1) fun v58 =>
    Pv (nilV p0) fun v59 =>
    Pv (fldV 3 v59) fun v60 =>
    Rv (some S) (ld1R v60) fun v61 =>
    Rv (some S) (bsR p1) fun v62 =>
    Rv (some S) (lkR .string (Value.agg #[(Value.int .i64 0), (Value.int .i64 0), (Value.int .i64 0)]) false v61 v62) fun v63 =>
    Rv (some S) (ldNR 2 p6) fun v64 =>
    Cal Tryz.prog ω 153 #[v63, v64, p3] <| gh <| Keep S fun v65 =>
    PutM .string v57 v58 v65 <| gh fun _ =>
    K (Value.tuple #[])
def sh150 (ω : Om) (a0 : Value) (a1 : Value) (a2 : Value) (a3 : Value) (K : Value → M) : M :=
  New (.cells (Value.cells a2) 41 (0, 0)) <| gh fun at_1 =>
  Draw fun S =>
    Pv (nilV a0) fun v2 =>
    Pv (fldV 3 v2) fun v3 =>
    Rv (some S) (ld1R v3) fun v4 =>
    Rv (some S) (bsR a1) fun v5 =>
    Rv (some S) (lkR .string (Value.agg #[(Value.int .i64 0), (Value.int .i64 0), (Value.int .i64 0)]) true v4 v5) fun v6 =>
    Pv (exV v6 0) fun v7 =>
    Pv (exV v6 1) fun v8 =>
    New (.cells #[(Value.int .i64 0), (Value.int .i64 0), (Value.int .i64 0)] 159 (0, 0)) <| gh <| Keep S fun v9 =>
    Sto 3 v9 v7 <| gh fun _ =>
    Pv (unV .not v8) fun v10 =>
    Gd v10 true
      (Pv (nilV a0) fun v11 =>
      Pv (fldV 3 v11) fun v12 =>
      Rv none (ld1R v12) fun v13 =>
      Rv none (lenMR v13) fun v14 =>
      Pv (binIV .eql v14 (Value.int .i64 32)) fun v15 =>
      Br v15
        (sh150_1 ω a0 a1 a3 at_1 K)
        (sh150_6 ω a0 a1 a3 at_1 K))
      (sh150_6 ω a0 a1 a3 at_1 K)
theorem sh150_eq (ω : Om) (a0 a1 a2 a3 : Value) (K : Value → M) : vcF Tryz.prog ω Tryz.f150 [a0, a1, a2, a3] K = sh150 ω a0 a1 a2 a3 K := by kernel_rfl
theorem cal150 {ω : Om} {a0 a1 a2 a3 : Value} {K : Value → M} {I : Imm} {L : LH} (h : sh150 ω a0 a1 a2 a3 (fun v => Gh (K v)) I L) : Cal Tryz.prog ω 150 #[a0, a1, a2, a3] K I L :=
  Cal.gh (cal_of_vc mixed Tryz.func150 (by rw [sh150_eq]; exact h))
def sh151 (ω : Om) (a0 : Value) (a1 : Value) (K : Value → M) : M :=
  New (.cells (Value.cells a1) 31 (0, 0)) <| gh fun p_1 =>
  Draw fun S =>
    Pv (nilV a0) fun v2 =>
    Pv (fldV 0 v2) fun v3 =>
    Pv (fldV 0 v3) fun v4 =>
    Rv (some S) (ld1R v4) fun v5 =>
    Pv (fldV 0 p_1) fun v6 =>
    Rv (some S) (ld1R v6) fun v7 =>
    Cal Tryz.prog ω 85 #[v5, v7] <| gh fun v8 =>
    Pv (binIV .gtr v8 (Value.int .i64 0)) fun v9 =>
    Br v9
      (K (Value.bool false))
      (Draw fun S =>
        Pv (nilV a0) fun v10 =>
        Pv (fldV 0 v10) fun v11 =>
        Pv (fldV 1 v11) fun v12 =>
        Rv (some S) (ld1R v12) fun v13 =>
        Pv (lenV v13) fun v14 =>
        Pv (binIV .eql v14 (Value.int .i64 0)) fun v15 =>
        Gd v15 false
          (Pv (fldV 1 p_1) fun v16 =>
          Rv (some S) (ld1R v16) fun v17 =>
          Pv (lenV v17) fun v18 =>
          Pv (binIV .gtr v18 (Value.int .i64 0)) fun v19 =>
          Gd v19 true
            (Pv (fldV 1 p_1) fun v20 =>
            Rv (some S) (ld1R v20) fun v21 =>
            Pv (nilV a0) fun v22 =>
            Pv (fldV 0 v22) fun v23 =>
            Pv (fldV 1 v23) fun v24 =>
            Rv (some S) (ld1R v24) fun v25 =>
            Cal Tryz.prog ω 85 #[v21, v25] <| gh fun v26 =>
            Pv (binIV .leq v26 (Value.int .i64 0)) fun v27 =>
            K v27)
            (K (Value.bool false)))
          (K (Value.bool true)))
theorem sh151_eq (ω : Om) (a0 a1 : Value) (K : Value → M) : vcF Tryz.prog ω Tryz.f151 [a0, a1] K = sh151 ω a0 a1 K := by kernel_rfl
theorem cal151 {ω : Om} {a0 a1 : Value} {K : Value → M} {I : Imm} {L : LH} (h : sh151 ω a0 a1 (fun v => Gh (K v)) I L) : Cal Tryz.prog ω 151 #[a0, a1] K I L :=
  Cal.gh (cal_of_vc mixed Tryz.func151 (by rw [sh151_eq]; exact h))
def sh152_2 (ω : Om) (p9 : Value) (p13 : Value) (Nk : M) (Xk : Nat → M) (K : Value → M) : M :=
  Rv none (ld1R p13) fun v44 =>
  Pv (lenV v44) fun v45 =>
  Rv none (ld1R p9) fun v46 =>
  Pv (binIV .eql v45 v46) fun v47 =>
  Br v47
    (Xk 1)
    (Nk)
def sh152_4 (ω : Om) (p10 : Value) (p11 : Value) (p12 : Value) (p13 : Value) (Q0 : Nat) (K : Value → M) : M :=
  Rv none (ld1R p13) fun v48 =>
  Cal Tryz.prog ω 215 #[v48] <| gh fun v49 =>
  Sto 1 p10 v49 <| gh fun _ =>
  Sto 1 p11 (Value.int .i64 0) <| gh fun _ =>
  Sto 1 p12 (Value.int .i64 0) <| gh fun _ =>
  Tak Q0 <|
  Rv none (ld1R p10) fun v50 =>
  Rv none (ld1R p11) fun v51 =>
  Rv none (ld1R p12) fun v52 =>
  K (Value.tuple #[v50, v51, v52])
def sh152_1 (ω : Om) (p0 : Value) (p6 : Value) (p7 : Value) (p8 : Value) (p9 : Value) (p10 : Value) (p11 : Value) (p12 : Value) (p18 : Value) (K : Value → M) : M :=
  Br p18
    (Sto 1 p10 (Value.slice none 0 0) <| gh fun _ =>
    Sto 1 p11 (Value.int .i64 0) <| gh fun _ =>
    Sto 1 p12 (Value.int .i64 1) <| gh fun _ =>
    Rv none (ld1R p10) fun v12 =>
    Rv none (ld1R p11) fun v13 =>
    Rv none (ld1R p12) fun v14 =>
    K (Value.tuple #[v12, v13, v14]))
    (Draw fun S =>
      Pv (nilV p0) fun v15 =>
      Pv (fldV 2 v15) fun v16 =>
      Rv (some S) (ldNR 2 v16) fun v17 =>
      Rv (some S) (ldNR 2 p7) fun v18 =>
      Cal Tryz.prog ω 213 #[v17, v18] <| gh fun v19 =>
      Br v19
        (Sto 1 p10 (Value.slice none 0 0) <| gh fun _ =>
        Sto 1 p11 (Value.int .i64 0) <| gh fun _ =>
        Sto 1 p12 (Value.int .i64 131) <| gh fun _ =>
        Rv none (ld1R p10) fun v20 =>
        Rv none (ld1R p11) fun v21 =>
        Rv none (ld1R p12) fun v22 =>
        K (Value.tuple #[v20, v21, v22]))
        (New (.cells #[(Value.slice none 0 0)] 50 (0, 0)) <| gh fun out_23 =>
        Rv none (ldNR 2 p6) fun v24 =>
        Cal Tryz.prog ω 177 #[p0, v24] <| gh fun v25 =>
        RngF2 Tryz.prog ω v25 (fun r1_0 r1_1 Bg Nk Xk Rk =>
            Bg (Rv none (ldNR 2 p7) fun v26 =>
            Rv none (ld1R p8) fun v27 =>
            Cal Tryz.prog ω 214 #[r1_1, v26, v27] <| gh fun v28 =>
            Pv (exV v28 0) fun v29 =>
            Pv (exV v28 1) fun v30 =>
            New (.cells #[(Value.bool false), (Value.slice none 0 0), (Value.int .i64 0), (Value.int .i64 0), (Value.int .i64 0)] 49 (0, 0)) <| gh fun g_31 =>
            Sto 5 g_31 v29 <| gh fun _ =>
            Pv (binIV .neq v30 (Value.int .i64 0)) fun v32 =>
            Br v32
              (DrawW [p10] fun S =>
                Pv (fldV 4 g_31) fun v33 =>
                Rv (some S) (ld1R v33) fun v34 =>
                Sto 1 p10 (Value.slice none 0 0) <| gh <| Keep S fun _ =>
                Sto 1 p11 v34 <| gh fun _ =>
                Sto 1 p12 v30 <| gh fun _ =>
                Rk)
              (Pv (fldV 0 g_31) fun v35 =>
              Rv none (ld1R v35) fun v36 =>
              Br v36
                (Rv none (ld1R out_23) fun v37 =>
                CvSB 5 r1_0 <| gh fun v38 =>
                Pv (fldV 1 g_31) fun v39 =>
                Rv none (ld1R v39) fun v40 =>
                Pv (bldV #[(Value.slice none 0 0), (Value.slice none 0 0)] #[(0, 1), (1, 1)] [(0, v38), (1, v40)]) fun v41 =>
                BldS 113 2 #[(Value.slice none 0 0), (Value.slice none 0 0)] 1 [(0, v41)] <| gh fun v42 =>
                App 113 2 48 #[(Value.slice none 0 0), (Value.slice none 0 0)] v37 v42 <| gh fun v43 =>
                Sto 1 out_23 v43 <| gh fun _ =>
                sh152_2 ω p9 out_23 Nk Xk K)
                (sh152_2 ω p9 out_23 Nk Xk K))))
          (fun D1 => sh152_4 ω p10 p11 p12 out_23 D1 K)
          (fun D1 => [(1, sh152_4 ω p10 p11 p12 out_23 D1 K)])
          (fun D1 => Tak D1 <|
            Rv none (ld1R p10) fun v53 =>
            Rv none (ld1R p11) fun v54 =>
            Rv none (ld1R p12) fun v55 =>
            K (Value.tuple #[v53, v54, v55]))))
def sh152 (ω : Om) (a0 : Value) (a1 : Value) (a2 : Value) (a3 : Value) (a4 : Value) (K : Value → M) : M :=
  New (.cells (Value.cells a1) 31 (0, 0)) <| gh fun p_1 =>
  New (.cells (Value.cells a2) 41 (0, 0)) <| gh fun at_2 =>
  New (.cells (Value.cells a3) 3 (0, 0)) <| gh fun txn_3 =>
  New (.cells (Value.cells a4) 3 (0, 0)) <| gh fun most_4 =>
  New (.cells #[(Value.slice none 0 0)] 50 (0, 0)) <| gh fun v5 =>
  New (.cells #[(Value.int .i64 0)] 3 (0, 0)) <| gh fun v6 =>
  New (.cells #[(Value.int .i64 0)] 26 (0, 0)) <| gh fun v7 =>
  Rv none (ldNR 2 at_2) fun v8 =>
  Rv none (ld1R txn_3) fun v9 =>
  Cal Tryz.prog ω 212 #[v8, v9] <| gh fun v10 =>
  Pv (unV .not v10) fun v11 =>
  Br v11
    (sh152_1 ω a0 p_1 at_2 txn_3 most_4 v5 v6 v7 v11 K)
    (Rv none (ld1R most_4) fun v56 =>
    Pv (binIV .lss v56 (Value.int .i64 1)) fun v57 =>
    sh152_1 ω a0 p_1 at_2 txn_3 most_4 v5 v6 v7 v57 K)
theorem sh152_eq (ω : Om) (a0 a1 a2 a3 a4 : Value) (K : Value → M) : vcF Tryz.prog ω Tryz.f152 [a0, a1, a2, a3, a4] K = sh152 ω a0 a1 a2 a3 a4 K := by kernel_rfl
theorem cal152 {ω : Om} {a0 a1 a2 a3 a4 : Value} {K : Value → M} {I : Imm} {L : LH} (h : sh152 ω a0 a1 a2 a3 a4 (fun v => Gh (K v)) I L) : Cal Tryz.prog ω 152 #[a0, a1, a2, a3, a4] K I L :=
  Cal.gh (cal_of_vc mixed Tryz.func152 (by rw [sh152_eq]; exact h))
def sh153_3 (ω : Om) (p3 : Value) (p6 : Value) (K : Value → M) : M :=
  Rv none (ldNR 3 p3) fun v17 =>
  Sto 3 p6 v17 <| gh fun _ =>
  Rv none (ldNR 3 p6) fun v18 =>
  K v18
def sh153_1 (ω : Om) (p3 : Value) (p6 : Value) (K : Value → M) : M :=
  Pv (fldV 2 p3) fun v16 =>
  Sto 1 v16 (Value.int .i64 0) <| gh fun _ =>
  sh153_3 ω p3 p6 K
def sh153 (ω : Om) (a0 : Value) (a1 : Value) (a2 : Value) (K : Value → M) : M :=
  New (.cells (Value.cells a0) 159 (0, 0)) <| gh fun k_1 =>
  New (.cells (Value.cells a1) 41 (0, 0)) <| gh fun at_2 =>
  New (.cells #[(Value.int .i64 0), (Value.int .i64 0), (Value.int .i64 0)] 159 (0, 0)) <| gh fun v3 =>
  Rv none (ldNR 2 at_2) fun v4 =>
  Pv (fldV 0 k_1) fun v5 =>
  Rv none (ldNR 2 v5) fun v6 =>
  Cal Tryz.prog ω 158 #[v4, v6] <| gh fun v7 =>
  Pv (binIV .gtr v7 (Value.int .i64 0)) fun v8 =>
  Br v8
    (Rv none (ldNR 2 at_2) fun v9 =>
    Pv (bldV #[(Value.int .i64 0), (Value.int .i64 0), (Value.int .i64 0)] #[(0, 2), (2, 1)] [(0, v9), (1, a2)]) fun v10 =>
    Sto 3 v3 v10 <| gh fun _ =>
    Rv none (ldNR 3 v3) fun v11 =>
    K v11)
    (Pv (binIV .eql v7 (Value.int .i64 0)) fun v12 =>
    Gd v12 true
      (Pv (fldV 2 k_1) fun v13 =>
      Rv none (ld1R v13) fun v14 =>
      Pv (binIV .neq a2 v14) fun v15 =>
      Br v15
        (sh153_1 ω k_1 v3 K)
        (sh153_3 ω k_1 v3 K))
      (sh153_3 ω k_1 v3 K))
theorem sh153_eq (ω : Om) (a0 a1 a2 : Value) (K : Value → M) : vcF Tryz.prog ω Tryz.f153 [a0, a1, a2] K = sh153 ω a0 a1 a2 K := by kernel_rfl
theorem cal153 {ω : Om} {a0 a1 a2 : Value} {K : Value → M} {I : Imm} {L : LH} (h : sh153 ω a0 a1 a2 (fun v => Gh (K v)) I L) : Cal Tryz.prog ω 153 #[a0, a1, a2] K I L :=
  Cal.gh (cal_of_vc mixed Tryz.func153 (by rw [sh153_eq]; exact h))
def sh154_1 (ω : Om) (p4 : Value) (p5 : Value) (p6 : Value) (K : Value → M) : M :=
  Pv (fldV 1 p6) fun v17 =>
  Rv none (ld1R v17) fun v18 =>
  Pv (fldV 2 p6) fun v19 =>
  Rv none (ldNR 2 v19) fun v20 =>
  Pv (bldV #[(Value.int .i64 0), (Value.bool false), (Value.slice none 0 0), (Value.int .i64 0), (Value.int .i64 0), (Value.int .i64 0), (Value.slice none 0 0), (Value.int .i64 0), (Value.int .i64 0), (Value.int .i64 0), (Value.int .i64 0)] #[(0, 1), (1, 5), (6, 1), (7, 2), (9, 1), (10, 1)] [(0, v18), (3, v20)]) fun v21 =>
  Sto 11 p4 v21 <| gh fun _ =>
  Rv none (ldNR 11 p4) fun v22 =>
  K (Value.tuple #[v22, (Value.bool true)])
def sh154_3 (ω : Om) (p4 : Value) (p5 : Value) (p32 : Value) (K : Value → M) : M :=
  Br p32
    (Cal Tryz.prog ω 34 #[(Value.int .i64 144)] <| gh fun v28 =>
    Sto 11 p4 v28 <| gh fun _ =>
    Rv none (ldNR 11 p4) fun v29 =>
    K (Value.tuple #[v29, (Value.bool true)]))
    (Pv (bldV #[(Value.int .i64 0), (Value.bool false), (Value.slice none 0 0), (Value.int .i64 0), (Value.int .i64 0), (Value.int .i64 0), (Value.slice none 0 0), (Value.int .i64 0), (Value.int .i64 0), (Value.int .i64 0), (Value.int .i64 0)] #[(0, 1), (1, 5), (6, 1), (7, 2), (9, 1), (10, 1)] []) fun v30 =>
    Sto 11 p4 v30 <| gh fun _ =>
    Rv none (ldNR 11 p4) fun v31 =>
    K (Value.tuple #[v31, (Value.bool false)]))
def sh154_4 (ω : Om) (p0 : Value) (p3 : Value) (p4 : Value) (p5 : Value) (p7 : Value) (p32 : Value) (K : Value → M) : M :=
  Draw fun S =>
    Pv (unV .not p7) fun v32 =>
    Gd v32 true
      (Pv (fldV 1 p3) fun v33 =>
      Rv (some S) (ld1R v33) fun v34 =>
      Pv (nilV p0) fun v35 =>
      Pv (fldV 9 v35) fun v36 =>
      Rv (some S) (ld1R v36) fun v37 =>
      Pv (binIV .leq v34 v37) fun v38 =>
      sh154_3 ω p4 p5 v38 K)
      (sh154_3 ω p4 p5 (Value.bool false) K)
def sh154_2 (ω : Om) (p0 : Value) (p3 : Value) (p4 : Value) (p5 : Value) (p6 : Value) (p7 : Value) (K : Value → M) : M :=
  Gd p7 true
    (Pv (fldV 2 p3) fun v23 =>
    Rv none (ld1R v23) fun v24 =>
    Pv (fldV 0 p6) fun v25 =>
    Rv none (ld1R v25) fun v26 =>
    Pv (binIV .lss v24 v26) fun v27 =>
    Br v27
      (sh154_3 ω p4 p5 v27 K)
      (sh154_4 ω p0 p3 p4 p5 p7 v27 K))
    (sh154_4 ω p0 p3 p4 p5 p7 (Value.bool false) K)
def sh154 (ω : Om) (a0 : Value) (a1 : Value) (K : Value → M) : M :=
  New (.cells (Value.cells a1) 56 (0, 0)) <| gh fun c_1 =>
  New (.cells #[(Value.int .i64 0), (Value.bool false), (Value.slice none 0 0), (Value.int .i64 0), (Value.int .i64 0), (Value.int .i64 0), (Value.slice none 0 0), (Value.int .i64 0), (Value.int .i64 0), (Value.int .i64 0), (Value.int .i64 0)] 52 (0, 0)) <| gh fun v2 =>
  Draw fun S =>
    Pv (nilV a0) fun v3 =>
    Pv (fldV 8 v3) fun v4 =>
    Rv (some S) (ld1R v4) fun v5 =>
    Pv (fldV 1 c_1) fun v6 =>
    Rv (some S) (ld1R v6) fun v7 =>
    Rv (some S) (lkR (.int .i64) (Value.agg #[(Value.int .i64 0), (Value.int .i64 0), (Value.int .i64 0), (Value.int .i64 0)]) true v5 v7) fun v8 =>
    Pv (exV v8 0) fun v9 =>
    Pv (exV v8 1) fun v10 =>
    New (.cells #[(Value.int .i64 0), (Value.int .i64 0), (Value.int .i64 0), (Value.int .i64 0)] 209 (0, 0)) <| gh <| Keep S fun x_11 =>
    Sto 4 x_11 v9 <| gh fun _ =>
    Gd v10 true
      (Pv (fldV 0 x_11) fun v12 =>
      Rv none (ld1R v12) fun v13 =>
      Pv (fldV 2 c_1) fun v14 =>
      Rv none (ld1R v14) fun v15 =>
      Pv (binIV .eql v13 v15) fun v16 =>
      Br v16
        (sh154_1 ω v2 (Value.bool false) x_11 K)
        (sh154_2 ω a0 c_1 v2 (Value.bool false) x_11 v10 K))
      (sh154_2 ω a0 c_1 v2 (Value.bool false) x_11 v10 K)
theorem sh154_eq (ω : Om) (a0 a1 : Value) (K : Value → M) : vcF Tryz.prog ω Tryz.f154 [a0, a1] K = sh154 ω a0 a1 K := by kernel_rfl
theorem cal154 {ω : Om} {a0 a1 : Value} {K : Value → M} {I : Imm} {L : LH} (h : sh154 ω a0 a1 (fun v => Gh (K v)) I L) : Cal Tryz.prog ω 154 #[a0, a1] K I L :=
  Cal.gh (cal_of_vc mixed Tryz.func154 (by rw [sh154_eq]; exact h))
def sh155_1 (ω : Om) (p3 : Value) (p6 : Value) (p7 : Value) (K : Value → M) : M :=
  Pv (fldV 0 p3) fun v12 =>
  Rv none (ldNR 2 v12) fun v13 =>
  Sto 2 p6 v13 <| gh fun _ =>
  Rv none (ldNR 2 p6) fun v14 =>
  K (Value.tuple #[v14, (Value.int .i64 0)])
def sh155_3 (ω : Om) (p3 : Value) (p4 : Value) (p6 : Value) (p7 : Value) (p24 : Value) (K : Value → M) : M :=
  Br p24
    (Rv none (ldNR 2 p4) fun v18 =>
    Sto 2 p6 v18 <| gh fun _ =>
    Rv none (ldNR 2 p6) fun v19 =>
    K (Value.tuple #[v19, (Value.int .i64 0)]))
    (Pv (fldV 0 p3) fun v20 =>
    Rv none (ldNR 2 v20) fun v21 =>
    Cal Tryz.prog ω 216 #[v21] <| gh fun v22 =>
    Pv (exV v22 0) fun v23 =>
    Pv (exV v22 1) fun v24 =>
    Sto 2 p6 v23 <| gh fun _ =>
    Rv none (ldNR 2 p6) fun v25 =>
    K (Value.tuple #[v25, v24]))
def sh155_2 (ω : Om) (p2 : Value) (p3 : Value) (p4 : Value) (p6 : Value) (p7 : Value) (p8 : Value) (K : Value → M) : M :=
  Pv (fldV 2 p3) fun v15 =>
  Rv none (ld1R v15) fun v16 =>
  Pv (binIV .eql v16 p2) fun v17 =>
  Br v17
    (sh155_3 ω p3 p4 p6 p7 v17 K)
    (Pv (binIV .lss p8 (Value.int .i64 0)) fun v26 =>
    sh155_3 ω p3 p4 p6 p7 v26 K)
def sh155 (ω : Om) (a0 : Value) (a1 : Value) (a2 : Value) (K : Value → M) : M :=
  New (.cells (Value.cells a0) 159 (0, 0)) <| gh fun k_1 =>
  New (.cells (Value.cells a1) 41 (0, 0)) <| gh fun w_2 =>
  New (.cells #[(Value.int .i64 0), (Value.int .i64 0)] 41 (0, 0)) <| gh fun v3 =>
  Pv (fldV 0 k_1) fun v4 =>
  Rv none (ldNR 2 v4) fun v5 =>
  Rv none (ldNR 2 w_2) fun v6 =>
  Cal Tryz.prog ω 158 #[v5, v6] <| gh fun v7 =>
  Pv (fldV 2 k_1) fun v8 =>
  Rv none (ld1R v8) fun v9 =>
  Pv (binIV .eql v9 a2) fun v10 =>
  Gd v10 true
    (Pv (binIV .gtr v7 (Value.int .i64 0)) fun v11 =>
    Br v11
      (sh155_1 ω k_1 v3 (Value.int .i64 0) K)
      (sh155_2 ω a2 k_1 w_2 v3 (Value.int .i64 0) v7 K))
    (sh155_2 ω a2 k_1 w_2 v3 (Value.int .i64 0) v7 K)
theorem sh155_eq (ω : Om) (a0 a1 a2 : Value) (K : Value → M) : vcF Tryz.prog ω Tryz.f155 [a0, a1, a2] K = sh155 ω a0 a1 a2 K := by kernel_rfl
theorem cal155 {ω : Om} {a0 a1 a2 : Value} {K : Value → M} {I : Imm} {L : LH} (h : sh155 ω a0 a1 a2 (fun v => Gh (K v)) I L) : Cal Tryz.prog ω 155 #[a0, a1, a2] K I L :=
  Cal.gh (cal_of_vc mixed Tryz.func155 (by rw [sh155_eq]; exact h))
def sh156_1 (ω : Om) (p4 : Value) (p5 : Value) (p6 : Value) (K : Value → M) : M :=
  Pv (bldV #[(Value.int .i64 0), (Value.int .i64 0)] #[(0, 1), (1, 1)] []) fun v25 =>
  Sto 2 p4 v25 <| gh fun _ =>
  Rv none (ldNR 2 p4) fun v26 =>
  K (Value.tuple #[v26, (Value.int .i64 0), (Value.int .i64 1)])
def sh156_4 (ω : Om) (p4 : Value) (p5 : Value) (p6 : Value) (p8 : Value) (K : Value → M) : M :=
  DrawW [p4] fun S =>
    Pv (bldV #[(Value.int .i64 0), (Value.int .i64 0)] #[(0, 1), (1, 1)] []) fun v58 =>
    Pv (nilV p8) fun v59 =>
    Pv (fldV 1 v59) fun v60 =>
    Pv (fldV 4 v60) fun v61 =>
    Rv (some S) (ld1R v61) fun v62 =>
    Sto 2 p4 v58 <| gh <| Keep S fun _ =>
    Rv none (ldNR 2 p4) fun v63 =>
    K (Value.tuple #[v63, v62, (Value.int .i64 130)])
end Go.Proofs.YtmmfcgbfbcamcaaGreatDoor
