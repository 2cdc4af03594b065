/-
  Lemmas, part 3: laid together by a program.
-/
import Derived.Test.YtmnnnoinfhiilaaGreatDoorChecked
import Derived.Test.YtmnnnoinfhiilaaGreatDoorP2
set_option maxRecDepth 100000
set_option linter.unusedVariables false
namespace Go.Proofs.YtmnnnoinfhiilaaGreatDoor
open Go.SL
theorem mixed : Tryz.prog.follows .mixedOrders = true := by kernel_rfl
def sh4_14 (ω : Om) (p6 : Value) (p33 : Value) (Kn1 : (Value × Value × Unit) → M) (K : Value → M) : M :=
  Pv (binIV .add p33 (Value.int .i64 1)) fun v83 =>
  Kn1 (p6, v83, ())
def sh4_12 (ω : Om) (p6 : Value) (p16 : Value) (p24 : Value) (p33 : Value) (p35 : Value) (Kn1 : (Value × Value × Unit) → M) (K : Value → M) : M :=
  Rv none (ldNR 13 p35) fun v80 =>
  Cal Tryz.prog ω 7 #[p24, p16, v80] <| gh fun v81 =>
  Pv (unV .not v81) fun v82 =>
  Br v82
    (K (Value.bool false))
    (sh4_14 ω p6 p33 Kn1 K)
def sh4_15 (ω : Om) (p6 : Value) (p9 : Value) (p22 : Value) (p33 : Value) (p35 : Value) (Kn1 : (Value × Value × Unit) → M) (K : Value → M) : M :=
  Rv none (ldNR 13 p35) fun v84 =>
  Cal Tryz.prog ω 7 #[p22, p9, v84] <| gh fun v85 =>
  Pv (unV .not v85) fun v86 =>
  Br v86
    (K (Value.bool false))
    (sh4_14 ω p6 p33 Kn1 K)
def sh4_11 (ω : Om) (p1 : Value) (p2 : Value) (p9 : Value) (p16 : Value) (p22 : Value) (p24 : Value) (x6 : Value) (x33 : Value) (Kn1 : (Value × Value × Unit) → M) (K : Value → M) : M :=
  Pv (lenV p1) fun v67 =>
  Pv (binIV .lss x33 v67) fun v68 =>
  Gd v68 true
    (Pv (binIV .lss x33 (Value.int .i64 100)) fun v69 =>
    Br v69
      (Draw fun S =>
        Pv (ixV 13 p1 x33) fun v70 =>
        Pv (fldV 2 v70) fun v71 =>
        Pv (fldV 0 v71) fun v72 =>
        Rv (some S) (ld1R v72) fun v73 =>
        Rv (some S) (bsR v73) fun v74 =>
        Rv (some S) (bsR p2) fun v75 =>
        Pv (binSV .geq v74 v75) fun v76 =>
        Pv (ixV 13 p1 x33) fun v77 =>
        Rv none (ldNR 13 v77) fun v78 =>
        New (.cells #[(Value.int .i64 0), (Value.int .i64 0), (Value.slice none 0 0), (Value.int .i64 0), (Value.int .i64 0), (Value.int .i64 0), (Value.bool false), (Value.slice none 0 0), (Value.bool false), (Value.slice none 0 0), (Value.slice none 0 0), (Value.int .i64 0), (Value.int .i64 0)] 41 (0, 0)) <| gh fun x_79 =>
        Sto 13 x_79 v78 <| gh fun _ =>
        Br v76
          (sh4_12 ω x6 p16 p24 x33 x_79 Kn1 K)
          (sh4_15 ω x6 p9 p22 x33 x_79 Kn1 K))
      (K (Value.bool true)))
    (K (Value.bool true))
def sh4_5 (ω : Om) (p1 : Value) (p2 : Value) (p6 : Value) (p8 : Value) (p9 : Value) (K : Value → M) : M :=
  Cal Tryz.prog ω 8 #[p8] <| gh fun v15 =>
  Cal Tryz.prog ω 9 #[(Value.slice none 0 0), v15] <| gh fun v16 =>
  Pv (exV v16 0) fun v17 =>
  Pv (exV v16 1) fun v18 =>
  Cal Tryz.prog ω 12 #[p8, p2] <| gh fun v19 =>
  Pv (exV v19 0) fun v20 =>
  Pv (exV v19 1) fun v21 =>
  Cal Tryz.prog ω 13 #[p9, p2] <| gh fun v22 =>
  Pv (exV v22 0) fun v23 =>
  Pv (exV v22 1) fun v24 =>
  Pv (binIV .neq v21 v24) fun v25 =>
  Gd v25 false
    (Pv (binPV .eql v20 (Value.pointer none)) fun v26 =>
    Pv (binPV .eql v23 (Value.pointer none)) fun v27 =>
    Pv (binBV .neq v26 v27) fun v28 =>
    Br v28
      (K (Value.bool false))
      (Pv (binPV .eql v20 (Value.pointer none)) fun v29 =>
      Br v29
        (K (Value.bool true))
        (Cal Tryz.prog ω 8 #[p8] <| gh fun v30 =>
        Cal Tryz.prog ω 9 #[v17, v30] <| gh fun v31 =>
        Pv (exV v31 0) fun v32 =>
        Pv (exV v31 1) fun v33 =>
        Cal Tryz.prog ω 8 #[v20] <| gh fun v34 =>
        Cal Tryz.prog ω 9 #[(Value.slice none 0 0), v34] <| gh fun v35 =>
        Pv (exV v35 0) fun v36 =>
        Pv (exV v35 1) fun v37 =>
        Cal Tryz.prog ω 10 #[v32] <| gh fun v38 =>
        Pv (exV v38 0) fun v39 =>
        Pv (exV v38 1) fun v40 =>
        Cal Tryz.prog ω 10 #[v36] <| gh fun v41 =>
        Pv (exV v41 0) fun v42 =>
        Pv (exV v41 1) fun v43 =>
        Pv (unV .not v33) fun v44 =>
        Gd v44 false
          (Pv (unV .not v37) fun v45 =>
          Gd v45 false
            (Pv (binIV .neq v40 (Value.int .i64 0)) fun v46 =>
            Gd v46 false
              (Pv (binIV .neq v43 (Value.int .i64 0)) fun v47 =>
              Gd v47 false
                (Pv (binPV .eql v39 (Value.pointer none)) fun v48 =>
                Gd v48 false
                  (Pv (binPV .eql v42 (Value.pointer none)) fun v49 =>
                  Br v49
                    (K (Value.bool false))
                    (Cal Tryz.prog ω 14 #[v20] <| gh fun v50 =>
                    Cal Tryz.prog ω 10 #[v50] <| gh fun v51 =>
                    Pv (exV v51 0) fun v52 =>
                    Pv (exV v51 1) fun v53 =>
                    Pv (binIV .neq v53 (Value.int .i64 0)) fun v54 =>
                    Gd v54 false
                      (Pv (binPV .eql v52 (Value.pointer none)) fun v55 =>
                      Br v55
                        (K (Value.bool false))
                        (Cal Tryz.prog ω 8 #[v52] <| gh fun v56 =>
                        Cal Tryz.prog ω 11 #[p8, p9] <| gh fun v57 =>
                        Cal Tryz.prog ω 11 #[v20, v23] <| gh fun v58 =>
                        Cal Tryz.prog ω 11 #[v39, p9] <| gh fun v59 =>
                        Cal Tryz.prog ω 11 #[v52, v23] <| gh fun v60 =>
                        Pv (lenV v56) fun v61 =>
                        Pv (binIV .gtr v61 (Value.int .i64 0)) fun v62 =>
                        Gd v62 false
                          (Pv (unV .not v57) fun v63 =>
                          Gd v63 false
                            (Pv (unV .not v58) fun v64 =>
                            Gd v64 false
                              (Pv (unV .not v59) fun v65 =>
                              Gd v65 false
                                (Pv (unV .not v60) fun v66 =>
                                Br v66
                                  (K (Value.bool false))
                                  (LoopM ((p6, (Value.int .i64 0), ()) : Value × Value × Unit) fun s Kn1 =>
                                  sh4_11 ω p1 p2 p9 v23 v39 v42 s.1 s.2.1 Kn1 K))
                                (K (Value.bool false)))
                              (K (Value.bool false)))
                            (K (Value.bool false)))
                          (K (Value.bool false))))
                      (K (Value.bool false))))
                  (K (Value.bool false)))
                (K (Value.bool false)))
              (K (Value.bool false)))
            (K (Value.bool false)))
          (K (Value.bool false)))))
    (K (Value.bool false))
def sh4_2 (ω : Om) (p0 : Value) (p1 : Value) (p2 : Value) (p8 : Value) (p9 : Value) (x6 : Value) (x10 : Value) (Kn0 : (Value × Value × Unit) → M) (K : Value → M) : M :=
  Pv (lenV p0) fun v7 =>
  Pv (binIV .lss x10 v7) fun v8 =>
  Gd v8 true
    (Pv (binIV .lss x10 (Value.int .i64 100)) fun v9 =>
    Br v9
      (Pv (ixV 13 p0 x10) fun v10 =>
      Rv none (ldNR 13 v10) fun v11 =>
      Cal Tryz.prog ω 7 #[p8, p9, v11] <| gh fun v12 =>
      Pv (unV .not v12) fun v13 =>
      Br v13
        (K (Value.bool false))
        (Pv (binIV .add x10 (Value.int .i64 1)) fun v14 =>
        Kn0 (x6, v14, ())))
      (sh4_5 ω p1 p2 x6 p8 p9 K))
    (sh4_5 ω p1 p2 x6 p8 p9 K)
def sh4 (ω : Om) (a0 : Value) (a1 : Value) (a2 : Value) (K : Value → M) : M :=
  Cal Tryz.prog ω 5 #[] <| gh fun v1 =>
  Cal Tryz.prog ω 6 #[] <| gh fun v2 =>
  Pv (unV .not v1) fun v3 =>
  Gd v3 false
    (Pv (binPV .eql v2 (Value.pointer none)) fun v4 =>
    Br v4
      (K (Value.bool false))
      (Pv (bldV #[(Value.slice none 0 0), (Value.slice none 0 0), (Value.int .i64 0), (Value.int .i64 0)] #[(0, 1), (1, 1), (2, 2)] []) fun v5 =>
      New (.cells (Value.cells v5) 32 (0, 0)) <| gh fun v6 =>
      LoopM (((Value.bool false), (Value.int .i64 0), ()) : Value × Value × Unit) fun s Kn0 =>
      sh4_2 ω a0 a1 a2 v2 v6 s.1 s.2.1 Kn0 K))
    (K (Value.bool false))
theorem sh4_eq (ω : Om) (a0 a1 a2 : Value) (K : Value → M) : vcF Tryz.prog ω Tryz.f4 [a0, a1, a2] K = sh4 ω a0 a1 a2 K := by kernel_rfl
theorem cal4 {ω : Om} {a0 a1 a2 : Value} {K : Value → M} {I : Imm} {L : LH} (h : sh4 ω a0 a1 a2 (fun v => Gh (K v)) I L) : Cal Tryz.prog ω 4 #[a0, a1, a2] K I L :=
  Cal.gh (cal_of_vc mixed Tryz.func4 (by rw [sh4_eq]; exact h))
def sh5 (ω : Om) (K : Value → M) : M :=
  Cal Tryz.prog ω 6 #[] <| gh fun v1 =>
  Pv (binPV .eql v1 (Value.pointer none)) fun v2 =>
  Br v2
    (K (Value.bool false))
    (BldS 5 1 #[(Value.int .u8 0)] 1 [(0, (Value.int .u8 97))] <| gh fun v3 =>
    MrkS v3 <| gh fun v4 =>
    Pv (bldV #[(Value.int .i64 0), (Value.int .i64 0)] #[(0, 1), (1, 1)] [(0, (Value.int .i64 5))]) fun v5 =>
    BldS 5 1 #[(Value.int .u8 0)] 1 [(0, (Value.int .u8 120))] <| gh fun v6 =>
    MrkS v6 <| gh fun v7 =>
    Pv (bldV #[(Value.slice none 0 0), (Value.int .i64 0), (Value.int .i64 0), (Value.int .i64 0), (Value.bool false), (Value.slice none 0 0)] #[(0, 1), (1, 1), (2, 2), (4, 1), (5, 1)] [(0, v4), (1, (Value.int .i64 1)), (2, v5), (4, v7)]) fun v8 =>
    Cal Tryz.prog ω 15 #[v1, v8] <| gh fun v9 =>
    Pv (exV v9 0) fun v10 =>
    Pv (exV v9 1) fun v11 =>
    Pv (exV v9 2) fun v12 =>
    New (.cells #[(Value.int .i64 0), (Value.int .i64 0)] 30 (0, 0)) <| gh fun at_13 =>
    Sto 2 at_13 v10 <| gh fun _ =>
    BldS 5 1 #[(Value.int .u8 0)] 1 [(0, (Value.int .u8 97))] <| gh fun v14 =>
    MrkS v14 <| gh fun v15 =>
    Pv (bldV #[(Value.int .i64 0), (Value.int .i64 0)] #[(0, 1), (1, 1)] [(0, (Value.int .i64 1))]) fun v16 =>
    Cal Tryz.prog ω 16 #[v1, v15, v16, (Value.int .i64 1)] <| gh fun v17 =>
    Pv (exV v17 0) fun v18 =>
    Pv (exV v17 1) fun v19 =>
    New (.cells #[(Value.bool false), (Value.slice none 0 0), (Value.int .i64 0), (Value.int .i64 0), (Value.int .i64 0)] 59 (0, 0)) <| gh fun g_20 =>
    Sto 5 g_20 v18 <| gh fun _ =>
    Pv (binIV .eql v12 (Value.int .i64 0)) fun v21 =>
    Gd v21 true
      (Rv none (ldNR 2 at_13) fun v22 =>
      Pv (bldV #[(Value.int .i64 0), (Value.int .i64 0)] #[(0, 1), (1, 1)] [(0, (Value.int .i64 5))]) fun v23 =>
      Pv (binAV .eql [(TypeDesc.int .i64, 0), (TypeDesc.int .i64, 1)] v22 v23) fun v24 =>
      Gd v24 true
        (Pv (binIV .eql v19 (Value.int .i64 0)) fun v25 =>
        Gd v25 true
          (Pv (fldV 0 g_20) fun v26 =>
          Rv none (ld1R v26) fun v27 =>
          Gd v27 true
            (Pv (fldV 1 g_20) fun v28 =>
            Rv none (ld1R v28) fun v29 =>
            Rv none (bsR v29) fun v30 =>
            Pv (binSV .eql v30 (Value.string (ByteArray.mk #[120]))) fun v31 =>
            K v31)
            (K (Value.bool false)))
          (K (Value.bool false)))
        (K (Value.bool false)))
      (K (Value.bool false)))
theorem sh5_eq (ω : Om) (K : Value → M) : vcF Tryz.prog ω Tryz.f5 [] K = sh5 ω K := by kernel_rfl
theorem cal5 {ω : Om} {K : Value → M} {I : Imm} {L : LH} (h : sh5 ω (fun v => Gh (K v)) I L) : Cal Tryz.prog ω 5 #[] K I L :=
  Cal.gh (cal_of_vc mixed Tryz.func5 (by rw [sh5_eq]; exact h))
def sh6 (ω : Om) (K : Value → M) : M :=
  NewM <| gh fun v1 =>
  NewM <| gh fun v2 =>
  Pv (bldV #[(Value.map none), (Value.slice none 0 0), (Value.int .i64 0), (Value.int .i64 0), (Value.map none)] #[(0, 1), (1, 1), (2, 2), (4, 1)] [(0, v1), (3, v2)]) fun v3 =>
  New (.cells (Value.cells v3) 66 (0, 0)) <| gh fun v4 =>
  K v4
theorem sh6_eq (ω : Om) (K : Value → M) : vcF Tryz.prog ω Tryz.f6 [] K = sh6 ω K := by kernel_rfl
theorem cal6 {ω : Om} {K : Value → M} {I : Imm} {L : LH} (h : sh6 ω (fun v => Gh (K v)) I L) : Cal Tryz.prog ω 6 #[] K I L :=
  Cal.gh (cal_of_vc mixed Tryz.func6 (by rw [sh6_eq]; exact h))
def sh7 (ω : Om) (a0 : Value) (a1 : Value) (a2 : Value) (K : Value → M) : M :=
  New (.cells (Value.cells a2) 41 (0, 0)) <| gh fun x_1 =>
  Pv (fldV 0 x_1) fun v2 =>
  Rv none (ld1R v2) fun v3 =>
  Pv (binIV .eql v3 (Value.int .i64 0)) fun v4 =>
  Br v4
    (Pv (fldV 2 x_1) fun v5 =>
    Rv none (ldNR 6 v5) fun v6 =>
    Cal Tryz.prog ω 15 #[a0, v6] <| gh fun v7 =>
    Pv (exV v7 0) fun v8 =>
    Pv (exV v7 1) fun v9 =>
    Pv (exV v7 2) fun v10 =>
    New (.cells #[(Value.int .i64 0), (Value.int .i64 0)] 30 (0, 0)) <| gh fun at_11 =>
    Sto 2 at_11 v8 <| gh fun _ =>
    Pv (fldV 2 x_1) fun v12 =>
    Rv none (ldNR 6 v12) fun v13 =>
    Cal Tryz.prog ω 17 #[a1, v13] <| gh fun v14 =>
    Pv (exV v14 0) fun v15 =>
    Pv (exV v14 1) fun v16 =>
    Pv (exV v14 2) fun v17 =>
    New (.cells #[(Value.int .i64 0), (Value.int .i64 0)] 30 (0, 0)) <| gh fun want_18 =>
    Sto 2 want_18 v15 <| gh fun _ =>
    Rv none (ldNR 2 at_11) fun v19 =>
    Rv none (ldNR 2 want_18) fun v20 =>
    Pv (binAV .eql [(TypeDesc.int .i64, 0), (TypeDesc.int .i64, 1)] v19 v20) fun v21 =>
    Gd v21 true
      (Pv (binIV .eql v9 v16) fun v22 =>
      Gd v22 true
        (Pv (binIV .eql v10 v17) fun v23 =>
        K v23)
        (K (Value.bool false)))
      (K (Value.bool false)))
    (Pv (binIV .eql v3 (Value.int .i64 1)) fun v24 =>
    Br v24
      (Pv (fldV 2 x_1) fun v25 =>
      Pv (fldV 0 v25) fun v26 =>
      Rv none (ld1R v26) fun v27 =>
      Pv (fldV 2 x_1) fun v28 =>
      Pv (fldV 1 v28) fun v29 =>
      Rv none (ld1R v29) fun v30 =>
      Pv (fldV 8 x_1) fun v31 =>
      Rv none (ld1R v31) fun v32 =>
      Pv (fldV 2 x_1) fun v33 =>
      Pv (fldV 2 v33) fun v34 =>
      Rv none (ldNR 2 v34) fun v35 =>
      Cal Tryz.prog ω 18 #[a0, v27, v30, v32, v35] <| gh fun v36 =>
      Pv (exV v36 0) fun v37 =>
      Pv (exV v36 1) fun v38 =>
      Pv (fldV 2 x_1) fun v39 =>
      Pv (fldV 0 v39) fun v40 =>
      Rv none (ld1R v40) fun v41 =>
      Pv (fldV 2 x_1) fun v42 =>
      Pv (fldV 1 v42) fun v43 =>
      Rv none (ld1R v43) fun v44 =>
      Pv (fldV 8 x_1) fun v45 =>
      Rv none (ld1R v45) fun v46 =>
      Pv (fldV 2 x_1) fun v47 =>
      Pv (fldV 2 v47) fun v48 =>
      Rv none (ldNR 2 v48) fun v49 =>
      Cal Tryz.prog ω 19 #[a1, v41, v44, v46, v49] <| gh fun v50 =>
      Pv (exV v50 0) fun v51 =>
      Pv (exV v50 1) fun v52 =>
      Pv (binBV .eql v37 v51) fun v53 =>
      Gd v53 true
        (Pv (binIV .eql v38 v52) fun v54 =>
        K v54)
        (K (Value.bool false)))
      (Pv (binIV .eql v3 (Value.int .i64 2)) fun v55 =>
      Br v55
        (Pv (fldV 2 x_1) fun v56 =>
        Pv (fldV 0 v56) fun v57 =>
        Rv none (ld1R v57) fun v58 =>
        Pv (fldV 2 x_1) fun v59 =>
        Pv (fldV 2 v59) fun v60 =>
        Rv none (ldNR 2 v60) fun v61 =>
        Pv (fldV 2 x_1) fun v62 =>
        Pv (fldV 1 v62) fun v63 =>
        Rv none (ld1R v63) fun v64 =>
        Cal Tryz.prog ω 16 #[a0, v58, v61, v64] <| gh fun v65 =>
        Pv (exV v65 0) fun v66 =>
        Pv (exV v65 1) fun v67 =>
        New (.cells #[(Value.bool false), (Value.slice none 0 0), (Value.int .i64 0), (Value.int .i64 0), (Value.int .i64 0)] 59 (0, 0)) <| gh fun g_68 =>
        Sto 5 g_68 v66 <| gh fun _ =>
        Pv (fldV 2 x_1) fun v69 =>
        Pv (fldV 0 v69) fun v70 =>
        Rv none (ld1R v70) fun v71 =>
        Pv (fldV 2 x_1) fun v72 =>
        Pv (fldV 2 v72) fun v73 =>
        Rv none (ldNR 2 v73) fun v74 =>
        Pv (fldV 2 x_1) fun v75 =>
        Pv (fldV 1 v75) fun v76 =>
        Rv none (ld1R v76) fun v77 =>
        Cal Tryz.prog ω 20 #[a1, v71, v74, v77] <| gh fun v78 =>
        Pv (exV v78 0) fun v79 =>
        Pv (exV v78 1) fun v80 =>
        New (.cells #[(Value.bool false), (Value.slice none 0 0), (Value.int .i64 0), (Value.int .i64 0), (Value.int .i64 0)] 59 (0, 0)) <| gh fun want_81 =>
        Sto 5 want_81 v79 <| gh fun _ =>
        Rv none (ldNR 5 g_68) fun v82 =>
        Rv none (ldNR 5 want_81) fun v83 =>
        Cal Tryz.prog ω 21 #[v82, v83] <| gh fun v84 =>
        Gd v84 true
          (Pv (binIV .eql v67 v80) fun v85 =>
          K v85)
          (K (Value.bool false)))
        (Pv (binIV .eql v3 (Value.int .i64 3)) fun v86 =>
        Br v86
          (Pv (fldV 9 x_1) fun v87 =>
          Rv none (ldNR 2 v87) fun v88 =>
          Pv (fldV 2 x_1) fun v89 =>
          Pv (fldV 2 v89) fun v90 =>
          Rv none (ldNR 2 v90) fun v91 =>
          Pv (fldV 2 x_1) fun v92 =>
          Pv (fldV 1 v92) fun v93 =>
          Rv none (ld1R v93) fun v94 =>
          Pv (fldV 1 x_1) fun v95 =>
          Rv none (ld1R v95) fun v96 =>
          Cal Tryz.prog ω 22 #[a0, v88, v91, v94, v96] <| gh fun v97 =>
          Pv (exV v97 0) fun v98 =>
          Pv (exV v97 1) fun v99 =>
          Pv (exV v97 2) fun v100 =>
          Pv (fldV 9 x_1) fun v101 =>
          Rv none (ldNR 2 v101) fun v102 =>
          Pv (fldV 2 x_1) fun v103 =>
          Pv (fldV 2 v103) fun v104 =>
          Rv none (ldNR 2 v104) fun v105 =>
          Pv (fldV 2 x_1) fun v106 =>
          Pv (fldV 1 v106) fun v107 =>
          Rv none (ld1R v107) fun v108 =>
          Pv (fldV 1 x_1) fun v109 =>
          Rv none (ld1R v109) fun v110 =>
          Cal Tryz.prog ω 23 #[a1, v102, v105, v108, v110] <| gh fun v111 =>
          Pv (exV v111 0) fun v112 =>
          Pv (exV v111 1) fun v113 =>
          Pv (exV v111 2) fun v114 =>
          Cal Tryz.prog ω 24 #[v98, v112] <| gh fun v115 =>
          Gd v115 true
            (Pv (binIV .eql v99 v113) fun v116 =>
            Gd v116 true
              (Pv (binIV .eql v100 v114) fun v117 =>
              K v117)
              (K (Value.bool false)))
            (K (Value.bool false)))
          (Pv (binIV .eql v3 (Value.int .i64 4)) fun v118 =>
          Br v118
            (Pv (fldV 9 x_1) fun v119 =>
            Rv none (ldNR 2 v119) fun v120 =>
            Pv (fldV 2 x_1) fun v121 =>
            Pv (fldV 2 v121) fun v122 =>
            Rv none (ldNR 2 v122) fun v123 =>
            Pv (fldV 11 x_1) fun v124 =>
            Rv none (ldNR 2 v124) fun v125 =>
            Pv (fldV 2 x_1) fun v126 =>
            Pv (fldV 1 v126) fun v127 =>
            Rv none (ld1R v127) fun v128 =>
            Cal Tryz.prog ω 25 #[a0, v120, v123, v125, v128] <| gh fun v129 =>
            Pv (exV v129 0) fun v130 =>
            Pv (exV v129 1) fun v131 =>
            Pv (fldV 9 x_1) fun v132 =>
            Rv none (ldNR 2 v132) fun v133 =>
            Pv (fldV 2 x_1) fun v134 =>
            Pv (fldV 2 v134) fun v135 =>
            Rv none (ldNR 2 v135) fun v136 =>
            Pv (fldV 11 x_1) fun v137 =>
            Rv none (ldNR 2 v137) fun v138 =>
            Pv (fldV 2 x_1) fun v139 =>
            Pv (fldV 1 v139) fun v140 =>
            Rv none (ld1R v140) fun v141 =>
            Cal Tryz.prog ω 26 #[a1, v133, v136, v138, v141] <| gh fun v142 =>
            Pv (exV v142 0) fun v143 =>
            Pv (exV v142 1) fun v144 =>
            Pv (binBV .eql v130 v143) fun v145 =>
            Gd v145 true
              (Pv (binIV .eql v131 v144) fun v146 =>
              K v146)
              (K (Value.bool false)))
            (Pv (binIV .eql v3 (Value.int .i64 5)) fun v147 =>
            Br v147
              (Pv (fldV 2 x_1) fun v148 =>
              Pv (fldV 2 v148) fun v149 =>
              Rv none (ldNR 2 v149) fun v150 =>
              Cal Tryz.prog ω 27 #[a0, v150] <| gh fun v151 =>
              Pv (exV v151 0) fun v152 =>
              Pv (exV v151 1) fun v153 =>
              Pv (fldV 2 x_1) fun v154 =>
              Pv (fldV 2 v154) fun v155 =>
              Rv none (ldNR 2 v155) fun v156 =>
              Cal Tryz.prog ω 28 #[a1, v156] <| gh fun v157 =>
              Pv (exV v157 0) fun v158 =>
              Pv (exV v157 1) fun v159 =>
              Pv (binIV .eql v152 v158) fun v160 =>
              Gd v160 true
                (Pv (binIV .eql v153 v159) fun v161 =>
                K v161)
                (K (Value.bool false)))
              (K (Value.bool true)))))))
theorem sh7_eq (ω : Om) (a0 a1 a2 : Value) (K : Value → M) : vcF Tryz.prog ω Tryz.f7 [a0, a1, a2] K = sh7 ω a0 a1 a2 K := by kernel_rfl
theorem cal7 {ω : Om} {a0 a1 a2 : Value} {K : Value → M} {I : Imm} {L : LH} (h : sh7 ω a0 a1 a2 (fun v => Gh (K v)) I L) : Cal Tryz.prog ω 7 #[a0, a1, a2] K I L :=
  Cal.gh (cal_of_vc mixed Tryz.func7 (by rw [sh7_eq]; exact h))
def sh8 (ω : Om) (a0 : Value) (K : Value → M) : M :=
  Pv (nilV a0) fun v1 =>
  Pv (fldV 4 v1) fun v2 =>
  Rv none (ld1R v2) fun v3 =>
  Cal Tryz.prog ω 30 #[v3] <| gh fun v4 =>
  Cal Tryz.prog ω 29 #[v4] <| gh fun v5 =>
  Cal Tryz.prog ω 31 #[v5, (Value.func (.func 32) #[] #[])] <| gh fun v6 =>
  NewM <| gh fun v7 =>
  Pv (nilV a0) fun v8 =>
  Pv (fldV 4 v8) fun v9 =>
  Sto 1 v9 v7 <| gh fun _ =>
  K v5
theorem sh8_eq (ω : Om) (a0 : Value) (K : Value → M) : vcF Tryz.prog ω Tryz.f8 [a0] K = sh8 ω a0 K := by kernel_rfl
theorem cal8 {ω : Om} {a0 : Value} {K : Value → M} {I : Imm} {L : LH} (h : sh8 ω a0 (fun v => Gh (K v)) I L) : Cal Tryz.prog ω 8 #[a0] K I L :=
  Cal.gh (cal_of_vc mixed Tryz.func8 (by rw [sh8_eq]; exact h))
def sh9_5 (ω : Om) (p7 : Value) (p8 : Value) (p9 : Value) (Kn1 : (Value × Value × Value × Unit) → M) (K : Value → M) : M :=
  Pv (binIV .add p9 (Value.int .i64 1)) fun v46 =>
  Kn1 (p7, p8, v46, ())
def sh9_7 (ω : Om) (p0 : Value) (p7 : Value) (p8 : Value) (p9 : Value) (Kn1 : (Value × Value × Value × Unit) → M) (K : Value → M) : M :=
  Pv (ixV 2 p0 p9) fun v66 =>
  Rv none (ldNR 2 v66) fun v67 =>
  BldS 86 2 #[(Value.slice none 0 0), (Value.slice none 0 0)] 1 [(0, v67)] <| gh fun v68 =>
  App 86 2 48 #[(Value.slice none 0 0), (Value.slice none 0 0)] p7 v68 <| gh fun v69 =>
  sh9_5 ω v69 p8 p9 Kn1 K
def sh9_6 (ω : Om) (p0 : Value) (p1 : Value) (p6 : Value) (p7 : Value) (p8 : Value) (p9 : Value) (Kn1 : (Value × Value × Value × Unit) → M) (K : Value → M) : M :=
  Draw fun S =>
    Pv (ixV 3 p1 p6) fun v57 =>
    Pv (fldV 1 v57) fun v58 =>
    Rv (some S) (ld1R v58) fun v59 =>
    Pv (ixV 3 p1 p6) fun v60 =>
    Pv (fldV 2 v60) fun v61 =>
    Rv (some S) (ld1R v61) fun v62 =>
    Pv (bldV #[(Value.slice none 0 0), (Value.slice none 0 0)] #[(0, 1), (1, 1)] [(0, v59), (1, v62)]) fun v63 =>
    BldS 86 2 #[(Value.slice none 0 0), (Value.slice none 0 0)] 1 [(0, v63)] <| gh fun v64 =>
    App 86 2 48 #[(Value.slice none 0 0), (Value.slice none 0 0)] p7 v64 <| gh fun v65 =>
    sh9_7 ω p0 v65 (Value.bool true) p9 Kn1 K
def sh9_10 (ω : Om) (p0 : Value) (p4 : Value) (p5 : Value) (p6 : Value) (p7 : Value) (Kn0 : (Value × Value × Value × Value × Unit) → M) (K : Value → M) : M :=
  Pv (binIV .add p6 (Value.int .i64 1)) fun v80 =>
  Kn0 (p7, p4, p5, v80, ())
def sh9_9 (ω : Om) (p0 : Value) (p1 : Value) (p4 : Value) (p5 : Value) (p6 : Value) (p7 : Value) (p8 : Value) (Kn0 : (Value × Value × Value × Value × Unit) → M) (K : Value → M) : M :=
  Pv (unV .not p8) fun v70 =>
  Br v70
    (Draw fun S =>
      Pv (ixV 3 p1 p6) fun v71 =>
      Pv (fldV 1 v71) fun v72 =>
      Rv (some S) (ld1R v72) fun v73 =>
      Pv (ixV 3 p1 p6) fun v74 =>
      Pv (fldV 2 v74) fun v75 =>
      Rv (some S) (ld1R v75) fun v76 =>
      Pv (bldV #[(Value.slice none 0 0), (Value.slice none 0 0)] #[(0, 1), (1, 1)] [(0, v73), (1, v76)]) fun v77 =>
      BldS 86 2 #[(Value.slice none 0 0), (Value.slice none 0 0)] 1 [(0, v77)] <| gh fun v78 =>
      App 86 2 48 #[(Value.slice none 0 0), (Value.slice none 0 0)] p7 v78 <| gh fun v79 =>
      sh9_10 ω p0 p4 p5 p6 v79 Kn0 K)
    (sh9_10 ω p0 p4 p5 p6 p7 Kn0 K)
def sh9_3 (ω : Om) (p0 : Value) (p1 : Value) (p4 : Value) (p5 : Value) (p6 : Value) (x7 : Value) (x8 : Value) (x9 : Value) (Kn0 : (Value × Value × Value × Value × Unit) → M) (Kn1 : (Value × Value × Value × Unit) → M) (K : Value → M) : M :=
  Pv (lenV p0) fun v35 =>
  Pv (binIV .lss x9 v35) fun v36 =>
  Br v36
    (Draw fun S =>
      Pv (ixV 2 p0 x9) fun v37 =>
      Pv (fldV 0 v37) fun v38 =>
      Rv (some S) (ld1R v38) fun v39 =>
      Rv (some S) (bsR v39) fun v40 =>
      Pv (ixV 3 p1 p6) fun v41 =>
      Pv (fldV 1 v41) fun v42 =>
      Rv (some S) (ld1R v42) fun v43 =>
      Rv (some S) (bsR v43) fun v44 =>
      Pv (binSV .eql v40 v44) fun v45 =>
      Br v45
        (sh9_5 ω x7 x8 x9 Kn1 K)
        (Draw fun S =>
          Pv (unV .not x8) fun v47 =>
          Gd v47 true
            (Pv (ixV 2 p0 x9) fun v48 =>
            Pv (fldV 0 v48) fun v49 =>
            Rv (some S) (ld1R v49) fun v50 =>
            Rv (some S) (bsR v50) fun v51 =>
            Pv (ixV 3 p1 p6) fun v52 =>
            Pv (fldV 1 v52) fun v53 =>
            Rv (some S) (ld1R v53) fun v54 =>
            Rv (some S) (bsR v54) fun v55 =>
            Pv (binSV .gtr v51 v55) fun v56 =>
            Br v56
              (sh9_6 ω p0 p1 p6 x7 x8 x9 Kn1 K)
              (sh9_7 ω p0 x7 x8 x9 Kn1 K))
            (sh9_7 ω p0 x7 x8 x9 Kn1 K)))
    (sh9_9 ω p0 p1 p4 p5 p6 x7 x8 Kn0 K)
def sh9_11 (ω : Om) (p0 : Value) (p1 : Value) (p4 : Value) (p5 : Value) (p6 : Value) (x7 : Value) (x8 : Value) (x9 : Value) (Kn0 : (Value × Value × Value × Value × Unit) → M) (Kn1 : (Value × Value × Value × Unit) → M) (K : Value → M) : M :=
  Pv (lenV p0) fun v84 =>
  Pv (binIV .lss x9 v84) fun v85 =>
  Br v85
    (Draw fun S =>
      Pv (ixV 2 p0 x9) fun v86 =>
      Pv (fldV 0 v86) fun v87 =>
      Rv (some S) (ld1R v87) fun v88 =>
      Rv (some S) (bsR v88) fun v89 =>
      Pv (ixV 3 p1 p6) fun v90 =>
      Pv (fldV 1 v90) fun v91 =>
      Rv (some S) (ld1R v91) fun v92 =>
      Rv (some S) (bsR v92) fun v93 =>
      Pv (binSV .eql v89 v93) fun v94 =>
      Br v94
        (sh9_5 ω x7 x8 x9 Kn1 K)
        (Draw fun S =>
          Pv (unV .not x8) fun v95 =>
          Gd v95 true
            (Pv (ixV 2 p0 x9) fun v96 =>
            Pv (fldV 0 v96) fun v97 =>
            Rv (some S) (ld1R v97) fun v98 =>
            Rv (some S) (bsR v98) fun v99 =>
            Pv (ixV 3 p1 p6) fun v100 =>
            Pv (fldV 1 v100) fun v101 =>
            Rv (some S) (ld1R v101) fun v102 =>
            Rv (some S) (bsR v102) fun v103 =>
            Pv (binSV .gtr v99 v103) fun v104 =>
            Br v104
              (sh9_6 ω p0 p1 p6 x7 x8 x9 Kn1 K)
              (sh9_7 ω p0 x7 x8 x9 Kn1 K))
            (sh9_7 ω p0 x7 x8 x9 Kn1 K)))
    (sh9_9 ω p0 p1 p4 p5 p6 x7 x8 Kn0 K)
def sh9_12 (ω : Om) (p0 : Value) (p1 : Value) (p4 : Value) (p5 : Value) (p6 : Value) (x7 : Value) (x8 : Value) (x9 : Value) (Kn0 : (Value × Value × Value × Value × Unit) → M) (Kn1 : (Value × Value × Value × Unit) → M) (K : Value → M) : M :=
  Pv (lenV p0) fun v119 =>
  Pv (binIV .lss x9 v119) fun v120 =>
  Br v120
    (Draw fun S =>
      Pv (ixV 2 p0 x9) fun v121 =>
      Pv (fldV 0 v121) fun v122 =>
      Rv (some S) (ld1R v122) fun v123 =>
      Rv (some S) (bsR v123) fun v124 =>
      Pv (ixV 3 p1 p6) fun v125 =>
      Pv (fldV 1 v125) fun v126 =>
      Rv (some S) (ld1R v126) fun v127 =>
      Rv (some S) (bsR v127) fun v128 =>
      Pv (binSV .eql v124 v128) fun v129 =>
      Br v129
        (sh9_5 ω x7 x8 x9 Kn1 K)
        (Draw fun S =>
          Pv (unV .not x8) fun v130 =>
          Gd v130 true
            (Pv (ixV 2 p0 x9) fun v131 =>
            Pv (fldV 0 v131) fun v132 =>
            Rv (some S) (ld1R v132) fun v133 =>
            Rv (some S) (bsR v133) fun v134 =>
            Pv (ixV 3 p1 p6) fun v135 =>
            Pv (fldV 1 v135) fun v136 =>
            Rv (some S) (ld1R v136) fun v137 =>
            Rv (some S) (bsR v137) fun v138 =>
            Pv (binSV .gtr v134 v138) fun v139 =>
            Br v139
              (sh9_6 ω p0 p1 p6 x7 x8 x9 Kn1 K)
              (sh9_7 ω p0 x7 x8 x9 Kn1 K))
            (sh9_7 ω p0 x7 x8 x9 Kn1 K)))
    (sh9_9 ω p0 p1 p4 p5 p6 x7 x8 Kn0 K)
def sh9_13 (ω : Om) (p0 : Value) (p1 : Value) (p4 : Value) (p5 : Value) (p6 : Value) (x7 : Value) (x8 : Value) (x9 : Value) (Kn0 : (Value × Value × Value × Value × Unit) → M) (Kn1 : (Value × Value × Value × Unit) → M) (K : Value → M) : M :=
  Pv (lenV p0) fun v143 =>
  Pv (binIV .lss x9 v143) fun v144 =>
  Br v144
    (Draw fun S =>
      Pv (ixV 2 p0 x9) fun v145 =>
      Pv (fldV 0 v145) fun v146 =>
      Rv (some S) (ld1R v146) fun v147 =>
      Rv (some S) (bsR v147) fun v148 =>
      Pv (ixV 3 p1 p6) fun v149 =>
      Pv (fldV 1 v149) fun v150 =>
      Rv (some S) (ld1R v150) fun v151 =>
      Rv (some S) (bsR v151) fun v152 =>
      Pv (binSV .eql v148 v152) fun v153 =>
      Br v153
        (sh9_5 ω x7 x8 x9 Kn1 K)
        (Draw fun S =>
          Pv (unV .not x8) fun v154 =>
          Gd v154 true
            (Pv (ixV 2 p0 x9) fun v155 =>
            Pv (fldV 0 v155) fun v156 =>
            Rv (some S) (ld1R v156) fun v157 =>
            Rv (some S) (bsR v157) fun v158 =>
            Pv (ixV 3 p1 p6) fun v159 =>
            Pv (fldV 1 v159) fun v160 =>
            Rv (some S) (ld1R v160) fun v161 =>
            Rv (some S) (bsR v161) fun v162 =>
            Pv (binSV .gtr v158 v162) fun v163 =>
            Br v163
              (sh9_6 ω p0 p1 p6 x7 x8 x9 Kn1 K)
              (sh9_7 ω p0 x7 x8 x9 Kn1 K))
            (sh9_7 ω p0 x7 x8 x9 Kn1 K)))
    (sh9_9 ω p0 p1 p4 p5 p6 x7 x8 Kn0 K)
def sh9_1 (ω : Om) (p1 : Value) (x0 : Value) (x4 : Value) (x5 : Value) (x6 : Value) (Kn0 : (Value × Value × Value × Value × Unit) → M) (K : Value → M) : M :=
  Pv (lenV p1) fun v1 =>
  Pv (binIV .lss x6 v1) fun v2 =>
  Br v2
    (Draw fun S =>
      Pv (ixV 3 p1 x6) fun v3 =>
      Pv (fldV 1 v3) fun v4 =>
      Rv (some S) (ld1R v4) fun v5 =>
      Pv (lenV v5) fun v6 =>
      Pv (binIV .lss v6 (Value.int .i64 1)) fun v7 =>
      Gd v7 false
        (Pv (ixV 3 p1 x6) fun v8 =>
        Pv (fldV 1 v8) fun v9 =>
        Rv (some S) (ld1R v9) fun v10 =>
        Pv (lenV v10) fun v11 =>
        Pv (binIV .gtr v11 (Value.int .i64 250)) fun v12 =>
        Gd v12 false
          (Pv (ixV 3 p1 x6) fun v13 =>
          Pv (fldV 0 v13) fun v14 =>
          Rv (some S) (ld1R v14) fun v15 =>
          Gd v15 true
            (Pv (ixV 3 p1 x6) fun v16 =>
            Pv (fldV 2 v16) fun v17 =>
            Rv (some S) (ld1R v17) fun v18 =>
            Pv (lenV v18) fun v19 =>
            Pv (binIV .gtr v19 (Value.int .i64 0)) fun v20 =>
            Gd v20 false
              (Pv (binIV .gtr x6 (Value.int .i64 0)) fun v21 =>
              Gd v21 true
                (Pv (ixV 3 p1 x6) fun v22 =>
                Pv (fldV 1 v22) fun v23 =>
                Rv (some S) (ld1R v23) fun v24 =>
                Rv (some S) (bsR v24) fun v25 =>
                Pv (binIV .sub x6 (Value.int .i64 1)) fun v26 =>
                Pv (ixV 3 p1 v26) fun v27 =>
                Pv (fldV 1 v27) fun v28 =>
                Rv (some S) (ld1R v28) fun v29 =>
                Rv (some S) (bsR v29) fun v30 =>
                Pv (binSV .leq v25 v30) fun v31 =>
                Br v31
                  (K (Value.tuple #[(Value.slice none 0 0), (Value.bool false)]))
                  (Pv (ixV 3 p1 x6) fun v32 =>
                  Pv (fldV 0 v32) fun v33 =>
                  Rv none (ld1R v33) fun v34 =>
                  LoopM (((Value.slice none 0 0), v34, (Value.int .i64 0), ()) : Value × Value × Value × Unit) fun s Kn1 =>
                  sh9_3 ω x0 p1 x4 x5 x6 s.1 s.2.1 s.2.2.1 Kn0 Kn1 K))
                (Pv (ixV 3 p1 x6) fun v81 =>
                Pv (fldV 0 v81) fun v82 =>
                Rv none (ld1R v82) fun v83 =>
                LoopM (((Value.slice none 0 0), v83, (Value.int .i64 0), ()) : Value × Value × Value × Unit) fun s Kn1 =>
                sh9_11 ω x0 p1 x4 x5 x6 s.1 s.2.1 s.2.2.1 Kn0 Kn1 K))
              (K (Value.tuple #[(Value.slice none 0 0), (Value.bool false)])))
            (Pv (binIV .gtr x6 (Value.int .i64 0)) fun v105 =>
            Gd v105 true
              (Pv (ixV 3 p1 x6) fun v106 =>
              Pv (fldV 1 v106) fun v107 =>
              Rv (some S) (ld1R v107) fun v108 =>
              Rv (some S) (bsR v108) fun v109 =>
              Pv (binIV .sub x6 (Value.int .i64 1)) fun v110 =>
              Pv (ixV 3 p1 v110) fun v111 =>
              Pv (fldV 1 v111) fun v112 =>
              Rv (some S) (ld1R v112) fun v113 =>
              Rv (some S) (bsR v113) fun v114 =>
              Pv (binSV .leq v109 v114) fun v115 =>
              Br v115
                (K (Value.tuple #[(Value.slice none 0 0), (Value.bool false)]))
                (Pv (ixV 3 p1 x6) fun v116 =>
                Pv (fldV 0 v116) fun v117 =>
                Rv none (ld1R v117) fun v118 =>
                LoopM (((Value.slice none 0 0), v118, (Value.int .i64 0), ()) : Value × Value × Value × Unit) fun s Kn1 =>
                sh9_12 ω x0 p1 x4 x5 x6 s.1 s.2.1 s.2.2.1 Kn0 Kn1 K))
              (Pv (ixV 3 p1 x6) fun v140 =>
              Pv (fldV 0 v140) fun v141 =>
              Rv none (ld1R v141) fun v142 =>
              LoopM (((Value.slice none 0 0), v142, (Value.int .i64 0), ()) : Value × Value × Value × Unit) fun s Kn1 =>
              sh9_13 ω x0 p1 x4 x5 x6 s.1 s.2.1 s.2.2.1 Kn0 Kn1 K)))
          (K (Value.tuple #[(Value.slice none 0 0), (Value.bool false)])))
        (K (Value.tuple #[(Value.slice none 0 0), (Value.bool false)])))
    (K (Value.tuple #[x0, (Value.bool true)]))
def sh9 (ω : Om) (a0 : Value) (a1 : Value) (K : Value → M) : M :=
  LoopM ((a0, (Value.slice none 0 0), (Value.bool false), (Value.int .i64 0), ()) : Value × Value × Value × Value × Unit) fun s Kn0 =>
  sh9_1 ω a1 s.1 s.2.1 s.2.2.1 s.2.2.2.1 Kn0 K
theorem sh9_eq (ω : Om) (a0 a1 : Value) (K : Value → M) : vcF Tryz.prog ω Tryz.f9 [a0, a1] K = sh9 ω a0 a1 K := by kernel_rfl
theorem cal9 {ω : Om} {a0 a1 : Value} {K : Value → M} {I : Imm} {L : LH} (h : sh9 ω a0 a1 (fun v => Gh (K v)) I L) : Cal Tryz.prog ω 9 #[a0, a1] K I L :=
  Cal.gh (cal_of_vc mixed Tryz.func9 (by rw [sh9_eq]; exact h))
def sh10_3 (ω : Om) (p2 : Value) (p3 : Value) (p7 : Value) (p11 : Value) (Kn0 : (Value × Value × Value × Unit) → M) (K : Value → M) : M :=
  Pv (unV .not p7) fun v18 =>
  Br v18
    (K (Value.tuple #[(Value.pointer none), (Value.int .i64 132)]))
    (Pv (binIV .add p11 (Value.int .i64 1)) fun v19 =>
    Kn0 (p2, p3, v19, ()))
def sh10_1 (ω : Om) (p4 : Value) (p9 : Value) (p10 : Value) (x2 : Value) (x3 : Value) (x11 : Value) (Kn0 : (Value × Value × Value × Unit) → M) (K : Value → M) : M :=
  Pv (binIV .lss x11 p10) fun v3 =>
  Br v3
    (Pv (ixV 2 p9 x11) fun v4 =>
    Rv none (ldNR 2 v4) fun v5 =>
    New (.cells #[(Value.slice none 0 0), (Value.slice none 0 0)] 86 (0, 0)) <| gh fun x_6 =>
    Sto 2 x_6 v5 <| gh fun _ =>
    Pv (fldV 0 x_6) fun v7 =>
    Rv none (ld1R v7) fun v8 =>
    Pv (lenV v8) fun v9 =>
    Pv (binIV .gtr v9 (Value.int .i64 0)) fun v10 =>
    Br v10
      (Pv (fldV 0 x_6) fun v11 =>
      Rv none (ld1R v11) fun v12 =>
      Pv (ixV 1 v12 (Value.int .i64 0)) fun v13 =>
      Rv none (ld1R v13) fun v14 =>
      Pv (binIV .eql v14 (Value.int .u8 102)) fun v15 =>
      Br v15
        (Rv none (ldNR 2 x_6) fun v16 =>
        Cal Tryz.prog ω 34 #[p4, v16] <| gh fun v17 =>
        sh10_3 ω x2 x3 v17 x11 Kn0 K)
        (Pv (binIV .eql v14 (Value.int .u8 105)) fun v20 =>
        Br v20
          (Rv none (ldNR 2 x_6) fun v21 =>
          Cal Tryz.prog ω 35 #[p4, v21] <| gh fun v22 =>
          sh10_3 ω x2 x3 v22 x11 Kn0 K)
          (Pv (binIV .eql v14 (Value.int .u8 118)) fun v23 =>
          Br v23
            (Rv none (ldNR 2 x_6) fun v24 =>
            Cal Tryz.prog ω 36 #[p4, v24] <| gh fun v25 =>
            sh10_3 ω x2 x3 v25 x11 Kn0 K)
            (sh10_3 ω x2 x3 (Value.bool false) x11 Kn0 K))))
      (sh10_3 ω x2 x3 (Value.bool false) x11 Kn0 K))
    (K (Value.tuple #[p4, (Value.int .i64 0)]))
def sh10 (ω : Om) (a0 : Value) (K : Value → M) : M :=
  Cal Tryz.prog ω 6 #[] <| gh fun v1 =>
  Pv (lenV a0) fun v2 =>
  LoopM (((Value.pointer none), (Value.int .i64 0), (Value.int .i64 0), ()) : Value × Value × Value × Unit) fun s Kn0 =>
  sh10_1 ω v1 a0 v2 s.1 s.2.1 s.2.2.1 Kn0 K
theorem sh10_eq (ω : Om) (a0 : Value) (K : Value → M) : vcF Tryz.prog ω Tryz.f10 [a0] K = sh10 ω a0 K := by kernel_rfl
theorem cal10 {ω : Om} {a0 : Value} {K : Value → M} {I : Imm} {L : LH} (h : sh10 ω a0 (fun v => Gh (K v)) I L) : Cal Tryz.prog ω 10 #[a0] K I L :=
  Cal.gh (cal_of_vc mixed Tryz.func10 (by rw [sh10_eq]; exact h))
def sh11 (ω : Om) (a0 : Value) (a1 : Value) (K : Value → M) : M :=
  Cal Tryz.prog ω 37 #[a0] <| gh fun v1 =>
  New (.cells #[(Value.int .i64 0), (Value.int .i64 0)] 30 (0, 0)) <| gh fun f_2 =>
  Sto 2 f_2 v1 <| gh fun _ =>
  Cal Tryz.prog ω 38 #[a0] <| gh fun v3 =>
  Cal Tryz.prog ω 39 #[a0] <| gh fun v4 =>
  Pv (nilV a1) fun v5 =>
  Pv (fldV 1 v5) fun v6 =>
  Rv none (ld1R v6) fun v7 =>
  Cal Tryz.prog ω 40 #[v4, v7] <| gh fun v8 =>
  Draw fun S =>
    Rv (some S) (ldNR 2 f_2) fun v9 =>
    Pv (nilV a1) fun v10 =>
    Pv (fldV 2 v10) fun v11 =>
    Rv (some S) (ldNR 2 v11) fun v12 =>
    Pv (binAV .eql [(TypeDesc.int .i64, 0), (TypeDesc.int .i64, 1)] v9 v12) fun v13 =>
    Gd v13 true
      (Pv (nilV a1) fun v14 =>
      Pv (fldV 0 v14) fun v15 =>
      Rv (some S) (ld1R v15) fun v16 =>
      Pv (lenV v16) fun v17 =>
      Pv (binIV .eql v3 v17) fun v18 =>
      Gd v18 true
        (K v8)
        (K (Value.bool false)))
      (K (Value.bool false))
theorem sh11_eq (ω : Om) (a0 a1 : Value) (K : Value → M) : vcF Tryz.prog ω Tryz.f11 [a0, a1] K = sh11 ω a0 a1 K := by kernel_rfl
theorem cal11 {ω : Om} {a0 a1 : Value} {K : Value → M} {I : Imm} {L : LH} (h : sh11 ω a0 a1 (fun v => Gh (K v)) I L) : Cal Tryz.prog ω 11 #[a0, a1] K I L :=
  Cal.gh (cal_of_vc mixed Tryz.func11 (by rw [sh11_eq]; exact h))
def sh12_2 (ω : Om) (p0 : Value) (p4 : Value) (p5 : Value) (p6 : Value) (p64 : Value) (p65 : Value) (x66 : Value) (Kn0 : (Value × Unit) → M) (K : Value → M) : M :=
  Pv (binIV .lss x66 p65) fun v40 =>
  Br v40
    (Pv (ixV 1 p64 x66) fun v41 =>
    Rv none (ld1R v41) fun v42 =>
    Pv (nilV p0) fun v43 =>
    Pv (fldV 0 v43) fun v44 =>
    Rv none (ld1R v44) fun v45 =>
    Rv none (lkR .string (Value.pointer none) false v45 v42) fun v46 =>
    Pv (nilV p0) fun v47 =>
    Pv (fldV 0 v47) fun v48 =>
    Rv none (ld1R v48) fun v49 =>
    DelM .string v49 v42 <| gh fun _ =>
    Pv (nilV p6) fun v50 =>
    Pv (fldV 0 v50) fun v51 =>
    Rv none (ld1R v51) fun v52 =>
    PutM .string v52 v42 v46 <| gh fun _ =>
    Cal Tryz.prog ω 45 #[p0, v42, v46, (Value.bool true)] <| gh fun v53 =>
    Cal Tryz.prog ω 45 #[p6, v42, v46, (Value.bool false)] <| gh fun v54 =>
    Pv (binIV .add x66 (Value.int .i64 1)) fun v55 =>
    Kn0 (v55, ()))
    (K (Value.tuple #[p6, (Value.int .i64 0)]))
def sh12_1 (ω : Om) (p0 : Value) (p1 : Value) (p4 : Value) (p5 : Value) (p6 : Value) (K : Value → M) : M :=
  Draw fun S =>
    Pv (nilV p0) fun v15 =>
    Pv (fldV 1 v15) fun v16 =>
    Rv (some S) (ld1R v16) fun v17 =>
    Rv (some S) (bsR p1) fun v18 =>
    Cal Tryz.prog ω 43 #[v17, v18] <| gh fun v19 =>
    Pv (exV v19 0) fun v20 =>
    Pv (exV v19 1) fun v21 =>
    Pv (nilV p0) fun v22 =>
    Pv (fldV 1 v22) fun v23 =>
    Rv none (ld1R v23) fun v24 =>
    Pv (slcV 1 v24 (some v20) none none) fun v25 =>
    Cal Tryz.prog ω 44 #[v25] <| gh fun v26 =>
    Pv (nilV p6) fun v27 =>
    Pv (fldV 1 v27) fun v28 =>
    Sto 1 v28 v26 <| gh fun _ =>
    Pv (nilV p0) fun v29 =>
    Pv (fldV 1 v29) fun v30 =>
    Rv none (ld1R v30) fun v31 =>
    Pv (slcV 1 v31 none (some v20) none) fun v32 =>
    Cal Tryz.prog ω 44 #[v32] <| gh fun v33 =>
    Pv (nilV p0) fun v34 =>
    Pv (fldV 1 v34) fun v35 =>
    Sto 1 v35 v33 <| gh fun _ =>
    Pv (nilV p6) fun v36 =>
    Pv (fldV 1 v36) fun v37 =>
    Rv none (ld1R v37) fun v38 =>
    Pv (lenV v38) fun v39 =>
    LoopM (((Value.int .i64 0), ()) : Value × Unit) fun s Kn0 =>
    sh12_2 ω p0 p4 p5 p6 v38 v39 s.1 Kn0 K
def sh12 (ω : Om) (a0 : Value) (a1 : Value) (K : Value → M) : M :=
  Cal Tryz.prog ω 41 #[a1] <| gh fun v1 =>
  Pv (unV .not v1) fun v2 =>
  Br v2
    (K (Value.tuple #[(Value.pointer none), (Value.int .i64 1)]))
    (Cal Tryz.prog ω 6 #[] <| gh fun v3 =>
    Pv (nilV a0) fun v4 =>
    Pv (fldV 2 v4) fun v5 =>
    Rv none (ldNR 2 v5) fun v6 =>
    Pv (nilV v3) fun v7 =>
    Pv (fldV 2 v7) fun v8 =>
    Sto 2 v8 v6 <| gh fun _ =>
    Pv (nilV v3) fun v9 =>
    Pv (fldV 2 v9) fun v10 =>
    Rv none (ldNR 2 v10) fun v11 =>
    Pv (bldV #[(Value.int .i64 0), (Value.int .i64 0)] #[(0, 1), (1, 1)] []) fun v12 =>
    Pv (binAV .neq [(TypeDesc.int .i64, 0), (TypeDesc.int .i64, 1)] v11 v12) fun v13 =>
    Br v13
      (Cal Tryz.prog ω 42 #[v3] <| gh fun v14 =>
      sh12_1 ω a0 a1 (Value.pointer none) (Value.int .i64 0) v3 K)
      (sh12_1 ω a0 a1 (Value.pointer none) (Value.int .i64 0) v3 K))
theorem sh12_eq (ω : Om) (a0 a1 : Value) (K : Value → M) : vcF Tryz.prog ω Tryz.f12 [a0, a1] K = sh12 ω a0 a1 K := by kernel_rfl
theorem cal12 {ω : Om} {a0 a1 : Value} {K : Value → M} {I : Imm} {L : LH} (h : sh12 ω a0 a1 (fun v => Gh (K v)) I L) : Cal Tryz.prog ω 12 #[a0, a1] K I L :=
  Cal.gh (cal_of_vc mixed Tryz.func12 (by rw [sh12_eq]; exact h))
def sh13_3 (ω : Om) (p9 : Value) (Kn0 : (Value × Unit) → M) (K : Value → M) : M :=
  Pv (binIV .add p9 (Value.int .i64 1)) fun v39 =>
  Kn0 (v39, ())
def sh13_8 (ω : Om) (p10 : Value) (Kn1 : (Value × Unit) → M) (K : Value → M) : M :=
  Pv (binIV .add p10 (Value.int .i64 1)) fun v78 =>
  Kn1 (v78, ())
def sh13_10 (ω : Om) (p0 : Value) (p4 : Value) (p5 : Value) (p7 : Value) (p8 : Value) (K : Value → M) : M :=
  Pv (nilV p8) fun v91 =>
  Pv (fldV 0 v91) fun v92 =>
  Rv none (ld1R v92) fun v93 =>
  Pv (nilV p0) fun v94 =>
  Pv (fldV 0 v94) fun v95 =>
  Sto 1 v95 v93 <| gh fun _ =>
  Pv (nilV p8) fun v96 =>
  Pv (fldV 1 v96) fun v97 =>
  Rv none (ld1R v97) fun v98 =>
  Pv (nilV p0) fun v99 =>
  Pv (fldV 1 v99) fun v100 =>
  Sto 1 v100 v98 <| gh fun _ =>
  K (Value.tuple #[p7, (Value.int .i64 0)])
def sh13_6 (ω : Om) (p0 : Value) (p1 : Value) (p4 : Value) (p5 : Value) (p7 : Value) (p8 : Value) (x10 : Value) (Kn1 : (Value × Unit) → M) (K : Value → M) : M :=
  Pv (nilV p0) fun v52 =>
  Pv (fldV 1 v52) fun v53 =>
  Rv none (ld1R v53) fun v54 =>
  Pv (lenV v54) fun v55 =>
  Pv (binIV .lss x10 v55) fun v56 =>
  Br v56
    (Draw fun S =>
      Pv (nilV p0) fun v57 =>
      Pv (fldV 1 v57) fun v58 =>
      Rv (some S) (ld1R v58) fun v59 =>
      Pv (ixV 6 v59 x10) fun v60 =>
      Pv (fldV 0 v60) fun v61 =>
      Rv (some S) (ld1R v61) fun v62 =>
      Rv (some S) (bsR v62) fun v63 =>
      Rv (some S) (bsR p1) fun v64 =>
      Pv (binSV .lss v63 v64) fun v65 =>
      Br v65
        (Draw fun S =>
          Pv (nilV p8) fun v66 =>
          Pv (fldV 1 v66) fun v67 =>
          Rv (some S) (ld1R v67) fun v68 =>
          Pv (nilV p0) fun v69 =>
          Pv (fldV 1 v69) fun v70 =>
          Rv (some S) (ld1R v70) fun v71 =>
          Pv (ixV 6 v71 x10) fun v72 =>
          Rv (some S) (ldNR 6 v72) fun v73 =>
          BldS 37 6 #[(Value.slice none 0 0), (Value.int .i64 0), (Value.int .i64 0), (Value.int .i64 0), (Value.bool false), (Value.slice none 0 0)] 1 [(0, v73)] <| gh <| Keep S fun v74 =>
          App 37 6 80 #[(Value.slice none 0 0), (Value.int .i64 0), (Value.int .i64 0), (Value.int .i64 0), (Value.bool false), (Value.slice none 0 0)] v68 v74 <| gh fun v75 =>
          Pv (nilV p8) fun v76 =>
          Pv (fldV 1 v76) fun v77 =>
          Sto 1 v77 v75 <| gh fun _ =>
          sh13_8 ω x10 Kn1 K)
        (Draw fun S =>
          Pv (nilV p7) fun v79 =>
          Pv (fldV 1 v79) fun v80 =>
          Rv (some S) (ld1R v80) fun v81 =>
          Pv (nilV p0) fun v82 =>
          Pv (fldV 1 v82) fun v83 =>
          Rv (some S) (ld1R v83) fun v84 =>
          Pv (ixV 6 v84 x10) fun v85 =>
          Rv (some S) (ldNR 6 v85) fun v86 =>
          BldS 37 6 #[(Value.slice none 0 0), (Value.int .i64 0), (Value.int .i64 0), (Value.int .i64 0), (Value.bool false), (Value.slice none 0 0)] 1 [(0, v86)] <| gh <| Keep S fun v87 =>
          App 37 6 80 #[(Value.slice none 0 0), (Value.int .i64 0), (Value.int .i64 0), (Value.int .i64 0), (Value.bool false), (Value.slice none 0 0)] v81 v87 <| gh fun v88 =>
          Pv (nilV p7) fun v89 =>
          Pv (fldV 1 v89) fun v90 =>
          Sto 1 v90 v88 <| gh fun _ =>
          sh13_8 ω x10 Kn1 K))
    (sh13_10 ω p0 p4 p5 p7 p8 K)
def sh13_5 (ω : Om) (p0 : Value) (p1 : Value) (p4 : Value) (p5 : Value) (p7 : Value) (p8 : Value) (K : Value → M) : M :=
  LoopM (((Value.int .i64 0), ()) : Value × Unit) fun s Kn1 =>
  sh13_6 ω p0 p1 p4 p5 p7 p8 s.1 Kn1 K
def sh13_1 (ω : Om) (p0 : Value) (p1 : Value) (p4 : Value) (p5 : Value) (p7 : Value) (p8 : Value) (x9 : Value) (Kn0 : (Value × Unit) → M) (K : Value → M) : M :=
  Pv (nilV p0) fun v13 =>
  Pv (fldV 0 v13) fun v14 =>
  Rv none (ld1R v14) fun v15 =>
  Pv (lenV v15) fun v16 =>
  Pv (binIV .lss x9 v16) fun v17 =>
  Br v17
    (Draw fun S =>
      Pv (nilV p0) fun v18 =>
      Pv (fldV 0 v18) fun v19 =>
      Rv (some S) (ld1R v19) fun v20 =>
      Pv (ixV 5 v20 x9) fun v21 =>
      Pv (fldV 0 v21) fun v22 =>
      Rv (some S) (ld1R v22) fun v23 =>
      Rv (some S) (bsR v23) fun v24 =>
      Rv (some S) (bsR p1) fun v25 =>
      Pv (binSV .lss v24 v25) fun v26 =>
      Br v26
        (Draw fun S =>
          Pv (nilV p8) fun v27 =>
          Pv (fldV 0 v27) fun v28 =>
          Rv (some S) (ld1R v28) fun v29 =>
          Pv (nilV p0) fun v30 =>
          Pv (fldV 0 v30) fun v31 =>
          Rv (some S) (ld1R v31) fun v32 =>
          Pv (ixV 5 v32 x9) fun v33 =>
          Rv (some S) (ldNR 5 v33) fun v34 =>
          BldS 99 5 #[(Value.slice none 0 0), (Value.int .i64 0), (Value.int .i64 0), (Value.bool false), (Value.slice none 0 0)] 1 [(0, v34)] <| gh <| Keep S fun v35 =>
          App 99 5 72 #[(Value.slice none 0 0), (Value.int .i64 0), (Value.int .i64 0), (Value.bool false), (Value.slice none 0 0)] v29 v35 <| gh fun v36 =>
          Pv (nilV p8) fun v37 =>
          Pv (fldV 0 v37) fun v38 =>
          Sto 1 v38 v36 <| gh fun _ =>
          sh13_3 ω x9 Kn0 K)
        (Draw fun S =>
          Pv (nilV p7) fun v40 =>
          Pv (fldV 0 v40) fun v41 =>
          Rv (some S) (ld1R v41) fun v42 =>
          Pv (nilV p0) fun v43 =>
          Pv (fldV 0 v43) fun v44 =>
          Rv (some S) (ld1R v44) fun v45 =>
          Pv (ixV 5 v45 x9) fun v46 =>
          Rv (some S) (ldNR 5 v46) fun v47 =>
          BldS 99 5 #[(Value.slice none 0 0), (Value.int .i64 0), (Value.int .i64 0), (Value.bool false), (Value.slice none 0 0)] 1 [(0, v47)] <| gh <| Keep S fun v48 =>
          App 99 5 72 #[(Value.slice none 0 0), (Value.int .i64 0), (Value.int .i64 0), (Value.bool false), (Value.slice none 0 0)] v42 v48 <| gh fun v49 =>
          Pv (nilV p7) fun v50 =>
          Pv (fldV 0 v50) fun v51 =>
          Sto 1 v51 v49 <| gh fun _ =>
          sh13_3 ω x9 Kn0 K))
    (sh13_5 ω p0 p1 p4 p5 p7 p8 K)
def sh13 (ω : Om) (a0 : Value) (a1 : Value) (K : Value → M) : M :=
  Cal Tryz.prog ω 46 #[a1] <| gh fun v1 =>
  Pv (unV .not v1) fun v2 =>
  Br v2
    (K (Value.tuple #[(Value.pointer none), (Value.int .i64 1)]))
    (Pv (nilV a0) fun v3 =>
    Pv (fldV 2 v3) fun v4 =>
    Rv none (ldNR 2 v4) fun v5 =>
    Pv (bldV #[(Value.slice none 0 0), (Value.slice none 0 0), (Value.int .i64 0), (Value.int .i64 0)] #[(0, 1), (1, 1), (2, 2)] [(2, v5)]) fun v6 =>
    New (.cells (Value.cells v6) 32 (0, 0)) <| gh fun v7 =>
    Pv (nilV a0) fun v8 =>
    Pv (fldV 2 v8) fun v9 =>
    Rv none (ldNR 2 v9) fun v10 =>
    Pv (bldV #[(Value.slice none 0 0), (Value.slice none 0 0), (Value.int .i64 0), (Value.int .i64 0)] #[(0, 1), (1, 1), (2, 2)] [(2, v10)]) fun v11 =>
    New (.cells (Value.cells v11) 32 (0, 0)) <| gh fun v12 =>
    LoopM (((Value.int .i64 0), ()) : Value × Unit) fun s Kn0 =>
    sh13_1 ω a0 a1 (Value.pointer none) (Value.int .i64 0) v7 v12 s.1 Kn0 K)
theorem sh13_eq (ω : Om) (a0 a1 : Value) (K : Value → M) : vcF Tryz.prog ω Tryz.f13 [a0, a1] K = sh13 ω a0 a1 K := by kernel_rfl
theorem cal13 {ω : Om} {a0 a1 : Value} {K : Value → M} {I : Imm} {L : LH} (h : sh13 ω a0 a1 (fun v => Gh (K v)) I L) : Cal Tryz.prog ω 13 #[a0, a1] K I L :=
  Cal.gh (cal_of_vc mixed Tryz.func13 (by rw [sh13_eq]; exact h))
def sh14_5 (ω : Om) (p2 : Value) (p52 : Value) (p53 : Value) (x6 : Value) (x54 : Value) (Kn1 : (Value × Value × Unit) → M) (K : Value → M) : M :=
  Pv (binIV .lss x54 p53) fun v34 =>
  Br v34
    (Pv (ixV 3 p52 x54) fun v35 =>
    Rv none (ldNR 3 v35) fun v36 =>
    New (.cells #[(Value.bool false), (Value.slice none 0 0), (Value.slice none 0 0)] 78 (0, 0)) <| gh fun x_37 =>
    Sto 3 x_37 v36 <| gh fun _ =>
    Pv (fldV 1 x_37) fun v38 =>
    Rv none (ld1R v38) fun v39 =>
    Pv (fldV 2 x_37) fun v40 =>
    Rv none (ld1R v40) fun v41 =>
    Pv (bldV #[(Value.slice none 0 0), (Value.slice none 0 0)] #[(0, 1), (1, 1)] [(0, v39), (1, v41)]) fun v42 =>
    BldS 86 2 #[(Value.slice none 0 0), (Value.slice none 0 0)] 1 [(0, v42)] <| gh fun v43 =>
    App 86 2 48 #[(Value.slice none 0 0), (Value.slice none 0 0)] x6 v43 <| gh fun v44 =>
    Pv (binIV .add x54 (Value.int .i64 1)) fun v45 =>
    Kn1 (v44, v45, ()))
    (K x6)
def sh14_4 (ω : Om) (p2 : Value) (p3 : Value) (K : Value → M) : M :=
  Cal Tryz.prog ω 8 #[p3] <| gh fun v32 =>
  Pv (lenV v32) fun v33 =>
  LoopM (((Value.slice none 0 0), (Value.int .i64 0), ()) : Value × Value × Unit) fun s Kn1 =>
  sh14_5 ω p2 v32 v33 s.1 s.2.1 Kn1 K
def sh14_2 (ω : Om) (p2 : Value) (p3 : Value) (p35 : Value) (p36 : Value) (x37 : Value) (Kn0 : (Value × Unit) → M) (K : Value → M) : M :=
  Pv (binIV .lss x37 p36) fun v23 =>
  Br v23
    (Pv (ixV 1 p35 x37) fun v24 =>
    Rv none (ld1R v24) fun v25 =>
    Pv (nilV p3) fun v26 =>
    Pv (fldV 0 v26) fun v27 =>
    Rv none (ld1R v27) fun v28 =>
    Rv none (lkR .string (Value.pointer none) false v28 v25) fun v29 =>
    Cal Tryz.prog ω 45 #[p3, v25, v29, (Value.bool false)] <| gh fun v30 =>
    Pv (binIV .add x37 (Value.int .i64 1)) fun v31 =>
    Kn0 (v31, ()))
    (sh14_4 ω p2 p3 K)
def sh14_1 (ω : Om) (p2 : Value) (p3 : Value) (K : Value → M) : M :=
  Pv (nilV p3) fun v19 =>
  Pv (fldV 1 v19) fun v20 =>
  Rv none (ld1R v20) fun v21 =>
  Pv (lenV v21) fun v22 =>
  LoopM (((Value.int .i64 0), ()) : Value × Unit) fun s Kn0 =>
  sh14_2 ω p2 p3 v21 v22 s.1 Kn0 K
def sh14 (ω : Om) (a0 : Value) (K : Value → M) : M :=
  Draw fun S =>
    Pv (nilV a0) fun v1 =>
    Pv (fldV 0 v1) fun v2 =>
    Rv (some S) (ld1R v2) fun v3 =>
    Pv (nilV a0) fun v4 =>
    Pv (fldV 1 v4) fun v5 =>
    Rv (some S) (ld1R v5) fun v6 =>
    Pv (nilV a0) fun v7 =>
    Pv (fldV 2 v7) fun v8 =>
    Rv (some S) (ldNR 2 v8) fun v9 =>
    NewM <| gh <| Keep S fun v10 =>
    Pv (bldV #[(Value.map none), (Value.slice none 0 0), (Value.int .i64 0), (Value.int .i64 0), (Value.map none)] #[(0, 1), (1, 1), (2, 2), (4, 1)] [(0, v3), (1, v6), (2, v9), (3, v10)]) fun v11 =>
    New (.cells (Value.cells v11) 66 (0, 0)) <| gh fun v12 =>
    Pv (nilV v12) fun v13 =>
    Pv (fldV 2 v13) fun v14 =>
    Rv none (ldNR 2 v14) fun v15 =>
    Pv (bldV #[(Value.int .i64 0), (Value.int .i64 0)] #[(0, 1), (1, 1)] []) fun v16 =>
    Pv (binAV .neq [(TypeDesc.int .i64, 0), (TypeDesc.int .i64, 1)] v15 v16) fun v17 =>
    Br v17
      (Cal Tryz.prog ω 42 #[v12] <| gh fun v18 =>
      sh14_1 ω (Value.slice none 0 0) v12 K)
      (sh14_1 ω (Value.slice none 0 0) v12 K)
theorem sh14_eq (ω : Om) (a0 : Value) (K : Value → M) : vcF Tryz.prog ω Tryz.f14 [a0] K = sh14 ω a0 K := by kernel_rfl
theorem cal14 {ω : Om} {a0 : Value} {K : Value → M} {I : Imm} {L : LH} (h : sh14 ω a0 (fun v => Gh (K v)) I L) : Cal Tryz.prog ω 14 #[a0] K I L :=
  Cal.gh (cal_of_vc mixed Tryz.func14 (by rw [sh14_eq]; exact h))
def sh15_1 (ω : Om) (p4 : Value) (p5 : Value) (p6 : Value) (K : Value → M) : M :=
  Pv (bldV #[(Value.int .i64 0), (Value.int .i64 0)] #[(0, 1), (1, 1)] []) fun v25 =>
  Sto 2 p4 v25 <| gh fun _ =>
  Rv none (ldNR 2 p4) fun v26 =>
  K (Value.tuple #[v26, (Value.int .i64 0), (Value.int .i64 1)])
def sh15_4 (ω : Om) (p4 : Value) (p5 : Value) (p6 : Value) (p8 : Value) (K : Value → M) : M :=
  DrawW [p4] fun S =>
    Pv (bldV #[(Value.int .i64 0), (Value.int .i64 0)] #[(0, 1), (1, 1)] []) fun v58 =>
    Pv (nilV p8) fun v59 =>
    Pv (fldV 1 v59) fun v60 =>
    Pv (fldV 4 v60) fun v61 =>
    Rv (some S) (ld1R v61) fun v62 =>
    Sto 2 p4 v58 <| gh <| Keep S fun _ =>
    Rv none (ldNR 2 p4) fun v63 =>
    K (Value.tuple #[v63, v62, (Value.int .i64 130)])
def sh15_8 (ω : Om) (p0 : Value) (p3 : Value) (p4 : Value) (p5 : Value) (p6 : Value) (p7 : Value) (K : Value → M) : M :=
  Pv (fldV 0 p3) fun v111 =>
  Rv none (ld1R v111) fun v112 =>
  Rv none (bsR v112) fun v113 =>
  Cal Tryz.prog ω 51 #[p0, v113] <| gh fun v114 =>
  Rv none (ldNR 2 p7) fun v115 =>
  Pv (fldV 4 p3) fun v116 =>
  Rv none (ld1R v116) fun v117 =>
  Pv (fldV 5 p3) fun v118 =>
  Rv none (ld1R v118) fun v119 =>
  Rv none (bsR v119) fun v120 =>
  Pv (bldV #[(Value.int .i64 0), (Value.int .i64 0), (Value.bool false), (Value.string (ByteArray.mk #[]))] #[(0, 2), (2, 1), (3, 1)] [(0, v115), (1, v117), (2, v120)]) fun v121 =>
  Pv (fldV 1 p3) fun v122 =>
  Rv none (ld1R v122) fun v123 =>
  Pv (bldV #[(Value.int .i64 0), (Value.int .i64 0), (Value.bool false), (Value.string (ByteArray.mk #[])), (Value.int .i64 0)] #[(0, 4), (4, 1)] [(0, v121), (1, v123)]) fun v124 =>
  Pv (nilV v114) fun v125 =>
  Pv (fldV 1 v125) fun v126 =>
  Sto 5 v126 v124 <| gh fun _ =>
  Pv (fldV 0 p3) fun v127 =>
  Rv none (ld1R v127) fun v128 =>
  Rv none (bsR v128) fun v129 =>
  Cal Tryz.prog ω 52 #[p0, v129] <| gh fun v130 =>
  Rv none (ldNR 2 p7) fun v131 =>
  Sto 2 p4 v131 <| gh fun _ =>
  Rv none (ldNR 2 p4) fun v132 =>
  K (Value.tuple #[v132, (Value.int .i64 0), (Value.int .i64 0)])
def sh15_7 (ω : Om) (p0 : Value) (p3 : Value) (p4 : Value) (p5 : Value) (p6 : Value) (p7 : Value) (p8 : Value) (p9 : Value) (K : Value → M) : M :=
  Pv (nilV p8) fun v96 =>
  Pv (fldV 0 v96) fun v97 =>
  Rv none (ld1R v97) fun v98 =>
  Pv (binIV .sub p9 (Value.int .i64 1)) fun v99 =>
  Pv (ixV 4 v98 v99) fun v100 =>
  Pv (fldV 0 v100) fun v101 =>
  Rv none (ldNR 2 v101) fun v102 =>
  Cal Tryz.prog ω 50 #[v102] <| gh fun v103 =>
  Pv (exV v103 0) fun v104 =>
  Pv (exV v103 1) fun v105 =>
  New (.cells #[(Value.int .i64 0), (Value.int .i64 0)] 30 (0, 0)) <| gh fun next_106 =>
  Sto 2 next_106 v104 <| gh fun _ =>
  Pv (binIV .neq v105 (Value.int .i64 0)) fun v107 =>
  Br v107
    (Pv (bldV #[(Value.int .i64 0), (Value.int .i64 0)] #[(0, 1), (1, 1)] []) fun v108 =>
    Sto 2 p4 v108 <| gh fun _ =>
    Rv none (ldNR 2 p4) fun v109 =>
    K (Value.tuple #[v109, (Value.int .i64 0), v105]))
    (Rv none (ldNR 2 next_106) fun v110 =>
    Sto 2 p7 v110 <| gh fun _ =>
    sh15_8 ω p0 p3 p4 p5 p6 p7 K)
def sh15_6 (ω : Om) (p0 : Value) (p3 : Value) (p4 : Value) (p5 : Value) (p6 : Value) (p7 : Value) (p8 : Value) (K : Value → M) : M :=
  Pv (nilV p8) fun v81 =>
  Pv (fldV 0 v81) fun v82 =>
  Rv none (ld1R v82) fun v83 =>
  Pv (lenV v83) fun v84 =>
  Draw fun S =>
    Pv (binIV .gtr v84 (Value.int .i64 0)) fun v85 =>
    Gd v85 true
      (Rv (some S) (ldNR 2 p7) fun v86 =>
      Pv (nilV p8) fun v87 =>
      Pv (fldV 0 v87) fun v88 =>
      Rv (some S) (ld1R v88) fun v89 =>
      Pv (binIV .sub v84 (Value.int .i64 1)) fun v90 =>
      Pv (ixV 4 v89 v90) fun v91 =>
      Pv (fldV 0 v91) fun v92 =>
      Rv (some S) (ldNR 2 v92) fun v93 =>
      Cal Tryz.prog ω 49 #[v86, v93] <| gh fun v94 =>
      Pv (unV .not v94) fun v95 =>
      Br v95
        (sh15_7 ω p0 p3 p4 p5 p6 p7 p8 v84 K)
        (sh15_8 ω p0 p3 p4 p5 p6 p7 K))
      (sh15_8 ω p0 p3 p4 p5 p6 p7 K)
def sh15_5 (ω : Om) (p0 : Value) (p3 : Value) (p4 : Value) (p5 : Value) (p6 : Value) (p7 : Value) (p8 : Value) (K : Value → M) : M :=
  Pv (nilV p8) fun v76 =>
  Pv (fldV 1 v76) fun v77 =>
  Pv (fldV 0 v77) fun v78 =>
  Pv (fldV 0 v78) fun v79 =>
  Rv none (ldNR 2 v79) fun v80 =>
  Sto 2 p7 v80 <| gh fun _ =>
  sh15_6 ω p0 p3 p4 p5 p6 p7 p8 K
def sh15_3 (ω : Om) (p0 : Value) (p3 : Value) (p4 : Value) (p5 : Value) (p6 : Value) (p7 : Value) (K : Value → M) : M :=
  Draw fun S =>
    Pv (nilV p0) fun v38 =>
    Pv (fldV 0 v38) fun v39 =>
    Rv (some S) (ld1R v39) fun v40 =>
    Pv (fldV 0 p3) fun v41 =>
    Rv (some S) (ld1R v41) fun v42 =>
    Rv (some S) (bsR v42) fun v43 =>
    Rv (some S) (lkR .string (Value.pointer none) false v40 v43) fun v44 =>
    Pv (binPV .neq v44 (Value.pointer none)) fun v45 =>
    Br v45
      (Draw fun S =>
        Pv (nilV v44) fun v46 =>
        Pv (fldV 1 v46) fun v47 =>
        Pv (fldV 4 v47) fun v48 =>
        Rv (some S) (ld1R v48) fun v49 =>
        Pv (binIV .neq v49 (Value.int .i64 0)) fun v50 =>
        Gd v50 true
          (Pv (nilV v44) fun v51 =>
          Pv (fldV 1 v51) fun v52 =>
          Pv (fldV 4 v52) fun v53 =>
          Rv (some S) (ld1R v53) fun v54 =>
          Pv (fldV 1 p3) fun v55 =>
          Rv (some S) (ld1R v55) fun v56 =>
          Pv (binIV .neq v54 v56) fun v57 =>
          Br v57
            (sh15_4 ω p4 p5 p6 v44 K)
            (Draw fun S =>
              Pv (nilV v44) fun v64 =>
              Pv (fldV 1 v64) fun v65 =>
              Pv (fldV 4 v65) fun v66 =>
              Rv (some S) (ld1R v66) fun v67 =>
              Pv (binIV .neq v67 (Value.int .i64 0)) fun v68 =>
              Gd v68 true
                (Pv (nilV v44) fun v69 =>
                Pv (fldV 1 v69) fun v70 =>
                Pv (fldV 0 v70) fun v71 =>
                Pv (fldV 0 v71) fun v72 =>
                Rv (some S) (ldNR 2 v72) fun v73 =>
                Rv (some S) (ldNR 2 p7) fun v74 =>
                Cal Tryz.prog ω 49 #[v73, v74] <| gh fun v75 =>
                Br v75
                  (sh15_5 ω p0 p3 p4 p5 p6 p7 v44 K)
                  (sh15_6 ω p0 p3 p4 p5 p6 p7 v44 K))
                (sh15_6 ω p0 p3 p4 p5 p6 p7 v44 K)))
          (Draw fun S =>
            Pv (nilV v44) fun v133 =>
            Pv (fldV 1 v133) fun v134 =>
            Pv (fldV 4 v134) fun v135 =>
            Rv (some S) (ld1R v135) fun v136 =>
            Pv (binIV .neq v136 (Value.int .i64 0)) fun v137 =>
            Gd v137 true
              (Pv (nilV v44) fun v138 =>
              Pv (fldV 1 v138) fun v139 =>
              Pv (fldV 0 v139) fun v140 =>
              Pv (fldV 0 v140) fun v141 =>
              Rv (some S) (ldNR 2 v141) fun v142 =>
              Rv (some S) (ldNR 2 p7) fun v143 =>
              Cal Tryz.prog ω 49 #[v142, v143] <| gh fun v144 =>
              Br v144
                (sh15_5 ω p0 p3 p4 p5 p6 p7 v44 K)
                (sh15_6 ω p0 p3 p4 p5 p6 p7 v44 K))
              (sh15_6 ω p0 p3 p4 p5 p6 p7 v44 K)))
      (sh15_8 ω p0 p3 p4 p5 p6 p7 K)
def sh15_2 (ω : Om) (p0 : Value) (p3 : Value) (p4 : Value) (p5 : Value) (p6 : Value) (p7 : Value) (K : Value → M) : M :=
  Pv (nilV p0) fun v35 =>
  Pv (fldV 2 v35) fun v36 =>
  Rv none (ldNR 2 v36) fun v37 =>
  Sto 2 p7 v37 <| gh fun _ =>
  sh15_3 ω p0 p3 p4 p5 p6 p7 K
def sh15 (ω : Om) (a0 : Value) (a1 : Value) (K : Value → M) : M :=
  New (.cells (Value.cells a1) 37 (0, 0)) <| gh fun x_1 =>
  New (.cells #[(Value.int .i64 0), (Value.int .i64 0)] 30 (0, 0)) <| gh fun v2 =>
  Pv (fldV 0 x_1) fun v3 =>
  Rv none (ld1R v3) fun v4 =>
  Cal Tryz.prog ω 41 #[v4] <| gh fun v5 =>
  Pv (unV .not v5) fun v6 =>
  Gd v6 false
    (Pv (fldV 1 x_1) fun v7 =>
    Rv none (ld1R v7) fun v8 =>
    Cal Tryz.prog ω 47 #[v8] <| gh fun v9 =>
    Pv (unV .not v9) fun v10 =>
    Gd v10 false
      (Pv (fldV 2 x_1) fun v11 =>
      Rv none (ldNR 2 v11) fun v12 =>
      Cal Tryz.prog ω 48 #[v12] <| gh fun v13 =>
      Pv (unV .not v13) fun v14 =>
      Gd v14 false
        (Pv (fldV 5 x_1) fun v15 =>
        Rv none (ld1R v15) fun v16 =>
        Pv (lenV v16) fun v17 =>
        Pv (binIV .gtr v17 (Value.int .i64 10000)) fun v18 =>
        Gd v18 false
          (Pv (fldV 4 x_1) fun v19 =>
          Rv none (ld1R v19) fun v20 =>
          Gd v20 true
            (Pv (fldV 5 x_1) fun v21 =>
            Rv none (ld1R v21) fun v22 =>
            Pv (lenV v22) fun v23 =>
            Pv (binIV .gtr v23 (Value.int .i64 0)) fun v24 =>
            Br v24
              (sh15_1 ω v2 (Value.int .i64 0) (Value.int .i64 0) K)
              (Pv (fldV 2 x_1) fun v27 =>
              Rv none (ldNR 2 v27) fun v28 =>
              New (.cells #[(Value.int .i64 0), (Value.int .i64 0)] 30 (0, 0)) <| gh fun at_29 =>
              Sto 2 at_29 v28 <| gh fun _ =>
              Draw fun S =>
                Pv (nilV a0) fun v30 =>
                Pv (fldV 2 v30) fun v31 =>
                Rv (some S) (ldNR 2 v31) fun v32 =>
                Rv (some S) (ldNR 2 at_29) fun v33 =>
                Cal Tryz.prog ω 49 #[v32, v33] <| gh fun v34 =>
                Br v34
                  (sh15_2 ω a0 x_1 v2 (Value.int .i64 0) (Value.int .i64 0) at_29 K)
                  (sh15_3 ω a0 x_1 v2 (Value.int .i64 0) (Value.int .i64 0) at_29 K)))
            (Pv (fldV 2 x_1) fun v145 =>
            Rv none (ldNR 2 v145) fun v146 =>
            New (.cells #[(Value.int .i64 0), (Value.int .i64 0)] 30 (0, 0)) <| gh fun at_147 =>
            Sto 2 at_147 v146 <| gh fun _ =>
            Draw fun S =>
              Pv (nilV a0) fun v148 =>
              Pv (fldV 2 v148) fun v149 =>
              Rv (some S) (ldNR 2 v149) fun v150 =>
              Rv (some S) (ldNR 2 at_147) fun v151 =>
              Cal Tryz.prog ω 49 #[v150, v151] <| gh fun v152 =>
              Br v152
                (sh15_2 ω a0 x_1 v2 (Value.int .i64 0) (Value.int .i64 0) at_147 K)
                (sh15_3 ω a0 x_1 v2 (Value.int .i64 0) (Value.int .i64 0) at_147 K)))
          (sh15_1 ω v2 (Value.int .i64 0) (Value.int .i64 0) K))
        (sh15_1 ω v2 (Value.int .i64 0) (Value.int .i64 0) K))
      (sh15_1 ω v2 (Value.int .i64 0) (Value.int .i64 0) K))
    (sh15_1 ω v2 (Value.int .i64 0) (Value.int .i64 0) K)
theorem sh15_eq (ω : Om) (a0 a1 : Value) (K : Value → M) : vcF Tryz.prog ω Tryz.f15 [a0, a1] K = sh15 ω a0 a1 K := by kernel_rfl
theorem cal15 {ω : Om} {a0 a1 : Value} {K : Value → M} {I : Imm} {L : LH} (h : sh15 ω a0 a1 (fun v => Gh (K v)) I L) : Cal Tryz.prog ω 15 #[a0, a1] K I L :=
  Cal.gh (cal_of_vc mixed Tryz.func15 (by rw [sh15_eq]; exact h))
def sh16_1 (ω : Om) (p0 : Value) (p3 : Value) (p6 : Value) (p8 : Value) (p9 : Value) (p10 : Value) (p18 : Value) (K : Value → M) : M :=
  Br p18
    (Pv (bldV #[(Value.bool false), (Value.slice none 0 0), (Value.int .i64 0), (Value.int .i64 0), (Value.int .i64 0)] #[(0, 1), (1, 1), (2, 2), (4, 1)] []) fun v10 =>
    Sto 5 p8 v10 <| gh fun _ =>
    Rv none (ldNR 5 p8) fun v11 =>
    K (Value.tuple #[v11, (Value.int .i64 1)]))
    (Draw fun S =>
      Pv (nilV p0) fun v12 =>
      Pv (fldV 2 v12) fun v13 =>
      Rv (some S) (ldNR 2 v13) fun v14 =>
      Rv (some S) (ldNR 2 p6) fun v15 =>
      Cal Tryz.prog ω 49 #[v14, v15] <| gh fun v16 =>
      Br v16
        (Pv (bldV #[(Value.bool false), (Value.slice none 0 0), (Value.int .i64 0), (Value.int .i64 0), (Value.int .i64 0)] #[(0, 1), (1, 1), (2, 2), (4, 1)] []) fun v17 =>
        Sto 5 p8 v17 <| gh fun _ =>
        Rv none (ldNR 5 p8) fun v18 =>
        K (Value.tuple #[v18, (Value.int .i64 131)]))
        (Pv (binPV .eql p10 (Value.pointer none)) fun v19 =>
        Br v19
          (Pv (bldV #[(Value.bool false), (Value.slice none 0 0), (Value.int .i64 0), (Value.int .i64 0), (Value.int .i64 0)] #[(0, 1), (1, 1), (2, 2), (4, 1)] []) fun v20 =>
          Sto 5 p8 v20 <| gh fun _ =>
          Rv none (ldNR 5 p8) fun v21 =>
          K (Value.tuple #[v21, (Value.int .i64 0)]))
          (Rv none (ldNR 2 p6) fun v22 =>
          Cal Tryz.prog ω 54 #[p10, v22, p3] <| gh fun v23 =>
          Pv (exV v23 0) fun v24 =>
          Pv (exV v23 1) fun v25 =>
          Sto 5 p8 v24 <| gh fun _ =>
          Rv none (ldNR 5 p8) fun v26 =>
          K (Value.tuple #[v26, v25]))))
def sh16 (ω : Om) (a0 : Value) (a1 : Value) (a2 : Value) (a3 : Value) (K : Value → M) : M :=
  New (.cells (Value.cells a2) 30 (0, 0)) <| gh fun at_1 =>
  New (.cells #[(Value.bool false), (Value.slice none 0 0), (Value.int .i64 0), (Value.int .i64 0), (Value.int .i64 0)] 59 (0, 0)) <| gh fun v2 =>
  Draw fun S =>
    Pv (nilV a0) fun v3 =>
    Pv (fldV 0 v3) fun v4 =>
    Rv (some S) (ld1R v4) fun v5 =>
    Rv (some S) (bsR a1) fun v6 =>
    Rv (some S) (lkR .string (Value.pointer none) false v5 v6) fun v7 =>
    Cal Tryz.prog ω 41 #[a1] <| gh fun v8 =>
    Pv (unV .not v8) fun v9 =>
    Br v9
      (sh16_1 ω a0 a3 at_1 v2 (Value.int .i64 0) v7 v9 K)
      (Rv none (ldNR 2 at_1) fun v27 =>
      Cal Tryz.prog ω 53 #[v27, a3] <| gh fun v28 =>
      Pv (unV .not v28) fun v29 =>
      sh16_1 ω a0 a3 at_1 v2 (Value.int .i64 0) v7 v29 K)
theorem sh16_eq (ω : Om) (a0 a1 a2 a3 : Value) (K : Value → M) : vcF Tryz.prog ω Tryz.f16 [a0, a1, a2, a3] K = sh16 ω a0 a1 a2 a3 K := by kernel_rfl
theorem cal16 {ω : Om} {a0 a1 a2 a3 : Value} {K : Value → M} {I : Imm} {L : LH} (h : sh16 ω a0 a1 a2 a3 (fun v => Gh (K v)) I L) : Cal Tryz.prog ω 16 #[a0, a1, a2, a3] K I L :=
  Cal.gh (cal_of_vc mixed Tryz.func16 (by rw [sh16_eq]; exact h))
def sh17_1 (ω : Om) (p4 : Value) (p5 : Value) (p6 : Value) (K : Value → M) : M :=
  Pv (bldV #[(Value.int .i64 0), (Value.int .i64 0)] #[(0, 1), (1, 1)] []) fun v25 =>
  Sto 2 p4 v25 <| gh fun _ =>
  Rv none (ldNR 2 p4) fun v26 =>
  K (Value.tuple #[v26, (Value.int .i64 0), (Value.int .i64 1)])
def sh17_2 (ω : Om) (p4 : Value) (p5 : Value) (p6 : Value) (p10 : Value) (K : Value → M) : M :=
  DrawW [p4] fun S =>
    Pv (bldV #[(Value.int .i64 0), (Value.int .i64 0)] #[(0, 1), (1, 1)] []) fun v38 =>
    Pv (fldV 1 p10) fun v39 =>
    Rv (some S) (ld1R v39) fun v40 =>
    Sto 2 p4 v38 <| gh <| Keep S fun _ =>
    Rv none (ldNR 2 p4) fun v41 =>
    K (Value.tuple #[v41, v40, (Value.int .i64 130)])
def sh17_8 (ω : Om) (p0 : Value) (p3 : Value) (p4 : Value) (p5 : Value) (p6 : Value) (K : Value → M) : M :=
  Rv none (ldNR 6 p3) fun v83 =>
  Cal Tryz.prog ω 61 #[p0, v83] <| gh fun v84 =>
  Pv (fldV 2 p3) fun v85 =>
  Rv none (ldNR 2 v85) fun v86 =>
  Sto 2 p4 v86 <| gh fun _ =>
  Rv none (ldNR 2 p4) fun v87 =>
  K (Value.tuple #[v87, (Value.int .i64 0), (Value.int .i64 0)])
def sh17_7 (ω : Om) (p0 : Value) (p3 : Value) (p4 : Value) (p5 : Value) (p6 : Value) (p14 : Value) (K : Value → M) : M :=
  Pv (fldV 1 p14) fun v72 =>
  Rv none (ldNR 2 v72) fun v73 =>
  Cal Tryz.prog ω 60 #[v73] <| gh fun v74 =>
  Pv (exV v74 0) fun v75 =>
  Pv (exV v74 1) fun v76 =>
  New (.cells #[(Value.int .i64 0), (Value.int .i64 0)] 30 (0, 0)) <| gh fun next_77 =>
  Sto 2 next_77 v75 <| gh fun _ =>
  Pv (binIV .neq v76 (Value.int .i64 0)) fun v78 =>
  Br v78
    (Pv (bldV #[(Value.int .i64 0), (Value.int .i64 0)] #[(0, 1), (1, 1)] []) fun v79 =>
    Sto 2 p4 v79 <| gh fun _ =>
    Rv none (ldNR 2 p4) fun v80 =>
    K (Value.tuple #[v80, (Value.int .i64 0), v76]))
    (Rv none (ldNR 2 next_77) fun v81 =>
    Pv (fldV 2 p3) fun v82 =>
    Sto 2 v82 v81 <| gh fun _ =>
    sh17_8 ω p0 p3 p4 p5 p6 K)
def sh17_6 (ω : Om) (p0 : Value) (p3 : Value) (p4 : Value) (p5 : Value) (p6 : Value) (K : Value → M) : M :=
  Pv (fldV 0 p3) fun v60 =>
  Rv none (ld1R v60) fun v61 =>
  Cal Tryz.prog ω 59 #[p0, v61] <| gh fun v62 =>
  Pv (exV v62 0) fun v63 =>
  Pv (exV v62 1) fun v64 =>
  New (.cells #[(Value.slice none 0 0), (Value.int .i64 0), (Value.int .i64 0), (Value.bool false), (Value.slice none 0 0)] 99 (0, 0)) <| gh fun v_65 =>
  Sto 5 v_65 v63 <| gh fun _ =>
  Pv (fldV 2 p3) fun v66 =>
  Rv none (ldNR 2 v66) fun v67 =>
  Pv (fldV 1 v_65) fun v68 =>
  Rv none (ldNR 2 v68) fun v69 =>
  Cal Tryz.prog ω 58 #[v67, v69] <| gh fun v70 =>
  Gd v64 true
    (Pv (unV .not v70) fun v71 =>
    Br v71
      (sh17_7 ω p0 p3 p4 p5 p6 v_65 K)
      (sh17_8 ω p0 p3 p4 p5 p6 K))
    (sh17_8 ω p0 p3 p4 p5 p6 K)
def sh17_5 (ω : Om) (p0 : Value) (p3 : Value) (p4 : Value) (p5 : Value) (p6 : Value) (p10 : Value) (K : Value → M) : M :=
  Pv (fldV 2 p10) fun v57 =>
  Rv none (ldNR 2 v57) fun v58 =>
  Pv (fldV 2 p3) fun v59 =>
  Sto 2 v59 v58 <| gh fun _ =>
  sh17_6 ω p0 p3 p4 p5 p6 K
def sh17_4 (ω : Om) (p0 : Value) (p3 : Value) (p4 : Value) (p5 : Value) (p6 : Value) (p10 : Value) (p11 : Value) (K : Value → M) : M :=
  Pv (fldV 2 p10) fun v52 =>
  Rv none (ldNR 2 v52) fun v53 =>
  Pv (fldV 2 p3) fun v54 =>
  Rv none (ldNR 2 v54) fun v55 =>
  Cal Tryz.prog ω 58 #[v53, v55] <| gh fun v56 =>
  Gd p11 true
    (Br v56
      (sh17_5 ω p0 p3 p4 p5 p6 p10 K)
      (sh17_6 ω p0 p3 p4 p5 p6 K))
    (sh17_6 ω p0 p3 p4 p5 p6 K)
def sh17_3 (ω : Om) (p0 : Value) (p3 : Value) (p4 : Value) (p5 : Value) (p6 : Value) (p10 : Value) (p11 : Value) (K : Value → M) : M :=
  Pv (nilV p0) fun v48 =>
  Pv (fldV 2 v48) fun v49 =>
  Rv none (ldNR 2 v49) fun v50 =>
  Pv (fldV 2 p3) fun v51 =>
  Sto 2 v51 v50 <| gh fun _ =>
  sh17_4 ω p0 p3 p4 p5 p6 p10 p11 K
def sh17 (ω : Om) (a0 : Value) (a1 : Value) (K : Value → M) : M :=
  New (.cells (Value.cells a1) 37 (0, 0)) <| gh fun x_1 =>
  New (.cells #[(Value.int .i64 0), (Value.int .i64 0)] 30 (0, 0)) <| gh fun v2 =>
  Pv (fldV 0 x_1) fun v3 =>
  Rv none (ld1R v3) fun v4 =>
  Cal Tryz.prog ω 46 #[v4] <| gh fun v5 =>
  Pv (fldV 1 x_1) fun v6 =>
  Rv none (ld1R v6) fun v7 =>
  Cal Tryz.prog ω 55 #[v7] <| gh fun v8 =>
  Pv (fldV 2 x_1) fun v9 =>
  Rv none (ldNR 2 v9) fun v10 =>
  Cal Tryz.prog ω 56 #[v10] <| gh fun v11 =>
  Pv (unV .not v5) fun v12 =>
  Gd v12 false
    (Pv (unV .not v8) fun v13 =>
    Gd v13 false
      (Pv (unV .not v11) fun v14 =>
      Gd v14 false
        (Pv (fldV 5 x_1) fun v15 =>
        Rv none (ld1R v15) fun v16 =>
        Pv (lenV v16) fun v17 =>
        Pv (binIV .gtr v17 (Value.int .i64 10000)) fun v18 =>
        Gd v18 false
          (Pv (fldV 4 x_1) fun v19 =>
          Rv none (ld1R v19) fun v20 =>
          Gd v20 true
            (Pv (fldV 5 x_1) fun v21 =>
            Rv none (ld1R v21) fun v22 =>
            Pv (lenV v22) fun v23 =>
            Pv (binIV .gtr v23 (Value.int .i64 0)) fun v24 =>
            Br v24
              (sh17_1 ω v2 (Value.int .i64 0) (Value.int .i64 0) K)
              (Pv (fldV 0 x_1) fun v27 =>
              Rv none (ld1R v27) fun v28 =>
              Cal Tryz.prog ω 57 #[a0, v28] <| gh fun v29 =>
              Pv (exV v29 0) fun v30 =>
              Pv (exV v29 1) fun v31 =>
              New (.cells #[(Value.slice none 0 0), (Value.int .i64 0), (Value.int .i64 0), (Value.int .i64 0), (Value.bool false), (Value.slice none 0 0)] 37 (0, 0)) <| gh fun own_32 =>
              Sto 6 own_32 v30 <| gh fun _ =>
              Gd v31 true
                (Pv (fldV 1 own_32) fun v33 =>
                Rv none (ld1R v33) fun v34 =>
                Pv (fldV 1 x_1) fun v35 =>
                Rv none (ld1R v35) fun v36 =>
                Pv (binIV .neq v34 v36) fun v37 =>
                Br v37
                  (sh17_2 ω v2 (Value.int .i64 0) (Value.int .i64 0) own_32 K)
                  (Draw fun S =>
                    Pv (nilV a0) fun v42 =>
                    Pv (fldV 2 v42) fun v43 =>
                    Rv (some S) (ldNR 2 v43) fun v44 =>
                    Pv (fldV 2 x_1) fun v45 =>
                    Rv (some S) (ldNR 2 v45) fun v46 =>
                    Cal Tryz.prog ω 58 #[v44, v46] <| gh fun v47 =>
                    Br v47
                      (sh17_3 ω a0 x_1 v2 (Value.int .i64 0) (Value.int .i64 0) own_32 v31 K)
                      (sh17_4 ω a0 x_1 v2 (Value.int .i64 0) (Value.int .i64 0) own_32 v31 K)))
                (Draw fun S =>
                  Pv (nilV a0) fun v88 =>
                  Pv (fldV 2 v88) fun v89 =>
                  Rv (some S) (ldNR 2 v89) fun v90 =>
                  Pv (fldV 2 x_1) fun v91 =>
                  Rv (some S) (ldNR 2 v91) fun v92 =>
                  Cal Tryz.prog ω 58 #[v90, v92] <| gh fun v93 =>
                  Br v93
                    (sh17_3 ω a0 x_1 v2 (Value.int .i64 0) (Value.int .i64 0) own_32 v31 K)
                    (sh17_4 ω a0 x_1 v2 (Value.int .i64 0) (Value.int .i64 0) own_32 v31 K))))
            (Pv (fldV 0 x_1) fun v94 =>
            Rv none (ld1R v94) fun v95 =>
            Cal Tryz.prog ω 57 #[a0, v95] <| gh fun v96 =>
            Pv (exV v96 0) fun v97 =>
            Pv (exV v96 1) fun v98 =>
            New (.cells #[(Value.slice none 0 0), (Value.int .i64 0), (Value.int .i64 0), (Value.int .i64 0), (Value.bool false), (Value.slice none 0 0)] 37 (0, 0)) <| gh fun own_99 =>
            Sto 6 own_99 v97 <| gh fun _ =>
            Gd v98 true
              (Pv (fldV 1 own_99) fun v100 =>
              Rv none (ld1R v100) fun v101 =>
              Pv (fldV 1 x_1) fun v102 =>
              Rv none (ld1R v102) fun v103 =>
              Pv (binIV .neq v101 v103) fun v104 =>
              Br v104
                (sh17_2 ω v2 (Value.int .i64 0) (Value.int .i64 0) own_99 K)
                (Draw fun S =>
                  Pv (nilV a0) fun v105 =>
                  Pv (fldV 2 v105) fun v106 =>
                  Rv (some S) (ldNR 2 v106) fun v107 =>
                  Pv (fldV 2 x_1) fun v108 =>
                  Rv (some S) (ldNR 2 v108) fun v109 =>
                  Cal Tryz.prog ω 58 #[v107, v109] <| gh fun v110 =>
                  Br v110
                    (sh17_3 ω a0 x_1 v2 (Value.int .i64 0) (Value.int .i64 0) own_99 v98 K)
                    (sh17_4 ω a0 x_1 v2 (Value.int .i64 0) (Value.int .i64 0) own_99 v98 K)))
              (Draw fun S =>
                Pv (nilV a0) fun v111 =>
                Pv (fldV 2 v111) fun v112 =>
                Rv (some S) (ldNR 2 v112) fun v113 =>
                Pv (fldV 2 x_1) fun v114 =>
                Rv (some S) (ldNR 2 v114) fun v115 =>
                Cal Tryz.prog ω 58 #[v113, v115] <| gh fun v116 =>
                Br v116
                  (sh17_3 ω a0 x_1 v2 (Value.int .i64 0) (Value.int .i64 0) own_99 v98 K)
                  (sh17_4 ω a0 x_1 v2 (Value.int .i64 0) (Value.int .i64 0) own_99 v98 K))))
          (sh17_1 ω v2 (Value.int .i64 0) (Value.int .i64 0) K))
        (sh17_1 ω v2 (Value.int .i64 0) (Value.int .i64 0) K))
      (sh17_1 ω v2 (Value.int .i64 0) (Value.int .i64 0) K))
    (sh17_1 ω v2 (Value.int .i64 0) (Value.int .i64 0) K)
theorem sh17_eq (ω : Om) (a0 a1 : Value) (K : Value → M) : vcF Tryz.prog ω Tryz.f17 [a0, a1] K = sh17 ω a0 a1 K := by kernel_rfl
theorem cal17 {ω : Om} {a0 a1 : Value} {K : Value → M} {I : Imm} {L : LH} (h : sh17 ω a0 a1 (fun v => Gh (K v)) I L) : Cal Tryz.prog ω 17 #[a0, a1] K I L :=
  Cal.gh (cal_of_vc mixed Tryz.func17 (by rw [sh17_eq]; exact h))
def sh18_5 (ω : Om) (p0 : Value) (p1 : Value) (p10 : Value) (p11 : Value) (K : Value → M) : M :=
  Rv none (bsR p1) fun v62 =>
  Cal Tryz.prog ω 63 #[p0, v62] <| gh fun v63 =>
  K (Value.tuple #[(Value.bool true), (Value.int .i64 0)])
def sh18_4 (ω : Om) (p0 : Value) (p1 : Value) (p9 : Value) (p10 : Value) (p11 : Value) (p12 : Value) (p13 : Value) (K : Value → M) : M :=
  Rv none (ldNR 2 p9) fun v49 =>
  Pv (fldV 0 p13) fun v50 =>
  Sto 2 v50 v49 <| gh fun _ =>
  Draw fun S =>
    Pv (nilV p12) fun v51 =>
    Pv (fldV 0 v51) fun v52 =>
    Rv (some S) (ld1R v52) fun v53 =>
    Rv (some S) (ldNR 4 p13) fun v54 =>
    BldS 104 4 #[(Value.int .i64 0), (Value.int .i64 0), (Value.bool false), (Value.string (ByteArray.mk #[]))] 1 [(0, v54)] <| gh <| Keep S fun v55 =>
    App 104 4 40 #[(Value.int .i64 0), (Value.int .i64 0), (Value.bool false), (Value.string (ByteArray.mk #[]))] v53 v55 <| gh fun v56 =>
    Pv (nilV p12) fun v57 =>
    Pv (fldV 0 v57) fun v58 =>
    Sto 1 v58 v56 <| gh fun _ =>
    Rv none (bsR p1) fun v59 =>
    Rv none (ldNR 4 p13) fun v60 =>
    Cal Tryz.prog ω 62 #[p0, v59, v60] <| gh fun v61 =>
    sh18_5 ω p0 p1 p10 p11 K
def sh18 (ω : Om) (a0 : Value) (a1 : Value) (a2 : Value) (a3 : Value) (a4 : Value) (K : Value → M) : M :=
  New (.cells (Value.cells a4) 30 (0, 0)) <| gh fun at_1 =>
  Cal Tryz.prog ω 41 #[a1] <| gh fun v2 =>
  Pv (unV .not v2) fun v3 =>
  Gd v3 false
    (Cal Tryz.prog ω 47 #[a2] <| gh fun v4 =>
    Pv (unV .not v4) fun v5 =>
    Gd v5 false
      (Gd a3 true
        (Rv none (ldNR 2 at_1) fun v6 =>
        Cal Tryz.prog ω 48 #[v6] <| gh fun v7 =>
        Pv (unV .not v7) fun v8 =>
        Br v8
          (K (Value.tuple #[(Value.bool false), (Value.int .i64 1)]))
          (Draw fun S =>
            Pv (nilV a0) fun v9 =>
            Pv (fldV 0 v9) fun v10 =>
            Rv (some S) (ld1R v10) fun v11 =>
            Rv (some S) (bsR a1) fun v12 =>
            Rv (some S) (lkR .string (Value.pointer none) false v11 v12) fun v13 =>
            Pv (binPV .eql v13 (Value.pointer none)) fun v14 =>
            Gd v14 false
              (Pv (nilV v13) fun v15 =>
              Pv (fldV 1 v15) fun v16 =>
              Pv (fldV 4 v16) fun v17 =>
              Rv none (ld1R v17) fun v18 =>
              Pv (binIV .neq v18 a2) fun v19 =>
              Br v19
                (K (Value.tuple #[(Value.bool false), (Value.int .i64 0)]))
                (Pv (nilV v13) fun v20 =>
                Pv (fldV 1 v20) fun v21 =>
                Pv (fldV 0 v21) fun v22 =>
                Rv none (ldNR 4 v22) fun v23 =>
                New (.cells #[(Value.int .i64 0), (Value.int .i64 0), (Value.bool false), (Value.string (ByteArray.mk #[]))] 104 (0, 0)) <| gh fun v_24 =>
                Sto 4 v_24 v23 <| gh fun _ =>
                Pv (nilV v13) fun v25 =>
                Pv (fldV 0 v25) fun v26 =>
                Rv none (ld1R v26) fun v27 =>
                Pv (lenV v27) fun v28 =>
                Draw fun S =>
                  Gd a3 true
                    (Pv (fldV 0 v_24) fun v29 =>
                    Rv (some S) (ldNR 2 v29) fun v30 =>
                    Rv (some S) (ldNR 2 at_1) fun v31 =>
                    Cal Tryz.prog ω 49 #[v30, v31] <| gh <| Keep S fun v32 =>
                    Gd v32 false
                      (Pv (binIV .gtr v28 (Value.int .i64 0)) fun v33 =>
                      Gd v33 true
                        (Rv (some S) (ldNR 2 at_1) fun v34 =>
                        Pv (nilV v13) fun v35 =>
                        Pv (fldV 0 v35) fun v36 =>
                        Rv (some S) (ld1R v36) fun v37 =>
                        Pv (binIV .sub v28 (Value.int .i64 1)) fun v38 =>
                        Pv (ixV 4 v37 v38) fun v39 =>
                        Pv (fldV 0 v39) fun v40 =>
                        Rv (some S) (ldNR 2 v40) fun v41 =>
                        Cal Tryz.prog ω 49 #[v34, v41] <| gh fun v42 =>
                        Pv (unV .not v42) fun v43 =>
                        Br v43
                          (K (Value.tuple #[(Value.bool false), (Value.int .i64 1)]))
                          (Pv (bldV #[(Value.int .i64 0), (Value.int .i64 0), (Value.bool false), (Value.string (ByteArray.mk #[])), (Value.int .i64 0)] #[(0, 4), (4, 1)] []) fun v44 =>
                          Pv (nilV v13) fun v45 =>
                          Pv (fldV 1 v45) fun v46 =>
                          Sto 5 v46 v44 <| gh fun _ =>
                          Rv none (bsR a1) fun v47 =>
                          Cal Tryz.prog ω 52 #[a0, v47] <| gh fun v48 =>
                          Br a3
                            (sh18_4 ω a0 a1 at_1 (Value.bool false) (Value.int .i64 0) v13 v_24 K)
                            (sh18_5 ω a0 a1 (Value.bool false) (Value.int .i64 0) K)))
                        (Pv (bldV #[(Value.int .i64 0), (Value.int .i64 0), (Value.bool false), (Value.string (ByteArray.mk #[])), (Value.int .i64 0)] #[(0, 4), (4, 1)] []) fun v64 =>
                        Pv (nilV v13) fun v65 =>
                        Pv (fldV 1 v65) fun v66 =>
                        Sto 5 v66 v64 <| gh fun _ =>
                        Rv none (bsR a1) fun v67 =>
                        Cal Tryz.prog ω 52 #[a0, v67] <| gh fun v68 =>
                        Br a3
                          (sh18_4 ω a0 a1 at_1 (Value.bool false) (Value.int .i64 0) v13 v_24 K)
                          (sh18_5 ω a0 a1 (Value.bool false) (Value.int .i64 0) K)))
                      (K (Value.tuple #[(Value.bool false), (Value.int .i64 1)])))
                    ((fun I L => S I L ∧ (Pv (bldV #[(Value.int .i64 0), (Value.int .i64 0), (Value.bool false), (Value.string (ByteArray.mk #[])), (Value.int .i64 0)] #[(0, 4), (4, 1)] []) fun v69 =>
                    Pv (nilV v13) fun v70 =>
                    Pv (fldV 1 v70) fun v71 =>
                    Sto 5 v71 v69 <| gh fun _ =>
                    Rv none (bsR a1) fun v72 =>
                    Cal Tryz.prog ω 52 #[a0, v72] <| gh fun v73 =>
                    Br a3
                      (sh18_4 ω a0 a1 at_1 (Value.bool false) (Value.int .i64 0) v13 v_24 K)
                      (sh18_5 ω a0 a1 (Value.bool false) (Value.int .i64 0) K)) I L))))
              (K (Value.tuple #[(Value.bool false), (Value.int .i64 0)]))))
        (Draw fun S =>
          Pv (nilV a0) fun v74 =>
          Pv (fldV 0 v74) fun v75 =>
          Rv (some S) (ld1R v75) fun v76 =>
          Rv (some S) (bsR a1) fun v77 =>
          Rv (some S) (lkR .string (Value.pointer none) false v76 v77) fun v78 =>
          Pv (binPV .eql v78 (Value.pointer none)) fun v79 =>
          Gd v79 false
            (Pv (nilV v78) fun v80 =>
            Pv (fldV 1 v80) fun v81 =>
            Pv (fldV 4 v81) fun v82 =>
            Rv none (ld1R v82) fun v83 =>
            Pv (binIV .neq v83 a2) fun v84 =>
            Br v84
              (K (Value.tuple #[(Value.bool false), (Value.int .i64 0)]))
              (Pv (nilV v78) fun v85 =>
              Pv (fldV 1 v85) fun v86 =>
              Pv (fldV 0 v86) fun v87 =>
              Rv none (ldNR 4 v87) fun v88 =>
              New (.cells #[(Value.int .i64 0), (Value.int .i64 0), (Value.bool false), (Value.string (ByteArray.mk #[]))] 104 (0, 0)) <| gh fun v_89 =>
              Sto 4 v_89 v88 <| gh fun _ =>
              Pv (nilV v78) fun v90 =>
              Pv (fldV 0 v90) fun v91 =>
              Rv none (ld1R v91) fun v92 =>
              Pv (lenV v92) fun v93 =>
              Draw fun S =>
                Gd a3 true
                  (Pv (fldV 0 v_89) fun v94 =>
                  Rv (some S) (ldNR 2 v94) fun v95 =>
                  Rv (some S) (ldNR 2 at_1) fun v96 =>
                  Cal Tryz.prog ω 49 #[v95, v96] <| gh <| Keep S fun v97 =>
                  Gd v97 false
                    (Pv (binIV .gtr v93 (Value.int .i64 0)) fun v98 =>
                    Gd v98 true
                      (Rv (some S) (ldNR 2 at_1) fun v99 =>
                      Pv (nilV v78) fun v100 =>
                      Pv (fldV 0 v100) fun v101 =>
                      Rv (some S) (ld1R v101) fun v102 =>
                      Pv (binIV .sub v93 (Value.int .i64 1)) fun v103 =>
                      Pv (ixV 4 v102 v103) fun v104 =>
                      Pv (fldV 0 v104) fun v105 =>
                      Rv (some S) (ldNR 2 v105) fun v106 =>
                      Cal Tryz.prog ω 49 #[v99, v106] <| gh fun v107 =>
                      Pv (unV .not v107) fun v108 =>
                      Br v108
                        (K (Value.tuple #[(Value.bool false), (Value.int .i64 1)]))
                        (Pv (bldV #[(Value.int .i64 0), (Value.int .i64 0), (Value.bool false), (Value.string (ByteArray.mk #[])), (Value.int .i64 0)] #[(0, 4), (4, 1)] []) fun v109 =>
                        Pv (nilV v78) fun v110 =>
                        Pv (fldV 1 v110) fun v111 =>
                        Sto 5 v111 v109 <| gh fun _ =>
                        Rv none (bsR a1) fun v112 =>
                        Cal Tryz.prog ω 52 #[a0, v112] <| gh fun v113 =>
                        Br a3
                          (sh18_4 ω a0 a1 at_1 (Value.bool false) (Value.int .i64 0) v78 v_89 K)
                          (sh18_5 ω a0 a1 (Value.bool false) (Value.int .i64 0) K)))
                      (Pv (bldV #[(Value.int .i64 0), (Value.int .i64 0), (Value.bool false), (Value.string (ByteArray.mk #[])), (Value.int .i64 0)] #[(0, 4), (4, 1)] []) fun v114 =>
                      Pv (nilV v78) fun v115 =>
                      Pv (fldV 1 v115) fun v116 =>
                      Sto 5 v116 v114 <| gh fun _ =>
                      Rv none (bsR a1) fun v117 =>
                      Cal Tryz.prog ω 52 #[a0, v117] <| gh fun v118 =>
                      Br a3
                        (sh18_4 ω a0 a1 at_1 (Value.bool false) (Value.int .i64 0) v78 v_89 K)
                        (sh18_5 ω a0 a1 (Value.bool false) (Value.int .i64 0) K)))
                    (K (Value.tuple #[(Value.bool false), (Value.int .i64 1)])))
                  ((fun I L => S I L ∧ (Pv (bldV #[(Value.int .i64 0), (Value.int .i64 0), (Value.bool false), (Value.string (ByteArray.mk #[])), (Value.int .i64 0)] #[(0, 4), (4, 1)] []) fun v119 =>
                  Pv (nilV v78) fun v120 =>
                  Pv (fldV 1 v120) fun v121 =>
                  Sto 5 v121 v119 <| gh fun _ =>
                  Rv none (bsR a1) fun v122 =>
                  Cal Tryz.prog ω 52 #[a0, v122] <| gh fun v123 =>
                  Br a3
                    (sh18_4 ω a0 a1 at_1 (Value.bool false) (Value.int .i64 0) v78 v_89 K)
                    (sh18_5 ω a0 a1 (Value.bool false) (Value.int .i64 0) K)) I L))))
            (K (Value.tuple #[(Value.bool false), (Value.int .i64 0)]))))
      (K (Value.tuple #[(Value.bool false), (Value.int .i64 1)])))
    (K (Value.tuple #[(Value.bool false), (Value.int .i64 1)]))
theorem sh18_eq (ω : Om) (a0 a1 a2 a3 a4 : Value) (K : Value → M) : vcF Tryz.prog ω Tryz.f18 [a0, a1, a2, a3, a4] K = sh18 ω a0 a1 a2 a3 a4 K := by kernel_rfl
theorem cal18 {ω : Om} {a0 a1 a2 a3 a4 : Value} {K : Value → M} {I : Imm} {L : LH} (h : sh18 ω a0 a1 a2 a3 a4 (fun v => Gh (K v)) I L) : Cal Tryz.prog ω 18 #[a0, a1, a2, a3, a4] K I L :=
  Cal.gh (cal_of_vc mixed Tryz.func18 (by rw [sh18_eq]; exact h))
def sh19_7 (ω : Om) (p21 : Value) (p22 : Value) (Kn0 : (Value × Value × Unit) → M) (K : Value → M) : M :=
  Pv (binIV .add p22 (Value.int .i64 1)) fun v51 =>
  Kn0 (p21, v51, ())
def sh19_5 (ω : Om) (p0 : Value) (p21 : Value) (p22 : Value) (Kn0 : (Value × Value × Unit) → M) (K : Value → M) : M :=
  Pv (nilV p0) fun v44 =>
  Pv (fldV 1 v44) fun v45 =>
  Rv none (ld1R v45) fun v46 =>
  Pv (ixV 6 v46 p22) fun v47 =>
  Rv none (ldNR 6 v47) fun v48 =>
  BldS 37 6 #[(Value.slice none 0 0), (Value.int .i64 0), (Value.int .i64 0), (Value.int .i64 0), (Value.bool false), (Value.slice none 0 0)] 1 [(0, v48)] <| gh fun v49 =>
  App 37 6 80 #[(Value.slice none 0 0), (Value.int .i64 0), (Value.int .i64 0), (Value.int .i64 0), (Value.bool false), (Value.slice none 0 0)] p21 v49 <| gh fun v50 =>
  sh19_7 ω v50 p22 Kn0 K
def sh19_12 (ω : Om) (p0 : Value) (p23 : Value) (p24 : Value) (p25 : Value) (Kn1 : (Value × Value × Value × Unit) → M) (K : Value → M) : M :=
  Pv (nilV p0) fun v78 =>
  Pv (fldV 0 v78) fun v79 =>
  Rv none (ld1R v79) fun v80 =>
  Pv (ixV 5 v80 p25) fun v81 =>
  Rv none (ldNR 5 v81) fun v82 =>
  BldS 99 5 #[(Value.slice none 0 0), (Value.int .i64 0), (Value.int .i64 0), (Value.bool false), (Value.slice none 0 0)] 1 [(0, v82)] <| gh fun v83 =>
  App 99 5 72 #[(Value.slice none 0 0), (Value.int .i64 0), (Value.int .i64 0), (Value.bool false), (Value.slice none 0 0)] p23 v83 <| gh fun v84 =>
  Pv (binIV .add p25 (Value.int .i64 1)) fun v85 =>
  Kn1 (v84, p24, v85, ())
def sh19_11 (ω : Om) (p0 : Value) (p1 : Value) (p9 : Value) (p15 : Value) (p23 : Value) (p24 : Value) (p25 : Value) (Kn1 : (Value × Value × Value × Unit) → M) (K : Value → M) : M :=
  Rv none (ldNR 2 p9) fun v70 =>
  Pv (fldV 4 p15) fun v71 =>
  Rv none (ld1R v71) fun v72 =>
  Pv (fldV 5 p15) fun v73 =>
  Rv none (ld1R v73) fun v74 =>
  Pv (bldV #[(Value.slice none 0 0), (Value.int .i64 0), (Value.int .i64 0), (Value.bool false), (Value.slice none 0 0)] #[(0, 1), (1, 2), (3, 1), (4, 1)] [(0, p1), (1, v70), (2, v72), (3, v74)]) fun v75 =>
  BldS 99 5 #[(Value.slice none 0 0), (Value.int .i64 0), (Value.int .i64 0), (Value.bool false), (Value.slice none 0 0)] 1 [(0, v75)] <| gh fun v76 =>
  App 99 5 72 #[(Value.slice none 0 0), (Value.int .i64 0), (Value.int .i64 0), (Value.bool false), (Value.slice none 0 0)] p23 v76 <| gh fun v77 =>
  sh19_12 ω p0 v77 (Value.bool true) p25 Kn1 K
def sh19_15 (ω : Om) (p0 : Value) (p10 : Value) (p11 : Value) (p23 : Value) (K : Value → M) : M :=
  Pv (nilV p0) fun v95 =>
  Pv (fldV 0 v95) fun v96 =>
  Sto 1 v96 p23 <| gh fun _ =>
  K (Value.tuple #[(Value.bool true), (Value.int .i64 0)])
def sh19_14 (ω : Om) (p0 : Value) (p1 : Value) (p9 : Value) (p10 : Value) (p11 : Value) (p15 : Value) (p23 : Value) (p24 : Value) (K : Value → M) : M :=
  Pv (unV .not p24) fun v86 =>
  Br v86
    (Rv none (ldNR 2 p9) fun v87 =>
    Pv (fldV 4 p15) fun v88 =>
    Rv none (ld1R v88) fun v89 =>
    Pv (fldV 5 p15) fun v90 =>
    Rv none (ld1R v90) fun v91 =>
    Pv (bldV #[(Value.slice none 0 0), (Value.int .i64 0), (Value.int .i64 0), (Value.bool false), (Value.slice none 0 0)] #[(0, 1), (1, 2), (3, 1), (4, 1)] [(0, p1), (1, v87), (2, v89), (3, v91)]) fun v92 =>
    BldS 99 5 #[(Value.slice none 0 0), (Value.int .i64 0), (Value.int .i64 0), (Value.bool false), (Value.slice none 0 0)] 1 [(0, v92)] <| gh fun v93 =>
    App 99 5 72 #[(Value.slice none 0 0), (Value.int .i64 0), (Value.int .i64 0), (Value.bool false), (Value.slice none 0 0)] p23 v93 <| gh fun v94 =>
    sh19_15 ω p0 p10 p11 v94 K)
    (sh19_15 ω p0 p10 p11 p23 K)
def sh19_10 (ω : Om) (p0 : Value) (p1 : Value) (p9 : Value) (p10 : Value) (p11 : Value) (p15 : Value) (x23 : Value) (x24 : Value) (x25 : Value) (Kn1 : (Value × Value × Value × Unit) → M) (K : Value → M) : M :=
  Pv (nilV p0) fun v55 =>
  Pv (fldV 0 v55) fun v56 =>
  Rv none (ld1R v56) fun v57 =>
  Pv (lenV v57) fun v58 =>
  Pv (binIV .lss x25 v58) fun v59 =>
  Br v59
    (Draw fun S =>
      Pv (unV .not x24) fun v60 =>
      Gd v60 true
        (Pv (nilV p0) fun v61 =>
        Pv (fldV 0 v61) fun v62 =>
        Rv (some S) (ld1R v62) fun v63 =>
        Pv (ixV 5 v63 x25) fun v64 =>
        Pv (fldV 0 v64) fun v65 =>
        Rv (some S) (ld1R v65) fun v66 =>
        Rv (some S) (bsR v66) fun v67 =>
        Rv (some S) (bsR p1) fun v68 =>
        Pv (binSV .gtr v67 v68) fun v69 =>
        Br v69
          (sh19_11 ω p0 p1 p9 p15 x23 x24 x25 Kn1 K)
          (sh19_12 ω p0 x23 x24 x25 Kn1 K))
        (sh19_12 ω p0 x23 x24 x25 Kn1 K))
    (sh19_14 ω p0 p1 p9 p10 p11 p15 x23 x24 K)
def sh19_9 (ω : Om) (p0 : Value) (p1 : Value) (p3 : Value) (p9 : Value) (p10 : Value) (p11 : Value) (p15 : Value) (p21 : Value) (K : Value → M) : M :=
  Pv (nilV p0) fun v52 =>
  Pv (fldV 1 v52) fun v53 =>
  Sto 1 v53 p21 <| gh fun _ =>
  Pv (unV .not p3) fun v54 =>
  Br v54
    (K (Value.tuple #[(Value.bool true), (Value.int .i64 0)]))
    (LoopM (((Value.slice none 0 0), (Value.bool false), (Value.int .i64 0), ()) : Value × Value × Value × Unit) fun s Kn1 =>
    sh19_10 ω p0 p1 p9 p10 p11 p15 s.1 s.2.1 s.2.2.1 Kn1 K)
def sh19_4 (ω : Om) (p0 : Value) (p1 : Value) (p3 : Value) (p9 : Value) (p10 : Value) (p11 : Value) (p15 : Value) (x21 : Value) (x22 : Value) (Kn0 : (Value × Value × Unit) → M) (K : Value → M) : M :=
  Pv (nilV p0) fun v30 =>
  Pv (fldV 1 v30) fun v31 =>
  Rv none (ld1R v31) fun v32 =>
  Pv (lenV v32) fun v33 =>
  Pv (binIV .lss x22 v33) fun v34 =>
  Br v34
    (Draw fun S =>
      Pv (nilV p0) fun v35 =>
      Pv (fldV 1 v35) fun v36 =>
      Rv (some S) (ld1R v36) fun v37 =>
      Pv (ixV 6 v37 x22) fun v38 =>
      Pv (fldV 0 v38) fun v39 =>
      Rv (some S) (ld1R v39) fun v40 =>
      Rv (some S) (bsR v40) fun v41 =>
      Rv (some S) (bsR p1) fun v42 =>
      Pv (binSV .neq v41 v42) fun v43 =>
      Br v43
        (sh19_5 ω p0 x21 x22 Kn0 K)
        (sh19_7 ω x21 x22 Kn0 K))
    (sh19_9 ω p0 p1 p3 p9 p10 p11 p15 x21 K)
def sh19_16 (ω : Om) (p0 : Value) (p1 : Value) (p3 : Value) (p9 : Value) (p10 : Value) (p11 : Value) (p15 : Value) (x21 : Value) (x22 : Value) (Kn0 : (Value × Value × Unit) → M) (K : Value → M) : M :=
  Pv (nilV p0) fun v97 =>
  Pv (fldV 1 v97) fun v98 =>
  Rv none (ld1R v98) fun v99 =>
  Pv (lenV v99) fun v100 =>
  Pv (binIV .lss x22 v100) fun v101 =>
  Br v101
    (Draw fun S =>
      Pv (nilV p0) fun v102 =>
      Pv (fldV 1 v102) fun v103 =>
      Rv (some S) (ld1R v103) fun v104 =>
      Pv (ixV 6 v104 x22) fun v105 =>
      Pv (fldV 0 v105) fun v106 =>
      Rv (some S) (ld1R v106) fun v107 =>
      Rv (some S) (bsR v107) fun v108 =>
      Rv (some S) (bsR p1) fun v109 =>
      Pv (binSV .neq v108 v109) fun v110 =>
      Br v110
        (sh19_5 ω p0 x21 x22 Kn0 K)
        (sh19_7 ω x21 x22 Kn0 K))
    (sh19_9 ω p0 p1 p3 p9 p10 p11 p15 x21 K)
def sh19_17 (ω : Om) (p0 : Value) (p1 : Value) (p3 : Value) (p9 : Value) (p10 : Value) (p11 : Value) (p15 : Value) (x21 : Value) (x22 : Value) (Kn0 : (Value × Value × Unit) → M) (K : Value → M) : M :=
  Pv (nilV p0) fun v111 =>
  Pv (fldV 1 v111) fun v112 =>
  Rv none (ld1R v112) fun v113 =>
  Pv (lenV v113) fun v114 =>
  Pv (binIV .lss x22 v114) fun v115 =>
  Br v115
    (Draw fun S =>
      Pv (nilV p0) fun v116 =>
      Pv (fldV 1 v116) fun v117 =>
      Rv (some S) (ld1R v117) fun v118 =>
      Pv (ixV 6 v118 x22) fun v119 =>
      Pv (fldV 0 v119) fun v120 =>
      Rv (some S) (ld1R v120) fun v121 =>
      Rv (some S) (bsR v121) fun v122 =>
      Rv (some S) (bsR p1) fun v123 =>
      Pv (binSV .neq v122 v123) fun v124 =>
      Br v124
        (sh19_5 ω p0 x21 x22 Kn0 K)
        (sh19_7 ω x21 x22 Kn0 K))
    (sh19_9 ω p0 p1 p3 p9 p10 p11 p15 x21 K)
def sh19_18 (ω : Om) (p0 : Value) (p1 : Value) (p3 : Value) (p9 : Value) (p10 : Value) (p11 : Value) (p15 : Value) (x21 : Value) (x22 : Value) (Kn0 : (Value × Value × Unit) → M) (K : Value → M) : M :=
  Pv (nilV p0) fun v146 =>
  Pv (fldV 1 v146) fun v147 =>
  Rv none (ld1R v147) fun v148 =>
  Pv (lenV v148) fun v149 =>
  Pv (binIV .lss x22 v149) fun v150 =>
  Br v150
    (Draw fun S =>
      Pv (nilV p0) fun v151 =>
      Pv (fldV 1 v151) fun v152 =>
      Rv (some S) (ld1R v152) fun v153 =>
      Pv (ixV 6 v153 x22) fun v154 =>
      Pv (fldV 0 v154) fun v155 =>
      Rv (some S) (ld1R v155) fun v156 =>
      Rv (some S) (bsR v156) fun v157 =>
      Rv (some S) (bsR p1) fun v158 =>
      Pv (binSV .neq v157 v158) fun v159 =>
      Br v159
        (sh19_5 ω p0 x21 x22 Kn0 K)
        (sh19_7 ω x21 x22 Kn0 K))
    (sh19_9 ω p0 p1 p3 p9 p10 p11 p15 x21 K)
def sh19_19 (ω : Om) (p0 : Value) (p1 : Value) (p3 : Value) (p9 : Value) (p10 : Value) (p11 : Value) (p15 : Value) (x21 : Value) (x22 : Value) (Kn0 : (Value × Value × Unit) → M) (K : Value → M) : M :=
  Pv (nilV p0) fun v160 =>
  Pv (fldV 1 v160) fun v161 =>
  Rv none (ld1R v161) fun v162 =>
  Pv (lenV v162) fun v163 =>
  Pv (binIV .lss x22 v163) fun v164 =>
  Br v164
    (Draw fun S =>
      Pv (nilV p0) fun v165 =>
      Pv (fldV 1 v165) fun v166 =>
      Rv (some S) (ld1R v166) fun v167 =>
      Pv (ixV 6 v167 x22) fun v168 =>
      Pv (fldV 0 v168) fun v169 =>
      Rv (some S) (ld1R v169) fun v170 =>
      Rv (some S) (bsR v170) fun v171 =>
      Rv (some S) (bsR p1) fun v172 =>
      Pv (binSV .neq v171 v172) fun v173 =>
      Br v173
        (sh19_5 ω p0 x21 x22 Kn0 K)
        (sh19_7 ω x21 x22 Kn0 K))
    (sh19_9 ω p0 p1 p3 p9 p10 p11 p15 x21 K)
def sh19_20 (ω : Om) (p0 : Value) (p1 : Value) (p3 : Value) (p9 : Value) (p10 : Value) (p11 : Value) (p15 : Value) (x21 : Value) (x22 : Value) (Kn0 : (Value × Value × Unit) → M) (K : Value → M) : M :=
  Pv (nilV p0) fun v174 =>
  Pv (fldV 1 v174) fun v175 =>
  Rv none (ld1R v175) fun v176 =>
  Pv (lenV v176) fun v177 =>
  Pv (binIV .lss x22 v177) fun v178 =>
  Br v178
    (Draw fun S =>
      Pv (nilV p0) fun v179 =>
      Pv (fldV 1 v179) fun v180 =>
      Rv (some S) (ld1R v180) fun v181 =>
      Pv (ixV 6 v181 x22) fun v182 =>
      Pv (fldV 0 v182) fun v183 =>
      Rv (some S) (ld1R v183) fun v184 =>
      Rv (some S) (bsR v184) fun v185 =>
      Rv (some S) (bsR p1) fun v186 =>
      Pv (binSV .neq v185 v186) fun v187 =>
      Br v187
        (sh19_5 ω p0 x21 x22 Kn0 K)
        (sh19_7 ω x21 x22 Kn0 K))
    (sh19_9 ω p0 p1 p3 p9 p10 p11 p15 x21 K)
def sh19 (ω : Om) (a0 : Value) (a1 : Value) (a2 : Value) (a3 : Value) (a4 : Value) (K : Value → M) : M :=
  New (.cells (Value.cells a4) 30 (0, 0)) <| gh fun at_1 =>
  Cal Tryz.prog ω 46 #[a1] <| gh fun v2 =>
  Cal Tryz.prog ω 55 #[a2] <| gh fun v3 =>
  Rv none (ldNR 2 at_1) fun v4 =>
  Cal Tryz.prog ω 56 #[v4] <| gh fun v5 =>
  Pv (unV .not v2) fun v6 =>
  Gd v6 false
    (Pv (unV .not v3) fun v7 =>
    Gd v7 false
      (Gd a3 true
        (Pv (unV .not v5) fun v8 =>
        Br v8
          (K (Value.tuple #[(Value.bool false), (Value.int .i64 1)]))
          (Cal Tryz.prog ω 57 #[a0, a1] <| gh fun v9 =>
          Pv (exV v9 0) fun v10 =>
          Pv (exV v9 1) fun v11 =>
          New (.cells #[(Value.slice none 0 0), (Value.int .i64 0), (Value.int .i64 0), (Value.int .i64 0), (Value.bool false), (Value.slice none 0 0)] 37 (0, 0)) <| gh fun x_12 =>
          Sto 6 x_12 v10 <| gh fun _ =>
          Pv (unV .not v11) fun v13 =>
          Gd v13 false
            (Pv (fldV 1 x_12) fun v14 =>
            Rv none (ld1R v14) fun v15 =>
            Pv (binIV .neq v15 a2) fun v16 =>
            Br v16
              (K (Value.tuple #[(Value.bool false), (Value.int .i64 0)]))
              (Pv (fldV 2 x_12) fun v17 =>
              Rv none (ldNR 2 v17) fun v18 =>
              Rv none (ldNR 2 at_1) fun v19 =>
              Cal Tryz.prog ω 58 #[v18, v19] <| gh fun v20 =>
              Cal Tryz.prog ω 59 #[a0, a1] <| gh fun v21 =>
              Pv (exV v21 0) fun v22 =>
              Pv (exV v21 1) fun v23 =>
              New (.cells #[(Value.slice none 0 0), (Value.int .i64 0), (Value.int .i64 0), (Value.bool false), (Value.slice none 0 0)] 99 (0, 0)) <| gh fun v_24 =>
              Sto 5 v_24 v22 <| gh fun _ =>
              Rv none (ldNR 2 at_1) fun v25 =>
              Pv (fldV 1 v_24) fun v26 =>
              Rv none (ldNR 2 v26) fun v27 =>
              Cal Tryz.prog ω 58 #[v25, v27] <| gh fun v28 =>
              Gd a3 true
                (Gd v20 false
                  (Gd v23 true
                    (Pv (unV .not v28) fun v29 =>
                    Br v29
                      (K (Value.tuple #[(Value.bool false), (Value.int .i64 1)]))
                      (LoopM (((Value.slice none 0 0), (Value.int .i64 0), ()) : Value × Value × Unit) fun s Kn0 =>
                      sh19_4 ω a0 a1 a3 at_1 (Value.bool false) (Value.int .i64 0) x_12 s.1 s.2.1 Kn0 K))
                    (LoopM (((Value.slice none 0 0), (Value.int .i64 0), ()) : Value × Value × Unit) fun s Kn0 =>
                    sh19_16 ω a0 a1 a3 at_1 (Value.bool false) (Value.int .i64 0) x_12 s.1 s.2.1 Kn0 K))
                  (K (Value.tuple #[(Value.bool false), (Value.int .i64 1)])))
                (LoopM (((Value.slice none 0 0), (Value.int .i64 0), ()) : Value × Value × Unit) fun s Kn0 =>
                sh19_17 ω a0 a1 a3 at_1 (Value.bool false) (Value.int .i64 0) x_12 s.1 s.2.1 Kn0 K)))
            (K (Value.tuple #[(Value.bool false), (Value.int .i64 0)]))))
        (Cal Tryz.prog ω 57 #[a0, a1] <| gh fun v125 =>
        Pv (exV v125 0) fun v126 =>
        Pv (exV v125 1) fun v127 =>
        New (.cells #[(Value.slice none 0 0), (Value.int .i64 0), (Value.int .i64 0), (Value.int .i64 0), (Value.bool false), (Value.slice none 0 0)] 37 (0, 0)) <| gh fun x_128 =>
        Sto 6 x_128 v126 <| gh fun _ =>
        Pv (unV .not v127) fun v129 =>
        Gd v129 false
          (Pv (fldV 1 x_128) fun v130 =>
          Rv none (ld1R v130) fun v131 =>
          Pv (binIV .neq v131 a2) fun v132 =>
          Br v132
            (K (Value.tuple #[(Value.bool false), (Value.int .i64 0)]))
            (Pv (fldV 2 x_128) fun v133 =>
            Rv none (ldNR 2 v133) fun v134 =>
            Rv none (ldNR 2 at_1) fun v135 =>
            Cal Tryz.prog ω 58 #[v134, v135] <| gh fun v136 =>
            Cal Tryz.prog ω 59 #[a0, a1] <| gh fun v137 =>
            Pv (exV v137 0) fun v138 =>
            Pv (exV v137 1) fun v139 =>
            New (.cells #[(Value.slice none 0 0), (Value.int .i64 0), (Value.int .i64 0), (Value.bool false), (Value.slice none 0 0)] 99 (0, 0)) <| gh fun v_140 =>
            Sto 5 v_140 v138 <| gh fun _ =>
            Rv none (ldNR 2 at_1) fun v141 =>
            Pv (fldV 1 v_140) fun v142 =>
            Rv none (ldNR 2 v142) fun v143 =>
            Cal Tryz.prog ω 58 #[v141, v143] <| gh fun v144 =>
            Gd a3 true
              (Gd v136 false
                (Gd v139 true
                  (Pv (unV .not v144) fun v145 =>
                  Br v145
                    (K (Value.tuple #[(Value.bool false), (Value.int .i64 1)]))
                    (LoopM (((Value.slice none 0 0), (Value.int .i64 0), ()) : Value × Value × Unit) fun s Kn0 =>
                    sh19_18 ω a0 a1 a3 at_1 (Value.bool false) (Value.int .i64 0) x_128 s.1 s.2.1 Kn0 K))
                  (LoopM (((Value.slice none 0 0), (Value.int .i64 0), ()) : Value × Value × Unit) fun s Kn0 =>
                  sh19_19 ω a0 a1 a3 at_1 (Value.bool false) (Value.int .i64 0) x_128 s.1 s.2.1 Kn0 K))
                (K (Value.tuple #[(Value.bool false), (Value.int .i64 1)])))
              (LoopM (((Value.slice none 0 0), (Value.int .i64 0), ()) : Value × Value × Unit) fun s Kn0 =>
              sh19_20 ω a0 a1 a3 at_1 (Value.bool false) (Value.int .i64 0) x_128 s.1 s.2.1 Kn0 K)))
          (K (Value.tuple #[(Value.bool false), (Value.int .i64 0)]))))
      (K (Value.tuple #[(Value.bool false), (Value.int .i64 1)])))
    (K (Value.tuple #[(Value.bool false), (Value.int .i64 1)]))
theorem sh19_eq (ω : Om) (a0 a1 a2 a3 a4 : Value) (K : Value → M) : vcF Tryz.prog ω Tryz.f19 [a0, a1, a2, a3, a4] K = sh19 ω a0 a1 a2 a3 a4 K := by kernel_rfl
theorem cal19 {ω : Om} {a0 a1 a2 a3 a4 : Value} {K : Value → M} {I : Imm} {L : LH} (h : sh19 ω a0 a1 a2 a3 a4 (fun v => Gh (K v)) I L) : Cal Tryz.prog ω 19 #[a0, a1, a2, a3, a4] K I L :=
  Cal.gh (cal_of_vc mixed Tryz.func19 (by rw [sh19_eq]; exact h))
def sh20_1 (ω : Om) (p8 : Value) (p9 : Value) (K : Value → M) : M :=
  Pv (bldV #[(Value.bool false), (Value.slice none 0 0), (Value.int .i64 0), (Value.int .i64 0), (Value.int .i64 0)] #[(0, 1), (1, 1), (2, 2), (4, 1)] []) fun v10 =>
  Sto 5 p8 v10 <| gh fun _ =>
  Rv none (ldNR 5 p8) fun v11 =>
  K (Value.tuple #[v11, (Value.int .i64 1)])
def sh20_2 (ω : Om) (p8 : Value) (p9 : Value) (K : Value → M) : M :=
  Pv (bldV #[(Value.bool false), (Value.slice none 0 0), (Value.int .i64 0), (Value.int .i64 0), (Value.int .i64 0)] #[(0, 1), (1, 1), (2, 2), (4, 1)] []) fun v17 =>
  Sto 5 p8 v17 <| gh fun _ =>
  Rv none (ldNR 5 p8) fun v18 =>
  K (Value.tuple #[v18, (Value.int .i64 131)])
def sh20 (ω : Om) (a0 : Value) (a1 : Value) (a2 : Value) (a3 : Value) (K : Value → M) : M :=
  New (.cells (Value.cells a2) 30 (0, 0)) <| gh fun at_1 =>
  New (.cells #[(Value.bool false), (Value.slice none 0 0), (Value.int .i64 0), (Value.int .i64 0), (Value.int .i64 0)] 59 (0, 0)) <| gh fun v2 =>
  Cal Tryz.prog ω 46 #[a1] <| gh fun v3 =>
  Rv none (ldNR 2 at_1) fun v4 =>
  Cal Tryz.prog ω 56 #[v4] <| gh fun v5 =>
  Cal Tryz.prog ω 64 #[a3] <| gh fun v6 =>
  Pv (unV .not v3) fun v7 =>
  Gd v7 false
    (Pv (unV .not v5) fun v8 =>
    Gd v8 false
      (Pv (unV .not v6) fun v9 =>
      Br v9
        (sh20_1 ω v2 (Value.int .i64 0) K)
        (Draw fun S =>
          Pv (nilV a0) fun v12 =>
          Pv (fldV 2 v12) fun v13 =>
          Rv (some S) (ldNR 2 v13) fun v14 =>
          Rv (some S) (ldNR 2 at_1) fun v15 =>
          Cal Tryz.prog ω 58 #[v14, v15] <| gh fun v16 =>
          Br v16
            (sh20_2 ω v2 (Value.int .i64 0) K)
            (Rv none (ldNR 2 at_1) fun v19 =>
            Cal Tryz.prog ω 65 #[a0, a1, v19, a3] <| gh fun v20 =>
            Pv (exV v20 0) fun v21 =>
            Pv (exV v20 1) fun v22 =>
            New (.cells #[(Value.bool false), (Value.slice none 0 0), (Value.int .i64 0), (Value.int .i64 0), (Value.int .i64 0)] 59 (0, 0)) <| gh fun g_23 =>
            Sto 5 g_23 v21 <| gh fun _ =>
            Rv none (ldNR 5 g_23) fun v24 =>
            Sto 5 v2 v24 <| gh fun _ =>
            Rv none (ldNR 5 v2) fun v25 =>
            K (Value.tuple #[v25, v22]))))
      (sh20_1 ω v2 (Value.int .i64 0) K))
    (sh20_1 ω v2 (Value.int .i64 0) K)
theorem sh20_eq (ω : Om) (a0 a1 a2 a3 : Value) (K : Value → M) : vcF Tryz.prog ω Tryz.f20 [a0, a1, a2, a3] K = sh20 ω a0 a1 a2 a3 K := by kernel_rfl
theorem cal20 {ω : Om} {a0 a1 a2 a3 : Value} {K : Value → M} {I : Imm} {L : LH} (h : sh20 ω a0 a1 a2 a3 (fun v => Gh (K v)) I L) : Cal Tryz.prog ω 20 #[a0, a1, a2, a3] K I L :=
  Cal.gh (cal_of_vc mixed Tryz.func20 (by rw [sh20_eq]; exact h))
def sh21 (ω : Om) (a0 : Value) (a1 : Value) (K : Value → M) : M :=
  New (.cells (Value.cells a0) 59 (0, 0)) <| gh fun a_1 =>
  New (.cells (Value.cells a1) 59 (0, 0)) <| gh fun b_2 =>
  Pv (fldV 0 a_1) fun v3 =>
  Rv none (ld1R v3) fun v4 =>
  Pv (fldV 0 b_2) fun v5 =>
  Rv none (ld1R v5) fun v6 =>
  Pv (binBV .eql v4 v6) fun v7 =>
  Gd v7 true
    (Pv (fldV 1 a_1) fun v8 =>
    Rv none (ld1R v8) fun v9 =>
    Rv none (bsR v9) fun v10 =>
    Pv (fldV 1 b_2) fun v11 =>
    Rv none (ld1R v11) fun v12 =>
    Rv none (bsR v12) fun v13 =>
    Pv (binSV .eql v10 v13) fun v14 =>
    Gd v14 true
      (Pv (fldV 2 a_1) fun v15 =>
      Rv none (ldNR 2 v15) fun v16 =>
      Pv (fldV 2 b_2) fun v17 =>
      Rv none (ldNR 2 v17) fun v18 =>
      Pv (binAV .eql [(TypeDesc.int .i64, 0), (TypeDesc.int .i64, 1)] v16 v18) fun v19 =>
      Gd v19 true
        (Pv (fldV 4 a_1) fun v20 =>
        Rv none (ld1R v20) fun v21 =>
        Pv (fldV 4 b_2) fun v22 =>
        Rv none (ld1R v22) fun v23 =>
        Pv (binIV .eql v21 v23) fun v24 =>
        K v24)
        (K (Value.bool false)))
      (K (Value.bool false)))
    (K (Value.bool false))
theorem sh21_eq (ω : Om) (a0 a1 : Value) (K : Value → M) : vcF Tryz.prog ω Tryz.f21 [a0, a1] K = sh21 ω a0 a1 K := by kernel_rfl
theorem cal21 {ω : Om} {a0 a1 : Value} {K : Value → M} {I : Imm} {L : LH} (h : sh21 ω a0 a1 (fun v => Gh (K v)) I L) : Cal Tryz.prog ω 21 #[a0, a1] K I L :=
  Cal.gh (cal_of_vc mixed Tryz.func21 (by rw [sh21_eq]; exact h))
def sh22_2 (ω : Om) (p9 : Value) (p13 : Value) (Nk : M) (Xk : Nat → M) (K : Value → M) : M :=
  Rv none (ld1R p13) fun v44 =>
  Pv (lenV v44) fun v45 =>
  Rv none (ld1R p9) fun v46 =>
  Pv (binIV .eql v45 v46) fun v47 =>
  Br v47
    (Xk 1)
    (Nk)
def sh22_4 (ω : Om) (p10 : Value) (p11 : Value) (p12 : Value) (p13 : Value) (Q0 : Nat) (K : Value → M) : M :=
  Rv none (ld1R p13) fun v48 =>
  Cal Tryz.prog ω 67 #[v48] <| gh fun v49 =>
  Sto 1 p10 v49 <| gh fun _ =>
  Sto 1 p11 (Value.int .i64 0) <| gh fun _ =>
  Sto 1 p12 (Value.int .i64 0) <| gh fun _ =>
  Tak Q0 <|
  Rv none (ld1R p10) fun v50 =>
  Rv none (ld1R p11) fun v51 =>
  Rv none (ld1R p12) fun v52 =>
  K (Value.tuple #[v50, v51, v52])
def sh22_1 (ω : Om) (p0 : Value) (p6 : Value) (p7 : Value) (p8 : Value) (p9 : Value) (p10 : Value) (p11 : Value) (p12 : Value) (p18 : Value) (K : Value → M) : M :=
  Br p18
    (Sto 1 p10 (Value.slice none 0 0) <| gh fun _ =>
    Sto 1 p11 (Value.int .i64 0) <| gh fun _ =>
    Sto 1 p12 (Value.int .i64 1) <| gh fun _ =>
    Rv none (ld1R p10) fun v12 =>
    Rv none (ld1R p11) fun v13 =>
    Rv none (ld1R p12) fun v14 =>
    K (Value.tuple #[v12, v13, v14]))
    (Draw fun S =>
      Pv (nilV p0) fun v15 =>
      Pv (fldV 2 v15) fun v16 =>
      Rv (some S) (ldNR 2 v16) fun v17 =>
      Rv (some S) (ldNR 2 p7) fun v18 =>
      Cal Tryz.prog ω 49 #[v17, v18] <| gh fun v19 =>
      Br v19
        (Sto 1 p10 (Value.slice none 0 0) <| gh fun _ =>
        Sto 1 p11 (Value.int .i64 0) <| gh fun _ =>
        Sto 1 p12 (Value.int .i64 131) <| gh fun _ =>
        Rv none (ld1R p10) fun v20 =>
        Rv none (ld1R p11) fun v21 =>
        Rv none (ld1R p12) fun v22 =>
        K (Value.tuple #[v20, v21, v22]))
        (New (.cells #[(Value.slice none 0 0)] 33 (0, 0)) <| gh fun out_23 =>
        Rv none (ldNR 2 p6) fun v24 =>
        Cal Tryz.prog ω 66 #[p0, v24] <| gh fun v25 =>
        RngF2 Tryz.prog ω v25 (fun r1_0 r1_1 Bg Nk Xk Rk =>
            Bg (Rv none (ldNR 2 p7) fun v26 =>
            Rv none (ld1R p8) fun v27 =>
            Cal Tryz.prog ω 54 #[r1_1, v26, v27] <| gh fun v28 =>
            Pv (exV v28 0) fun v29 =>
            Pv (exV v28 1) fun v30 =>
            New (.cells #[(Value.bool false), (Value.slice none 0 0), (Value.int .i64 0), (Value.int .i64 0), (Value.int .i64 0)] 59 (0, 0)) <| gh fun g_31 =>
            Sto 5 g_31 v29 <| gh fun _ =>
            Pv (binIV .neq v30 (Value.int .i64 0)) fun v32 =>
            Br v32
              (DrawW [p10] fun S =>
                Pv (fldV 4 g_31) fun v33 =>
                Rv (some S) (ld1R v33) fun v34 =>
                Sto 1 p10 (Value.slice none 0 0) <| gh <| Keep S fun _ =>
                Sto 1 p11 v34 <| gh fun _ =>
                Sto 1 p12 v30 <| gh fun _ =>
                Rk)
              (Pv (fldV 0 g_31) fun v35 =>
              Rv none (ld1R v35) fun v36 =>
              Br v36
                (Rv none (ld1R out_23) fun v37 =>
                CvSB 5 r1_0 <| gh fun v38 =>
                Pv (fldV 1 g_31) fun v39 =>
                Rv none (ld1R v39) fun v40 =>
                Pv (bldV #[(Value.slice none 0 0), (Value.slice none 0 0)] #[(0, 1), (1, 1)] [(0, v38), (1, v40)]) fun v41 =>
                BldS 86 2 #[(Value.slice none 0 0), (Value.slice none 0 0)] 1 [(0, v41)] <| gh fun v42 =>
                App 86 2 48 #[(Value.slice none 0 0), (Value.slice none 0 0)] v37 v42 <| gh fun v43 =>
                Sto 1 out_23 v43 <| gh fun _ =>
                sh22_2 ω p9 out_23 Nk Xk K)
                (sh22_2 ω p9 out_23 Nk Xk K))))
          (fun D1 => sh22_4 ω p10 p11 p12 out_23 D1 K)
          (fun D1 => [(1, sh22_4 ω p10 p11 p12 out_23 D1 K)])
          (fun D1 => Tak D1 <|
            Rv none (ld1R p10) fun v53 =>
            Rv none (ld1R p11) fun v54 =>
            Rv none (ld1R p12) fun v55 =>
            K (Value.tuple #[v53, v54, v55]))))
def sh22 (ω : Om) (a0 : Value) (a1 : Value) (a2 : Value) (a3 : Value) (a4 : Value) (K : Value → M) : M :=
  New (.cells (Value.cells a1) 39 (0, 0)) <| gh fun p_1 =>
  New (.cells (Value.cells a2) 30 (0, 0)) <| gh fun at_2 =>
  New (.cells (Value.cells a3) 3 (0, 0)) <| gh fun txn_3 =>
  New (.cells (Value.cells a4) 3 (0, 0)) <| gh fun most_4 =>
  New (.cells #[(Value.slice none 0 0)] 33 (0, 0)) <| gh fun v5 =>
  New (.cells #[(Value.int .i64 0)] 3 (0, 0)) <| gh fun v6 =>
  New (.cells #[(Value.int .i64 0)] 46 (0, 0)) <| gh fun v7 =>
  Rv none (ldNR 2 at_2) fun v8 =>
  Rv none (ld1R txn_3) fun v9 =>
  Cal Tryz.prog ω 53 #[v8, v9] <| gh fun v10 =>
  Pv (unV .not v10) fun v11 =>
  Br v11
    (sh22_1 ω a0 p_1 at_2 txn_3 most_4 v5 v6 v7 v11 K)
    (Rv none (ld1R most_4) fun v56 =>
    Pv (binIV .lss v56 (Value.int .i64 1)) fun v57 =>
    sh22_1 ω a0 p_1 at_2 txn_3 most_4 v5 v6 v7 v57 K)
theorem sh22_eq (ω : Om) (a0 a1 a2 a3 a4 : Value) (K : Value → M) : vcF Tryz.prog ω Tryz.f22 [a0, a1, a2, a3, a4] K = sh22 ω a0 a1 a2 a3 a4 K := by kernel_rfl
theorem cal22 {ω : Om} {a0 a1 a2 a3 a4 : Value} {K : Value → M} {I : Imm} {L : LH} (h : sh22 ω a0 a1 a2 a3 a4 (fun v => Gh (K v)) I L) : Cal Tryz.prog ω 22 #[a0, a1, a2, a3, a4] K I L :=
  Cal.gh (cal_of_vc mixed Tryz.func22 (by rw [sh22_eq]; exact h))
def sh23_5 (ω : Om) (p10 : Value) (p11 : Value) (p12 : Value) (p16 : Value) (p18 : Value) (Kn0 : (Value × Value × Value × Value × Value × Unit) → M) (K : Value → M) : M :=
  Pv (binIV .add p18 (Value.int .i64 1)) fun v25 =>
  Kn0 (p10, p11, p12, p16, v25, ())
def sh23_6 (ω : Om) (p10 : Value) (p11 : Value) (p12 : Value) (p21 : Value) (p22 : Value) (K : Value → M) : M :=
  Draw fun S =>
    Pv (fldV 4 p21) fun v32 =>
    Rv (some S) (ld1R v32) fun v33 =>
    K (Value.tuple #[(Value.slice none 0 0), v33, p22])
def sh23_7 (ω : Om) (p10 : Value) (p11 : Value) (p12 : Value) (p16 : Value) (p18 : Value) (p19 : Value) (p21 : Value) (Kn0 : (Value × Value × Value × Value × Value × Unit) → M) (K : Value → M) : M :=
  Pv (fldV 1 p21) fun v36 =>
  Rv none (ld1R v36) fun v37 =>
  Pv (bldV #[(Value.slice none 0 0), (Value.slice none 0 0)] #[(0, 1), (1, 1)] [(0, p19), (1, v37)]) fun v38 =>
  BldS 86 2 #[(Value.slice none 0 0), (Value.slice none 0 0)] 1 [(0, v38)] <| gh fun v39 =>
  App 86 2 48 #[(Value.slice none 0 0), (Value.slice none 0 0)] p16 v39 <| gh fun v40 =>
  sh23_5 ω p10 p11 p12 v40 p18 Kn0 K
def sh23_3 (ω : Om) (p0 : Value) (p3 : Value) (p4 : Value) (p6 : Value) (p7 : Value) (p17 : Value) (x10 : Value) (x11 : Value) (x12 : Value) (x16 : Value) (x18 : Value) (Kn0 : (Value × Value × Value × Value × Value × Unit) → M) (K : Value → M) : M :=
  Pv (lenV p17) fun v15 =>
  Pv (binIV .lss x18 v15) fun v16 =>
  Gd v16 true
    (Pv (lenV x16) fun v17 =>
    Pv (binIV .lss v17 p4) fun v18 =>
    Br v18
      (Pv (ixV 1 p17 x18) fun v19 =>
      Rv none (ld1R v19) fun v20 =>
      CvSB 5 v20 <| gh fun v21 =>
      Rv none (ldNR 2 p6) fun v22 =>
      Cal Tryz.prog ω 69 #[v22, v21] <| gh fun v23 =>
      Pv (unV .not v23) fun v24 =>
      Br v24
        (sh23_5 ω x10 x11 x12 x16 x18 Kn0 K)
        (Rv none (ldNR 2 p7) fun v26 =>
        Cal Tryz.prog ω 65 #[p0, v21, v26, p3] <| gh fun v27 =>
        Pv (exV v27 0) fun v28 =>
        Pv (exV v27 1) fun v29 =>
        New (.cells #[(Value.bool false), (Value.slice none 0 0), (Value.int .i64 0), (Value.int .i64 0), (Value.int .i64 0)] 59 (0, 0)) <| gh fun g_30 =>
        Sto 5 g_30 v28 <| gh fun _ =>
        Pv (binIV .neq v29 (Value.int .i64 0)) fun v31 =>
        Br v31
          (sh23_6 ω x10 x11 x12 g_30 v29 K)
          (Pv (fldV 0 g_30) fun v34 =>
          Rv none (ld1R v34) fun v35 =>
          Br v35
            (sh23_7 ω x10 x11 x12 x16 x18 v21 g_30 Kn0 K)
            (sh23_5 ω x10 x11 x12 x16 x18 Kn0 K))))
      (K (Value.tuple #[x16, (Value.int .i64 0), (Value.int .i64 0)])))
    (K (Value.tuple #[x16, (Value.int .i64 0), (Value.int .i64 0)]))
def sh23 (ω : Om) (a0 : Value) (a1 : Value) (a2 : Value) (a3 : Value) (a4 : Value) (K : Value → M) : M :=
  New (.cells (Value.cells a1) 39 (0, 0)) <| gh fun p_1 =>
  New (.cells (Value.cells a2) 30 (0, 0)) <| gh fun at_2 =>
  Rv none (ldNR 2 at_2) fun v3 =>
  Cal Tryz.prog ω 56 #[v3] <| gh fun v4 =>
  Cal Tryz.prog ω 64 #[a3] <| gh fun v5 =>
  Pv (unV .not v4) fun v6 =>
  Gd v6 false
    (Pv (unV .not v5) fun v7 =>
    Gd v7 false
      (Pv (binIV .lss a4 (Value.int .i64 1)) fun v8 =>
      Br v8
        (K (Value.tuple #[(Value.slice none 0 0), (Value.int .i64 0), (Value.int .i64 1)]))
        (Draw fun S =>
          Pv (nilV a0) fun v9 =>
          Pv (fldV 2 v9) fun v10 =>
          Rv (some S) (ldNR 2 v10) fun v11 =>
          Rv (some S) (ldNR 2 at_2) fun v12 =>
          Cal Tryz.prog ω 58 #[v11, v12] <| gh fun v13 =>
          Br v13
            (K (Value.tuple #[(Value.slice none 0 0), (Value.int .i64 0), (Value.int .i64 131)]))
            (Cal Tryz.prog ω 68 #[a0] <| gh fun v14 =>
            LoopM (((Value.slice none 0 0), (Value.int .i64 0), (Value.int .i64 0), (Value.slice none 0 0), (Value.int .i64 0), ()) : Value × Value × Value × Value × Value × Unit) fun s Kn0 =>
            sh23_3 ω a0 a3 a4 p_1 at_2 v14 s.1 s.2.1 s.2.2.1 s.2.2.2.1 s.2.2.2.2.1 Kn0 K)))
      (K (Value.tuple #[(Value.slice none 0 0), (Value.int .i64 0), (Value.int .i64 1)])))
    (K (Value.tuple #[(Value.slice none 0 0), (Value.int .i64 0), (Value.int .i64 1)]))
theorem sh23_eq (ω : Om) (a0 a1 a2 a3 a4 : Value) (K : Value → M) : vcF Tryz.prog ω Tryz.f23 [a0, a1, a2, a3, a4] K = sh23 ω a0 a1 a2 a3 a4 K := by kernel_rfl
theorem cal23 {ω : Om} {a0 a1 a2 a3 a4 : Value} {K : Value → M} {I : Imm} {L : LH} (h : sh23 ω a0 a1 a2 a3 a4 (fun v => Gh (K v)) I L) : Cal Tryz.prog ω 23 #[a0, a1, a2, a3, a4] K I L :=
  Cal.gh (cal_of_vc mixed Tryz.func23 (by rw [sh23_eq]; exact h))
def sh24_1 (ω : Om) (p0 : Value) (p1 : Value) (x4 : Value) (x5 : Value) (Kn0 : (Value × Value × Unit) → M) (K : Value → M) : M :=
  Pv (lenV p0) fun v4 =>
  Pv (binIV .lss x5 v4) fun v5 =>
  Br v5
    (Draw fun S =>
      Pv (ixV 2 p0 x5) fun v6 =>
      Pv (fldV 0 v6) fun v7 =>
      Rv (some S) (ld1R v7) fun v8 =>
      Rv (some S) (bsR v8) fun v9 =>
      Pv (ixV 2 p1 x5) fun v10 =>
      Pv (fldV 0 v10) fun v11 =>
      Rv (some S) (ld1R v11) fun v12 =>
      Rv (some S) (bsR v12) fun v13 =>
      Pv (binSV .neq v9 v13) fun v14 =>
      Gd v14 false
        (Pv (ixV 2 p0 x5) fun v15 =>
        Pv (fldV 1 v15) fun v16 =>
        Rv (some S) (ld1R v16) fun v17 =>
        Rv (some S) (bsR v17) fun v18 =>
        Pv (ixV 2 p1 x5) fun v19 =>
        Pv (fldV 1 v19) fun v20 =>
        Rv (some S) (ld1R v20) fun v21 =>
        Rv (some S) (bsR v21) fun v22 =>
        Pv (binSV .neq v18 v22) fun v23 =>
        Br v23
          (K (Value.bool false))
          (Pv (binIV .add x5 (Value.int .i64 1)) fun v24 =>
          Kn0 (x4, v24, ())))
        (K (Value.bool false)))
    (K (Value.bool true))
def sh24 (ω : Om) (a0 : Value) (a1 : Value) (K : Value → M) : M :=
  Pv (lenV a0) fun v1 =>
  Pv (lenV a1) fun v2 =>
  Pv (binIV .neq v1 v2) fun v3 =>
  Br v3
    (K (Value.bool false))
    (LoopM (((Value.bool false), (Value.int .i64 0), ()) : Value × Value × Unit) fun s Kn0 =>
    sh24_1 ω a0 a1 s.1 s.2.1 Kn0 K)
theorem sh24_eq (ω : Om) (a0 a1 : Value) (K : Value → M) : vcF Tryz.prog ω Tryz.f24 [a0, a1] K = sh24 ω a0 a1 K := by kernel_rfl
theorem cal24 {ω : Om} {a0 a1 : Value} {K : Value → M} {I : Imm} {L : LH} (h : sh24 ω a0 a1 (fun v => Gh (K v)) I L) : Cal Tryz.prog ω 24 #[a0, a1] K I L :=
  Cal.gh (cal_of_vc mixed Tryz.func24 (by rw [sh24_eq]; exact h))
def sh25_2 (ω : Om) (p10 : Value) (p11 : Value) (Rk : M) (K : Value → M) : M :=
  Sto 1 p10 (Value.bool true) <| gh fun _ =>
  Sto 1 p11 (Value.int .i64 0) <| gh fun _ =>
  Rk
def sh25_3 (ω : Om) (p10 : Value) (p11 : Value) (Rk : M) (K : Value → M) : M :=
  Sto 1 p10 (Value.bool true) <| gh fun _ =>
  Sto 1 p11 (Value.int .i64 0) <| gh fun _ =>
  Rk
def sh25_5 (ω : Om) (p10 : Value) (p11 : Value) (Q0 : Nat) (K : Value → M) : M :=
  Sto 1 p10 (Value.bool false) <| gh fun _ =>
  Sto 1 p11 (Value.int .i64 0) <| gh fun _ =>
  Tak Q0 <|
  Rv none (ld1R p10) fun v65 =>
  Rv none (ld1R p11) fun v66 =>
  K (Value.tuple #[v65, v66])
def sh25_1 (ω : Om) (p0 : Value) (p6 : Value) (p7 : Value) (p8 : Value) (p9 : Value) (p10 : Value) (p11 : Value) (p15 : Value) (K : Value → M) : M :=
  Br p15
    (Sto 1 p10 (Value.bool false) <| gh fun _ =>
    Sto 1 p11 (Value.int .i64 1) <| gh fun _ =>
    Rv none (ld1R p10) fun v11 =>
    Rv none (ld1R p11) fun v12 =>
    K (Value.tuple #[v11, v12]))
    (Draw fun S =>
      Pv (nilV p0) fun v13 =>
      Pv (fldV 2 v13) fun v14 =>
      Rv (some S) (ldNR 2 v14) fun v15 =>
      Rv (some S) (ldNR 2 p7) fun v16 =>
      Cal Tryz.prog ω 49 #[v15, v16] <| gh fun v17 =>
      Br v17
        (Sto 1 p10 (Value.bool false) <| gh fun _ =>
        Sto 1 p11 (Value.int .i64 131) <| gh fun _ =>
        Rv none (ld1R p10) fun v18 =>
        Rv none (ld1R p11) fun v19 =>
        K (Value.tuple #[v18, v19]))
        (Rv none (ldNR 2 p6) fun v20 =>
        Cal Tryz.prog ω 66 #[p0, v20] <| gh fun v21 =>
        RngF2 Tryz.prog ω v21 (fun r1_0 r1_1 Bg Nk Xk Rk =>
            Bg (Draw fun S =>
              Pv (nilV r1_1) fun v22 =>
              Pv (fldV 1 v22) fun v23 =>
              Pv (fldV 4 v23) fun v24 =>
              Rv (some S) (ld1R v24) fun v25 =>
              Pv (binIV .neq v25 (Value.int .i64 0)) fun v26 =>
              Gd v26 true
                (Pv (nilV r1_1) fun v27 =>
                Pv (fldV 1 v27) fun v28 =>
                Pv (fldV 4 v28) fun v29 =>
                Rv (some S) (ld1R v29) fun v30 =>
                Rv (some S) (ld1R p9) fun v31 =>
                Pv (binIV .neq v30 v31) fun v32 =>
                Gd v32 true
                  (Pv (nilV r1_1) fun v33 =>
                  Pv (fldV 1 v33) fun v34 =>
                  Pv (fldV 0 v34) fun v35 =>
                  Pv (fldV 0 v35) fun v36 =>
                  Rv (some S) (ldNR 2 v36) fun v37 =>
                  Rv (some S) (ldNR 2 p8) fun v38 =>
                  Cal Tryz.prog ω 49 #[v37, v38] <| gh fun v39 =>
                  Pv (unV .not v39) fun v40 =>
                  Br v40
                    (sh25_2 ω p10 p11 Rk K)
                    (Rv none (ldNR 2 p8) fun v41 =>
                    Cal Tryz.prog ω 70 #[r1_1, v41] <| gh fun v42 =>
                    Draw fun S =>
                      Pv (binPV .neq v42 (Value.pointer none)) fun v43 =>
                      Gd v43 true
                        (Pv (nilV v42) fun v44 =>
                        Pv (fldV 0 v44) fun v45 =>
                        Rv (some S) (ldNR 2 v45) fun v46 =>
                        Rv (some S) (ldNR 2 p7) fun v47 =>
                        Cal Tryz.prog ω 49 #[v46, v47] <| gh fun v48 =>
                        Br v48
                          (sh25_3 ω p10 p11 Rk K)
                          (Nk))
                        (Nk)))
                  (Rv none (ldNR 2 p8) fun v49 =>
                  Cal Tryz.prog ω 70 #[r1_1, v49] <| gh fun v50 =>
                  Draw fun S =>
                    Pv (binPV .neq v50 (Value.pointer none)) fun v51 =>
                    Gd v51 true
                      (Pv (nilV v50) fun v52 =>
                      Pv (fldV 0 v52) fun v53 =>
                      Rv (some S) (ldNR 2 v53) fun v54 =>
                      Rv (some S) (ldNR 2 p7) fun v55 =>
                      Cal Tryz.prog ω 49 #[v54, v55] <| gh fun v56 =>
                      Br v56
                        (sh25_3 ω p10 p11 Rk K)
                        (Nk))
                      (Nk)))
                (Rv none (ldNR 2 p8) fun v57 =>
                Cal Tryz.prog ω 70 #[r1_1, v57] <| gh fun v58 =>
                Draw fun S =>
                  Pv (binPV .neq v58 (Value.pointer none)) fun v59 =>
                  Gd v59 true
                    (Pv (nilV v58) fun v60 =>
                    Pv (fldV 0 v60) fun v61 =>
                    Rv (some S) (ldNR 2 v61) fun v62 =>
                    Rv (some S) (ldNR 2 p7) fun v63 =>
                    Cal Tryz.prog ω 49 #[v62, v63] <| gh fun v64 =>
                    Br v64
                      (sh25_3 ω p10 p11 Rk K)
                      (Nk))
                    (Nk))))
          (fun D1 => sh25_5 ω p10 p11 D1 K)
          (fun _ => [])
          (fun D1 => Tak D1 <|
            Rv none (ld1R p10) fun v67 =>
            Rv none (ld1R p11) fun v68 =>
            K (Value.tuple #[v67, v68]))))
def sh25 (ω : Om) (a0 : Value) (a1 : Value) (a2 : Value) (a3 : Value) (a4 : Value) (K : Value → M) : M :=
  New (.cells (Value.cells a1) 39 (0, 0)) <| gh fun p_1 =>
  New (.cells (Value.cells a2) 30 (0, 0)) <| gh fun from_2 =>
  New (.cells (Value.cells a3) 30 (0, 0)) <| gh fun to_3 =>
  New (.cells (Value.cells a4) 3 (0, 0)) <| gh fun txn_4 =>
  New (.cells #[(Value.bool false)] 4 (0, 0)) <| gh fun v5 =>
  New (.cells #[(Value.int .i64 0)] 46 (0, 0)) <| gh fun v6 =>
  Rv none (ldNR 2 from_2) fun v7 =>
  Rv none (ld1R txn_4) fun v8 =>
  Cal Tryz.prog ω 53 #[v7, v8] <| gh fun v9 =>
  Pv (unV .not v9) fun v10 =>
  Br v10
    (sh25_1 ω a0 p_1 from_2 to_3 txn_4 v5 v6 v10 K)
    (Rv none (ldNR 2 to_3) fun v69 =>
    Cal Tryz.prog ω 48 #[v69] <| gh fun v70 =>
    Pv (unV .not v70) fun v71 =>
    sh25_1 ω a0 p_1 from_2 to_3 txn_4 v5 v6 v71 K)
theorem sh25_eq (ω : Om) (a0 a1 a2 a3 a4 : Value) (K : Value → M) : vcF Tryz.prog ω Tryz.f25 [a0, a1, a2, a3, a4] K = sh25 ω a0 a1 a2 a3 a4 K := by kernel_rfl
theorem cal25 {ω : Om} {a0 a1 a2 a3 a4 : Value} {K : Value → M} {I : Imm} {L : LH} (h : sh25 ω a0 a1 a2 a3 a4 (fun v => Gh (K v)) I L) : Cal Tryz.prog ω 25 #[a0, a1, a2, a3, a4] K I L :=
  Cal.gh (cal_of_vc mixed Tryz.func25 (by rw [sh25_eq]; exact h))
def sh26_7 (ω : Om) (p0 : Value) (p4 : Value) (p6 : Value) (p8 : Value) (x10 : Value) (x11 : Value) (x20 : Value) (Kn1 : (Value × Value × Value × Unit) → M) (K : Value → M) : M :=
  Pv (nilV p0) fun v50 =>
  Pv (fldV 1 v50) fun v51 =>
  Rv none (ld1R v51) fun v52 =>
  Pv (lenV v52) fun v53 =>
  Pv (binIV .lss x20 v53) fun v54 =>
  Br v54
    (Draw fun S =>
      Rv (some S) (ldNR 2 p6) fun v55 =>
      Pv (nilV p0) fun v56 =>
      Pv (fldV 1 v56) fun v57 =>
      Rv (some S) (ld1R v57) fun v58 =>
      Pv (ixV 6 v58 x20) fun v59 =>
      Pv (fldV 0 v59) fun v60 =>
      Rv (some S) (ld1R v60) fun v61 =>
      Cal Tryz.prog ω 69 #[v55, v61] <| gh fun v62 =>
      Draw fun S =>
        Pv (nilV p0) fun v63 =>
        Pv (fldV 1 v63) fun v64 =>
        Rv (some S) (ld1R v64) fun v65 =>
        Pv (ixV 6 v65 x20) fun v66 =>
        Pv (fldV 2 v66) fun v67 =>
        Rv (some S) (ldNR 2 v67) fun v68 =>
        Rv (some S) (ldNR 2 p8) fun v69 =>
        Cal Tryz.prog ω 58 #[v68, v69] <| gh fun v70 =>
        Gd v62 true
          (Pv (nilV p0) fun v71 =>
          Pv (fldV 1 v71) fun v72 =>
          Rv none (ld1R v72) fun v73 =>
          Pv (ixV 6 v73 x20) fun v74 =>
          Pv (fldV 1 v74) fun v75 =>
          Rv none (ld1R v75) fun v76 =>
          Pv (binIV .neq v76 p4) fun v77 =>
          Gd v77 true
            (Pv (unV .not v70) fun v78 =>
            Br v78
              (K (Value.tuple #[(Value.bool true), (Value.int .i64 0)]))
              (Pv (binIV .add x20 (Value.int .i64 1)) fun v79 =>
              Kn1 (x10, x11, v79, ())))
            (Pv (binIV .add x20 (Value.int .i64 1)) fun v80 =>
            Kn1 (x10, x11, v80, ())))
          (Pv (binIV .add x20 (Value.int .i64 1)) fun v81 =>
          Kn1 (x10, x11, v81, ())))
    (K (Value.tuple #[(Value.bool false), (Value.int .i64 0)]))
def sh26_6 (ω : Om) (p0 : Value) (p4 : Value) (p6 : Value) (p8 : Value) (p10 : Value) (p11 : Value) (K : Value → M) : M :=
  LoopM ((p10, p11, (Value.int .i64 0), ()) : Value × Value × Value × Unit) fun s Kn1 =>
  sh26_7 ω p0 p4 p6 p8 s.1 s.2.1 s.2.2.1 Kn1 K
def sh26_3 (ω : Om) (p0 : Value) (p4 : Value) (p6 : Value) (p7 : Value) (p8 : Value) (x10 : Value) (x11 : Value) (x16 : Value) (Kn0 : (Value × Value × Value × Unit) → M) (K : Value → M) : M :=
  Pv (nilV p0) fun v17 =>
  Pv (fldV 0 v17) fun v18 =>
  Rv none (ld1R v18) fun v19 =>
  Pv (lenV v19) fun v20 =>
  Pv (binIV .lss x16 v20) fun v21 =>
  Br v21
    (Draw fun S =>
      Rv (some S) (ldNR 2 p6) fun v22 =>
      Pv (nilV p0) fun v23 =>
      Pv (fldV 0 v23) fun v24 =>
      Rv (some S) (ld1R v24) fun v25 =>
      Pv (ixV 5 v25 x16) fun v26 =>
      Pv (fldV 0 v26) fun v27 =>
      Rv (some S) (ld1R v27) fun v28 =>
      Cal Tryz.prog ω 69 #[v22, v28] <| gh fun v29 =>
      Draw fun S =>
        Pv (nilV p0) fun v30 =>
        Pv (fldV 0 v30) fun v31 =>
        Rv (some S) (ld1R v31) fun v32 =>
        Pv (ixV 5 v32 x16) fun v33 =>
        Pv (fldV 1 v33) fun v34 =>
        Rv (some S) (ldNR 2 v34) fun v35 =>
        Rv (some S) (ldNR 2 p7) fun v36 =>
        Cal Tryz.prog ω 58 #[v35, v36] <| gh fun v37 =>
        Draw fun S =>
          Pv (nilV p0) fun v38 =>
          Pv (fldV 0 v38) fun v39 =>
          Rv (some S) (ld1R v39) fun v40 =>
          Pv (ixV 5 v40 x16) fun v41 =>
          Pv (fldV 1 v41) fun v42 =>
          Rv (some S) (ldNR 2 v42) fun v43 =>
          Rv (some S) (ldNR 2 p8) fun v44 =>
          Cal Tryz.prog ω 58 #[v43, v44] <| gh fun v45 =>
          Gd v29 true
            (Gd v37 true
              (Pv (unV .not v45) fun v46 =>
              Br v46
                (K (Value.tuple #[(Value.bool true), (Value.int .i64 0)]))
                (Pv (binIV .add x16 (Value.int .i64 1)) fun v47 =>
                Kn0 (x10, x11, v47, ())))
              (Pv (binIV .add x16 (Value.int .i64 1)) fun v48 =>
              Kn0 (x10, x11, v48, ())))
            (Pv (binIV .add x16 (Value.int .i64 1)) fun v49 =>
            Kn0 (x10, x11, v49, ())))
    (sh26_6 ω p0 p4 p6 p8 x10 x11 K)
def sh26 (ω : Om) (a0 : Value) (a1 : Value) (a2 : Value) (a3 : Value) (a4 : Value) (K : Value → M) : M :=
  New (.cells (Value.cells a1) 39 (0, 0)) <| gh fun p_1 =>
  New (.cells (Value.cells a2) 30 (0, 0)) <| gh fun from_2 =>
  New (.cells (Value.cells a3) 30 (0, 0)) <| gh fun to_3 =>
  Rv none (ldNR 2 from_2) fun v4 =>
  Cal Tryz.prog ω 56 #[v4] <| gh fun v5 =>
  Rv none (ldNR 2 to_3) fun v6 =>
  Cal Tryz.prog ω 56 #[v6] <| gh fun v7 =>
  Cal Tryz.prog ω 64 #[a4] <| gh fun v8 =>
  Pv (unV .not v5) fun v9 =>
  Gd v9 false
    (Pv (unV .not v7) fun v10 =>
    Gd v10 false
      (Pv (unV .not v8) fun v11 =>
      Br v11
        (K (Value.tuple #[(Value.bool false), (Value.int .i64 1)]))
        (Draw fun S =>
          Pv (nilV a0) fun v12 =>
          Pv (fldV 2 v12) fun v13 =>
          Rv (some S) (ldNR 2 v13) fun v14 =>
          Rv (some S) (ldNR 2 from_2) fun v15 =>
          Cal Tryz.prog ω 58 #[v14, v15] <| gh fun v16 =>
          Br v16
            (K (Value.tuple #[(Value.bool false), (Value.int .i64 131)]))
            (LoopM (((Value.bool false), (Value.int .i64 0), (Value.int .i64 0), ()) : Value × Value × Value × Unit) fun s Kn0 =>
            sh26_3 ω a0 a4 p_1 from_2 to_3 s.1 s.2.1 s.2.2.1 Kn0 K)))
      (K (Value.tuple #[(Value.bool false), (Value.int .i64 1)])))
    (K (Value.tuple #[(Value.bool false), (Value.int .i64 1)]))
theorem sh26_eq (ω : Om) (a0 a1 a2 a3 a4 : Value) (K : Value → M) : vcF Tryz.prog ω Tryz.f26 [a0, a1, a2, a3, a4] K = sh26 ω a0 a1 a2 a3 a4 K := by kernel_rfl
theorem cal26 {ω : Om} {a0 a1 a2 a3 a4 : Value} {K : Value → M} {I : Imm} {L : LH} (h : sh26 ω a0 a1 a2 a3 a4 (fun v => Gh (K v)) I L) : Cal Tryz.prog ω 26 #[a0, a1, a2, a3, a4] K I L :=
  Cal.gh (cal_of_vc mixed Tryz.func26 (by rw [sh26_eq]; exact h))
def sh27_4 (ω : Om) (p34 : Value) (Kn0 : (Value × Unit) → M) (K : Value → M) : M :=
  Pv (binIV .add p34 (Value.int .i64 1)) fun v41 =>
  Kn0 (v41, ())
def sh27_5 (ω : Om) (p2 : Value) (p6 : Value) (p8 : Value) (p9 : Value) (p11 : Value) (p12 : Value) (p34 : Value) (Kn0 : (Value × Unit) → M) (K : Value → M) : M :=
  Pv (nilV p9) fun v42 =>
  Pv (fldV 0 v42) fun v43 =>
  Rv none (ld1R v43) fun v44 =>
  Cal Tryz.prog ω 71 #[v44, (Value.func (Fn.func 72) #[] #[p11, p12, p6, p2, p8])] <| gh fun v45 =>
  Pv (nilV p9) fun v46 =>
  Pv (fldV 0 v46) fun v47 =>
  Sto 1 v47 v45 <| gh fun _ =>
  Rv none (ld1R p2) fun v48 =>
  Rv none (ld1R p8) fun v49 =>
  Cal Tryz.prog ω 63 #[v48, v49] <| gh fun v50 =>
  sh27_4 ω p34 Kn0 K
def sh27_7 (ω : Om) (p4 : Value) (p5 : Value) (p6 : Value) (K : Value → M) : M :=
  Rv none (ld1R p6) fun v61 =>
  K (Value.tuple #[v61, (Value.int .i64 0)])
def sh27_2 (ω : Om) (p2 : Value) (p4 : Value) (p5 : Value) (p6 : Value) (p32 : Value) (p33 : Value) (x34 : Value) (Kn0 : (Value × Unit) → M) (K : Value → M) : M :=
  Pv (binIV .lss x34 p33) fun v25 =>
  Br v25
    (Pv (ixV 1 p32 x34) fun v26 =>
    Rv none (ld1R v26) fun v27 =>
    New (.cells #[(Value.string (ByteArray.mk #[]))] 9 (0, 0)) <| gh fun key_28 =>
    Sto 1 key_28 v27 <| gh fun _ =>
    Draw fun S =>
      Rv (some S) (ld1R p2) fun v29 =>
      Pv (nilV v29) fun v30 =>
      Pv (fldV 0 v30) fun v31 =>
      Rv (some S) (ld1R v31) fun v32 =>
      Rv (some S) (ld1R key_28) fun v33 =>
      Rv (some S) (lkR .string (Value.pointer none) false v32 v33) fun v34 =>
      Rv none (ld1R p2) fun v35 =>
      Pv (nilV v35) fun v36 =>
      Pv (fldV 2 v36) fun v37 =>
      Rv none (ldNR 2 v37) fun v38 =>
      Cal Tryz.prog ω 70 #[v34, v38] <| gh fun v39 =>
      Pv (binPV .eql v39 (Value.pointer none)) fun v40 =>
      Br v40
        (sh27_4 ω x34 Kn0 K)
        (Draw fun S =>
          Pv (nilV v39) fun v51 =>
          Pv (fldV 0 v51) fun v52 =>
          Rv (some S) (ldNR 2 v52) fun v53 =>
          Pv (nilV v39) fun v54 =>
          Pv (fldV 2 v54) fun v55 =>
          Rv (some S) (ld1R v55) fun v56 =>
          (fun I L => (New (.cells #[(Value.int .i64 0), (Value.int .i64 0)] 30 (0, 0)) <| gh <| Keep S fun limit_57 =>
            New (.cells #[(Value.bool false)] 4 (0, 0)) <| gh <| Keep S fun del_58 =>
            Sto 2 limit_57 v53 <| gh <| Keep S fun _ =>
            Sto 1 del_58 v56 <| gh fun _ =>
            sh27_5 ω p2 p6 key_28 v34 limit_57 del_58 x34 Kn0 K) I L ∧ (New (.cells #[(Value.bool false)] 4 (0, 0)) <| gh <| Keep S fun del_59 =>
            New (.cells #[(Value.int .i64 0), (Value.int .i64 0)] 30 (0, 0)) <| gh <| Keep S fun limit_60 =>
            Sto 2 limit_60 v53 <| gh <| Keep S fun _ =>
            Sto 1 del_59 v56 <| gh fun _ =>
            sh27_5 ω p2 p6 key_28 v34 limit_60 del_59 x34 Kn0 K) I L)))
    (sh27_7 ω p4 p5 p6 K)
def sh27_1 (ω : Om) (p2 : Value) (p4 : Value) (p5 : Value) (K : Value → M) : M :=
  New (.cells #[(Value.int .i64 0)] 3 (0, 0)) <| gh fun gone_18 =>
  Sto 1 gone_18 (Value.int .i64 0) <| gh fun _ =>
  Rv none (ld1R p2) fun v19 =>
  Pv (nilV v19) fun v20 =>
  Pv (fldV 1 v20) fun v21 =>
  Rv none (ld1R v21) fun v22 =>
  Cal Tryz.prog ω 44 #[v22] <| gh fun v23 =>
  Pv (lenV v23) fun v24 =>
  LoopM (((Value.int .i64 0), ()) : Value × Unit) fun s Kn0 =>
  sh27_2 ω p2 p4 p5 gone_18 v23 v24 s.1 Kn0 K
def sh27 (ω : Om) (a0 : Value) (a1 : Value) (K : Value → M) : M :=
  New (.cells (Value.cells a0) 24 (0, 0)) <| gh fun s_1 =>
  New (.cells (Value.cells a1) 30 (0, 0)) <| gh fun below_2 =>
  Rv none (ldNR 2 below_2) fun v3 =>
  Cal Tryz.prog ω 48 #[v3] <| gh fun v4 =>
  Pv (unV .not v4) fun v5 =>
  Br v5
    (K (Value.tuple #[(Value.int .i64 0), (Value.int .i64 1)]))
    (Draw fun S =>
      Rv (some S) (ldNR 2 below_2) fun v6 =>
      Rv (some S) (ld1R s_1) fun v7 =>
      Pv (nilV v7) fun v8 =>
      Pv (fldV 2 v8) fun v9 =>
      Rv (some S) (ldNR 2 v9) fun v10 =>
      Cal Tryz.prog ω 49 #[v6, v10] <| gh fun v11 =>
      Br v11
        (Rv none (ld1R s_1) fun v12 =>
        Rv none (ldNR 2 below_2) fun v13 =>
        Pv (nilV v12) fun v14 =>
        Pv (fldV 2 v14) fun v15 =>
        Sto 2 v15 v13 <| gh fun _ =>
        Rv none (ld1R s_1) fun v16 =>
        Cal Tryz.prog ω 42 #[v16] <| gh fun v17 =>
        sh27_1 ω s_1 (Value.int .i64 0) (Value.int .i64 0) K)
        (sh27_1 ω s_1 (Value.int .i64 0) (Value.int .i64 0) K))
theorem sh27_eq (ω : Om) (a0 a1 : Value) (K : Value → M) : vcF Tryz.prog ω Tryz.f27 [a0, a1] K = sh27 ω a0 a1 K := by kernel_rfl
theorem cal27 {ω : Om} {a0 a1 : Value} {K : Value → M} {I : Imm} {L : LH} (h : sh27 ω a0 a1 (fun v => Gh (K v)) I L) : Cal Tryz.prog ω 27 #[a0, a1] K I L :=
  Cal.gh (cal_of_vc mixed Tryz.func27 (by rw [sh27_eq]; exact h))
def sh28_5 (ω : Om) (p8 : Value) (p9 : Value) (Kn0 : (Value × Value × Unit) → M) (K : Value → M) : M :=
  Pv (binIV .add p9 (Value.int .i64 1)) fun v38 =>
  Kn0 (p8, v38, ())
def sh28_3 (ω : Om) (p0 : Value) (p8 : Value) (p9 : Value) (p10 : Value) (p11 : Value) (Kn0 : (Value × Value × Unit) → M) (K : Value → M) : M :=
  Draw fun S =>
    Pv (fldV 1 p10) fun v18 =>
    Rv (some S) (ldNR 2 v18) fun v19 =>
    Pv (nilV p0) fun v20 =>
    Pv (fldV 0 v20) fun v21 =>
    Rv (some S) (ld1R v21) fun v22 =>
    Pv (ixV 5 v22 p9) fun v23 =>
    Pv (fldV 1 v23) fun v24 =>
    Rv (some S) (ldNR 2 v24) fun v25 =>
    Cal Tryz.prog ω 58 #[v19, v25] <| gh fun v26 =>
    Draw fun S =>
      Pv (fldV 1 p10) fun v27 =>
      Rv (some S) (ldNR 2 v27) fun v28 =>
      Pv (nilV p0) fun v29 =>
      Pv (fldV 0 v29) fun v30 =>
      Rv (some S) (ld1R v30) fun v31 =>
      Pv (ixV 5 v31 p9) fun v32 =>
      Pv (fldV 1 v32) fun v33 =>
      Rv (some S) (ldNR 2 v33) fun v34 =>
      Pv (binAV .eql [(TypeDesc.int .i64, 0), (TypeDesc.int .i64, 1)] v28 v34) fun v35 =>
      Gd p11 true
        (Gd v26 false
          (Gd v35 true
            (Pv (fldV 3 p10) fun v36 =>
            Rv none (ld1R v36) fun v37 =>
            Br v37
              (sh28_5 ω p8 p9 Kn0 K)
              (Pv (nilV p0) fun v39 =>
              Pv (fldV 0 v39) fun v40 =>
              Rv none (ld1R v40) fun v41 =>
              Pv (ixV 5 v41 p9) fun v42 =>
              Rv none (ldNR 5 v42) fun v43 =>
              BldS 99 5 #[(Value.slice none 0 0), (Value.int .i64 0), (Value.int .i64 0), (Value.bool false), (Value.slice none 0 0)] 1 [(0, v43)] <| gh fun v44 =>
              App 99 5 72 #[(Value.slice none 0 0), (Value.int .i64 0), (Value.int .i64 0), (Value.bool false), (Value.slice none 0 0)] p8 v44 <| gh fun v45 =>
              sh28_5 ω v45 p9 Kn0 K))
            (Pv (nilV p0) fun v46 =>
            Pv (fldV 0 v46) fun v47 =>
            Rv none (ld1R v47) fun v48 =>
            Pv (ixV 5 v48 p9) fun v49 =>
            Rv none (ldNR 5 v49) fun v50 =>
            BldS 99 5 #[(Value.slice none 0 0), (Value.int .i64 0), (Value.int .i64 0), (Value.bool false), (Value.slice none 0 0)] 1 [(0, v50)] <| gh fun v51 =>
            App 99 5 72 #[(Value.slice none 0 0), (Value.int .i64 0), (Value.int .i64 0), (Value.bool false), (Value.slice none 0 0)] p8 v51 <| gh fun v52 =>
            sh28_5 ω v52 p9 Kn0 K))
          (sh28_5 ω p8 p9 Kn0 K))
        (Pv (nilV p0) fun v53 =>
        Pv (fldV 0 v53) fun v54 =>
        Rv none (ld1R v54) fun v55 =>
        Pv (ixV 5 v55 p9) fun v56 =>
        Rv none (ldNR 5 v56) fun v57 =>
        BldS 99 5 #[(Value.slice none 0 0), (Value.int .i64 0), (Value.int .i64 0), (Value.bool false), (Value.slice none 0 0)] 1 [(0, v57)] <| gh fun v58 =>
        App 99 5 72 #[(Value.slice none 0 0), (Value.int .i64 0), (Value.int .i64 0), (Value.bool false), (Value.slice none 0 0)] p8 v58 <| gh fun v59 =>
        sh28_5 ω v59 p9 Kn0 K)
def sh28_7 (ω : Om) (p0 : Value) (p4 : Value) (p5 : Value) (p8 : Value) (K : Value → M) : M :=
  Pv (nilV p0) fun v77 =>
  Pv (fldV 0 v77) fun v78 =>
  Rv none (ld1R v78) fun v79 =>
  Pv (lenV v79) fun v80 =>
  Pv (lenV p8) fun v81 =>
  Pv (binIV .sub v80 v81) fun v82 =>
  Pv (nilV p0) fun v83 =>
  Pv (fldV 0 v83) fun v84 =>
  Sto 1 v84 p8 <| gh fun _ =>
  K (Value.tuple #[v82, (Value.int .i64 0)])
def sh28_2 (ω : Om) (p0 : Value) (p4 : Value) (p5 : Value) (x8 : Value) (x9 : Value) (Kn0 : (Value × Value × Unit) → M) (K : Value → M) : M :=
  Pv (nilV p0) fun v13 =>
  Pv (fldV 0 v13) fun v14 =>
  Rv none (ld1R v14) fun v15 =>
  Pv (lenV v15) fun v16 =>
  Pv (binIV .lss x9 v16) fun v17 =>
  Br v17
    (Draw fun S =>
      Pv (nilV p0) fun v60 =>
      Pv (fldV 0 v60) fun v61 =>
      Rv (some S) (ld1R v61) fun v62 =>
      Pv (ixV 5 v62 x9) fun v63 =>
      Pv (fldV 0 v63) fun v64 =>
      Rv (some S) (ld1R v64) fun v65 =>
      Pv (nilV p0) fun v66 =>
      Pv (fldV 2 v66) fun v67 =>
      Rv (some S) (ldNR 2 v67) fun v68 =>
      (fun I L => (Cal Tryz.prog ω 74 #[p0, v65, v68] <| gh fun v69 =>
        Pv (exV v69 0) fun v70 =>
        Pv (exV v69 1) fun v71 =>
        New (.cells #[(Value.slice none 0 0), (Value.int .i64 0), (Value.int .i64 0), (Value.bool false), (Value.slice none 0 0)] 99 (0, 0)) <| gh <| Keep S fun v_72 =>
        Sto 5 v_72 v70 <| gh fun _ =>
        sh28_3 ω p0 x8 x9 v_72 v71 Kn0 K) I L ∧ (New (.cells #[(Value.slice none 0 0), (Value.int .i64 0), (Value.int .i64 0), (Value.bool false), (Value.slice none 0 0)] 99 (0, 0)) <| gh <| Keep S fun v_73 =>
        Cal Tryz.prog ω 74 #[p0, v65, v68] <| gh fun v74 =>
        Pv (exV v74 0) fun v75 =>
        Pv (exV v74 1) fun v76 =>
        Sto 5 v_73 v75 <| gh fun _ =>
        sh28_3 ω p0 x8 x9 v_73 v76 Kn0 K) I L))
    (sh28_7 ω p0 p4 p5 x8 K)
def sh28_1 (ω : Om) (p0 : Value) (p4 : Value) (p5 : Value) (K : Value → M) : M :=
  LoopM (((Value.slice none 0 0), (Value.int .i64 0), ()) : Value × Value × Unit) fun s Kn0 =>
  sh28_2 ω p0 p4 p5 s.1 s.2.1 Kn0 K
def sh28 (ω : Om) (a0 : Value) (a1 : Value) (K : Value → M) : M :=
  New (.cells (Value.cells a1) 30 (0, 0)) <| gh fun below_1 =>
  Rv none (ldNR 2 below_1) fun v2 =>
  Cal Tryz.prog ω 56 #[v2] <| gh fun v3 =>
  Pv (unV .not v3) fun v4 =>
  Br v4
    (K (Value.tuple #[(Value.int .i64 0), (Value.int .i64 1)]))
    (Draw fun S =>
      Rv (some S) (ldNR 2 below_1) fun v5 =>
      Pv (nilV a0) fun v6 =>
      Pv (fldV 2 v6) fun v7 =>
      Rv (some S) (ldNR 2 v7) fun v8 =>
      Cal Tryz.prog ω 58 #[v5, v8] <| gh fun v9 =>
      Br v9
        (Rv none (ldNR 2 below_1) fun v10 =>
        Pv (nilV a0) fun v11 =>
        Pv (fldV 2 v11) fun v12 =>
        Sto 2 v12 v10 <| gh fun _ =>
        sh28_1 ω a0 (Value.int .i64 0) (Value.int .i64 0) K)
        (sh28_1 ω a0 (Value.int .i64 0) (Value.int .i64 0) K))
theorem sh28_eq (ω : Om) (a0 a1 : Value) (K : Value → M) : vcF Tryz.prog ω Tryz.f28 [a0, a1] K = sh28 ω a0 a1 K := by kernel_rfl
theorem cal28 {ω : Om} {a0 a1 : Value} {K : Value → M} {I : Imm} {L : LH} (h : sh28 ω a0 a1 (fun v => Gh (K v)) I L) : Cal Tryz.prog ω 28 #[a0, a1] K I L :=
  Cal.gh (cal_of_vc mixed Tryz.func28 (by rw [sh28_eq]; exact h))
def sh29 (ω : Om) (a0 : Value) (K : Value → M) : M :=
  Cal Tryz.prog ω 75 #[(Value.slice none 0 0), a0] <| gh fun v1 =>
  K v1
theorem sh29_eq (ω : Om) (a0 : Value) (K : Value → M) : vcF Tryz.prog ω Tryz.f29 [a0] K = sh29 ω a0 K := by kernel_rfl
theorem cal29 {ω : Om} {a0 : Value} {K : Value → M} {I : Imm} {L : LH} (h : sh29 ω a0 (fun v => Gh (K v)) I L) : Cal Tryz.prog ω 29 #[a0] K I L :=
  Cal.gh (cal_of_vc mixed Tryz.func29 (by rw [sh29_eq]; exact h))
def sh30 (ω : Om) (a0 : Value) (K : Value → M) : M :=
  New (.cells (Value.cells a0) 63 (0, 0)) <| gh fun m_1 =>
  K (Value.func (Fn.func 76) #[] #[m_1])
theorem sh30_eq (ω : Om) (a0 : Value) (K : Value → M) : vcF Tryz.prog ω Tryz.f30 [a0] K = sh30 ω a0 K := by kernel_rfl
theorem cal30 {ω : Om} {a0 : Value} {K : Value → M} {I : Imm} {L : LH} (h : sh30 ω a0 (fun v => Gh (K v)) I L) : Cal Tryz.prog ω 30 #[a0] K I L :=
  Cal.gh (cal_of_vc mixed Tryz.func30 (by rw [sh30_eq]; exact h))
def sh32 (ω : Om) (a0 : Value) (a1 : Value) (K : Value → M) : M :=
  New (.cells (Value.cells a0) 78 (0, 0)) <| gh fun a_1 =>
  New (.cells (Value.cells a1) 78 (0, 0)) <| gh fun b_2 =>
  Pv (fldV 1 a_1) fun v3 =>
  Rv none (ld1R v3) fun v4 =>
  Rv none (bsR v4) fun v5 =>
  Pv (fldV 1 b_2) fun v6 =>
  Rv none (ld1R v6) fun v7 =>
  Rv none (bsR v7) fun v8 =>
  Cal Tryz.prog ω 33 #[v5, v8] <| gh fun v9 =>
  K v9
theorem sh32_eq (ω : Om) (a0 a1 : Value) (K : Value → M) : vcF Tryz.prog ω Tryz.f32 [a0, a1] K = sh32 ω a0 a1 K := by kernel_rfl
theorem cal32 {ω : Om} {a0 a1 : Value} {K : Value → M} {I : Imm} {L : LH} (h : sh32 ω a0 a1 (fun v => Gh (K v)) I L) : Cal Tryz.prog ω 32 #[a0, a1] K I L :=
  Cal.gh (cal_of_vc mixed Tryz.func32 (by rw [sh32_eq]; exact h))
def sh34 (ω : Om) (a0 : Value) (a1 : Value) (K : Value → M) : M :=
  New (.cells (Value.cells a1) 86 (0, 0)) <| gh fun x_1 =>
  Pv (fldV 1 x_1) fun v2 =>
  Rv none (ld1R v2) fun v3 =>
  Cal Tryz.prog ω 80 #[v3] <| gh fun v4 =>
  Pv (exV v4 0) fun v5 =>
  Pv (exV v4 1) fun v6 =>
  New (.cells #[(Value.int .i64 0), (Value.int .i64 0)] 30 (0, 0)) <| gh fun at_7 =>
  Sto 2 at_7 v5 <| gh fun _ =>
  Rv none (ldNR 2 at_7) fun v8 =>
  Pv (nilV a0) fun v9 =>
  Pv (fldV 2 v9) fun v10 =>
  Sto 2 v10 v8 <| gh fun _ =>
  Pv (binIV .eql v6 (Value.int .i64 0)) fun v11 =>
  Gd v11 true
    (Pv (fldV 0 x_1) fun v12 =>
    Rv none (ld1R v12) fun v13 =>
    Pv (lenV v13) fun v14 =>
    Pv (binIV .eql v14 (Value.int .i64 1)) fun v15 =>
    K v15)
    (K (Value.bool false))
theorem sh34_eq (ω : Om) (a0 a1 : Value) (K : Value → M) : vcF Tryz.prog ω Tryz.f34 [a0, a1] K = sh34 ω a0 a1 K := by kernel_rfl
theorem cal34 {ω : Om} {a0 a1 : Value} {K : Value → M} {I : Imm} {L : LH} (h : sh34 ω a0 a1 (fun v => Gh (K v)) I L) : Cal Tryz.prog ω 34 #[a0, a1] K I L :=
  Cal.gh (cal_of_vc mixed Tryz.func34 (by rw [sh34_eq]; exact h))
def sh35 (ω : Om) (a0 : Value) (a1 : Value) (K : Value → M) : M :=
  New (.cells (Value.cells a1) 86 (0, 0)) <| gh fun x_1 =>
  Pv (fldV 0 x_1) fun v2 =>
  Rv none (ld1R v2) fun v3 =>
  Pv (slcV 1 v3 (some (Value.int .i64 1)) none none) fun v4 =>
  Cal Tryz.prog ω 41 #[v4] <| gh fun v5 =>
  Pv (unV .not v5) fun v6 =>
  Gd v6 false
    (Pv (fldV 1 x_1) fun v7 =>
    Rv none (ld1R v7) fun v8 =>
    Pv (lenV v8) fun v9 =>
    Pv (binIV .lss v9 (Value.int .i64 9)) fun v10 =>
    Br v10
      (K (Value.bool false))
      (Pv (fldV 1 x_1) fun v11 =>
      Rv none (ld1R v11) fun v12 =>
      Pv (slcV 1 v12 none (some (Value.int .i64 9)) none) fun v13 =>
      Cal Tryz.prog ω 80 #[v13] <| gh fun v14 =>
      Pv (exV v14 0) fun v15 =>
      Pv (exV v14 1) fun v16 =>
      New (.cells #[(Value.int .i64 0), (Value.int .i64 0)] 30 (0, 0)) <| gh fun at_17 =>
      Sto 2 at_17 v15 <| gh fun _ =>
      Pv (fldV 1 x_1) fun v18 =>
      Rv none (ld1R v18) fun v19 =>
      Pv (slcV 1 v19 (some (Value.int .i64 9)) none none) fun v20 =>
      Cal Tryz.prog ω 81 #[v20] <| gh fun v21 =>
      Pv (exV v21 0) fun v22 =>
      Pv (exV v21 1) fun v23 =>
      Pv (exV v21 2) fun v24 =>
      Pv (binIV .neq v16 (Value.int .i64 0)) fun v25 =>
      Gd v25 false
        (Pv (binIV .neq v24 (Value.int .i64 0)) fun v26 =>
        Gd v26 false
          (Pv (binIV .gtr v22 (Value.int .u64 9007199254740991)) fun v27 =>
          Gd v27 false
            (Pv (binIV .eql v22 (Value.int .u64 0)) fun v28 =>
            Br v28
              (K (Value.bool false))
              (Pv (fldV 1 x_1) fun v29 =>
              Rv none (ld1R v29) fun v30 =>
              Pv (binIV .add (Value.int .i64 9) v23) fun v31 =>
              Pv (slcV 1 v30 (some v31) none none) fun v32 =>
              Cal Tryz.prog ω 82 #[v32] <| gh fun v33 =>
              Pv (exV v33 0) fun v34 =>
              Pv (exV v33 1) fun v35 =>
              New (.cells #[(Value.int .i64 0), (Value.int .i64 0), (Value.bool false), (Value.string (ByteArray.mk #[]))] 104 (0, 0)) <| gh fun v_36 =>
              Sto 4 v_36 v34 <| gh fun _ =>
              Rv none (ldNR 2 at_17) fun v37 =>
              Pv (fldV 0 v_36) fun v38 =>
              Sto 2 v38 v37 <| gh fun _ =>
              Draw fun S =>
                Pv (fldV 0 x_1) fun v39 =>
                Rv (some S) (ld1R v39) fun v40 =>
                Pv (slcV 1 v40 (some (Value.int .i64 1)) none none) fun v41 =>
                Rv (some S) (bsR v41) fun v42 =>
                Cal Tryz.prog ω 51 #[a0, v42] <| gh <| Keep S fun v43 =>
                Rv (some S) (ldNR 4 v_36) fun v44 =>
                Pv (cvIV .i64 v22) fun v45 =>
                Pv (bldV #[(Value.int .i64 0), (Value.int .i64 0), (Value.bool false), (Value.string (ByteArray.mk #[])), (Value.int .i64 0)] #[(0, 4), (4, 1)] [(0, v44), (1, v45)]) fun v46 =>
                Pv (nilV v43) fun v47 =>
                Pv (fldV 1 v47) fun v48 =>
                Sto 5 v48 v46 <| gh fun _ =>
                K v35))
            (K (Value.bool false)))
          (K (Value.bool false)))
        (K (Value.bool false))))
    (K (Value.bool false))
theorem sh35_eq (ω : Om) (a0 a1 : Value) (K : Value → M) : vcF Tryz.prog ω Tryz.f35 [a0, a1] K = sh35 ω a0 a1 K := by kernel_rfl
theorem cal35 {ω : Om} {a0 a1 : Value} {K : Value → M} {I : Imm} {L : LH} (h : sh35 ω a0 a1 (fun v => Gh (K v)) I L) : Cal Tryz.prog ω 35 #[a0, a1] K I L :=
  Cal.gh (cal_of_vc mixed Tryz.func35 (by rw [sh35_eq]; exact h))
def sh36 (ω : Om) (a0 : Value) (a1 : Value) (K : Value → M) : M :=
  New (.cells (Value.cells a1) 86 (0, 0)) <| gh fun x_1 =>
  Pv (fldV 0 x_1) fun v2 =>
  Rv none (ld1R v2) fun v3 =>
  Pv (slcV 1 v3 (some (Value.int .i64 1)) none none) fun v4 =>
  Cal Tryz.prog ω 83 #[v4] <| gh fun v5 =>
  Pv (exV v5 0) fun v6 =>
  Pv (exV v5 1) fun v7 =>
  Pv (exV v5 2) fun v8 =>
  Pv (binIV .neq v8 (Value.int .i64 0)) fun v9 =>
  Gd v9 false
    (Cal Tryz.prog ω 41 #[v6] <| gh fun v10 =>
    Pv (unV .not v10) fun v11 =>
    Br v11
      (K (Value.bool false))
      (Pv (fldV 0 x_1) fun v12 =>
      Rv none (ld1R v12) fun v13 =>
      Pv (binIV .add (Value.int .i64 1) v7) fun v14 =>
      Pv (slcV 1 v13 (some v14) none none) fun v15 =>
      Cal Tryz.prog ω 80 #[v15] <| gh fun v16 =>
      Pv (exV v16 0) fun v17 =>
      Pv (exV v16 1) fun v18 =>
      New (.cells #[(Value.int .i64 0), (Value.int .i64 0)] 30 (0, 0)) <| gh fun at_19 =>
      Sto 2 at_19 v17 <| gh fun _ =>
      Pv (fldV 1 x_1) fun v20 =>
      Rv none (ld1R v20) fun v21 =>
      Cal Tryz.prog ω 82 #[v21] <| gh fun v22 =>
      Pv (exV v22 0) fun v23 =>
      Pv (exV v22 1) fun v24 =>
      New (.cells #[(Value.int .i64 0), (Value.int .i64 0), (Value.bool false), (Value.string (ByteArray.mk #[]))] 104 (0, 0)) <| gh fun v_25 =>
      Sto 4 v_25 v23 <| gh fun _ =>
      Rv none (ldNR 2 at_19) fun v26 =>
      Pv (fldV 0 v_25) fun v27 =>
      Sto 2 v27 v26 <| gh fun _ =>
      Pv (binIV .neq v18 (Value.int .i64 0)) fun v28 =>
      Gd v28 false
        (Pv (unV .not v24) fun v29 =>
        Br v29
          (K (Value.bool false))
          (Rv none (bsR v6) fun v30 =>
          Cal Tryz.prog ω 51 #[a0, v30] <| gh fun v31 =>
          Draw fun S =>
            Pv (nilV v31) fun v32 =>
            Pv (fldV 0 v32) fun v33 =>
            Rv (some S) (ld1R v33) fun v34 =>
            Rv (some S) (ldNR 4 v_25) fun v35 =>
            BldS 104 4 #[(Value.int .i64 0), (Value.int .i64 0), (Value.bool false), (Value.string (ByteArray.mk #[]))] 1 [(0, v35)] <| gh <| Keep S fun v36 =>
            App 104 4 40 #[(Value.int .i64 0), (Value.int .i64 0), (Value.bool false), (Value.string (ByteArray.mk #[]))] v34 v36 <| gh fun v37 =>
            Pv (nilV v31) fun v38 =>
            Pv (fldV 0 v38) fun v39 =>
            Sto 1 v39 v37 <| gh fun _ =>
            Pv (nilV v31) fun v40 =>
            Pv (fldV 0 v40) fun v41 =>
            Rv none (ld1R v41) fun v42 =>
            Cal Tryz.prog ω 84 #[v42, (Value.func (.func 85) #[] #[])] <| gh fun v43 =>
            K v43))
        (K (Value.bool false))))
    (K (Value.bool false))
theorem sh36_eq (ω : Om) (a0 a1 : Value) (K : Value → M) : vcF Tryz.prog ω Tryz.f36 [a0, a1] K = sh36 ω a0 a1 K := by kernel_rfl
theorem cal36 {ω : Om} {a0 a1 : Value} {K : Value → M} {I : Imm} {L : LH} (h : sh36 ω a0 a1 (fun v => Gh (K v)) I L) : Cal Tryz.prog ω 36 #[a0, a1] K I L :=
  Cal.gh (cal_of_vc mixed Tryz.func36 (by rw [sh36_eq]; exact h))
def sh37 (ω : Om) (a0 : Value) (K : Value → M) : M :=
  New (.cells #[(Value.int .i64 0), (Value.int .i64 0)] 30 (0, 0)) <| gh fun v1 =>
  Pv (nilV a0) fun v2 =>
  Pv (fldV 2 v2) fun v3 =>
  Rv none (ldNR 2 v3) fun v4 =>
  Sto 2 v1 v4 <| gh fun _ =>
  Rv none (ldNR 2 v1) fun v5 =>
  K v5
theorem sh37_eq (ω : Om) (a0 : Value) (K : Value → M) : vcF Tryz.prog ω Tryz.f37 [a0] K = sh37 ω a0 K := by kernel_rfl
theorem cal37 {ω : Om} {a0 : Value} {K : Value → M} {I : Imm} {L : LH} (h : sh37 ω a0 (fun v => Gh (K v)) I L) : Cal Tryz.prog ω 37 #[a0] K I L :=
  Cal.gh (cal_of_vc mixed Tryz.func37 (by rw [sh37_eq]; exact h))
def sh38_1 (ω : Om) (p2 : Value) (p10 : Value) (x3 : Value) (Kn0 : (Value × Unit) → M) (K : Value → M) : M :=
  NxtM p10 <| gh fun v5 =>
  Pv (exV v5 0) fun v6 =>
  Br v6
    (Rv none (entR p10) fun v7 =>
    Pv (exV v7 1) fun v8 =>
    Pv (nilV v8) fun v9 =>
    Pv (fldV 0 v9) fun v10 =>
    Rv none (ld1R v10) fun v11 =>
    Pv (lenV v11) fun v12 =>
    Pv (binIV .add x3 v12) fun v13 =>
    Kn0 (v13, ()))
    (K x3)
def sh38 (ω : Om) (a0 : Value) (K : Value → M) : M :=
  Pv (nilV a0) fun v1 =>
  Pv (fldV 0 v1) fun v2 =>
  Rv none (ld1R v2) fun v3 =>
  RngMp v3 <| gh fun v4 =>
  LoopM (((Value.int .i64 0), ()) : Value × Unit) fun s Kn0 =>
  sh38_1 ω (Value.int .i64 0) v4 s.1 Kn0 K
theorem sh38_eq (ω : Om) (a0 : Value) (K : Value → M) : vcF Tryz.prog ω Tryz.f38 [a0] K = sh38 ω a0 K := by kernel_rfl
theorem cal38 {ω : Om} {a0 : Value} {K : Value → M} {I : Imm} {L : LH} (h : sh38 ω a0 (fun v => Gh (K v)) I L) : Cal Tryz.prog ω 38 #[a0] K I L :=
  Cal.gh (cal_of_vc mixed Tryz.func38 (by rw [sh38_eq]; exact h))
def sh39_3 (ω : Om) (p2 : Value) (p3 : Value) (Q0 : Nat) (K : Value → M) : M :=
  Rv none (ld1R p3) fun v28 =>
  Tak Q0 <|
  K v28
def sh39 (ω : Om) (a0 : Value) (K : Value → M) : M :=
  New (.cells #[(Value.slice none 0 0)] 28 (0, 0)) <| gh fun out_1 =>
  Pv (bldV #[(Value.slice none 0 0), (Value.slice none 0 0)] #[(0, 1), (1, 1)] []) fun v2 =>
  Cal Tryz.prog ω 66 #[a0, v2] <| gh fun v3 =>
  RngF2 Tryz.prog ω v3 (fun r1_0 r1_1 Bg Nk Xk Rk =>
      Bg (Pv (nilV r1_1) fun v4 =>
      Pv (fldV 1 v4) fun v5 =>
      Rv none (ldNR 5 v5) fun v6 =>
      New (.cells #[(Value.int .i64 0), (Value.int .i64 0), (Value.bool false), (Value.string (ByteArray.mk #[])), (Value.int .i64 0)] 106 (0, 0)) <| gh fun x_7 =>
      Sto 5 x_7 v6 <| gh fun _ =>
      Pv (fldV 4 x_7) fun v8 =>
      Rv none (ld1R v8) fun v9 =>
      Pv (binIV .neq v9 (Value.int .i64 0)) fun v10 =>
      Br v10
        (Rv none (ld1R out_1) fun v11 =>
        CvSB 5 r1_0 <| gh fun v12 =>
        Pv (fldV 4 x_7) fun v13 =>
        Rv none (ld1R v13) fun v14 =>
        Pv (fldV 0 x_7) fun v15 =>
        Pv (fldV 0 v15) fun v16 =>
        Rv none (ldNR 2 v16) fun v17 =>
        Pv (fldV 0 x_7) fun v18 =>
        Pv (fldV 2 v18) fun v19 =>
        Rv none (ld1R v19) fun v20 =>
        Pv (fldV 0 x_7) fun v21 =>
        Pv (fldV 3 v21) fun v22 =>
        Rv none (ld1R v22) fun v23 =>
        CvSB 5 v23 <| gh fun v24 =>
        Pv (bldV #[(Value.slice none 0 0), (Value.int .i64 0), (Value.int .i64 0), (Value.int .i64 0), (Value.bool false), (Value.slice none 0 0)] #[(0, 1), (1, 1), (2, 2), (4, 1), (5, 1)] [(0, v12), (1, v14), (2, v17), (3, v20), (4, v24)]) fun v25 =>
        BldS 37 6 #[(Value.slice none 0 0), (Value.int .i64 0), (Value.int .i64 0), (Value.int .i64 0), (Value.bool false), (Value.slice none 0 0)] 1 [(0, v25)] <| gh fun v26 =>
        App 37 6 80 #[(Value.slice none 0 0), (Value.int .i64 0), (Value.int .i64 0), (Value.int .i64 0), (Value.bool false), (Value.slice none 0 0)] v11 v26 <| gh fun v27 =>
        Sto 1 out_1 v27 <| gh fun _ =>
        Nk)
        (Nk)))
    (fun D1 => sh39_3 ω (Value.slice none 0 0) out_1 D1 K)
    (fun _ => [])
    (fun D1 => Tak D1 <|
      K (Value.slice none 0 0))
theorem sh39_eq (ω : Om) (a0 : Value) (K : Value → M) : vcF Tryz.prog ω Tryz.f39 [a0] K = sh39 ω a0 K := by kernel_rfl
theorem cal39 {ω : Om} {a0 : Value} {K : Value → M} {I : Imm} {L : LH} (h : sh39 ω a0 (fun v => Gh (K v)) I L) : Cal Tryz.prog ω 39 #[a0] K I L :=
  Cal.gh (cal_of_vc mixed Tryz.func39 (by rw [sh39_eq]; exact h))
def sh40_1 (ω : Om) (p0 : Value) (p1 : Value) (x4 : Value) (x5 : Value) (Kn0 : (Value × Value × Unit) → M) (K : Value → M) : M :=
  Pv (lenV p0) fun v4 =>
  Pv (binIV .lss x5 v4) fun v5 =>
  Br v5
    (Draw fun S =>
      Pv (ixV 6 p0 x5) fun v6 =>
      Pv (fldV 0 v6) fun v7 =>
      Rv (some S) (ld1R v7) fun v8 =>
      Rv (some S) (bsR v8) fun v9 =>
      Pv (ixV 6 p1 x5) fun v10 =>
      Pv (fldV 0 v10) fun v11 =>
      Rv (some S) (ld1R v11) fun v12 =>
      Rv (some S) (bsR v12) fun v13 =>
      Pv (binSV .neq v9 v13) fun v14 =>
      Gd v14 false
        (Pv (ixV 6 p0 x5) fun v15 =>
        Pv (fldV 1 v15) fun v16 =>
        Rv (some S) (ld1R v16) fun v17 =>
        Pv (ixV 6 p1 x5) fun v18 =>
        Pv (fldV 1 v18) fun v19 =>
        Rv (some S) (ld1R v19) fun v20 =>
        Pv (binIV .neq v17 v20) fun v21 =>
        Gd v21 false
          (Pv (ixV 6 p0 x5) fun v22 =>
          Pv (fldV 2 v22) fun v23 =>
          Rv (some S) (ldNR 2 v23) fun v24 =>
          Pv (ixV 6 p1 x5) fun v25 =>
          Pv (fldV 2 v25) fun v26 =>
          Rv (some S) (ldNR 2 v26) fun v27 =>
          Pv (binAV .neq [(TypeDesc.int .i64, 0), (TypeDesc.int .i64, 1)] v24 v27) fun v28 =>
          Gd v28 false
            (Pv (ixV 6 p0 x5) fun v29 =>
            Pv (fldV 4 v29) fun v30 =>
            Rv (some S) (ld1R v30) fun v31 =>
            Pv (ixV 6 p1 x5) fun v32 =>
            Pv (fldV 4 v32) fun v33 =>
            Rv (some S) (ld1R v33) fun v34 =>
            Pv (binBV .neq v31 v34) fun v35 =>
            Gd v35 false
              (Pv (ixV 6 p0 x5) fun v36 =>
              Pv (fldV 5 v36) fun v37 =>
              Rv (some S) (ld1R v37) fun v38 =>
              Rv (some S) (bsR v38) fun v39 =>
              Pv (ixV 6 p1 x5) fun v40 =>
              Pv (fldV 5 v40) fun v41 =>
              Rv (some S) (ld1R v41) fun v42 =>
              Rv (some S) (bsR v42) fun v43 =>
              Pv (binSV .neq v39 v43) fun v44 =>
              Br v44
                (K (Value.bool false))
                (Pv (binIV .add x5 (Value.int .i64 1)) fun v45 =>
                Kn0 (x4, v45, ())))
              (K (Value.bool false)))
            (K (Value.bool false)))
          (K (Value.bool false)))
        (K (Value.bool false)))
    (K (Value.bool true))
def sh40 (ω : Om) (a0 : Value) (a1 : Value) (K : Value → M) : M :=
  Pv (lenV a0) fun v1 =>
  Pv (lenV a1) fun v2 =>
  Pv (binIV .neq v1 v2) fun v3 =>
  Br v3
    (K (Value.bool false))
    (LoopM (((Value.bool false), (Value.int .i64 0), ()) : Value × Value × Unit) fun s Kn0 =>
    sh40_1 ω a0 a1 s.1 s.2.1 Kn0 K)
theorem sh40_eq (ω : Om) (a0 a1 : Value) (K : Value → M) : vcF Tryz.prog ω Tryz.f40 [a0, a1] K = sh40 ω a0 a1 K := by kernel_rfl
theorem cal40 {ω : Om} {a0 a1 : Value} {K : Value → M} {I : Imm} {L : LH} (h : sh40 ω a0 a1 (fun v => Gh (K v)) I L) : Cal Tryz.prog ω 40 #[a0, a1] K I L :=
  Cal.gh (cal_of_vc mixed Tryz.func40 (by rw [sh40_eq]; exact h))
def sh41 (ω : Om) (a0 : Value) (K : Value → M) : M :=
  Pv (lenV a0) fun v1 =>
  Pv (binIV .geq v1 (Value.int .i64 1)) fun v2 =>
  Gd v2 true
    (Pv (lenV a0) fun v3 =>
    Pv (binIV .leq v3 (Value.int .i64 110)) fun v4 =>
    K v4)
    (K (Value.bool false))
theorem sh41_eq (ω : Om) (a0 : Value) (K : Value → M) : vcF Tryz.prog ω Tryz.f41 [a0] K = sh41 ω a0 K := by kernel_rfl
theorem cal41 {ω : Om} {a0 : Value} {K : Value → M} {I : Imm} {L : LH} (h : sh41 ω a0 (fun v => Gh (K v)) I L) : Cal Tryz.prog ω 41 #[a0] K I L :=
  Cal.gh (cal_of_vc mixed Tryz.func41 (by rw [sh41_eq]; exact h))
def sh42 (ω : Om) (a0 : Value) (K : Value → M) : M :=
  Pv (nilV a0) fun v1 =>
  Pv (fldV 2 v1) fun v2 =>
  Rv none (ldNR 2 v2) fun v3 =>
  Cal Tryz.prog ω 87 #[v3] <| gh fun v4 =>
  Pv (exV v4 0) fun v5 =>
  Pv (exV v4 1) fun v6 =>
  BldS 5 1 #[(Value.int .u8 0)] 1 [(0, (Value.int .u8 102))] <| gh fun v7 =>
  Cal Tryz.prog ω 88 #[a0, v7, v5, (Value.bool false)] <| gh fun v8 =>
  K (Value.tuple #[])
theorem sh42_eq (ω : Om) (a0 : Value) (K : Value → M) : vcF Tryz.prog ω Tryz.f42 [a0] K = sh42 ω a0 K := by kernel_rfl
theorem cal42 {ω : Om} {a0 : Value} {K : Value → M} {I : Imm} {L : LH} (h : sh42 ω a0 (fun v => Gh (K v)) I L) : Cal Tryz.prog ω 42 #[a0] K I L :=
  Cal.gh (cal_of_vc mixed Tryz.func42 (by rw [sh42_eq]; exact h))
def sh43_4 (ω : Om) (p0 : Value) (p1 : Value) (p4 : Value) (p5 : Value) (p6 : Value) (p7 : Value) (K : Value → M) : M :=
  Pv (binIV .lss p7 p6) fun v11 =>
  Gd v11 true
    (Pv (ixV 1 p0 p7) fun v12 =>
    Rv none (ld1R v12) fun v13 =>
    Pv (binSV .eql v13 p1) fun v14 =>
    Gd v14 false
      (Pv (ixV 1 p0 p7) fun v15 =>
      Rv none (ld1R v15) fun v16 =>
      Cal Tryz.prog ω 90 #[v16] <| gh fun v17 =>
      Gd v17 true
        (Cal Tryz.prog ω 90 #[p1] <| gh fun v18 =>
        K (Value.tuple #[p7, v18]))
        (K (Value.tuple #[p7, (Value.bool false)])))
      (K (Value.tuple #[p7, (Value.bool true)])))
    (K (Value.tuple #[p7, (Value.bool false)]))
def sh43_1 (ω : Om) (p0 : Value) (p1 : Value) (p4 : Value) (p5 : Value) (p6 : Value) (x7 : Value) (x8 : Value) (Kn0 : (Value × Value × Unit) → M) (K : Value → M) : M :=
  Pv (binIV .lss x7 x8) fun v2 =>
  Br v2
    (Pv (binIV .add x7 x8) fun v3 =>
    Pv (cvIV .u64 v3) fun v4 =>
    Pv (binIV .shr v4 (Value.int .u64 1)) fun v5 =>
    Pv (cvIV .i64 v5) fun v6 =>
    Pv (ixV 1 p0 v6) fun v7 =>
    Rv none (ld1R v7) fun v8 =>
    Cal Tryz.prog ω 89 #[v8, p1] <| gh fun v9 =>
    Br v9
      (Pv (binIV .add v6 (Value.int .i64 1)) fun v10 =>
      Kn0 (v10, x8, ()))
      (Kn0 (x7, v6, ())))
    (sh43_4 ω p0 p1 p4 p5 p6 x7 K)
def sh43 (ω : Om) (a0 : Value) (a1 : Value) (K : Value → M) : M :=
  Pv (lenV a0) fun v1 =>
  LoopM (((Value.int .i64 0), v1, ()) : Value × Value × Unit) fun s Kn0 =>
  sh43_1 ω a0 a1 (Value.int .i64 0) (Value.bool false) v1 s.1 s.2.1 Kn0 K
theorem sh43_eq (ω : Om) (a0 a1 : Value) (K : Value → M) : vcF Tryz.prog ω Tryz.f43 [a0, a1] K = sh43 ω a0 a1 K := by kernel_rfl
theorem cal43 {ω : Om} {a0 a1 : Value} {K : Value → M} {I : Imm} {L : LH} (h : sh43 ω a0 a1 (fun v => Gh (K v)) I L) : Cal Tryz.prog ω 43 #[a0, a1] K I L :=
  Cal.gh (cal_of_vc mixed Tryz.func43 (by rw [sh43_eq]; exact h))
def sh44 (ω : Om) (a0 : Value) (K : Value → M) : M :=
  Pv (binNV .eql a0 (Value.slice none 0 0)) fun v1 =>
  Br v1
    (K (Value.slice none 0 0))
    (BldS 9 1 #[(Value.string (ByteArray.mk #[]))] 0 [] <| gh fun v2 =>
    App 9 1 16 #[(Value.string (ByteArray.mk #[]))] v2 a0 <| gh fun v3 =>
    K v3)
theorem sh44_eq (ω : Om) (a0 : Value) (K : Value → M) : vcF Tryz.prog ω Tryz.f44 [a0] K = sh44 ω a0 K := by kernel_rfl
theorem cal44 {ω : Om} {a0 : Value} {K : Value → M} {I : Imm} {L : LH} (h : sh44 ω a0 (fun v => Gh (K v)) I L) : Cal Tryz.prog ω 44 #[a0] K I L :=
  Cal.gh (cal_of_vc mixed Tryz.func44 (by rw [sh44_eq]; exact h))
def sh45_3 (ω : Om) (p15 : Value) (Kn0 : (Value × Unit) → M) (K : Value → M) : M :=
  Pv (binIV .add p15 (Value.int .i64 1)) fun v11 =>
  Kn0 (v11, ())
def sh45_5 (ω : Om) (p0 : Value) (p1 : Value) (p2 : Value) (p3 : Value) (K : Value → M) : M :=
  Pv (nilV p2) fun v14 =>
  Pv (fldV 1 v14) fun v15 =>
  Pv (fldV 4 v15) fun v16 =>
  Rv none (ld1R v16) fun v17 =>
  Pv (binIV .eql v17 (Value.int .i64 0)) fun v18 =>
  Br v18
    (K (Value.tuple #[]))
    (Br p3
      (BldS 5 1 #[(Value.int .u8 0)] 1 [(0, (Value.int .u8 105))] <| gh fun v19 =>
      App 5 1 1 #[(Value.int .u8 0)] v19 p1 <| gh fun v20 =>
      Cal Tryz.prog ω 88 #[p0, v20, (Value.slice none 0 0), (Value.bool true)] <| gh fun v21 =>
      K (Value.tuple #[]))
      (Cal Tryz.prog ω 52 #[p0, p1] <| gh fun v22 =>
      K (Value.tuple #[])))
def sh45_1 (ω : Om) (p0 : Value) (p1 : Value) (p2 : Value) (p3 : Value) (p13 : Value) (p14 : Value) (x15 : Value) (Kn0 : (Value × Unit) → M) (K : Value → M) : M :=
  Pv (binIV .lss x15 p14) fun v5 =>
  Br v5
    (Pv (ixV 4 p13 x15) fun v6 =>
    Rv none (ldNR 4 v6) fun v7 =>
    New (.cells #[(Value.int .i64 0), (Value.int .i64 0), (Value.bool false), (Value.string (ByteArray.mk #[]))] 104 (0, 0)) <| gh fun v_8 =>
    Sto 4 v_8 v7 <| gh fun _ =>
    Br p3
      (Rv none (ldNR 4 v_8) fun v9 =>
      Cal Tryz.prog ω 73 #[p0, p1, v9] <| gh fun v10 =>
      sh45_3 ω x15 Kn0 K)
      (Rv none (ldNR 4 v_8) fun v12 =>
      Cal Tryz.prog ω 62 #[p0, p1, v12] <| gh fun v13 =>
      sh45_3 ω x15 Kn0 K))
    (sh45_5 ω p0 p1 p2 p3 K)
def sh45 (ω : Om) (a0 : Value) (a1 : Value) (a2 : Value) (a3 : Value) (K : Value → M) : M :=
  Pv (nilV a2) fun v1 =>
  Pv (fldV 0 v1) fun v2 =>
  Rv none (ld1R v2) fun v3 =>
  Pv (lenV v3) fun v4 =>
  LoopM (((Value.int .i64 0), ()) : Value × Unit) fun s Kn0 =>
  sh45_1 ω a0 a1 a2 a3 v3 v4 s.1 Kn0 K
theorem sh45_eq (ω : Om) (a0 a1 a2 a3 : Value) (K : Value → M) : vcF Tryz.prog ω Tryz.f45 [a0, a1, a2, a3] K = sh45 ω a0 a1 a2 a3 K := by kernel_rfl
theorem cal45 {ω : Om} {a0 a1 a2 a3 : Value} {K : Value → M} {I : Imm} {L : LH} (h : sh45 ω a0 a1 a2 a3 (fun v => Gh (K v)) I L) : Cal Tryz.prog ω 45 #[a0, a1, a2, a3] K I L :=
  Cal.gh (cal_of_vc mixed Tryz.func45 (by rw [sh45_eq]; exact h))
def sh46 (ω : Om) (a0 : Value) (K : Value → M) : M :=
  Pv (lenV a0) fun v1 =>
  Pv (binIV .geq v1 (Value.int .i64 1)) fun v2 =>
  Gd v2 true
    (Pv (lenV a0) fun v3 =>
    Pv (binIV .leq v3 (Value.int .i64 110)) fun v4 =>
    K v4)
    (K (Value.bool false))
theorem sh46_eq (ω : Om) (a0 : Value) (K : Value → M) : vcF Tryz.prog ω Tryz.f46 [a0] K = sh46 ω a0 K := by kernel_rfl
theorem cal46 {ω : Om} {a0 : Value} {K : Value → M} {I : Imm} {L : LH} (h : sh46 ω a0 (fun v => Gh (K v)) I L) : Cal Tryz.prog ω 46 #[a0] K I L :=
  Cal.gh (cal_of_vc mixed Tryz.func46 (by rw [sh46_eq]; exact h))
def sh47 (ω : Om) (a0 : Value) (K : Value → M) : M :=
  Pv (binIV .geq a0 (Value.int .i64 1)) fun v1 =>
  Gd v1 true
    (Pv (binIV .leq a0 (Value.int .i64 9007199254740991)) fun v2 =>
    K v2)
    (K (Value.bool false))
theorem sh47_eq (ω : Om) (a0 : Value) (K : Value → M) : vcF Tryz.prog ω Tryz.f47 [a0] K = sh47 ω a0 K := by kernel_rfl
theorem cal47 {ω : Om} {a0 : Value} {K : Value → M} {I : Imm} {L : LH} (h : sh47 ω a0 (fun v => Gh (K v)) I L) : Cal Tryz.prog ω 47 #[a0] K I L :=
  Cal.gh (cal_of_vc mixed Tryz.func47 (by rw [sh47_eq]; exact h))
def sh48 (ω : Om) (a0 : Value) (K : Value → M) : M :=
  New (.cells (Value.cells a0) 30 (0, 0)) <| gh fun s_1 =>
  Pv (fldV 0 s_1) fun v2 =>
  Rv none (ld1R v2) fun v3 =>
  Cal Tryz.prog ω 91 #[v3] <| gh fun v4 =>
  Gd v4 true
    (Pv (fldV 1 s_1) fun v5 =>
    Rv none (ld1R v5) fun v6 =>
    Pv (binIV .geq v6 (Value.int .i64 0)) fun v7 =>
    Gd v7 true
      (Pv (fldV 1 s_1) fun v8 =>
      Rv none (ld1R v8) fun v9 =>
      Pv (binIV .leq v9 (Value.int .i64 65535)) fun v10 =>
      K v10)
      (K (Value.bool false)))
    (K (Value.bool false))
theorem sh48_eq (ω : Om) (a0 : Value) (K : Value → M) : vcF Tryz.prog ω Tryz.f48 [a0] K = sh48 ω a0 K := by kernel_rfl
theorem cal48 {ω : Om} {a0 : Value} {K : Value → M} {I : Imm} {L : LH} (h : sh48 ω a0 (fun v => Gh (K v)) I L) : Cal Tryz.prog ω 48 #[a0] K I L :=
  Cal.gh (cal_of_vc mixed Tryz.func48 (by rw [sh48_eq]; exact h))
def sh49 (ω : Om) (a0 : Value) (a1 : Value) (K : Value → M) : M :=
  New (.cells (Value.cells a0) 30 (0, 0)) <| gh fun a_1 =>
  New (.cells (Value.cells a1) 30 (0, 0)) <| gh fun b_2 =>
  Rv none (ldNR 2 a_1) fun v3 =>
  Rv none (ldNR 2 b_2) fun v4 =>
  Cal Tryz.prog ω 86 #[v3, v4] <| gh fun v5 =>
  Pv (binIV .gtr v5 (Value.int .i64 0)) fun v6 =>
  K v6
theorem sh49_eq (ω : Om) (a0 a1 : Value) (K : Value → M) : vcF Tryz.prog ω Tryz.f49 [a0, a1] K = sh49 ω a0 a1 K := by kernel_rfl
theorem cal49 {ω : Om} {a0 a1 : Value} {K : Value → M} {I : Imm} {L : LH} (h : sh49 ω a0 a1 (fun v => Gh (K v)) I L) : Cal Tryz.prog ω 49 #[a0, a1] K I L :=
  Cal.gh (cal_of_vc mixed Tryz.func49 (by rw [sh49_eq]; exact h))
def sh50 (ω : Om) (a0 : Value) (K : Value → M) : M :=
  New (.cells (Value.cells a0) 30 (0, 0)) <| gh fun s_1 =>
  New (.cells #[(Value.int .i64 0), (Value.int .i64 0)] 30 (0, 0)) <| gh fun v2 =>
  Rv none (ldNR 2 s_1) fun v3 =>
  Cal Tryz.prog ω 48 #[v3] <| gh fun v4 =>
  Pv (unV .not v4) fun v5 =>
  Br v5
    (Pv (bldV #[(Value.int .i64 0), (Value.int .i64 0)] #[(0, 1), (1, 1)] []) fun v6 =>
    Sto 2 v2 v6 <| gh fun _ =>
    Rv none (ldNR 2 v2) fun v7 =>
    K (Value.tuple #[v7, (Value.int .i64 80)]))
    (Rv none (ldNR 2 s_1) fun v8 =>
    Pv (bldV #[(Value.int .i64 0), (Value.int .i64 0)] #[(0, 1), (1, 1)] [(0, (Value.int .i64 9007199254740991)), (1, (Value.int .i64 65535))]) fun v9 =>
    Pv (binAV .eql [(TypeDesc.int .i64, 0), (TypeDesc.int .i64, 1)] v8 v9) fun v10 =>
    Br v10
      (Pv (bldV #[(Value.int .i64 0), (Value.int .i64 0)] #[(0, 1), (1, 1)] []) fun v11 =>
      Sto 2 v2 v11 <| gh fun _ =>
      Rv none (ldNR 2 v2) fun v12 =>
      K (Value.tuple #[v12, (Value.int .i64 82)]))
      (Pv (fldV 1 s_1) fun v13 =>
      Rv none (ld1R v13) fun v14 =>
      Pv (binIV .eql v14 (Value.int .i64 65535)) fun v15 =>
      Br v15
        (Pv (fldV 0 s_1) fun v16 =>
        Rv none (ld1R v16) fun v17 =>
        Pv (binIV .add v17 (Value.int .i64 1)) fun v18 =>
        Pv (bldV #[(Value.int .i64 0), (Value.int .i64 0)] #[(0, 1), (1, 1)] [(0, v18)]) fun v19 =>
        Sto 2 v2 v19 <| gh fun _ =>
        Rv none (ldNR 2 v2) fun v20 =>
        K (Value.tuple #[v20, (Value.int .i64 0)]))
        (Pv (fldV 1 s_1) fun v21 =>
        Rv none (ld1R v21) fun v22 =>
        Pv (binIV .add v22 (Value.int .i64 1)) fun v23 =>
        Pv (fldV 1 s_1) fun v24 =>
        Sto 1 v24 v23 <| gh fun _ =>
        Rv none (ldNR 2 s_1) fun v25 =>
        Sto 2 v2 v25 <| gh fun _ =>
        Rv none (ldNR 2 v2) fun v26 =>
        K (Value.tuple #[v26, (Value.int .i64 0)]))))
theorem sh50_eq (ω : Om) (a0 : Value) (K : Value → M) : vcF Tryz.prog ω Tryz.f50 [a0] K = sh50 ω a0 K := by kernel_rfl
theorem cal50 {ω : Om} {a0 : Value} {K : Value → M} {I : Imm} {L : LH} (h : sh50 ω a0 (fun v => Gh (K v)) I L) : Cal Tryz.prog ω 50 #[a0] K I L :=
  Cal.gh (cal_of_vc mixed Tryz.func50 (by rw [sh50_eq]; exact h))
def sh51 (ω : Om) (a0 : Value) (a1 : Value) (K : Value → M) : M :=
  Pv (nilV a0) fun v1 =>
  Pv (fldV 0 v1) fun v2 =>
  Rv none (ld1R v2) fun v3 =>
  Rv none (lkR .string (Value.pointer none) false v3 a1) fun v4 =>
  Pv (binPV .eql v4 (Value.pointer none)) fun v5 =>
  Br v5
    (Pv (bldV #[(Value.slice none 0 0), (Value.int .i64 0), (Value.int .i64 0), (Value.bool false), (Value.string (ByteArray.mk #[])), (Value.int .i64 0)] #[(0, 1), (1, 5)] []) fun v6 =>
    New (.cells (Value.cells v6) 109 (0, 0)) <| gh fun v7 =>
    Pv (nilV a0) fun v8 =>
    Pv (fldV 0 v8) fun v9 =>
    Rv none (ld1R v9) fun v10 =>
    PutM .string v10 a1 v7 <| gh fun _ =>
    Pv (nilV a0) fun v11 =>
    Pv (fldV 1 v11) fun v12 =>
    Rv none (ld1R v12) fun v13 =>
    Cal Tryz.prog ω 43 #[v13, a1] <| gh fun v14 =>
    Pv (exV v14 0) fun v15 =>
    Pv (exV v14 1) fun v16 =>
    Pv (nilV a0) fun v17 =>
    Pv (fldV 1 v17) fun v18 =>
    Rv none (ld1R v18) fun v19 =>
    BldS 9 1 #[(Value.string (ByteArray.mk #[]))] 1 [(0, a1)] <| gh fun v20 =>
    Cal Tryz.prog ω 92 #[v19, v15, v20] <| gh fun v21 =>
    Pv (nilV a0) fun v22 =>
    Pv (fldV 1 v22) fun v23 =>
    Sto 1 v23 v21 <| gh fun _ =>
    K v7)
    (K v4)
theorem sh51_eq (ω : Om) (a0 a1 : Value) (K : Value → M) : vcF Tryz.prog ω Tryz.f51 [a0, a1] K = sh51 ω a0 a1 K := by kernel_rfl
theorem cal51 {ω : Om} {a0 a1 : Value} {K : Value → M} {I : Imm} {L : LH} (h : sh51 ω a0 a1 (fun v => Gh (K v)) I L) : Cal Tryz.prog ω 51 #[a0, a1] K I L :=
  Cal.gh (cal_of_vc mixed Tryz.func51 (by rw [sh51_eq]; exact h))
def sh52 (ω : Om) (a0 : Value) (a1 : Value) (K : Value → M) : M :=
  BldS 5 1 #[(Value.int .u8 0)] 1 [(0, (Value.int .u8 105))] <| gh fun v1 =>
  App 5 1 1 #[(Value.int .u8 0)] v1 a1 <| gh fun v2 =>
  Pv (nilV a0) fun v3 =>
  Pv (fldV 0 v3) fun v4 =>
  Rv none (ld1R v4) fun v5 =>
  Rv none (lkR .string (Value.pointer none) false v5 a1) fun v6 =>
  Pv (nilV v6) fun v7 =>
  Pv (fldV 1 v7) fun v8 =>
  Pv (fldV 4 v8) fun v9 =>
  Rv none (ld1R v9) fun v10 =>
  Pv (binIV .eql v10 (Value.int .i64 0)) fun v11 =>
  Br v11
    (Cal Tryz.prog ω 88 #[a0, v2, (Value.slice none 0 0), (Value.bool true)] <| gh fun v12 =>
    K (Value.tuple #[]))
    (Pv (nilV v6) fun v13 =>
    Pv (fldV 1 v13) fun v14 =>
    Pv (fldV 0 v14) fun v15 =>
    Pv (fldV 0 v15) fun v16 =>
    Rv none (ldNR 2 v16) fun v17 =>
    Cal Tryz.prog ω 87 #[v17] <| gh fun v18 =>
    Pv (exV v18 0) fun v19 =>
    Pv (exV v18 1) fun v20 =>
    Pv (nilV v6) fun v21 =>
    Pv (fldV 1 v21) fun v22 =>
    Pv (fldV 4 v22) fun v23 =>
    Rv none (ld1R v23) fun v24 =>
    Pv (cvIV .u64 v24) fun v25 =>
    Cal Tryz.prog ω 93 #[v25] <| gh fun v26 =>
    App 5 1 1 #[(Value.int .u8 0)] v19 v26 <| gh fun v27 =>
    Pv (nilV v6) fun v28 =>
    Pv (fldV 1 v28) fun v29 =>
    Pv (fldV 0 v29) fun v30 =>
    Rv none (ldNR 4 v30) fun v31 =>
    Cal Tryz.prog ω 94 #[v31] <| gh fun v32 =>
    App 5 1 1 #[(Value.int .u8 0)] v27 v32 <| gh fun v33 =>
    Cal Tryz.prog ω 88 #[a0, v2, v33, (Value.bool false)] <| gh fun v34 =>
    K (Value.tuple #[]))
theorem sh52_eq (ω : Om) (a0 a1 : Value) (K : Value → M) : vcF Tryz.prog ω Tryz.f52 [a0, a1] K = sh52 ω a0 a1 K := by kernel_rfl
theorem cal52 {ω : Om} {a0 a1 : Value} {K : Value → M} {I : Imm} {L : LH} (h : sh52 ω a0 a1 (fun v => Gh (K v)) I L) : Cal Tryz.prog ω 52 #[a0, a1] K I L :=
  Cal.gh (cal_of_vc mixed Tryz.func52 (by rw [sh52_eq]; exact h))
def sh53 (ω : Om) (a0 : Value) (a1 : Value) (K : Value → M) : M :=
  New (.cells (Value.cells a0) 30 (0, 0)) <| gh fun at_1 =>
  Rv none (ldNR 2 at_1) fun v2 =>
  Cal Tryz.prog ω 48 #[v2] <| gh fun v3 =>
  Gd v3 true
    (Pv (binIV .eql a1 (Value.int .i64 0)) fun v4 =>
    Gd v4 false
      (Cal Tryz.prog ω 47 #[a1] <| gh fun v5 =>
      K v5)
      (K (Value.bool true)))
    (K (Value.bool false))
theorem sh53_eq (ω : Om) (a0 a1 : Value) (K : Value → M) : vcF Tryz.prog ω Tryz.f53 [a0, a1] K = sh53 ω a0 a1 K := by kernel_rfl
theorem cal53 {ω : Om} {a0 a1 : Value} {K : Value → M} {I : Imm} {L : LH} (h : sh53 ω a0 a1 (fun v => Gh (K v)) I L) : Cal Tryz.prog ω 53 #[a0, a1] K I L :=
  Cal.gh (cal_of_vc mixed Tryz.func53 (by rw [sh53_eq]; exact h))
def sh54_3 (ω : Om) (p6 : Value) (p7 : Value) (K : Value → M) : M :=
  Pv (bldV #[(Value.bool false), (Value.slice none 0 0), (Value.int .i64 0), (Value.int .i64 0), (Value.int .i64 0)] #[(0, 1), (1, 1), (2, 2), (4, 1)] []) fun v15 =>
  Sto 5 p6 v15 <| gh fun _ =>
  Rv none (ldNR 5 p6) fun v16 =>
  K (Value.tuple #[v16, (Value.int .i64 0)])
def sh54_2 (ω : Om) (p6 : Value) (p7 : Value) (p8 : Value) (K : Value → M) : M :=
  Pv (binPV .eql p8 (Value.pointer none)) fun v11 =>
  Gd v11 false
    (Pv (nilV p8) fun v12 =>
    Pv (fldV 2 v12) fun v13 =>
    Rv none (ld1R v13) fun v14 =>
    Br v14
      (sh54_3 ω p6 p7 K)
      (Draw fun S =>
        Pv (nilV p8) fun v17 =>
        Pv (fldV 3 v17) fun v18 =>
        Rv (some S) (ld1R v18) fun v19 =>
        CvSB 5 v19 <| gh <| Keep S fun v20 =>
        Pv (nilV p8) fun v21 =>
        Pv (fldV 0 v21) fun v22 =>
        Rv (some S) (ldNR 2 v22) fun v23 =>
        Pv (bldV #[(Value.bool false), (Value.slice none 0 0), (Value.int .i64 0), (Value.int .i64 0), (Value.int .i64 0)] #[(0, 1), (1, 1), (2, 2), (4, 1)] [(0, (Value.bool true)), (1, v20), (2, v23)]) fun v24 =>
        Sto 5 p6 v24 <| gh fun _ =>
        Rv none (ldNR 5 p6) fun v25 =>
        K (Value.tuple #[v25, (Value.int .i64 0)])))
    (sh54_3 ω p6 p7 K)
def sh54 (ω : Om) (a0 : Value) (a1 : Value) (a2 : Value) (K : Value → M) : M :=
  New (.cells (Value.cells a1) 30 (0, 0)) <| gh fun at_1 =>
  New (.cells #[(Value.bool false), (Value.slice none 0 0), (Value.int .i64 0), (Value.int .i64 0), (Value.int .i64 0)] 59 (0, 0)) <| gh fun v2 =>
  Rv none (ldNR 2 at_1) fun v3 =>
  Cal Tryz.prog ω 70 #[a0, v3] <| gh fun v4 =>
  Pv (nilV a0) fun v5 =>
  Pv (fldV 1 v5) fun v6 =>
  Pv (nilV v6) fun v7 =>
  Pv (fldV 4 v7) fun v8 =>
  Rv none (ld1R v8) fun v9 =>
  Pv (binIV .eql v9 (Value.int .i64 0)) fun v10 =>
  Br v10
    (sh54_2 ω v2 (Value.int .i64 0) v4 K)
    (Pv (nilV v6) fun v26 =>
    Pv (fldV 4 v26) fun v27 =>
    Rv none (ld1R v27) fun v28 =>
    Pv (binIV .eql v28 a2) fun v29 =>
    Br v29
      (Pv (nilV v6) fun v30 =>
      Pv (fldV 0 v30) fun v31 =>
      sh54_2 ω v2 (Value.int .i64 0) v31 K)
      (Draw fun S =>
        Pv (nilV v6) fun v32 =>
        Pv (fldV 0 v32) fun v33 =>
        Pv (fldV 0 v33) fun v34 =>
        Rv (some S) (ldNR 2 v34) fun v35 =>
        Rv (some S) (ldNR 2 at_1) fun v36 =>
        Cal Tryz.prog ω 49 #[v35, v36] <| gh fun v37 =>
        Pv (unV .not v37) fun v38 =>
        Br v38
          (Pv (nilV v6) fun v39 =>
          Pv (fldV 4 v39) fun v40 =>
          Rv none (ld1R v40) fun v41 =>
          Pv (bldV #[(Value.bool false), (Value.slice none 0 0), (Value.int .i64 0), (Value.int .i64 0), (Value.int .i64 0)] #[(0, 1), (1, 1), (2, 2), (4, 1)] [(3, v41)]) fun v42 =>
          Sto 5 v2 v42 <| gh fun _ =>
          Rv none (ldNR 5 v2) fun v43 =>
          K (Value.tuple #[v43, (Value.int .i64 130)]))
          (sh54_2 ω v2 (Value.int .i64 0) v4 K)))
theorem sh54_eq (ω : Om) (a0 a1 a2 : Value) (K : Value → M) : vcF Tryz.prog ω Tryz.f54 [a0, a1, a2] K = sh54 ω a0 a1 a2 K := by kernel_rfl
theorem cal54 {ω : Om} {a0 a1 a2 : Value} {K : Value → M} {I : Imm} {L : LH} (h : sh54 ω a0 a1 a2 (fun v => Gh (K v)) I L) : Cal Tryz.prog ω 54 #[a0, a1, a2] K I L :=
  Cal.gh (cal_of_vc mixed Tryz.func54 (by rw [sh54_eq]; exact h))
def sh55 (ω : Om) (a0 : Value) (K : Value → M) : M :=
  Pv (binIV .geq a0 (Value.int .i64 1)) fun v1 =>
  Gd v1 true
    (Pv (binIV .leq a0 (Value.int .i64 9007199254740991)) fun v2 =>
    K v2)
    (K (Value.bool false))
theorem sh55_eq (ω : Om) (a0 : Value) (K : Value → M) : vcF Tryz.prog ω Tryz.f55 [a0] K = sh55 ω a0 K := by kernel_rfl
theorem cal55 {ω : Om} {a0 : Value} {K : Value → M} {I : Imm} {L : LH} (h : sh55 ω a0 (fun v => Gh (K v)) I L) : Cal Tryz.prog ω 55 #[a0] K I L :=
  Cal.gh (cal_of_vc mixed Tryz.func55 (by rw [sh55_eq]; exact h))
def sh56 (ω : Om) (a0 : Value) (K : Value → M) : M :=
  New (.cells (Value.cells a0) 30 (0, 0)) <| gh fun s_1 =>
  Pv (fldV 0 s_1) fun v2 =>
  Rv none (ld1R v2) fun v3 =>
  Cal Tryz.prog ω 95 #[v3] <| gh fun v4 =>
  Gd v4 true
    (Pv (fldV 1 s_1) fun v5 =>
    Rv none (ld1R v5) fun v6 =>
    Pv (binIV .geq v6 (Value.int .i64 0)) fun v7 =>
    Gd v7 true
      (Pv (fldV 1 s_1) fun v8 =>
      Rv none (ld1R v8) fun v9 =>
      Pv (binIV .leq v9 (Value.int .i64 65535)) fun v10 =>
      K v10)
      (K (Value.bool false)))
    (K (Value.bool false))
theorem sh56_eq (ω : Om) (a0 : Value) (K : Value → M) : vcF Tryz.prog ω Tryz.f56 [a0] K = sh56 ω a0 K := by kernel_rfl
theorem cal56 {ω : Om} {a0 : Value} {K : Value → M} {I : Imm} {L : LH} (h : sh56 ω a0 (fun v => Gh (K v)) I L) : Cal Tryz.prog ω 56 #[a0] K I L :=
  Cal.gh (cal_of_vc mixed Tryz.func56 (by rw [sh56_eq]; exact h))
def sh57_3 (ω : Om) (p4 : Value) (p5 : Value) (K : Value → M) : M :=
  Pv (bldV #[(Value.slice none 0 0), (Value.int .i64 0), (Value.int .i64 0), (Value.int .i64 0), (Value.bool false), (Value.slice none 0 0)] #[(0, 1), (1, 1), (2, 2), (4, 1), (5, 1)] []) fun v23 =>
  Sto 6 p4 v23 <| gh fun _ =>
  Rv none (ldNR 6 p4) fun v24 =>
  K (Value.tuple #[v24, (Value.bool false)])
def sh57_1 (ω : Om) (p0 : Value) (p1 : Value) (p4 : Value) (x5 : Value) (x6 : Value) (Kn0 : (Value × Value × Unit) → M) (K : Value → M) : M :=
  Pv (nilV p0) fun v2 =>
  Pv (fldV 1 v2) fun v3 =>
  Rv none (ld1R v3) fun v4 =>
  Pv (lenV v4) fun v5 =>
  Pv (binIV .lss x6 v5) fun v6 =>
  Br v6
    (Draw fun S =>
      Pv (nilV p0) fun v7 =>
      Pv (fldV 1 v7) fun v8 =>
      Rv (some S) (ld1R v8) fun v9 =>
      Pv (ixV 6 v9 x6) fun v10 =>
      Pv (fldV 0 v10) fun v11 =>
      Rv (some S) (ld1R v11) fun v12 =>
      Rv (some S) (bsR v12) fun v13 =>
      Rv (some S) (bsR p1) fun v14 =>
      Pv (binSV .eql v13 v14) fun v15 =>
      Br v15
        (Pv (nilV p0) fun v16 =>
        Pv (fldV 1 v16) fun v17 =>
        Rv none (ld1R v17) fun v18 =>
        Pv (ixV 6 v18 x6) fun v19 =>
        Rv none (ldNR 6 v19) fun v20 =>
        Sto 6 p4 v20 <| gh fun _ =>
        Rv none (ldNR 6 p4) fun v21 =>
        K (Value.tuple #[v21, (Value.bool true)]))
        (Pv (binIV .add x6 (Value.int .i64 1)) fun v22 =>
        Kn0 (x5, v22, ())))
    (sh57_3 ω p4 x5 K)
def sh57 (ω : Om) (a0 : Value) (a1 : Value) (K : Value → M) : M :=
  New (.cells #[(Value.slice none 0 0), (Value.int .i64 0), (Value.int .i64 0), (Value.int .i64 0), (Value.bool false), (Value.slice none 0 0)] 37 (0, 0)) <| gh fun v1 =>
  LoopM (((Value.bool false), (Value.int .i64 0), ()) : Value × Value × Unit) fun s Kn0 =>
  sh57_1 ω a0 a1 v1 s.1 s.2.1 Kn0 K
theorem sh57_eq (ω : Om) (a0 a1 : Value) (K : Value → M) : vcF Tryz.prog ω Tryz.f57 [a0, a1] K = sh57 ω a0 a1 K := by kernel_rfl
theorem cal57 {ω : Om} {a0 a1 : Value} {K : Value → M} {I : Imm} {L : LH} (h : sh57 ω a0 a1 (fun v => Gh (K v)) I L) : Cal Tryz.prog ω 57 #[a0, a1] K I L :=
  Cal.gh (cal_of_vc mixed Tryz.func57 (by rw [sh57_eq]; exact h))
def sh58 (ω : Om) (a0 : Value) (a1 : Value) (K : Value → M) : M :=
  New (.cells (Value.cells a0) 30 (0, 0)) <| gh fun a_1 =>
  New (.cells (Value.cells a1) 30 (0, 0)) <| gh fun b_2 =>
  Rv none (ldNR 2 a_1) fun v3 =>
  Rv none (ldNR 2 b_2) fun v4 =>
  Cal Tryz.prog ω 96 #[v3, v4] <| gh fun v5 =>
  Pv (binIV .gtr v5 (Value.int .i64 0)) fun v6 =>
  K v6
theorem sh58_eq (ω : Om) (a0 a1 : Value) (K : Value → M) : vcF Tryz.prog ω Tryz.f58 [a0, a1] K = sh58 ω a0 a1 K := by kernel_rfl
theorem cal58 {ω : Om} {a0 a1 : Value} {K : Value → M} {I : Imm} {L : LH} (h : sh58 ω a0 a1 (fun v => Gh (K v)) I L) : Cal Tryz.prog ω 58 #[a0, a1] K I L :=
  Cal.gh (cal_of_vc mixed Tryz.func58 (by rw [sh58_eq]; exact h))
def sh59 (ω : Om) (a0 : Value) (a1 : Value) (K : Value → M) : M :=
  New (.cells #[(Value.slice none 0 0), (Value.int .i64 0), (Value.int .i64 0), (Value.bool false), (Value.slice none 0 0)] 99 (0, 0)) <| gh fun v1 =>
  Pv (bldV #[(Value.int .i64 0), (Value.int .i64 0)] #[(0, 1), (1, 1)] [(0, (Value.int .i64 9007199254740991)), (1, (Value.int .i64 65535))]) fun v2 =>
  Cal Tryz.prog ω 74 #[a0, a1, v2] <| gh fun v3 =>
  Pv (exV v3 0) fun v4 =>
  Pv (exV v3 1) fun v5 =>
  New (.cells #[(Value.slice none 0 0), (Value.int .i64 0), (Value.int .i64 0), (Value.bool false), (Value.slice none 0 0)] 99 (0, 0)) <| gh fun v_6 =>
  Sto 5 v_6 v4 <| gh fun _ =>
  Rv none (ldNR 5 v_6) fun v7 =>
  Sto 5 v1 v7 <| gh fun _ =>
  Rv none (ldNR 5 v1) fun v8 =>
  K (Value.tuple #[v8, v5])
theorem sh59_eq (ω : Om) (a0 a1 : Value) (K : Value → M) : vcF Tryz.prog ω Tryz.f59 [a0, a1] K = sh59 ω a0 a1 K := by kernel_rfl
theorem cal59 {ω : Om} {a0 a1 : Value} {K : Value → M} {I : Imm} {L : LH} (h : sh59 ω a0 a1 (fun v => Gh (K v)) I L) : Cal Tryz.prog ω 59 #[a0, a1] K I L :=
  Cal.gh (cal_of_vc mixed Tryz.func59 (by rw [sh59_eq]; exact h))
def sh60 (ω : Om) (a0 : Value) (K : Value → M) : M :=
  New (.cells (Value.cells a0) 30 (0, 0)) <| gh fun s_1 =>
  New (.cells #[(Value.int .i64 0), (Value.int .i64 0)] 30 (0, 0)) <| gh fun v2 =>
  Rv none (ldNR 2 s_1) fun v3 =>
  Cal Tryz.prog ω 56 #[v3] <| gh fun v4 =>
  Pv (unV .not v4) fun v5 =>
  Br v5
    (Pv (bldV #[(Value.int .i64 0), (Value.int .i64 0)] #[(0, 1), (1, 1)] []) fun v6 =>
    Sto 2 v2 v6 <| gh fun _ =>
    Rv none (ldNR 2 v2) fun v7 =>
    K (Value.tuple #[v7, (Value.int .i64 80)]))
    (Pv (fldV 1 s_1) fun v8 =>
    Rv none (ld1R v8) fun v9 =>
    Pv (binIV .lss v9 (Value.int .i64 65535)) fun v10 =>
    Br v10
      (Pv (fldV 0 s_1) fun v11 =>
      Rv none (ld1R v11) fun v12 =>
      Pv (fldV 1 s_1) fun v13 =>
      Rv none (ld1R v13) fun v14 =>
      Pv (binIV .add v14 (Value.int .i64 1)) fun v15 =>
      Pv (bldV #[(Value.int .i64 0), (Value.int .i64 0)] #[(0, 1), (1, 1)] [(0, v12), (1, v15)]) fun v16 =>
      Sto 2 v2 v16 <| gh fun _ =>
      Rv none (ldNR 2 v2) fun v17 =>
      K (Value.tuple #[v17, (Value.int .i64 0)]))
      (Pv (fldV 0 s_1) fun v18 =>
      Rv none (ld1R v18) fun v19 =>
      Pv (binIV .eql v19 (Value.int .i64 9007199254740991)) fun v20 =>
      Br v20
        (Pv (bldV #[(Value.int .i64 0), (Value.int .i64 0)] #[(0, 1), (1, 1)] []) fun v21 =>
        Sto 2 v2 v21 <| gh fun _ =>
        Rv none (ldNR 2 v2) fun v22 =>
        K (Value.tuple #[v22, (Value.int .i64 82)]))
        (Pv (fldV 0 s_1) fun v23 =>
        Rv none (ld1R v23) fun v24 =>
        Pv (binIV .add v24 (Value.int .i64 1)) fun v25 =>
        Pv (bldV #[(Value.int .i64 0), (Value.int .i64 0)] #[(0, 1), (1, 1)] [(0, v25)]) fun v26 =>
        Sto 2 v2 v26 <| gh fun _ =>
        Rv none (ldNR 2 v2) fun v27 =>
        K (Value.tuple #[v27, (Value.int .i64 0)]))))
theorem sh60_eq (ω : Om) (a0 : Value) (K : Value → M) : vcF Tryz.prog ω Tryz.f60 [a0] K = sh60 ω a0 K := by kernel_rfl
theorem cal60 {ω : Om} {a0 : Value} {K : Value → M} {I : Imm} {L : LH} (h : sh60 ω a0 (fun v => Gh (K v)) I L) : Cal Tryz.prog ω 60 #[a0] K I L :=
  Cal.gh (cal_of_vc mixed Tryz.func60 (by rw [sh60_eq]; exact h))
def sh61_5 (ω : Om) (p4 : Value) (p5 : Value) (p6 : Value) (Kn0 : (Value × Value × Value × Unit) → M) (K : Value → M) : M :=
  Pv (binIV .add p6 (Value.int .i64 1)) fun v40 =>
  Kn0 (p4, p5, v40, ())
def sh61_3 (ω : Om) (p0 : Value) (p3 : Value) (p4 : Value) (p5 : Value) (p6 : Value) (Kn0 : (Value × Value × Value × Unit) → M) (K : Value → M) : M :=
  Draw fun S =>
    Pv (nilV p0) fun v22 =>
    Pv (fldV 1 v22) fun v23 =>
    Rv (some S) (ld1R v23) fun v24 =>
    Pv (ixV 6 v24 p6) fun v25 =>
    Pv (fldV 0 v25) fun v26 =>
    Rv (some S) (ld1R v26) fun v27 =>
    Rv (some S) (bsR v27) fun v28 =>
    Pv (fldV 0 p3) fun v29 =>
    Rv (some S) (ld1R v29) fun v30 =>
    Rv (some S) (bsR v30) fun v31 =>
    Pv (binSV .neq v28 v31) fun v32 =>
    Br v32
      (Pv (nilV p0) fun v33 =>
      Pv (fldV 1 v33) fun v34 =>
      Rv none (ld1R v34) fun v35 =>
      Pv (ixV 6 v35 p6) fun v36 =>
      Rv none (ldNR 6 v36) fun v37 =>
      BldS 37 6 #[(Value.slice none 0 0), (Value.int .i64 0), (Value.int .i64 0), (Value.int .i64 0), (Value.bool false), (Value.slice none 0 0)] 1 [(0, v37)] <| gh fun v38 =>
      App 37 6 80 #[(Value.slice none 0 0), (Value.int .i64 0), (Value.int .i64 0), (Value.int .i64 0), (Value.bool false), (Value.slice none 0 0)] p4 v38 <| gh fun v39 =>
      sh61_5 ω v39 p5 p6 Kn0 K)
      (sh61_5 ω p4 p5 p6 Kn0 K)
def sh61_2 (ω : Om) (p0 : Value) (p3 : Value) (p4 : Value) (p5 : Value) (p6 : Value) (Kn0 : (Value × Value × Value × Unit) → M) (K : Value → M) : M :=
  Rv none (ldNR 6 p3) fun v19 =>
  BldS 37 6 #[(Value.slice none 0 0), (Value.int .i64 0), (Value.int .i64 0), (Value.int .i64 0), (Value.bool false), (Value.slice none 0 0)] 1 [(0, v19)] <| gh fun v20 =>
  App 37 6 80 #[(Value.slice none 0 0), (Value.int .i64 0), (Value.int .i64 0), (Value.int .i64 0), (Value.bool false), (Value.slice none 0 0)] p4 v20 <| gh fun v21 =>
  sh61_3 ω p0 p3 v21 (Value.bool true) p6 Kn0 K
def sh61_8 (ω : Om) (p0 : Value) (p4 : Value) (K : Value → M) : M :=
  Pv (nilV p0) fun v45 =>
  Pv (fldV 1 v45) fun v46 =>
  Sto 1 v46 p4 <| gh fun _ =>
  K (Value.tuple #[])
def sh61_7 (ω : Om) (p0 : Value) (p3 : Value) (p4 : Value) (p5 : Value) (K : Value → M) : M :=
  Pv (unV .not p5) fun v41 =>
  Br v41
    (Rv none (ldNR 6 p3) fun v42 =>
    BldS 37 6 #[(Value.slice none 0 0), (Value.int .i64 0), (Value.int .i64 0), (Value.int .i64 0), (Value.bool false), (Value.slice none 0 0)] 1 [(0, v42)] <| gh fun v43 =>
    App 37 6 80 #[(Value.slice none 0 0), (Value.int .i64 0), (Value.int .i64 0), (Value.int .i64 0), (Value.bool false), (Value.slice none 0 0)] p4 v43 <| gh fun v44 =>
    sh61_8 ω p0 v44 K)
    (sh61_8 ω p0 p4 K)
def sh61_1 (ω : Om) (p0 : Value) (p3 : Value) (x4 : Value) (x5 : Value) (x6 : Value) (Kn0 : (Value × Value × Value × Unit) → M) (K : Value → M) : M :=
  Pv (nilV p0) fun v2 =>
  Pv (fldV 1 v2) fun v3 =>
  Rv none (ld1R v3) fun v4 =>
  Pv (lenV v4) fun v5 =>
  Pv (binIV .lss x6 v5) fun v6 =>
  Br v6
    (Draw fun S =>
      Pv (unV .not x5) fun v7 =>
      Gd v7 true
        (Pv (nilV p0) fun v8 =>
        Pv (fldV 1 v8) fun v9 =>
        Rv (some S) (ld1R v9) fun v10 =>
        Pv (ixV 6 v10 x6) fun v11 =>
        Pv (fldV 0 v11) fun v12 =>
        Rv (some S) (ld1R v12) fun v13 =>
        Rv (some S) (bsR v13) fun v14 =>
        Pv (fldV 0 p3) fun v15 =>
        Rv (some S) (ld1R v15) fun v16 =>
        Rv (some S) (bsR v16) fun v17 =>
        Pv (binSV .geq v14 v17) fun v18 =>
        Br v18
          (sh61_2 ω p0 p3 x4 x5 x6 Kn0 K)
          (sh61_3 ω p0 p3 x4 x5 x6 Kn0 K))
        (sh61_3 ω p0 p3 x4 x5 x6 Kn0 K))
    (sh61_7 ω p0 p3 x4 x5 K)
def sh61 (ω : Om) (a0 : Value) (a1 : Value) (K : Value → M) : M :=
  New (.cells (Value.cells a1) 37 (0, 0)) <| gh fun x_1 =>
  LoopM (((Value.slice none 0 0), (Value.bool false), (Value.int .i64 0), ()) : Value × Value × Value × Unit) fun s Kn0 =>
  sh61_1 ω a0 x_1 s.1 s.2.1 s.2.2.1 Kn0 K
theorem sh61_eq (ω : Om) (a0 a1 : Value) (K : Value → M) : vcF Tryz.prog ω Tryz.f61 [a0, a1] K = sh61 ω a0 a1 K := by kernel_rfl
theorem cal61 {ω : Om} {a0 a1 : Value} {K : Value → M} {I : Imm} {L : LH} (h : sh61 ω a0 a1 (fun v => Gh (K v)) I L) : Cal Tryz.prog ω 61 #[a0, a1] K I L :=
  Cal.gh (cal_of_vc mixed Tryz.func61 (by rw [sh61_eq]; exact h))
def sh62 (ω : Om) (a0 : Value) (a1 : Value) (a2 : Value) (K : Value → M) : M :=
  New (.cells (Value.cells a2) 104 (0, 0)) <| gh fun v_1 =>
  Draw fun S =>
    Rv (some S) (ldNR 4 v_1) fun v2 =>
    Cal Tryz.prog ω 97 #[a1, v2] <| gh <| Keep S fun v3 =>
    Rv (some S) (ldNR 4 v_1) fun v4 =>
    Cal Tryz.prog ω 94 #[v4] <| gh fun v5 =>
    Cal Tryz.prog ω 88 #[a0, v3, v5, (Value.bool false)] <| gh fun v6 =>
    K (Value.tuple #[])
theorem sh62_eq (ω : Om) (a0 a1 a2 : Value) (K : Value → M) : vcF Tryz.prog ω Tryz.f62 [a0, a1, a2] K = sh62 ω a0 a1 a2 K := by kernel_rfl
theorem cal62 {ω : Om} {a0 a1 a2 : Value} {K : Value → M} {I : Imm} {L : LH} (h : sh62 ω a0 a1 a2 (fun v => Gh (K v)) I L) : Cal Tryz.prog ω 62 #[a0, a1, a2] K I L :=
  Cal.gh (cal_of_vc mixed Tryz.func62 (by rw [sh62_eq]; exact h))
def sh63 (ω : Om) (a0 : Value) (a1 : Value) (K : Value → M) : M :=
  Pv (nilV a0) fun v1 =>
  Pv (fldV 0 v1) fun v2 =>
  Rv none (ld1R v2) fun v3 =>
  Rv none (lkR .string (Value.pointer none) false v3 a1) fun v4 =>
  Pv (nilV v4) fun v5 =>
  Pv (fldV 0 v5) fun v6 =>
  Rv none (ld1R v6) fun v7 =>
  Pv (lenV v7) fun v8 =>
  Pv (binIV .gtr v8 (Value.int .i64 0)) fun v9 =>
  Gd v9 false
    (Pv (nilV v4) fun v10 =>
    Pv (fldV 1 v10) fun v11 =>
    Pv (fldV 4 v11) fun v12 =>
    Rv none (ld1R v12) fun v13 =>
    Pv (binIV .neq v13 (Value.int .i64 0)) fun v14 =>
    Br v14
      (K (Value.tuple #[]))
      (Pv (nilV a0) fun v15 =>
      Pv (fldV 0 v15) fun v16 =>
      Rv none (ld1R v16) fun v17 =>
      DelM .string v17 a1 <| gh fun _ =>
      Pv (nilV a0) fun v18 =>
      Pv (fldV 1 v18) fun v19 =>
      Rv none (ld1R v19) fun v20 =>
      Cal Tryz.prog ω 43 #[v20, a1] <| gh fun v21 =>
      Pv (exV v21 0) fun v22 =>
      Pv (exV v21 1) fun v23 =>
      Pv (nilV a0) fun v24 =>
      Pv (fldV 1 v24) fun v25 =>
      Rv none (ld1R v25) fun v26 =>
      Pv (binIV .add v22 (Value.int .i64 1)) fun v27 =>
      Cal Tryz.prog ω 98 #[v26, v22, v27] <| gh fun v28 =>
      Pv (nilV a0) fun v29 =>
      Pv (fldV 1 v29) fun v30 =>
      Sto 1 v30 v28 <| gh fun _ =>
      K (Value.tuple #[])))
    (K (Value.tuple #[]))
theorem sh63_eq (ω : Om) (a0 a1 : Value) (K : Value → M) : vcF Tryz.prog ω Tryz.f63 [a0, a1] K = sh63 ω a0 a1 K := by kernel_rfl
theorem cal63 {ω : Om} {a0 a1 : Value} {K : Value → M} {I : Imm} {L : LH} (h : sh63 ω a0 a1 (fun v => Gh (K v)) I L) : Cal Tryz.prog ω 63 #[a0, a1] K I L :=
  Cal.gh (cal_of_vc mixed Tryz.func63 (by rw [sh63_eq]; exact h))
def sh64 (ω : Om) (a0 : Value) (K : Value → M) : M :=
  Cal Tryz.prog ω 55 #[a0] <| gh fun v1 =>
  Pv (binIV .eql a0 (Value.int .i64 0)) fun v2 =>
  Gd v2 false
    (K v1)
    (K (Value.bool true))
theorem sh64_eq (ω : Om) (a0 : Value) (K : Value → M) : vcF Tryz.prog ω Tryz.f64 [a0] K = sh64 ω a0 K := by kernel_rfl
theorem cal64 {ω : Om} {a0 : Value} {K : Value → M} {I : Imm} {L : LH} (h : sh64 ω a0 (fun v => Gh (K v)) I L) : Cal Tryz.prog ω 64 #[a0] K I L :=
  Cal.gh (cal_of_vc mixed Tryz.func64 (by rw [sh64_eq]; exact h))
def sh65_1 (ω : Om) (p8 : Value) (p9 : Value) (p10 : Value) (K : Value → M) : M :=
  Pv (fldV 4 p10) fun v11 =>
  Rv none (ld1R v11) fun v12 =>
  Br v12
    (Pv (bldV #[(Value.bool false), (Value.slice none 0 0), (Value.int .i64 0), (Value.int .i64 0), (Value.int .i64 0)] #[(0, 1), (1, 1), (2, 2), (4, 1)] []) fun v13 =>
    Sto 5 p8 v13 <| gh fun _ =>
    Rv none (ldNR 5 p8) fun v14 =>
    K (Value.tuple #[v14, (Value.int .i64 0)]))
    (Pv (fldV 5 p10) fun v15 =>
    Rv none (ld1R v15) fun v16 =>
    Pv (fldV 2 p10) fun v17 =>
    Rv none (ldNR 2 v17) fun v18 =>
    Pv (bldV #[(Value.bool false), (Value.slice none 0 0), (Value.int .i64 0), (Value.int .i64 0), (Value.int .i64 0)] #[(0, 1), (1, 1), (2, 2), (4, 1)] [(0, (Value.bool true)), (1, v16), (2, v18)]) fun v19 =>
    Sto 5 p8 v19 <| gh fun _ =>
    Rv none (ldNR 5 p8) fun v20 =>
    K (Value.tuple #[v20, (Value.int .i64 0)]))
def sh65_2 (ω : Om) (p8 : Value) (p9 : Value) (p10 : Value) (K : Value → M) : M :=
  Pv (fldV 1 p10) fun v26 =>
  Rv none (ld1R v26) fun v27 =>
  Pv (bldV #[(Value.bool false), (Value.slice none 0 0), (Value.int .i64 0), (Value.int .i64 0), (Value.int .i64 0)] #[(0, 1), (1, 1), (2, 2), (4, 1)] [(3, v27)]) fun v28 =>
  Sto 5 p8 v28 <| gh fun _ =>
  Rv none (ldNR 5 p8) fun v29 =>
  K (Value.tuple #[v29, (Value.int .i64 130)])
def sh65_3 (ω : Om) (p8 : Value) (p9 : Value) (K : Value → M) : M :=
  Pv (bldV #[(Value.bool false), (Value.slice none 0 0), (Value.int .i64 0), (Value.int .i64 0), (Value.int .i64 0)] #[(0, 1), (1, 1), (2, 2), (4, 1)] []) fun v38 =>
  Sto 5 p8 v38 <| gh fun _ =>
  Rv none (ldNR 5 p8) fun v39 =>
  K (Value.tuple #[v39, (Value.int .i64 0)])
def sh65 (ω : Om) (a0 : Value) (a1 : Value) (a2 : Value) (a3 : Value) (K : Value → M) : M :=
  New (.cells (Value.cells a2) 30 (0, 0)) <| gh fun at_1 =>
  New (.cells #[(Value.bool false), (Value.slice none 0 0), (Value.int .i64 0), (Value.int .i64 0), (Value.int .i64 0)] 59 (0, 0)) <| gh fun v2 =>
  Cal Tryz.prog ω 57 #[a0, a1] <| gh fun v3 =>
  Pv (exV v3 0) fun v4 =>
  Pv (exV v3 1) fun v5 =>
  New (.cells #[(Value.slice none 0 0), (Value.int .i64 0), (Value.int .i64 0), (Value.int .i64 0), (Value.bool false), (Value.slice none 0 0)] 37 (0, 0)) <| gh fun x_6 =>
  Sto 6 x_6 v4 <| gh fun _ =>
  Gd v5 true
    (Pv (binIV .neq a3 (Value.int .i64 0)) fun v7 =>
    Gd v7 true
      (Pv (fldV 1 x_6) fun v8 =>
      Rv none (ld1R v8) fun v9 =>
      Pv (binIV .eql v9 a3) fun v10 =>
      Br v10
        (sh65_1 ω v2 (Value.int .i64 0) x_6 K)
        (Pv (fldV 2 x_6) fun v21 =>
        Rv none (ldNR 2 v21) fun v22 =>
        Rv none (ldNR 2 at_1) fun v23 =>
        Cal Tryz.prog ω 58 #[v22, v23] <| gh fun v24 =>
        Gd v5 true
          (Pv (unV .not v24) fun v25 =>
          Br v25
            (sh65_2 ω v2 (Value.int .i64 0) x_6 K)
            (Rv none (ldNR 2 at_1) fun v30 =>
            Cal Tryz.prog ω 74 #[a0, a1, v30] <| gh fun v31 =>
            Pv (exV v31 0) fun v32 =>
            Pv (exV v31 1) fun v33 =>
            New (.cells #[(Value.slice none 0 0), (Value.int .i64 0), (Value.int .i64 0), (Value.bool false), (Value.slice none 0 0)] 99 (0, 0)) <| gh fun v_34 =>
            Sto 5 v_34 v32 <| gh fun _ =>
            Pv (unV .not v33) fun v35 =>
            Gd v35 false
              (Pv (fldV 3 v_34) fun v36 =>
              Rv none (ld1R v36) fun v37 =>
              Br v37
                (sh65_3 ω v2 (Value.int .i64 0) K)
                (Pv (fldV 4 v_34) fun v40 =>
                Rv none (ld1R v40) fun v41 =>
                Pv (fldV 1 v_34) fun v42 =>
                Rv none (ldNR 2 v42) fun v43 =>
                Pv (bldV #[(Value.bool false), (Value.slice none 0 0), (Value.int .i64 0), (Value.int .i64 0), (Value.int .i64 0)] #[(0, 1), (1, 1), (2, 2), (4, 1)] [(0, (Value.bool true)), (1, v41), (2, v43)]) fun v44 =>
                Sto 5 v2 v44 <| gh fun _ =>
                Rv none (ldNR 5 v2) fun v45 =>
                K (Value.tuple #[v45, (Value.int .i64 0)])))
              (sh65_3 ω v2 (Value.int .i64 0) K)))
          (Rv none (ldNR 2 at_1) fun v46 =>
          Cal Tryz.prog ω 74 #[a0, a1, v46] <| gh fun v47 =>
          Pv (exV v47 0) fun v48 =>
          Pv (exV v47 1) fun v49 =>
          New (.cells #[(Value.slice none 0 0), (Value.int .i64 0), (Value.int .i64 0), (Value.bool false), (Value.slice none 0 0)] 99 (0, 0)) <| gh fun v_50 =>
          Sto 5 v_50 v48 <| gh fun _ =>
          Pv (unV .not v49) fun v51 =>
          Gd v51 false
            (Pv (fldV 3 v_50) fun v52 =>
            Rv none (ld1R v52) fun v53 =>
            Br v53
              (sh65_3 ω v2 (Value.int .i64 0) K)
              (Pv (fldV 4 v_50) fun v54 =>
              Rv none (ld1R v54) fun v55 =>
              Pv (fldV 1 v_50) fun v56 =>
              Rv none (ldNR 2 v56) fun v57 =>
              Pv (bldV #[(Value.bool false), (Value.slice none 0 0), (Value.int .i64 0), (Value.int .i64 0), (Value.int .i64 0)] #[(0, 1), (1, 1), (2, 2), (4, 1)] [(0, (Value.bool true)), (1, v55), (2, v57)]) fun v58 =>
              Sto 5 v2 v58 <| gh fun _ =>
              Rv none (ldNR 5 v2) fun v59 =>
              K (Value.tuple #[v59, (Value.int .i64 0)])))
            (sh65_3 ω v2 (Value.int .i64 0) K))))
      (Pv (fldV 2 x_6) fun v60 =>
      Rv none (ldNR 2 v60) fun v61 =>
      Rv none (ldNR 2 at_1) fun v62 =>
      Cal Tryz.prog ω 58 #[v61, v62] <| gh fun v63 =>
      Gd v5 true
        (Pv (unV .not v63) fun v64 =>
        Br v64
          (sh65_2 ω v2 (Value.int .i64 0) x_6 K)
          (Rv none (ldNR 2 at_1) fun v65 =>
          Cal Tryz.prog ω 74 #[a0, a1, v65] <| gh fun v66 =>
          Pv (exV v66 0) fun v67 =>
          Pv (exV v66 1) fun v68 =>
          New (.cells #[(Value.slice none 0 0), (Value.int .i64 0), (Value.int .i64 0), (Value.bool false), (Value.slice none 0 0)] 99 (0, 0)) <| gh fun v_69 =>
          Sto 5 v_69 v67 <| gh fun _ =>
          Pv (unV .not v68) fun v70 =>
          Gd v70 false
            (Pv (fldV 3 v_69) fun v71 =>
            Rv none (ld1R v71) fun v72 =>
            Br v72
              (sh65_3 ω v2 (Value.int .i64 0) K)
              (Pv (fldV 4 v_69) fun v73 =>
              Rv none (ld1R v73) fun v74 =>
              Pv (fldV 1 v_69) fun v75 =>
              Rv none (ldNR 2 v75) fun v76 =>
              Pv (bldV #[(Value.bool false), (Value.slice none 0 0), (Value.int .i64 0), (Value.int .i64 0), (Value.int .i64 0)] #[(0, 1), (1, 1), (2, 2), (4, 1)] [(0, (Value.bool true)), (1, v74), (2, v76)]) fun v77 =>
              Sto 5 v2 v77 <| gh fun _ =>
              Rv none (ldNR 5 v2) fun v78 =>
              K (Value.tuple #[v78, (Value.int .i64 0)])))
            (sh65_3 ω v2 (Value.int .i64 0) K)))
        (Rv none (ldNR 2 at_1) fun v79 =>
        Cal Tryz.prog ω 74 #[a0, a1, v79] <| gh fun v80 =>
        Pv (exV v80 0) fun v81 =>
        Pv (exV v80 1) fun v82 =>
        New (.cells #[(Value.slice none 0 0), (Value.int .i64 0), (Value.int .i64 0), (Value.bool false), (Value.slice none 0 0)] 99 (0, 0)) <| gh fun v_83 =>
        Sto 5 v_83 v81 <| gh fun _ =>
        Pv (unV .not v82) fun v84 =>
        Gd v84 false
          (Pv (fldV 3 v_83) fun v85 =>
          Rv none (ld1R v85) fun v86 =>
          Br v86
            (sh65_3 ω v2 (Value.int .i64 0) K)
            (Pv (fldV 4 v_83) fun v87 =>
            Rv none (ld1R v87) fun v88 =>
            Pv (fldV 1 v_83) fun v89 =>
            Rv none (ldNR 2 v89) fun v90 =>
            Pv (bldV #[(Value.bool false), (Value.slice none 0 0), (Value.int .i64 0), (Value.int .i64 0), (Value.int .i64 0)] #[(0, 1), (1, 1), (2, 2), (4, 1)] [(0, (Value.bool true)), (1, v88), (2, v90)]) fun v91 =>
            Sto 5 v2 v91 <| gh fun _ =>
            Rv none (ldNR 5 v2) fun v92 =>
            K (Value.tuple #[v92, (Value.int .i64 0)])))
          (sh65_3 ω v2 (Value.int .i64 0) K))))
    (Pv (fldV 2 x_6) fun v93 =>
    Rv none (ldNR 2 v93) fun v94 =>
    Rv none (ldNR 2 at_1) fun v95 =>
    Cal Tryz.prog ω 58 #[v94, v95] <| gh fun v96 =>
    Gd v5 true
      (Pv (unV .not v96) fun v97 =>
      Br v97
        (sh65_2 ω v2 (Value.int .i64 0) x_6 K)
        (Rv none (ldNR 2 at_1) fun v98 =>
        Cal Tryz.prog ω 74 #[a0, a1, v98] <| gh fun v99 =>
        Pv (exV v99 0) fun v100 =>
        Pv (exV v99 1) fun v101 =>
        New (.cells #[(Value.slice none 0 0), (Value.int .i64 0), (Value.int .i64 0), (Value.bool false), (Value.slice none 0 0)] 99 (0, 0)) <| gh fun v_102 =>
        Sto 5 v_102 v100 <| gh fun _ =>
        Pv (unV .not v101) fun v103 =>
        Gd v103 false
          (Pv (fldV 3 v_102) fun v104 =>
          Rv none (ld1R v104) fun v105 =>
          Br v105
            (sh65_3 ω v2 (Value.int .i64 0) K)
            (Pv (fldV 4 v_102) fun v106 =>
            Rv none (ld1R v106) fun v107 =>
            Pv (fldV 1 v_102) fun v108 =>
            Rv none (ldNR 2 v108) fun v109 =>
            Pv (bldV #[(Value.bool false), (Value.slice none 0 0), (Value.int .i64 0), (Value.int .i64 0), (Value.int .i64 0)] #[(0, 1), (1, 1), (2, 2), (4, 1)] [(0, (Value.bool true)), (1, v107), (2, v109)]) fun v110 =>
            Sto 5 v2 v110 <| gh fun _ =>
            Rv none (ldNR 5 v2) fun v111 =>
            K (Value.tuple #[v111, (Value.int .i64 0)])))
          (sh65_3 ω v2 (Value.int .i64 0) K)))
      (Rv none (ldNR 2 at_1) fun v112 =>
      Cal Tryz.prog ω 74 #[a0, a1, v112] <| gh fun v113 =>
      Pv (exV v113 0) fun v114 =>
      Pv (exV v113 1) fun v115 =>
      New (.cells #[(Value.slice none 0 0), (Value.int .i64 0), (Value.int .i64 0), (Value.bool false), (Value.slice none 0 0)] 99 (0, 0)) <| gh fun v_116 =>
      Sto 5 v_116 v114 <| gh fun _ =>
      Pv (unV .not v115) fun v117 =>
      Gd v117 false
        (Pv (fldV 3 v_116) fun v118 =>
        Rv none (ld1R v118) fun v119 =>
        Br v119
          (sh65_3 ω v2 (Value.int .i64 0) K)
          (Pv (fldV 4 v_116) fun v120 =>
          Rv none (ld1R v120) fun v121 =>
          Pv (fldV 1 v_116) fun v122 =>
          Rv none (ldNR 2 v122) fun v123 =>
          Pv (bldV #[(Value.bool false), (Value.slice none 0 0), (Value.int .i64 0), (Value.int .i64 0), (Value.int .i64 0)] #[(0, 1), (1, 1), (2, 2), (4, 1)] [(0, (Value.bool true)), (1, v121), (2, v123)]) fun v124 =>
          Sto 5 v2 v124 <| gh fun _ =>
          Rv none (ldNR 5 v2) fun v125 =>
          K (Value.tuple #[v125, (Value.int .i64 0)])))
        (sh65_3 ω v2 (Value.int .i64 0) K)))
theorem sh65_eq (ω : Om) (a0 a1 a2 a3 : Value) (K : Value → M) : vcF Tryz.prog ω Tryz.f65 [a0, a1, a2, a3] K = sh65 ω a0 a1 a2 a3 K := by kernel_rfl
theorem cal65 {ω : Om} {a0 a1 a2 a3 : Value} {K : Value → M} {I : Imm} {L : LH} (h : sh65 ω a0 a1 a2 a3 (fun v => Gh (K v)) I L) : Cal Tryz.prog ω 65 #[a0, a1, a2, a3] K I L :=
  Cal.gh (cal_of_vc mixed Tryz.func65 (by rw [sh65_eq]; exact h))
def sh66 (ω : Om) (a0 : Value) (a1 : Value) (K : Value → M) : M :=
  New (.cells (Value.cells a0) 24 (0, 0)) <| gh fun s_1 =>
  New (.cells (Value.cells a1) 39 (0, 0)) <| gh fun p_2 =>
  K (Value.func (Fn.func 99) #[] #[s_1, p_2])
theorem sh66_eq (ω : Om) (a0 a1 : Value) (K : Value → M) : vcF Tryz.prog ω Tryz.f66 [a0, a1] K = sh66 ω a0 a1 K := by kernel_rfl
theorem cal66 {ω : Om} {a0 a1 : Value} {K : Value → M} {I : Imm} {L : LH} (h : sh66 ω a0 a1 (fun v => Gh (K v)) I L) : Cal Tryz.prog ω 66 #[a0, a1] K I L :=
  Cal.gh (cal_of_vc mixed Tryz.func66 (by rw [sh66_eq]; exact h))
def sh67 (ω : Om) (a0 : Value) (K : Value → M) : M :=
  Pv (lenV a0) fun v1 =>
  Pv (lenV a0) fun v2 =>
  Pv (slcV 2 a0 none (some v1) (some v2)) fun v3 =>
  K v3
theorem sh67_eq (ω : Om) (a0 : Value) (K : Value → M) : vcF Tryz.prog ω Tryz.f67 [a0] K = sh67 ω a0 K := by kernel_rfl
theorem cal67 {ω : Om} {a0 : Value} {K : Value → M} {I : Imm} {L : LH} (h : sh67 ω a0 (fun v => Gh (K v)) I L) : Cal Tryz.prog ω 67 #[a0] K I L :=
  Cal.gh (cal_of_vc mixed Tryz.func67 (by rw [sh67_eq]; exact h))
def sh68_4 (ω : Om) (p3 : Value) (p4 : Value) (p5 : Value) (p6 : Value) (Kn0 : (Value × Value × Value × Unit) → M) (K : Value → M) : M :=
  BldS 9 1 #[(Value.string (ByteArray.mk #[]))] 1 [(0, p6)] <| gh fun v51 =>
  App 9 1 16 #[(Value.string (ByteArray.mk #[]))] p3 v51 <| gh fun v52 =>
  Kn0 (v52, p4, p5, ())
def sh68_3 (ω : Om) (p3 : Value) (p4 : Value) (p5 : Value) (p6 : Value) (Kn0 : (Value × Value × Value × Unit) → M) (K : Value → M) : M :=
  Pv (lenV p3) fun v44 =>
  Pv (binIV .eql v44 (Value.int .i64 0)) fun v45 =>
  Gd v45 false
    (Pv (lenV p3) fun v46 =>
    Pv (binIV .sub v46 (Value.int .i64 1)) fun v47 =>
    Pv (ixV 1 p3 v47) fun v48 =>
    Rv none (ld1R v48) fun v49 =>
    Pv (binSV .neq v49 p6) fun v50 =>
    Br v50
      (sh68_4 ω p3 p4 p5 p6 Kn0 K)
      (Kn0 (p3, p4, p5, ())))
    (sh68_4 ω p3 p4 p5 p6 Kn0 K)
def sh68_2 (ω : Om) (p0 : Value) (p3 : Value) (p4 : Value) (p5 : Value) (p6 : Value) (Kn0 : (Value × Value × Value × Unit) → M) (K : Value → M) : M :=
  Pv (nilV p0) fun v36 =>
  Pv (fldV 0 v36) fun v37 =>
  Rv none (ld1R v37) fun v38 =>
  Pv (ixV 5 v38 p4) fun v39 =>
  Pv (fldV 0 v39) fun v40 =>
  Rv none (ld1R v40) fun v41 =>
  Rv none (bsR v41) fun v42 =>
  Pv (binIV .add p4 (Value.int .i64 1)) fun v43 =>
  sh68_3 ω p3 v43 p5 v42 Kn0 K
def sh68_6 (ω : Om) (p0 : Value) (p3 : Value) (p4 : Value) (p5 : Value) (p6 : Value) (Kn0 : (Value × Value × Value × Unit) → M) (K : Value → M) : M :=
  Pv (nilV p0) fun v53 =>
  Pv (fldV 1 v53) fun v54 =>
  Rv none (ld1R v54) fun v55 =>
  Pv (ixV 6 v55 p5) fun v56 =>
  Pv (fldV 0 v56) fun v57 =>
  Rv none (ld1R v57) fun v58 =>
  Rv none (bsR v58) fun v59 =>
  Pv (binIV .add p5 (Value.int .i64 1)) fun v60 =>
  sh68_3 ω p3 p4 v60 v59 Kn0 K
def sh68_1 (ω : Om) (p0 : Value) (p2 : Value) (x3 : Value) (x4 : Value) (x5 : Value) (Kn0 : (Value × Value × Value × Unit) → M) (K : Value → M) : M :=
  Pv (nilV p0) fun v1 =>
  Pv (fldV 0 v1) fun v2 =>
  Rv none (ld1R v2) fun v3 =>
  Pv (lenV v3) fun v4 =>
  Pv (binIV .lss x4 v4) fun v5 =>
  Gd v5 false
    (Pv (nilV p0) fun v6 =>
    Pv (fldV 1 v6) fun v7 =>
    Rv none (ld1R v7) fun v8 =>
    Pv (lenV v8) fun v9 =>
    Pv (binIV .lss x5 v9) fun v10 =>
    Br v10
      (Draw fun S =>
        Pv (nilV p0) fun v11 =>
        Pv (fldV 0 v11) fun v12 =>
        Rv (some S) (ld1R v12) fun v13 =>
        Pv (lenV v13) fun v14 =>
        Pv (binIV .lss x4 v14) fun v15 =>
        Gd v15 true
          (Pv (nilV p0) fun v16 =>
          Pv (fldV 1 v16) fun v17 =>
          Rv (some S) (ld1R v17) fun v18 =>
          Pv (lenV v18) fun v19 =>
          Pv (binIV .geq x5 v19) fun v20 =>
          Gd v20 false
            (Pv (nilV p0) fun v21 =>
            Pv (fldV 0 v21) fun v22 =>
            Rv (some S) (ld1R v22) fun v23 =>
            Pv (ixV 5 v23 x4) fun v24 =>
            Pv (fldV 0 v24) fun v25 =>
            Rv (some S) (ld1R v25) fun v26 =>
            Rv (some S) (bsR v26) fun v27 =>
            Pv (nilV p0) fun v28 =>
            Pv (fldV 1 v28) fun v29 =>
            Rv (some S) (ld1R v29) fun v30 =>
            Pv (ixV 6 v30 x5) fun v31 =>
            Pv (fldV 0 v31) fun v32 =>
            Rv (some S) (ld1R v32) fun v33 =>
            Rv (some S) (bsR v33) fun v34 =>
            Pv (binSV .leq v27 v34) fun v35 =>
            Br v35
              (sh68_2 ω p0 x3 x4 x5 (Value.string (ByteArray.mk #[])) Kn0 K)
              (sh68_6 ω p0 x3 x4 x5 (Value.string (ByteArray.mk #[])) Kn0 K))
            (sh68_2 ω p0 x3 x4 x5 (Value.string (ByteArray.mk #[])) Kn0 K))
          (sh68_6 ω p0 x3 x4 x5 (Value.string (ByteArray.mk #[])) Kn0 K))
      (K x3))
    (Draw fun S =>
      Pv (nilV p0) fun v61 =>
      Pv (fldV 0 v61) fun v62 =>
      Rv (some S) (ld1R v62) fun v63 =>
      Pv (lenV v63) fun v64 =>
      Pv (binIV .lss x4 v64) fun v65 =>
      Gd v65 true
        (Pv (nilV p0) fun v66 =>
        Pv (fldV 1 v66) fun v67 =>
        Rv (some S) (ld1R v67) fun v68 =>
        Pv (lenV v68) fun v69 =>
        Pv (binIV .geq x5 v69) fun v70 =>
        Gd v70 false
          (Pv (nilV p0) fun v71 =>
          Pv (fldV 0 v71) fun v72 =>
          Rv (some S) (ld1R v72) fun v73 =>
          Pv (ixV 5 v73 x4) fun v74 =>
          Pv (fldV 0 v74) fun v75 =>
          Rv (some S) (ld1R v75) fun v76 =>
          Rv (some S) (bsR v76) fun v77 =>
          Pv (nilV p0) fun v78 =>
          Pv (fldV 1 v78) fun v79 =>
          Rv (some S) (ld1R v79) fun v80 =>
          Pv (ixV 6 v80 x5) fun v81 =>
          Pv (fldV 0 v81) fun v82 =>
          Rv (some S) (ld1R v82) fun v83 =>
          Rv (some S) (bsR v83) fun v84 =>
          Pv (binSV .leq v77 v84) fun v85 =>
          Br v85
            (sh68_2 ω p0 x3 x4 x5 (Value.string (ByteArray.mk #[])) Kn0 K)
            (sh68_6 ω p0 x3 x4 x5 (Value.string (ByteArray.mk #[])) Kn0 K))
          (sh68_2 ω p0 x3 x4 x5 (Value.string (ByteArray.mk #[])) Kn0 K))
        (sh68_6 ω p0 x3 x4 x5 (Value.string (ByteArray.mk #[])) Kn0 K))
def sh68 (ω : Om) (a0 : Value) (K : Value → M) : M :=
  LoopM (((Value.slice none 0 0), (Value.int .i64 0), (Value.int .i64 0), ()) : Value × Value × Value × Unit) fun s Kn0 =>
  sh68_1 ω a0 (Value.slice none 0 0) s.1 s.2.1 s.2.2.1 Kn0 K
theorem sh68_eq (ω : Om) (a0 : Value) (K : Value → M) : vcF Tryz.prog ω Tryz.f68 [a0] K = sh68 ω a0 K := by kernel_rfl
theorem cal68 {ω : Om} {a0 : Value} {K : Value → M} {I : Imm} {L : LH} (h : sh68 ω a0 (fun v => Gh (K v)) I L) : Cal Tryz.prog ω 68 #[a0] K I L :=
  Cal.gh (cal_of_vc mixed Tryz.func68 (by rw [sh68_eq]; exact h))
def sh69 (ω : Om) (a0 : Value) (a1 : Value) (K : Value → M) : M :=
  New (.cells (Value.cells a0) 39 (0, 0)) <| gh fun p_1 =>
  Rv none (bsR a1) fun v2 =>
  Pv (fldV 0 p_1) fun v3 =>
  Rv none (ld1R v3) fun v4 =>
  Rv none (bsR v4) fun v5 =>
  Pv (binSV .geq v2 v5) fun v6 =>
  Gd v6 true
    (Pv (fldV 1 p_1) fun v7 =>
    Rv none (ld1R v7) fun v8 =>
    Pv (lenV v8) fun v9 =>
    Pv (binIV .eql v9 (Value.int .i64 0)) fun v10 =>
    Gd v10 false
      (Rv none (bsR a1) fun v11 =>
      Pv (fldV 1 p_1) fun v12 =>
      Rv none (ld1R v12) fun v13 =>
      Rv none (bsR v13) fun v14 =>
      Pv (binSV .lss v11 v14) fun v15 =>
      K v15)
      (K (Value.bool true)))
    (K (Value.bool false))
theorem sh69_eq (ω : Om) (a0 a1 : Value) (K : Value → M) : vcF Tryz.prog ω Tryz.f69 [a0, a1] K = sh69 ω a0 a1 K := by kernel_rfl
theorem cal69 {ω : Om} {a0 a1 : Value} {K : Value → M} {I : Imm} {L : LH} (h : sh69 ω a0 a1 (fun v => Gh (K v)) I L) : Cal Tryz.prog ω 69 #[a0, a1] K I L :=
  Cal.gh (cal_of_vc mixed Tryz.func69 (by rw [sh69_eq]; exact h))
def sh70_1 (ω : Om) (p0 : Value) (p3 : Value) (x4 : Value) (x5 : Value) (Kn0 : (Value × Value × Unit) → M) (K : Value → M) : M :=
  Pv (binIV .geq x5 (Value.int .i64 0)) fun v7 =>
  Br v7
    (Draw fun S =>
      Pv (nilV p0) fun v8 =>
      Pv (fldV 0 v8) fun v9 =>
      Rv (some S) (ld1R v9) fun v10 =>
      Pv (ixV 4 v10 x5) fun v11 =>
      Pv (fldV 0 v11) fun v12 =>
      Rv (some S) (ldNR 2 v12) fun v13 =>
      Rv (some S) (ldNR 2 p3) fun v14 =>
      Cal Tryz.prog ω 49 #[v13, v14] <| gh fun v15 =>
      Pv (unV .not v15) fun v16 =>
      Br v16
        (Pv (nilV p0) fun v17 =>
        Pv (fldV 0 v17) fun v18 =>
        Rv none (ld1R v18) fun v19 =>
        Pv (ixV 4 v19 x5) fun v20 =>
        K v20)
        (Pv (binIV .sub x5 (Value.int .i64 1)) fun v21 =>
        Kn0 (x4, v21, ())))
    (K (Value.pointer none))
def sh70 (ω : Om) (a0 : Value) (a1 : Value) (K : Value → M) : M :=
  New (.cells (Value.cells a1) 30 (0, 0)) <| gh fun at_1 =>
  Pv (nilV a0) fun v2 =>
  Pv (fldV 0 v2) fun v3 =>
  Rv none (ld1R v3) fun v4 =>
  Pv (lenV v4) fun v5 =>
  Pv (binIV .sub v5 (Value.int .i64 1)) fun v6 =>
  LoopM (((Value.pointer none), v6, ()) : Value × Value × Unit) fun s Kn0 =>
  sh70_1 ω a0 at_1 s.1 s.2.1 Kn0 K
theorem sh70_eq (ω : Om) (a0 a1 : Value) (K : Value → M) : vcF Tryz.prog ω Tryz.f70 [a0, a1] K = sh70 ω a0 a1 K := by kernel_rfl
theorem cal70 {ω : Om} {a0 a1 : Value} {K : Value → M} {I : Imm} {L : LH} (h : sh70 ω a0 a1 (fun v => Gh (K v)) I L) : Cal Tryz.prog ω 70 #[a0, a1] K I L :=
  Cal.gh (cal_of_vc mixed Tryz.func70 (by rw [sh70_eq]; exact h))
def sh71_3 (ω : Om) (p5 : Value) (p6 : Value) (Kn0 : (Value × Value × Unit) → M) (K : Value → M) : M :=
  Pv (binIV .add p6 (Value.int .i64 1)) fun v15 =>
  Kn0 (p5, v15, ())
def sh71_5 (ω : Om) (p0 : Value) (p4 : Value) (p5 : Value) (K : Value → M) : M :=
  Pv (slcV 4 p0 (some p5) none none) fun v16 =>
  ClrV #[(Value.int .i64 0), (Value.int .i64 0), (Value.bool false), (Value.string (ByteArray.mk #[]))] v16 <| gh fun _ =>
  Pv (slcV 4 p0 none (some p5) none) fun v17 =>
  K v17
def sh71_1 (ω : Om) (p0 : Value) (p1 : Value) (p4 : Value) (x5 : Value) (x6 : Value) (Kn0 : (Value × Value × Unit) → M) (K : Value → M) : M :=
  Pv (lenV p0) fun v4 =>
  Pv (binIV .lss x6 v4) fun v5 =>
  Br v5
    (Pv (ixV 4 p0 x6) fun v6 =>
    Rv none (ldNR 4 v6) fun v7 =>
    New (.cells #[(Value.int .i64 0), (Value.int .i64 0), (Value.bool false), (Value.string (ByteArray.mk #[]))] 104 (0, 0)) <| gh fun v_8 =>
    Sto 4 v_8 v7 <| gh fun _ =>
    Rv none (ldNR 4 v_8) fun v9 =>
    CalV Tryz.prog ω p1 #[v9] <| gh fun v10 =>
    Pv (unV .not v10) fun v11 =>
    Br v11
      (Rv none (ldNR 4 v_8) fun v12 =>
      Pv (ixV 4 p0 x5) fun v13 =>
      Sto 4 v13 v12 <| gh fun _ =>
      Pv (binIV .add x5 (Value.int .i64 1)) fun v14 =>
      sh71_3 ω v14 x6 Kn0 K)
      (sh71_3 ω x5 x6 Kn0 K))
    (sh71_5 ω p0 p4 x5 K)
def sh71 (ω : Om) (a0 : Value) (a1 : Value) (K : Value → M) : M :=
  Cal Tryz.prog ω 100 #[a0, a1] <| gh fun v1 =>
  Pv (binIV .eql v1 (Value.int .i64 (-1))) fun v2 =>
  Br v2
    (K a0)
    (Pv (binIV .add v1 (Value.int .i64 1)) fun v3 =>
    LoopM ((v1, v3, ()) : Value × Value × Unit) fun s Kn0 =>
    sh71_1 ω a0 a1 (Value.slice none 0 0) s.1 s.2.1 Kn0 K)
theorem sh71_eq (ω : Om) (a0 a1 : Value) (K : Value → M) : vcF Tryz.prog ω Tryz.f71 [a0, a1] K = sh71 ω a0 a1 K := by kernel_rfl
theorem cal71 {ω : Om} {a0 a1 : Value} {K : Value → M} {I : Imm} {L : LH} (h : sh71 ω a0 a1 (fun v => Gh (K v)) I L) : Cal Tryz.prog ω 71 #[a0, a1] K I L :=
  Cal.gh (cal_of_vc mixed Tryz.func71 (by rw [sh71_eq]; exact h))
def sh72_1 (ω : Om) (p3 : Value) (p4 : Value) (p5 : Value) (p6 : Value) (p7 : Value) (p8 : Value) (K : Value → M) : M :=
  Rv none (ld1R p3) fun v11 =>
  Pv (binIV .add v11 (Value.int .i64 1)) fun v12 =>
  Sto 1 p3 v12 <| gh fun _ =>
  Rv none (ld1R p4) fun v13 =>
  Rv none (ld1R p5) fun v14 =>
  Rv none (ldNR 4 p6) fun v15 =>
  Cal Tryz.prog ω 73 #[v13, v14, v15] <| gh fun v16 =>
  K p8
def sh72 (ω : Om) (a0 : Value) (a1 : Value) (a2 : Value) (a3 : Value) (a4 : Value) (a5 : Value) (K : Value → M) : M :=
  New (.cells (Value.cells a0) 104 (0, 0)) <| gh fun v_1 =>
  Rv none (ldNR 2 a1) fun v2 =>
  Pv (fldV 0 v_1) fun v3 =>
  Rv none (ldNR 2 v3) fun v4 =>
  Cal Tryz.prog ω 49 #[v2, v4] <| gh fun v5 =>
  Gd v5 false
    (Rv none (ld1R a2) fun v6 =>
    Gd v6 true
      (Pv (fldV 0 v_1) fun v7 =>
      Rv none (ldNR 2 v7) fun v8 =>
      Rv none (ldNR 2 a1) fun v9 =>
      Pv (binAV .eql [(TypeDesc.int .i64, 0), (TypeDesc.int .i64, 1)] v8 v9) fun v10 =>
      Br v10
        (sh72_1 ω a3 a4 a5 v_1 (Value.bool false) v10 K)
        (K v10))
      (K (Value.bool false)))
    (sh72_1 ω a3 a4 a5 v_1 (Value.bool false) (Value.bool true) K)
theorem sh72_eq (ω : Om) (a0 a1 a2 a3 a4 a5 : Value) (K : Value → M) : vcF Tryz.prog ω Tryz.f72 [a0, a1, a2, a3, a4, a5] K = sh72 ω a0 a1 a2 a3 a4 a5 K := by kernel_rfl
theorem cal72 {ω : Om} {a0 a1 a2 a3 a4 a5 : Value} {K : Value → M} {I : Imm} {L : LH} (h : sh72 ω a0 a1 a2 a3 a4 a5 (fun v => Gh (K v)) I L) : Cal Tryz.prog ω 72 #[a0, a1, a2, a3, a4, a5] K I L :=
  Cal.gh (cal_of_vc mixed Tryz.func72 (by rw [sh72_eq]; exact h))
def sh73 (ω : Om) (a0 : Value) (a1 : Value) (a2 : Value) (K : Value → M) : M :=
  New (.cells (Value.cells a2) 104 (0, 0)) <| gh fun v_1 =>
  Rv none (ldNR 4 v_1) fun v2 =>
  Cal Tryz.prog ω 97 #[a1, v2] <| gh fun v3 =>
  Cal Tryz.prog ω 88 #[a0, v3, (Value.slice none 0 0), (Value.bool true)] <| gh fun v4 =>
  K (Value.tuple #[])
theorem sh73_eq (ω : Om) (a0 a1 a2 : Value) (K : Value → M) : vcF Tryz.prog ω Tryz.f73 [a0, a1, a2] K = sh73 ω a0 a1 a2 K := by kernel_rfl
theorem cal73 {ω : Om} {a0 a1 a2 : Value} {K : Value → M} {I : Imm} {L : LH} (h : sh73 ω a0 a1 a2 (fun v => Gh (K v)) I L) : Cal Tryz.prog ω 73 #[a0, a1, a2] K I L :=
  Cal.gh (cal_of_vc mixed Tryz.func73 (by rw [sh73_eq]; exact h))
def sh74_4 (ω : Om) (p9 : Value) (p10 : Value) (Kn0 : (Value × Value × Unit) → M) (K : Value → M) : M :=
  Pv (binIV .add p10 (Value.int .i64 1)) fun v33 =>
  Kn0 (p9, v33, ())
def sh74_2 (ω : Om) (p0 : Value) (p8 : Value) (p9 : Value) (p10 : Value) (Kn0 : (Value × Value × Unit) → M) (K : Value → M) : M :=
  Pv (nilV p0) fun v28 =>
  Pv (fldV 0 v28) fun v29 =>
  Rv none (ld1R v29) fun v30 =>
  Pv (ixV 5 v30 p10) fun v31 =>
  Rv none (ldNR 5 v31) fun v32 =>
  Sto 5 p8 v32 <| gh fun _ =>
  sh74_4 ω (Value.bool true) p10 Kn0 K
def sh74_6 (ω : Om) (p6 : Value) (p7 : Value) (p8 : Value) (p9 : Value) (K : Value → M) : M :=
  Rv none (ldNR 5 p8) fun v34 =>
  Sto 5 p6 v34 <| gh fun _ =>
  Rv none (ldNR 5 p6) fun v35 =>
  K (Value.tuple #[v35, p9])
def sh74_1 (ω : Om) (p0 : Value) (p1 : Value) (p5 : Value) (p6 : Value) (p7 : Value) (p8 : Value) (x9 : Value) (x10 : Value) (Kn0 : (Value × Value × Unit) → M) (K : Value → M) : M :=
  Pv (nilV p0) fun v5 =>
  Pv (fldV 0 v5) fun v6 =>
  Rv none (ld1R v6) fun v7 =>
  Pv (lenV v7) fun v8 =>
  Pv (binIV .lss x10 v8) fun v9 =>
  Br v9
    (Draw fun S =>
      Pv (nilV p0) fun v10 =>
      Pv (fldV 0 v10) fun v11 =>
      Rv (some S) (ld1R v11) fun v12 =>
      Pv (ixV 5 v12 x10) fun v13 =>
      Pv (fldV 1 v13) fun v14 =>
      Rv (some S) (ldNR 2 v14) fun v15 =>
      Rv (some S) (ldNR 2 p5) fun v16 =>
      Cal Tryz.prog ω 58 #[v15, v16] <| gh fun v17 =>
      Draw fun S =>
        Pv (nilV p0) fun v18 =>
        Pv (fldV 0 v18) fun v19 =>
        Rv (some S) (ld1R v19) fun v20 =>
        Pv (ixV 5 v20 x10) fun v21 =>
        Pv (fldV 0 v21) fun v22 =>
        Rv (some S) (ld1R v22) fun v23 =>
        Rv (some S) (bsR v23) fun v24 =>
        Rv (some S) (bsR p1) fun v25 =>
        Pv (binSV .eql v24 v25) fun v26 =>
        Gd v26 true
          (Pv (unV .not v17) fun v27 =>
          Br v27
            (sh74_2 ω p0 p8 x9 x10 Kn0 K)
            (sh74_4 ω x9 x10 Kn0 K))
          (sh74_4 ω x9 x10 Kn0 K))
    (sh74_6 ω p6 p7 p8 x9 K)
def sh74 (ω : Om) (a0 : Value) (a1 : Value) (a2 : Value) (K : Value → M) : M :=
  New (.cells (Value.cells a2) 30 (0, 0)) <| gh fun at_1 =>
  New (.cells #[(Value.slice none 0 0), (Value.int .i64 0), (Value.int .i64 0), (Value.bool false), (Value.slice none 0 0)] 99 (0, 0)) <| gh fun v2 =>
  Pv (bldV #[(Value.slice none 0 0), (Value.int .i64 0), (Value.int .i64 0), (Value.bool false), (Value.slice none 0 0)] #[(0, 1), (1, 2), (3, 1), (4, 1)] []) fun v3 =>
  New (.cells #[(Value.slice none 0 0), (Value.int .i64 0), (Value.int .i64 0), (Value.bool false), (Value.slice none 0 0)] 99 (0, 0)) <| gh fun out_4 =>
  Sto 5 out_4 v3 <| gh fun _ =>
  LoopM (((Value.bool false), (Value.int .i64 0), ()) : Value × Value × Unit) fun s Kn0 =>
  sh74_1 ω a0 a1 at_1 v2 (Value.bool false) out_4 s.1 s.2.1 Kn0 K
theorem sh74_eq (ω : Om) (a0 a1 a2 : Value) (K : Value → M) : vcF Tryz.prog ω Tryz.f74 [a0, a1, a2] K = sh74 ω a0 a1 a2 K := by kernel_rfl
theorem cal74 {ω : Om} {a0 a1 a2 : Value} {K : Value → M} {I : Imm} {L : LH} (h : sh74 ω a0 a1 a2 (fun v => Gh (K v)) I L) : Cal Tryz.prog ω 74 #[a0, a1, a2] K I L :=
  Cal.gh (cal_of_vc mixed Tryz.func74 (by rw [sh74_eq]; exact h))
def sh75_2 (ω : Om) (p2 : Value) (p4 : Value) (Q0 : Nat) (K : Value → M) : M :=
  Rv none (ld1R p2) fun v7 =>
  Tak Q0 <|
  K v7
def sh75 (ω : Om) (a0 : Value) (a1 : Value) (K : Value → M) : M :=
  New (.cells (Value.cells a0) 42 (0, 0)) <| gh fun s_1 =>
  RngF1 Tryz.prog ω a1 (fun r1_0 Bg Nk Xk Rk =>
      New (.cells #[(Value.bool false), (Value.slice none 0 0), (Value.slice none 0 0)] 78 (0, 0)) <| gh fun v_2 =>
      Sto 3 v_2 r1_0 <| gh fun _ =>
      Bg (Rv none (ld1R s_1) fun v3 =>
      Rv none (ldNR 3 v_2) fun v4 =>
      BldS 78 3 #[(Value.bool false), (Value.slice none 0 0), (Value.slice none 0 0)] 1 [(0, v4)] <| gh fun v5 =>
      App 78 3 56 #[(Value.bool false), (Value.slice none 0 0), (Value.slice none 0 0)] v3 v5 <| gh fun v6 =>
      Sto 1 s_1 v6 <| gh fun _ =>
      Nk))
    (fun D1 => sh75_2 ω s_1 (Value.slice none 0 0) D1 K)
    (fun _ => [])
    (fun D1 => Tak D1 <|
      K (Value.slice none 0 0))
theorem sh75_eq (ω : Om) (a0 a1 : Value) (K : Value → M) : vcF Tryz.prog ω Tryz.f75 [a0, a1] K = sh75 ω a0 a1 K := by kernel_rfl
theorem cal75 {ω : Om} {a0 a1 : Value} {K : Value → M} {I : Imm} {L : LH} (h : sh75 ω a0 a1 (fun v => Gh (K v)) I L) : Cal Tryz.prog ω 75 #[a0, a1] K I L :=
  Cal.gh (cal_of_vc mixed Tryz.func75 (by rw [sh75_eq]; exact h))
def sh76_1 (ω : Om) (p0 : Value) (p6 : Value) (Kn0 : (Unit) → M) (K : Value → M) : M :=
  NxtM p6 <| gh fun v3 =>
  Pv (exV v3 0) fun v4 =>
  Br v4
    (Rv none (entR p6) fun v5 =>
    Pv (exV v5 1) fun v6 =>
    New (.cells #[(Value.bool false), (Value.slice none 0 0), (Value.slice none 0 0)] 78 (0, 0)) <| gh fun v_7 =>
    Sto 3 v_7 v6 <| gh fun _ =>
    Rv none (ldNR 3 v_7) fun v8 =>
    CalV Tryz.prog ω p0 #[v8] <| gh fun v9 =>
    Pv (unV .not v9) fun v10 =>
    Br v10
      (K (Value.tuple #[]))
      (Kn0 (())))
    (K (Value.tuple #[]))
def sh76 (ω : Om) (a0 : Value) (a1 : Value) (K : Value → M) : M :=
  Rv none (ld1R a1) fun v1 =>
  RngMp v1 <| gh fun v2 =>
  LoopM ((()) : Unit) fun s Kn0 =>
  sh76_1 ω a0 v2 Kn0 K
theorem sh76_eq (ω : Om) (a0 a1 : Value) (K : Value → M) : vcF Tryz.prog ω Tryz.f76 [a0, a1] K = sh76 ω a0 a1 K := by kernel_rfl
theorem cal76 {ω : Om} {a0 a1 : Value} {K : Value → M} {I : Imm} {L : LH} (h : sh76 ω a0 a1 (fun v => Gh (K v)) I L) : Cal Tryz.prog ω 76 #[a0, a1] K I L :=
  Cal.gh (cal_of_vc mixed Tryz.func76 (by rw [sh76_eq]; exact h))
def sh80_4 (ω : Om) (p2 : Value) (p3 : Value) (K : Value → M) : M :=
  Pv (bldV #[(Value.int .i64 0), (Value.int .i64 0)] #[(0, 1), (1, 1)] []) fun v35 =>
  Sto 2 p2 v35 <| gh fun _ =>
  Rv none (ldNR 2 p2) fun v36 =>
  K (Value.tuple #[v36, (Value.int .i64 80)])
def sh80_3 (ω : Om) (p0 : Value) (p2 : Value) (p3 : Value) (p4 : Value) (K : Value → M) : M :=
  Draw fun S =>
    Pv (ixV 1 p0 (Value.int .i64 7)) fun v19 =>
    Rv (some S) (ld1R v19) fun v20 =>
    Pv (cvIV .i64 v20) fun v21 =>
    Pv (binIV .shl v21 (Value.int .u64 8)) fun v22 =>
    Pv (ixV 1 p0 (Value.int .i64 8)) fun v23 =>
    Rv (some S) (ld1R v23) fun v24 =>
    Pv (cvIV .i64 v24) fun v25 =>
    Pv (binIV .or v22 v25) fun v26 =>
    Pv (fldV 1 p4) fun v27 =>
    Sto 1 v27 v26 <| gh fun _ =>
    Rv none (ldNR 2 p4) fun v28 =>
    Cal Tryz.prog ω 87 #[v28] <| gh fun v29 =>
    Pv (exV v29 0) fun v30 =>
    Pv (exV v29 1) fun v31 =>
    Pv (binIV .neq v31 (Value.int .i64 0)) fun v32 =>
    Gd v32 false
      (Cal Tryz.prog ω 112 #[v30, p0] <| gh fun v33 =>
      Pv (unV .not v33) fun v34 =>
      Br v34
        (sh80_4 ω p2 p3 K)
        (Rv none (ldNR 2 p4) fun v37 =>
        Sto 2 p2 v37 <| gh fun _ =>
        Rv none (ldNR 2 p2) fun v38 =>
        K (Value.tuple #[v38, (Value.int .i64 0)])))
      (sh80_4 ω p2 p3 K)
def sh80_1 (ω : Om) (p0 : Value) (p2 : Value) (p3 : Value) (p4 : Value) (p14 : Value) (p15 : Value) (x16 : Value) (Kn0 : (Value × Unit) → M) (K : Value → M) : M :=
  Pv (binIV .lss x16 p15) fun v9 =>
  Br v9
    (Pv (ixV 1 p14 x16) fun v10 =>
    Rv none (ld1R v10) fun v11 =>
    Pv (fldV 0 p4) fun v12 =>
    Rv none (ld1R v12) fun v13 =>
    Pv (binIV .shl v13 (Value.int .u64 8)) fun v14 =>
    Pv (cvIV .i64 v11) fun v15 =>
    Pv (binIV .or v14 v15) fun v16 =>
    Pv (fldV 0 p4) fun v17 =>
    Sto 1 v17 v16 <| gh fun _ =>
    Pv (binIV .add x16 (Value.int .i64 1)) fun v18 =>
    Kn0 (v18, ()))
    (sh80_3 ω p0 p2 p3 p4 K)
def sh80 (ω : Om) (a0 : Value) (K : Value → M) : M :=
  New (.cells #[(Value.int .i64 0), (Value.int .i64 0)] 30 (0, 0)) <| gh fun v1 =>
  Pv (lenV a0) fun v2 =>
  Pv (binIV .neq v2 (Value.int .i64 9)) fun v3 =>
  Br v3
    (Pv (bldV #[(Value.int .i64 0), (Value.int .i64 0)] #[(0, 1), (1, 1)] []) fun v4 =>
    Sto 2 v1 v4 <| gh fun _ =>
    Rv none (ldNR 2 v1) fun v5 =>
    K (Value.tuple #[v5, (Value.int .i64 80)]))
    (New (.cells #[(Value.int .i64 0), (Value.int .i64 0)] 30 (0, 0)) <| gh fun s_6 =>
    Pv (slcV 1 a0 none (some (Value.int .i64 7)) none) fun v7 =>
    Pv (lenV v7) fun v8 =>
    LoopM (((Value.int .i64 0), ()) : Value × Unit) fun s Kn0 =>
    sh80_1 ω a0 v1 (Value.int .i64 0) s_6 v7 v8 s.1 Kn0 K)
theorem sh80_eq (ω : Om) (a0 : Value) (K : Value → M) : vcF Tryz.prog ω Tryz.f80 [a0] K = sh80 ω a0 K := by kernel_rfl
theorem cal80 {ω : Om} {a0 : Value} {K : Value → M} {I : Imm} {L : LH} (h : sh80 ω a0 (fun v => Gh (K v)) I L) : Cal Tryz.prog ω 80 #[a0] K I L :=
  Cal.gh (cal_of_vc mixed Tryz.func80 (by rw [sh80_eq]; exact h))
def sh81_2 (ω : Om) (p2 : Value) (p3 : Value) (p4 : Value) (p5 : Value) (p6 : Value) (p30 : Value) (K : Value → M) : M :=
  Br p30
    (K (Value.tuple #[(Value.int .u64 0), (Value.int .i64 0), (Value.int .i64 11)]))
    (Pv (binIV .add p6 (Value.int .i64 1)) fun v15 =>
    K (Value.tuple #[p5, v15, (Value.int .i64 0)]))
def sh81_3 (ω : Om) (p2 : Value) (p3 : Value) (p4 : Value) (p5 : Value) (p6 : Value) (p7 : Value) (p30 : Value) (K : Value → M) : M :=
  Pv (binIV .eql p6 (Value.int .i64 9)) fun v16 =>
  Gd v16 true
    (Pv (binIV .gtr p7 (Value.int .u8 1)) fun v17 =>
    sh81_2 ω p2 p3 p4 p5 p6 v17 K)
    (sh81_2 ω p2 p3 p4 p5 p6 (Value.bool false) K)
def sh81_1 (ω : Om) (p0 : Value) (x2 : Value) (x3 : Value) (x4 : Value) (x5 : Value) (x8 : Value) (Kn0 : (Value × Value × Value × Value × Value × Unit) → M) (K : Value → M) : M :=
  Pv (binIV .lss x8 (Value.int .i64 10)) fun v1 =>
  Br v1
    (Pv (lenV p0) fun v2 =>
    Pv (binIV .eql x8 v2) fun v3 =>
    Br v3
      (K (Value.tuple #[(Value.int .u64 0), (Value.int .i64 0), (Value.int .i64 10)]))
      (Pv (ixV 1 p0 x8) fun v4 =>
      Rv none (ld1R v4) fun v5 =>
      Pv (binIV .and v5 (Value.int .u8 127)) fun v6 =>
      Pv (cvIV .u64 v6) fun v7 =>
      Pv (binIV .mul (Value.int .i64 7) x8) fun v8 =>
      Pv (binIV .shl v7 v8) fun v9 =>
      Pv (binIV .or x5 v9) fun v10 =>
      Pv (binIV .gtr v5 (Value.int .u8 127)) fun v11 =>
      Br v11
        (Pv (binIV .add x8 (Value.int .i64 1)) fun v12 =>
        Kn0 (x2, x3, x4, v10, v12, ()))
        (Pv (binIV .gtr x8 (Value.int .i64 0)) fun v13 =>
        Gd v13 true
          (Pv (binIV .eql v5 (Value.int .u8 0)) fun v14 =>
          Br v14
            (sh81_2 ω x2 x3 x4 v10 x8 v14 K)
            (sh81_3 ω x2 x3 x4 v10 x8 v5 v14 K))
          (sh81_3 ω x2 x3 x4 v10 x8 v5 (Value.bool false) K))))
    (K (Value.tuple #[(Value.int .u64 0), (Value.int .i64 0), (Value.int .i64 11)]))
def sh81 (ω : Om) (a0 : Value) (K : Value → M) : M :=
  LoopM (((Value.int .u64 0), (Value.int .i64 0), (Value.int .i64 0), (Value.int .u64 0), (Value.int .i64 0), ()) : Value × Value × Value × Value × Value × Unit) fun s Kn0 =>
  sh81_1 ω a0 s.1 s.2.1 s.2.2.1 s.2.2.2.1 s.2.2.2.2.1 Kn0 K
theorem sh81_eq (ω : Om) (a0 : Value) (K : Value → M) : vcF Tryz.prog ω Tryz.f81 [a0] K = sh81 ω a0 K := by kernel_rfl
theorem cal81 {ω : Om} {a0 : Value} {K : Value → M} {I : Imm} {L : LH} (h : sh81 ω a0 (fun v => Gh (K v)) I L) : Cal Tryz.prog ω 81 #[a0] K I L :=
  Cal.gh (cal_of_vc mixed Tryz.func81 (by rw [sh81_eq]; exact h))
def sh82_1 (ω : Om) (p2 : Value) (p3 : Value) (K : Value → M) : M :=
  Pv (bldV #[(Value.int .i64 0), (Value.int .i64 0), (Value.bool false), (Value.string (ByteArray.mk #[]))] #[(0, 2), (2, 1), (3, 1)] []) fun v12 =>
  Sto 4 p2 v12 <| gh fun _ =>
  Rv none (ldNR 4 p2) fun v13 =>
  K (Value.tuple #[v13, (Value.bool false)])
def sh82 (ω : Om) (a0 : Value) (K : Value → M) : M :=
  New (.cells #[(Value.int .i64 0), (Value.int .i64 0), (Value.bool false), (Value.string (ByteArray.mk #[]))] 104 (0, 0)) <| gh fun v1 =>
  Pv (lenV a0) fun v2 =>
  Pv (binIV .eql v2 (Value.int .i64 0)) fun v3 =>
  Gd v3 false
    (Pv (ixV 1 a0 (Value.int .i64 0)) fun v4 =>
    Rv none (ld1R v4) fun v5 =>
    Pv (binIV .gtr v5 (Value.int .u8 1)) fun v6 =>
    Gd v6 false
      (Pv (ixV 1 a0 (Value.int .i64 0)) fun v7 =>
      Rv none (ld1R v7) fun v8 =>
      Pv (binIV .eql v8 (Value.int .u8 1)) fun v9 =>
      Gd v9 true
        (Pv (lenV a0) fun v10 =>
        Pv (binIV .gtr v10 (Value.int .i64 1)) fun v11 =>
        Br v11
          (sh82_1 ω v1 (Value.bool false) K)
          (Draw fun S =>
            Pv (ixV 1 a0 (Value.int .i64 0)) fun v14 =>
            Rv (some S) (ld1R v14) fun v15 =>
            Pv (binIV .eql v15 (Value.int .u8 1)) fun v16 =>
            Pv (slcV 1 a0 (some (Value.int .i64 1)) none none) fun v17 =>
            Rv (some S) (bsR v17) fun v18 =>
            Pv (bldV #[(Value.int .i64 0), (Value.int .i64 0), (Value.bool false), (Value.string (ByteArray.mk #[]))] #[(0, 2), (2, 1), (3, 1)] [(1, v16), (2, v18)]) fun v19 =>
            Sto 4 v1 v19 <| gh fun _ =>
            Rv none (ldNR 4 v1) fun v20 =>
            K (Value.tuple #[v20, (Value.bool true)])))
        (Draw fun S =>
          Pv (ixV 1 a0 (Value.int .i64 0)) fun v21 =>
          Rv (some S) (ld1R v21) fun v22 =>
          Pv (binIV .eql v22 (Value.int .u8 1)) fun v23 =>
          Pv (slcV 1 a0 (some (Value.int .i64 1)) none none) fun v24 =>
          Rv (some S) (bsR v24) fun v25 =>
          Pv (bldV #[(Value.int .i64 0), (Value.int .i64 0), (Value.bool false), (Value.string (ByteArray.mk #[]))] #[(0, 2), (2, 1), (3, 1)] [(1, v23), (2, v25)]) fun v26 =>
          Sto 4 v1 v26 <| gh fun _ =>
          Rv none (ldNR 4 v1) fun v27 =>
          K (Value.tuple #[v27, (Value.bool true)])))
      (sh82_1 ω v1 (Value.bool false) K))
    (sh82_1 ω v1 (Value.bool false) K)
theorem sh82_eq (ω : Om) (a0 : Value) (K : Value → M) : vcF Tryz.prog ω Tryz.f82 [a0] K = sh82 ω a0 K := by kernel_rfl
theorem cal82 {ω : Om} {a0 : Value} {K : Value → M} {I : Imm} {L : LH} (h : sh82 ω a0 (fun v => Gh (K v)) I L) : Cal Tryz.prog ω 82 #[a0] K I L :=
  Cal.gh (cal_of_vc mixed Tryz.func82 (by rw [sh82_eq]; exact h))
def sh83_3 (ω : Om) (p2 : Value) (p3 : Value) (p4 : Value) (p5 : Value) (p6 : Value) (K : Value → M) : M :=
  Cal Tryz.prog ω 114 #[p5] <| gh fun v17 =>
  K (Value.tuple #[v17, p6, (Value.int .i64 0)])
def sh83_4 (ω : Om) (p2 : Value) (p3 : Value) (p4 : Value) (p5 : Value) (p6 : Value) (p39 : Value) (Kn0 : (Value × Value × Value × Value × Value × Unit) → M) (K : Value → M) : M :=
  Pv (binIV .eql p39 (Value.int .u8 255)) fun v18 =>
  Br v18
    (BldS 5 1 #[(Value.int .u8 0)] 1 [(0, (Value.int .u8 0))] <| gh fun v19 =>
    App 5 1 1 #[(Value.int .u8 0)] p5 v19 <| gh fun v20 =>
    Kn0 (p2, p3, p4, v20, p6, ()))
    (K (Value.tuple #[(Value.slice none 0 0), (Value.int .i64 0), (Value.int .i64 11)]))
def sh83_1 (ω : Om) (p0 : Value) (x2 : Value) (x3 : Value) (x4 : Value) (x5 : Value) (x6 : Value) (Kn0 : (Value × Value × Value × Value × Value × Unit) → M) (K : Value → M) : M :=
  Pv (slcV 1 p0 (some x6) none none) fun v1 =>
  Cal Tryz.prog ω 113 #[v1, (Value.int .u8 0)] <| gh fun v2 =>
  Pv (binIV .lss v2 (Value.int .i64 0)) fun v3 =>
  Gd v3 false
    (Pv (binIV .add x6 v2) fun v4 =>
    Pv (binIV .add v4 (Value.int .i64 1)) fun v5 =>
    Pv (lenV p0) fun v6 =>
    Pv (binIV .eql v5 v6) fun v7 =>
    Br v7
      (K (Value.tuple #[(Value.slice none 0 0), (Value.int .i64 0), (Value.int .i64 10)]))
      (Pv (binIV .add x6 v2) fun v8 =>
      Pv (slcV 1 p0 (some x6) (some v8) none) fun v9 =>
      App 5 1 1 #[(Value.int .u8 0)] x5 v9 <| gh fun v10 =>
      Pv (binIV .add v2 (Value.int .i64 2)) fun v11 =>
      Pv (binIV .add x6 v11) fun v12 =>
      Pv (binIV .sub v12 (Value.int .i64 1)) fun v13 =>
      Pv (ixV 1 p0 v13) fun v14 =>
      Rv none (ld1R v14) fun v15 =>
      Pv (binIV .eql v15 (Value.int .u8 1)) fun v16 =>
      Br v16
        (sh83_3 ω x2 x3 x4 v10 v12 K)
        (sh83_4 ω x2 x3 x4 v10 v12 v15 Kn0 K)))
    (K (Value.tuple #[(Value.slice none 0 0), (Value.int .i64 0), (Value.int .i64 10)]))
def sh83 (ω : Om) (a0 : Value) (K : Value → M) : M :=
  LoopM (((Value.slice none 0 0), (Value.int .i64 0), (Value.int .i64 0), (Value.slice none 0 0), (Value.int .i64 0), ()) : Value × Value × Value × Value × Value × Unit) fun s Kn0 =>
  sh83_1 ω a0 s.1 s.2.1 s.2.2.1 s.2.2.2.1 s.2.2.2.2.1 Kn0 K
theorem sh83_eq (ω : Om) (a0 : Value) (K : Value → M) : vcF Tryz.prog ω Tryz.f83 [a0] K = sh83 ω a0 K := by kernel_rfl
theorem cal83 {ω : Om} {a0 : Value} {K : Value → M} {I : Imm} {L : LH} (h : sh83 ω a0 (fun v => Gh (K v)) I L) : Cal Tryz.prog ω 83 #[a0] K I L :=
  Cal.gh (cal_of_vc mixed Tryz.func83 (by rw [sh83_eq]; exact h))
def sh84_1 (ω : Om) (p0 : Value) (p1 : Value) (x4 : Value) (x5 : Value) (Kn0 : (Value × Value × Unit) → M) (K : Value → M) : M :=
  Pv (binIV .gtr x5 (Value.int .i64 0)) fun v3 =>
  Br v3
    (Draw fun S =>
      Pv (ixV 4 p0 x5) fun v4 =>
      Rv (some S) (ldNR 4 v4) fun v5 =>
      Pv (binIV .sub x5 (Value.int .i64 1)) fun v6 =>
      Pv (ixV 4 p0 v6) fun v7 =>
      Rv (some S) (ldNR 4 v7) fun v8 =>
      CalV Tryz.prog ω p1 #[v5, v8] <| gh fun v9 =>
      Pv (binIV .lss v9 (Value.int .i64 0)) fun v10 =>
      Br v10
        (K (Value.bool false))
        (Pv (binIV .sub x5 (Value.int .i64 1)) fun v11 =>
        Kn0 (x4, v11, ())))
    (K (Value.bool true))
def sh84 (ω : Om) (a0 : Value) (a1 : Value) (K : Value → M) : M :=
  Pv (lenV a0) fun v1 =>
  Pv (binIV .sub v1 (Value.int .i64 1)) fun v2 =>
  LoopM (((Value.bool false), v2, ()) : Value × Value × Unit) fun s Kn0 =>
  sh84_1 ω a0 a1 s.1 s.2.1 Kn0 K
theorem sh84_eq (ω : Om) (a0 a1 : Value) (K : Value → M) : vcF Tryz.prog ω Tryz.f84 [a0, a1] K = sh84 ω a0 a1 K := by kernel_rfl
theorem cal84 {ω : Om} {a0 a1 : Value} {K : Value → M} {I : Imm} {L : LH} (h : sh84 ω a0 a1 (fun v => Gh (K v)) I L) : Cal Tryz.prog ω 84 #[a0, a1] K I L :=
  Cal.gh (cal_of_vc mixed Tryz.func84 (by rw [sh84_eq]; exact h))
def sh85 (ω : Om) (a0 : Value) (a1 : Value) (K : Value → M) : M :=
  New (.cells (Value.cells a0) 104 (0, 0)) <| gh fun a_1 =>
  New (.cells (Value.cells a1) 104 (0, 0)) <| gh fun b_2 =>
  Pv (fldV 0 a_1) fun v3 =>
  Rv none (ldNR 2 v3) fun v4 =>
  Pv (fldV 0 b_2) fun v5 =>
  Rv none (ldNR 2 v5) fun v6 =>
  Cal Tryz.prog ω 86 #[v4, v6] <| gh fun v7 =>
  K v7
theorem sh85_eq (ω : Om) (a0 a1 : Value) (K : Value → M) : vcF Tryz.prog ω Tryz.f85 [a0, a1] K = sh85 ω a0 a1 K := by kernel_rfl
theorem cal85 {ω : Om} {a0 a1 : Value} {K : Value → M} {I : Imm} {L : LH} (h : sh85 ω a0 a1 (fun v => Gh (K v)) I L) : Cal Tryz.prog ω 85 #[a0, a1] K I L :=
  Cal.gh (cal_of_vc mixed Tryz.func85 (by rw [sh85_eq]; exact h))
def sh86 (ω : Om) (a0 : Value) (a1 : Value) (K : Value → M) : M :=
  New (.cells (Value.cells a0) 30 (0, 0)) <| gh fun a_1 =>
  New (.cells (Value.cells a1) 30 (0, 0)) <| gh fun b_2 =>
  Draw fun S =>
    Pv (fldV 0 a_1) fun v3 =>
    Rv (some S) (ld1R v3) fun v4 =>
    Pv (fldV 0 b_2) fun v5 =>
    Rv (some S) (ld1R v5) fun v6 =>
    Cal Tryz.prog ω 116 #[v4, v6] <| gh <| Keep S fun v7 =>
    Pv (fldV 1 a_1) fun v8 =>
    Rv (some S) (ld1R v8) fun v9 =>
    Pv (fldV 1 b_2) fun v10 =>
    Rv (some S) (ld1R v10) fun v11 =>
    Cal Tryz.prog ω 116 #[v9, v11] <| gh fun v12 =>
    BldS 3 1 #[(Value.int .i64 0)] 2 [(0, v7), (1, v12)] <| gh fun v13 =>
    Cal Tryz.prog ω 115 #[v13] <| gh fun v14 =>
    K v14
theorem sh86_eq (ω : Om) (a0 a1 : Value) (K : Value → M) : vcF Tryz.prog ω Tryz.f86 [a0, a1] K = sh86 ω a0 a1 K := by kernel_rfl
theorem cal86 {ω : Om} {a0 a1 : Value} {K : Value → M} {I : Imm} {L : LH} (h : sh86 ω a0 a1 (fun v => Gh (K v)) I L) : Cal Tryz.prog ω 86 #[a0, a1] K I L :=
  Cal.gh (cal_of_vc mixed Tryz.func86 (by rw [sh86_eq]; exact h))
def sh87_3 (ω : Om) (p1 : Value) (p2 : Value) (p3 : Value) (p4 : Value) (K : Value → M) : M :=
  Pv (fldV 1 p1) fun v14 =>
  Rv none (ld1R v14) fun v15 =>
  Pv (binIV .shr v15 (Value.int .u64 8)) fun v16 =>
  Pv (cvIV .u8 v16) fun v17 =>
  Pv (fldV 1 p1) fun v18 =>
  Rv none (ld1R v18) fun v19 =>
  Pv (cvIV .u8 v19) fun v20 =>
  BldS 5 1 #[(Value.int .u8 0)] 2 [(0, v17), (1, v20)] <| gh fun v21 =>
  App 5 1 1 #[(Value.int .u8 0)] p4 v21 <| gh fun v22 =>
  K (Value.tuple #[v22, (Value.int .i64 0)])
def sh87_1 (ω : Om) (p1 : Value) (p2 : Value) (p3 : Value) (x4 : Value) (x5 : Value) (Kn0 : (Value × Value × Unit) → M) (K : Value → M) : M :=
  Pv (binIV .geq x5 (Value.int .i64 0)) fun v6 =>
  Br v6
    (Pv (fldV 0 p1) fun v7 =>
    Rv none (ld1R v7) fun v8 =>
    Pv (binIV .shr v8 x5) fun v9 =>
    Pv (cvIV .u8 v9) fun v10 =>
    BldS 5 1 #[(Value.int .u8 0)] 1 [(0, v10)] <| gh fun v11 =>
    App 5 1 1 #[(Value.int .u8 0)] x4 v11 <| gh fun v12 =>
    Pv (binIV .sub x5 (Value.int .i64 8)) fun v13 =>
    Kn0 (v12, v13, ()))
    (sh87_3 ω p1 p2 p3 x4 K)
def sh87 (ω : Om) (a0 : Value) (K : Value → M) : M :=
  New (.cells (Value.cells a0) 30 (0, 0)) <| gh fun s_1 =>
  Rv none (ldNR 2 s_1) fun v2 =>
  Cal Tryz.prog ω 48 #[v2] <| gh fun v3 =>
  Pv (unV .not v3) fun v4 =>
  Br v4
    (K (Value.tuple #[(Value.slice none 0 0), (Value.int .i64 80)]))
    (MkS 5 1 #[(Value.int .u8 0)] (Value.int .i64 0) (Value.int .i64 9) <| gh fun v5 =>
    LoopM ((v5, (Value.int .i64 48), ()) : Value × Value × Unit) fun s Kn0 =>
    sh87_1 ω s_1 (Value.slice none 0 0) (Value.int .i64 0) s.1 s.2.1 Kn0 K)
theorem sh87_eq (ω : Om) (a0 : Value) (K : Value → M) : vcF Tryz.prog ω Tryz.f87 [a0] K = sh87 ω a0 K := by kernel_rfl
theorem cal87 {ω : Om} {a0 : Value} {K : Value → M} {I : Imm} {L : LH} (h : sh87 ω a0 (fun v => Gh (K v)) I L) : Cal Tryz.prog ω 87 #[a0] K I L :=
  Cal.gh (cal_of_vc mixed Tryz.func87 (by rw [sh87_eq]; exact h))
def sh88 (ω : Om) (a0 : Value) (a1 : Value) (a2 : Value) (a3 : Value) (K : Value → M) : M :=
  Draw fun S =>
    Pv (nilV a0) fun v1 =>
    Pv (fldV 4 v1) fun v2 =>
    Rv (some S) (ld1R v2) fun v3 =>
    Rv (some S) (bsR a1) fun v4 =>
    Pv (bldV #[(Value.bool false), (Value.slice none 0 0), (Value.slice none 0 0)] #[(0, 1), (1, 1), (2, 1)] [(0, a3), (1, a1), (2, a2)]) fun v5 =>
    PutM .string v3 v4 v5 <| gh fun _ =>
    K (Value.tuple #[])
theorem sh88_eq (ω : Om) (a0 a1 a2 a3 : Value) (K : Value → M) : vcF Tryz.prog ω Tryz.f88 [a0, a1, a2, a3] K = sh88 ω a0 a1 a2 a3 K := by kernel_rfl
theorem cal88 {ω : Om} {a0 a1 a2 a3 : Value} {K : Value → M} {I : Imm} {L : LH} (h : sh88 ω a0 a1 a2 a3 (fun v => Gh (K v)) I L) : Cal Tryz.prog ω 88 #[a0, a1, a2, a3] K I L :=
  Cal.gh (cal_of_vc mixed Tryz.func88 (by rw [sh88_eq]; exact h))
def sh89 (ω : Om) (a0 : Value) (a1 : Value) (K : Value → M) : M :=
  Cal Tryz.prog ω 117 #[a0] <| gh fun v1 =>
  Gd v1 true
    (Cal Tryz.prog ω 117 #[a1] <| gh fun v2 =>
    Pv (unV .not v2) fun v3 =>
    Gd v3 false
      (Pv (binSV .lss a0 a1) fun v4 =>
      K v4)
      (K (Value.bool true)))
    (Pv (binSV .lss a0 a1) fun v5 =>
    K v5)
theorem sh89_eq (ω : Om) (a0 a1 : Value) (K : Value → M) : vcF Tryz.prog ω Tryz.f89 [a0, a1] K = sh89 ω a0 a1 K := by kernel_rfl
theorem cal89 {ω : Om} {a0 a1 : Value} {K : Value → M} {I : Imm} {L : LH} (h : sh89 ω a0 a1 (fun v => Gh (K v)) I L) : Cal Tryz.prog ω 89 #[a0, a1] K I L :=
  Cal.gh (cal_of_vc mixed Tryz.func89 (by rw [sh89_eq]; exact h))
def sh90 (ω : Om) (a0 : Value) (K : Value → M) : M :=
  Pv (binSV .neq a0 a0) fun v1 =>
  K v1
theorem sh90_eq (ω : Om) (a0 : Value) (K : Value → M) : vcF Tryz.prog ω Tryz.f90 [a0] K = sh90 ω a0 K := by kernel_rfl
theorem cal90 {ω : Om} {a0 : Value} {K : Value → M} {I : Imm} {L : LH} (h : sh90 ω a0 (fun v => Gh (K v)) I L) : Cal Tryz.prog ω 90 #[a0] K I L :=
  Cal.gh (cal_of_vc mixed Tryz.func90 (by rw [sh90_eq]; exact h))
def sh91 (ω : Om) (a0 : Value) (K : Value → M) : M :=
  Pv (binIV .geq a0 (Value.int .i64 0)) fun v1 =>
  Gd v1 true
    (Pv (binIV .leq a0 (Value.int .i64 9007199254740991)) fun v2 =>
    K v2)
    (K (Value.bool false))
theorem sh91_eq (ω : Om) (a0 : Value) (K : Value → M) : vcF Tryz.prog ω Tryz.f91 [a0] K = sh91 ω a0 K := by kernel_rfl
theorem cal91 {ω : Om} {a0 : Value} {K : Value → M} {I : Imm} {L : LH} (h : sh91 ω a0 (fun v => Gh (K v)) I L) : Cal Tryz.prog ω 91 #[a0] K I L :=
  Cal.gh (cal_of_vc mixed Tryz.func91 (by rw [sh91_eq]; exact h))
def sh92 (ω : Om) (a0 : Value) (a1 : Value) (a2 : Value) (K : Value → M) : M :=
  Pv (slcV 1 a0 (some a1) none none) fun v1 =>
  Pv (lenV a2) fun v2 =>
  Pv (binIV .eql v2 (Value.int .i64 0)) fun v3 =>
  Br v3
    (K a0)
    (Pv (lenV a0) fun v4 =>
    Pv (binIV .eql a1 v4) fun v5 =>
    Br v5
      (App 9 1 16 #[(Value.string (ByteArray.mk #[]))] a0 a2 <| gh fun v6 =>
      K v6)
      (Pv (binIV .add v4 v2) fun v7 =>
      Pv (capV a0) fun v8 =>
      Pv (binIV .gtr v7 v8) fun v9 =>
      Br v9
        (Pv (slcV 1 a0 none (some a1) none) fun v10 =>
        Pv (binIV .add v4 v2) fun v11 =>
        Pv (binIV .sub v11 a1) fun v12 =>
        AppZ 9 1 16 #[(Value.string (ByteArray.mk #[]))] v10 v12 <| gh fun v13 =>
        Pv (slcV 1 v13 (some a1) none none) fun v14 =>
        CpyV 1 v14 a2 <| gh fun v15 =>
        Draw fun S =>
          Pv (binIV .add a1 v2) fun v16 =>
          Pv (slcV 1 v13 (some v16) none none) fun v17 =>
          Pv (slcV 1 a0 (some a1) none none) fun v18 =>
          CpyV 1 v17 v18 <| gh fun v19 =>
          K v13)
        (Pv (binIV .add v4 v2) fun v20 =>
        Pv (slcV 1 a0 none (some v20) none) fun v21 =>
        Pv (binIV .add a1 v2) fun v22 =>
        Pv (slcV 1 v21 (some v22) none none) fun v23 =>
        ExtE Tryz.prog ω (Extern.SlicesOverlaps.overlaps #[64, 64] #[4]) #[a2, v23] <| gh fun v24 =>
        Pv (unV .not v24) fun v25 =>
        Br v25
          (Draw fun S =>
            Pv (binIV .add a1 v2) fun v26 =>
            Pv (slcV 1 v21 (some v26) none none) fun v27 =>
            Pv (slcV 1 v21 (some a1) none none) fun v28 =>
            CpyV 1 v27 v28 <| gh fun v29 =>
            Pv (slcV 1 v21 (some a1) none none) fun v30 =>
            CpyV 1 v30 a2 <| gh fun v31 =>
            K v21)
          (Pv (slcV 1 v21 (some v4) none none) fun v32 =>
          CpyV 1 v32 a2 <| gh fun v33 =>
          Pv (slcV 1 v21 (some a1) none none) fun v34 =>
          Cal Tryz.prog ω 119 #[v34, v2] <| gh fun v35 =>
          K v21))))
theorem sh92_eq (ω : Om) (a0 a1 a2 : Value) (K : Value → M) : vcF Tryz.prog ω Tryz.f92 [a0, a1, a2] K = sh92 ω a0 a1 a2 K := by kernel_rfl
theorem cal92 {ω : Om} {a0 a1 a2 : Value} {K : Value → M} {I : Imm} {L : LH} (h : sh92 ω a0 a1 a2 (fun v => Gh (K v)) I L) : Cal Tryz.prog ω 92 #[a0, a1, a2] K I L :=
  Cal.gh (cal_of_vc mixed Tryz.func92 (by rw [sh92_eq]; exact h))
def sh93_3 (ω : Om) (p0 : Value) (p2 : Value) (p3 : Value) (K : Value → M) : M :=
  Pv (cvIV .u8 p0) fun v7 =>
  BldS 5 1 #[(Value.int .u8 0)] 1 [(0, v7)] <| gh fun v8 =>
  App 5 1 1 #[(Value.int .u8 0)] p3 v8 <| gh fun v9 =>
  Cal Tryz.prog ω 114 #[v9] <| gh fun v10 =>
  K v10
def sh93_1 (ω : Om) (p2 : Value) (x0 : Value) (x3 : Value) (Kn0 : (Value × Value × Unit) → M) (K : Value → M) : M :=
  Pv (binIV .gtr x0 (Value.int .u64 127)) fun v1 =>
  Br v1
    (Pv (cvIV .u8 x0) fun v2 =>
    Pv (binIV .or v2 (Value.int .u8 128)) fun v3 =>
    BldS 5 1 #[(Value.int .u8 0)] 1 [(0, v3)] <| gh fun v4 =>
    App 5 1 1 #[(Value.int .u8 0)] x3 v4 <| gh fun v5 =>
    Pv (binIV .shr x0 (Value.int .u64 7)) fun v6 =>
    Kn0 (v6, v5, ()))
    (sh93_3 ω x0 p2 x3 K)
def sh93 (ω : Om) (a0 : Value) (K : Value → M) : M :=
  LoopM ((a0, (Value.slice none 0 0), ()) : Value × Value × Unit) fun s Kn0 =>
  sh93_1 ω (Value.slice none 0 0) s.1 s.2.1 Kn0 K
theorem sh93_eq (ω : Om) (a0 : Value) (K : Value → M) : vcF Tryz.prog ω Tryz.f93 [a0] K = sh93 ω a0 K := by kernel_rfl
theorem cal93 {ω : Om} {a0 : Value} {K : Value → M} {I : Imm} {L : LH} (h : sh93 ω a0 (fun v => Gh (K v)) I L) : Cal Tryz.prog ω 93 #[a0] K I L :=
  Cal.gh (cal_of_vc mixed Tryz.func93 (by rw [sh93_eq]; exact h))
def sh94 (ω : Om) (a0 : Value) (K : Value → M) : M :=
  New (.cells (Value.cells a0) 104 (0, 0)) <| gh fun v_1 =>
  Pv (fldV 2 v_1) fun v2 =>
  Rv none (ld1R v2) fun v3 =>
  Br v3
    (BldS 5 1 #[(Value.int .u8 0)] 1 [(0, (Value.int .u8 1))] <| gh fun v4 =>
    K v4)
    (BldS 5 1 #[(Value.int .u8 0)] 1 [(0, (Value.int .u8 0))] <| gh fun v5 =>
    Pv (fldV 3 v_1) fun v6 =>
    Rv none (ld1R v6) fun v7 =>
    App 5 1 1 #[(Value.int .u8 0)] v5 v7 <| gh fun v8 =>
    K v8)
theorem sh94_eq (ω : Om) (a0 : Value) (K : Value → M) : vcF Tryz.prog ω Tryz.f94 [a0] K = sh94 ω a0 K := by kernel_rfl
theorem cal94 {ω : Om} {a0 : Value} {K : Value → M} {I : Imm} {L : LH} (h : sh94 ω a0 (fun v => Gh (K v)) I L) : Cal Tryz.prog ω 94 #[a0] K I L :=
  Cal.gh (cal_of_vc mixed Tryz.func94 (by rw [sh94_eq]; exact h))
def sh95 (ω : Om) (a0 : Value) (K : Value → M) : M :=
  Pv (binIV .geq a0 (Value.int .i64 0)) fun v1 =>
  Gd v1 true
    (Pv (binIV .leq a0 (Value.int .i64 9007199254740991)) fun v2 =>
    K v2)
    (K (Value.bool false))
theorem sh95_eq (ω : Om) (a0 : Value) (K : Value → M) : vcF Tryz.prog ω Tryz.f95 [a0] K = sh95 ω a0 K := by kernel_rfl
theorem cal95 {ω : Om} {a0 : Value} {K : Value → M} {I : Imm} {L : LH} (h : sh95 ω a0 (fun v => Gh (K v)) I L) : Cal Tryz.prog ω 95 #[a0] K I L :=
  Cal.gh (cal_of_vc mixed Tryz.func95 (by rw [sh95_eq]; exact h))
def sh96 (ω : Om) (a0 : Value) (a1 : Value) (K : Value → M) : M :=
  New (.cells (Value.cells a0) 30 (0, 0)) <| gh fun a_1 =>
  New (.cells (Value.cells a1) 30 (0, 0)) <| gh fun b_2 =>
  Pv (fldV 0 a_1) fun v3 =>
  Rv none (ld1R v3) fun v4 =>
  Pv (fldV 0 b_2) fun v5 =>
  Rv none (ld1R v5) fun v6 =>
  Pv (binIV .lss v4 v6) fun v7 =>
  Br v7
    (K (Value.int .i64 (-1)))
    (Pv (fldV 0 a_1) fun v8 =>
    Rv none (ld1R v8) fun v9 =>
    Pv (fldV 0 b_2) fun v10 =>
    Rv none (ld1R v10) fun v11 =>
    Pv (binIV .gtr v9 v11) fun v12 =>
    Br v12
      (K (Value.int .i64 1))
      (Pv (fldV 1 a_1) fun v13 =>
      Rv none (ld1R v13) fun v14 =>
      Pv (fldV 1 b_2) fun v15 =>
      Rv none (ld1R v15) fun v16 =>
      Pv (binIV .lss v14 v16) fun v17 =>
      Br v17
        (K (Value.int .i64 (-1)))
        (Pv (fldV 1 a_1) fun v18 =>
        Rv none (ld1R v18) fun v19 =>
        Pv (fldV 1 b_2) fun v20 =>
        Rv none (ld1R v20) fun v21 =>
        Pv (binIV .gtr v19 v21) fun v22 =>
        Br v22
          (K (Value.int .i64 1))
          (K (Value.int .i64 0)))))
theorem sh96_eq (ω : Om) (a0 a1 : Value) (K : Value → M) : vcF Tryz.prog ω Tryz.f96 [a0, a1] K = sh96 ω a0 a1 K := by kernel_rfl
theorem cal96 {ω : Om} {a0 a1 : Value} {K : Value → M} {I : Imm} {L : LH} (h : sh96 ω a0 a1 (fun v => Gh (K v)) I L) : Cal Tryz.prog ω 96 #[a0, a1] K I L :=
  Cal.gh (cal_of_vc mixed Tryz.func96 (by rw [sh96_eq]; exact h))
def sh97 (ω : Om) (a0 : Value) (a1 : Value) (K : Value → M) : M :=
  New (.cells (Value.cells a1) 104 (0, 0)) <| gh fun v_1 =>
  Pv (fldV 0 v_1) fun v2 =>
  Rv none (ldNR 2 v2) fun v3 =>
  Cal Tryz.prog ω 87 #[v3] <| gh fun v4 =>
  Pv (exV v4 0) fun v5 =>
  Pv (exV v4 1) fun v6 =>
  BldS 5 1 #[(Value.int .u8 0)] 1 [(0, (Value.int .u8 118))] <| gh fun v7 =>
  CvSB 5 a0 <| gh fun v8 =>
  Cal Tryz.prog ω 120 #[v8] <| gh fun v9 =>
  App 5 1 1 #[(Value.int .u8 0)] v7 v9 <| gh fun v10 =>
  App 5 1 1 #[(Value.int .u8 0)] v10 v5 <| gh fun v11 =>
  K v11
theorem sh97_eq (ω : Om) (a0 a1 : Value) (K : Value → M) : vcF Tryz.prog ω Tryz.f97 [a0, a1] K = sh97 ω a0 a1 K := by kernel_rfl
theorem cal97 {ω : Om} {a0 a1 : Value} {K : Value → M} {I : Imm} {L : LH} (h : sh97 ω a0 a1 (fun v => Gh (K v)) I L) : Cal Tryz.prog ω 97 #[a0, a1] K I L :=
  Cal.gh (cal_of_vc mixed Tryz.func97 (by rw [sh97_eq]; exact h))
def sh98 (ω : Om) (a0 : Value) (a1 : Value) (a2 : Value) (K : Value → M) : M :=
  Pv (lenV a0) fun v1 =>
  Pv (slcV 1 a0 (some a1) (some a2) (some v1)) fun v2 =>
  Pv (binIV .eql a1 a2) fun v3 =>
  Br v3
    (K a0)
    (Pv (lenV a0) fun v4 =>
    Draw fun S =>
      Pv (slcV 1 a0 none (some a1) none) fun v5 =>
      Pv (slcV 1 a0 (some a2) none none) fun v6 =>
      App 9 1 16 #[(Value.string (ByteArray.mk #[]))] v5 v6 <| gh fun v7 =>
      Pv (lenV v7) fun v8 =>
      Pv (slcV 1 v7 (some v8) (some v4) none) fun v9 =>
      ClrV #[(Value.string (ByteArray.mk #[]))] v9 <| gh fun _ =>
      K v7)
theorem sh98_eq (ω : Om) (a0 a1 a2 : Value) (K : Value → M) : vcF Tryz.prog ω Tryz.f98 [a0, a1, a2] K = sh98 ω a0 a1 a2 K := by kernel_rfl
theorem cal98 {ω : Om} {a0 a1 a2 : Value} {K : Value → M} {I : Imm} {L : LH} (h : sh98 ω a0 a1 a2 (fun v => Gh (K v)) I L) : Cal Tryz.prog ω 98 #[a0, a1, a2] K I L :=
  Cal.gh (cal_of_vc mixed Tryz.func98 (by rw [sh98_eq]; exact h))
def sh99_1 (ω : Om) (p0 : Value) (p1 : Value) (p2 : Value) (p24 : Value) (p25 : Value) (x26 : Value) (Kn0 : (Value × Unit) → M) (K : Value → M) : M :=
  Pv (binIV .lss x26 p25) fun v17 =>
  Br v17
    (Pv (ixV 1 p24 x26) fun v18 =>
    Rv none (ld1R v18) fun v19 =>
    Pv (fldV 1 p2) fun v20 =>
    Rv none (ld1R v20) fun v21 =>
    Pv (lenV v21) fun v22 =>
    Pv (binIV .gtr v22 (Value.int .i64 0)) fun v23 =>
    Gd v23 true
      (Pv (fldV 1 p2) fun v24 =>
      Rv none (ld1R v24) fun v25 =>
      Rv none (bsR v25) fun v26 =>
      Pv (binSV .geq v19 v26) fun v27 =>
      Gd v27 false
        (Rv none (ld1R p1) fun v28 =>
        Pv (nilV v28) fun v29 =>
        Pv (fldV 0 v29) fun v30 =>
        Rv none (ld1R v30) fun v31 =>
        Rv none (lkR .string (Value.pointer none) false v31 v19) fun v32 =>
        CalV Tryz.prog ω p0 #[v19, v32] <| gh fun v33 =>
        Pv (unV .not v33) fun v34 =>
        Br v34
          (K (Value.tuple #[]))
          (Pv (binIV .add x26 (Value.int .i64 1)) fun v35 =>
          Kn0 (v35, ())))
        (K (Value.tuple #[])))
      (Rv none (ld1R p1) fun v36 =>
      Pv (nilV v36) fun v37 =>
      Pv (fldV 0 v37) fun v38 =>
      Rv none (ld1R v38) fun v39 =>
      Rv none (lkR .string (Value.pointer none) false v39 v19) fun v40 =>
      CalV Tryz.prog ω p0 #[v19, v40] <| gh fun v41 =>
      Pv (unV .not v41) fun v42 =>
      Br v42
        (K (Value.tuple #[]))
        (Pv (binIV .add x26 (Value.int .i64 1)) fun v43 =>
        Kn0 (v43, ()))))
    (K (Value.tuple #[]))
def sh99 (ω : Om) (a0 : Value) (a1 : Value) (a2 : Value) (K : Value → M) : M :=
  Draw fun S =>
    Rv (some S) (ld1R a1) fun v1 =>
    Pv (nilV v1) fun v2 =>
    Pv (fldV 1 v2) fun v3 =>
    Rv (some S) (ld1R v3) fun v4 =>
    Pv (fldV 0 a2) fun v5 =>
    Rv (some S) (ld1R v5) fun v6 =>
    Rv (some S) (bsR v6) fun v7 =>
    Cal Tryz.prog ω 43 #[v4, v7] <| gh fun v8 =>
    Pv (exV v8 0) fun v9 =>
    Pv (exV v8 1) fun v10 =>
    Rv none (ld1R a1) fun v11 =>
    Pv (nilV v11) fun v12 =>
    Pv (fldV 1 v12) fun v13 =>
    Rv none (ld1R v13) fun v14 =>
    Pv (slcV 1 v14 (some v9) none none) fun v15 =>
    Pv (lenV v15) fun v16 =>
    LoopM (((Value.int .i64 0), ()) : Value × Unit) fun s Kn0 =>
    sh99_1 ω a0 a1 a2 v15 v16 s.1 Kn0 K
theorem sh99_eq (ω : Om) (a0 a1 a2 : Value) (K : Value → M) : vcF Tryz.prog ω Tryz.f99 [a0, a1, a2] K = sh99 ω a0 a1 a2 K := by kernel_rfl
theorem cal99 {ω : Om} {a0 a1 a2 : Value} {K : Value → M} {I : Imm} {L : LH} (h : sh99 ω a0 a1 a2 (fun v => Gh (K v)) I L) : Cal Tryz.prog ω 99 #[a0, a1, a2] K I L :=
  Cal.gh (cal_of_vc mixed Tryz.func99 (by rw [sh99_eq]; exact h))
def sh100_1 (ω : Om) (p0 : Value) (p1 : Value) (p7 : Value) (x4 : Value) (x8 : Value) (Kn0 : (Value × Value × Unit) → M) (K : Value → M) : M :=
  Pv (binIV .lss x8 p7) fun v2 =>
  Br v2
    (Pv (ixV 4 p0 x8) fun v3 =>
    Rv none (ldNR 4 v3) fun v4 =>
    CalV Tryz.prog ω p1 #[v4] <| gh fun v5 =>
    Br v5
      (K x8)
      (Pv (binIV .add x8 (Value.int .i64 1)) fun v6 =>
      Kn0 (x4, v6, ())))
    (K (Value.int .i64 (-1)))
def sh100 (ω : Om) (a0 : Value) (a1 : Value) (K : Value → M) : M :=
  Pv (lenV a0) fun v1 =>
  LoopM (((Value.int .i64 0), (Value.int .i64 0), ()) : Value × Value × Unit) fun s Kn0 =>
  sh100_1 ω a0 a1 v1 s.1 s.2.1 Kn0 K
theorem sh100_eq (ω : Om) (a0 a1 : Value) (K : Value → M) : vcF Tryz.prog ω Tryz.f100 [a0, a1] K = sh100 ω a0 a1 K := by kernel_rfl
theorem cal100 {ω : Om} {a0 a1 : Value} {K : Value → M} {I : Imm} {L : LH} (h : sh100 ω a0 a1 (fun v => Gh (K v)) I L) : Cal Tryz.prog ω 100 #[a0, a1] K I L :=
  Cal.gh (cal_of_vc mixed Tryz.func100 (by rw [sh100_eq]; exact h))
def sh112 (ω : Om) (a0 : Value) (a1 : Value) (K : Value → M) : M :=
  Rv none (bsR a0) fun v1 =>
  Rv none (bsR a1) fun v2 =>
  Pv (binSV .eql v1 v2) fun v3 =>
  K v3
theorem sh112_eq (ω : Om) (a0 a1 : Value) (K : Value → M) : vcF Tryz.prog ω Tryz.f112 [a0, a1] K = sh112 ω a0 a1 K := by kernel_rfl
theorem cal112 {ω : Om} {a0 a1 : Value} {K : Value → M} {I : Imm} {L : LH} (h : sh112 ω a0 a1 (fun v => Gh (K v)) I L) : Cal Tryz.prog ω 112 #[a0, a1] K I L :=
  Cal.gh (cal_of_vc mixed Tryz.func112 (by rw [sh112_eq]; exact h))
def sh113 (ω : Om) (a0 : Value) (a1 : Value) (K : Value → M) : M :=
  ExtE Tryz.prog ω Extern.BytealgIndexByte.indexByte #[a0, a1] <| gh fun v1 =>
  K v1
theorem sh113_eq (ω : Om) (a0 a1 : Value) (K : Value → M) : vcF Tryz.prog ω Tryz.f113 [a0, a1] K = sh113 ω a0 a1 K := by kernel_rfl
theorem cal113 {ω : Om} {a0 a1 : Value} {K : Value → M} {I : Imm} {L : LH} (h : sh113 ω a0 a1 (fun v => Gh (K v)) I L) : Cal Tryz.prog ω 113 #[a0, a1] K I L :=
  Cal.gh (cal_of_vc mixed Tryz.func113 (by rw [sh113_eq]; exact h))
def sh114 (ω : Om) (a0 : Value) (K : Value → M) : M :=
  Pv (lenV a0) fun v1 =>
  Pv (lenV a0) fun v2 =>
  Pv (slcV 1 a0 none (some v1) (some v2)) fun v3 =>
  K v3
theorem sh114_eq (ω : Om) (a0 : Value) (K : Value → M) : vcF Tryz.prog ω Tryz.f114 [a0] K = sh114 ω a0 K := by kernel_rfl
theorem cal114 {ω : Om} {a0 : Value} {K : Value → M} {I : Imm} {L : LH} (h : sh114 ω a0 (fun v => Gh (K v)) I L) : Cal Tryz.prog ω 114 #[a0] K I L :=
  Cal.gh (cal_of_vc mixed Tryz.func114 (by rw [sh114_eq]; exact h))
def sh115_1 (ω : Om) (p3 : Value) (p6 : Value) (p7 : Value) (x2 : Value) (x8 : Value) (Kn0 : (Value × Value × Unit) → M) (K : Value → M) : M :=
  Pv (binIV .lss x8 p7) fun v2 =>
  Br v2
    (Pv (ixV 1 p6 x8) fun v3 =>
    Rv none (ld1R v3) fun v4 =>
    Pv (binIV .neq v4 p3) fun v5 =>
    Br v5
      (K v4)
      (Pv (binIV .add x8 (Value.int .i64 1)) fun v6 =>
      Kn0 (x2, v6, ())))
    (K p3)
def sh115 (ω : Om) (a0 : Value) (K : Value → M) : M :=
  Pv (lenV a0) fun v1 =>
  LoopM (((Value.int .i64 0), (Value.int .i64 0), ()) : Value × Value × Unit) fun s Kn0 =>
  sh115_1 ω (Value.int .i64 0) a0 v1 s.1 s.2.1 Kn0 K
theorem sh115_eq (ω : Om) (a0 : Value) (K : Value → M) : vcF Tryz.prog ω Tryz.f115 [a0] K = sh115 ω a0 K := by kernel_rfl
theorem cal115 {ω : Om} {a0 : Value} {K : Value → M} {I : Imm} {L : LH} (h : sh115 ω a0 (fun v => Gh (K v)) I L) : Cal Tryz.prog ω 115 #[a0] K I L :=
  Cal.gh (cal_of_vc mixed Tryz.func115 (by rw [sh115_eq]; exact h))
def sh116 (ω : Om) (a0 : Value) (a1 : Value) (K : Value → M) : M :=
  Cal Tryz.prog ω 127 #[a0] <| gh fun v1 =>
  Cal Tryz.prog ω 127 #[a1] <| gh fun v2 =>
  Br v1
    (Br v2
      (K (Value.int .i64 0))
      (K (Value.int .i64 (-1))))
    (Br v2
      (K (Value.int .i64 1))
      (Pv (binIV .lss a0 a1) fun v3 =>
      Br v3
        (K (Value.int .i64 (-1)))
        (Pv (binIV .gtr a0 a1) fun v4 =>
        Br v4
          (K (Value.int .i64 1))
          (K (Value.int .i64 0)))))
theorem sh116_eq (ω : Om) (a0 a1 : Value) (K : Value → M) : vcF Tryz.prog ω Tryz.f116 [a0, a1] K = sh116 ω a0 a1 K := by kernel_rfl
theorem cal116 {ω : Om} {a0 a1 : Value} {K : Value → M} {I : Imm} {L : LH} (h : sh116 ω a0 a1 (fun v => Gh (K v)) I L) : Cal Tryz.prog ω 116 #[a0, a1] K I L :=
  Cal.gh (cal_of_vc mixed Tryz.func116 (by rw [sh116_eq]; exact h))
def sh117 (ω : Om) (a0 : Value) (K : Value → M) : M :=
  Pv (binSV .neq a0 a0) fun v1 =>
  K v1
theorem sh117_eq (ω : Om) (a0 : Value) (K : Value → M) : vcF Tryz.prog ω Tryz.f117 [a0] K = sh117 ω a0 K := by kernel_rfl
theorem cal117 {ω : Om} {a0 : Value} {K : Value → M} {I : Imm} {L : LH} (h : sh117 ω a0 (fun v => Gh (K v)) I L) : Cal Tryz.prog ω 117 #[a0] K I L :=
  Cal.gh (cal_of_vc mixed Tryz.func117 (by rw [sh117_eq]; exact h))
def sh120 (ω : Om) (a0 : Value) (K : Value → M) : M :=
  BldS 5 1 #[(Value.int .u8 0)] 1 [(0, (Value.int .u8 0))] <| gh fun v1 =>
  BldS 5 1 #[(Value.int .u8 0)] 2 [(0, (Value.int .u8 0)), (1, (Value.int .u8 255))] <| gh fun v2 =>
  Cal Tryz.prog ω 129 #[a0, v1, v2] <| gh fun v3 =>
  BldS 5 1 #[(Value.int .u8 0)] 2 [(0, (Value.int .u8 0)), (1, (Value.int .u8 1))] <| gh fun v4 =>
  BldS 35 1 #[(Value.slice none 0 0)] 2 [(0, v3), (1, v4)] <| gh fun v5 =>
  Cal Tryz.prog ω 130 #[v5] <| gh fun v6 =>
  K v6
theorem sh120_eq (ω : Om) (a0 : Value) (K : Value → M) : vcF Tryz.prog ω Tryz.f120 [a0] K = sh120 ω a0 K := by kernel_rfl
theorem cal120 {ω : Om} {a0 : Value} {K : Value → M} {I : Imm} {L : LH} (h : sh120 ω a0 (fun v => Gh (K v)) I L) : Cal Tryz.prog ω 120 #[a0] K I L :=
  Cal.gh (cal_of_vc mixed Tryz.func120 (by rw [sh120_eq]; exact h))
def sh127 (ω : Om) (a0 : Value) (K : Value → M) : M :=
  Pv (binIV .neq a0 a0) fun v1 =>
  K v1
theorem sh127_eq (ω : Om) (a0 : Value) (K : Value → M) : vcF Tryz.prog ω Tryz.f127 [a0] K = sh127 ω a0 K := by kernel_rfl
theorem cal127 {ω : Om} {a0 : Value} {K : Value → M} {I : Imm} {L : LH} (h : sh127 ω a0 (fun v => Gh (K v)) I L) : Cal Tryz.prog ω 127 #[a0] K I L :=
  Cal.gh (cal_of_vc mixed Tryz.func127 (by rw [sh127_eq]; exact h))
def sh129 (ω : Om) (a0 : Value) (a1 : Value) (a2 : Value) (K : Value → M) : M :=
  Cal Tryz.prog ω 133 #[a0, a1, a2, (Value.int .i64 (-1))] <| gh fun v1 =>
  K v1
theorem sh129_eq (ω : Om) (a0 a1 a2 : Value) (K : Value → M) : vcF Tryz.prog ω Tryz.f129 [a0, a1, a2] K = sh129 ω a0 a1 a2 K := by kernel_rfl
theorem cal129 {ω : Om} {a0 a1 a2 : Value} {K : Value → M} {I : Imm} {L : LH} (h : sh129 ω a0 a1 a2 (fun v => Gh (K v)) I L) : Cal Tryz.prog ω 129 #[a0, a1, a2] K I L :=
  Cal.gh (cal_of_vc mixed Tryz.func129 (by rw [sh129_eq]; exact h))
def sh130_3 (ω : Om) (p3 : Value) (p11 : Value) (Kn0 : (Value × Value × Unit) → M) (K : Value → M) : M :=
  Pv (binIV .add p11 (Value.int .i64 1)) fun v8 =>
  Kn0 (p3, v8, ())
def sh130_6 (ω : Om) (p2 : Value) (p25 : Value) (p26 : Value) (x6 : Value) (x27 : Value) (Kn1 : (Value × Value × Unit) → M) (K : Value → M) : M :=
  Pv (binIV .lss x27 p26) fun v11 =>
  Br v11
    (Pv (ixV 1 p25 x27) fun v12 =>
    Rv none (ld1R v12) fun v13 =>
    App 5 1 1 #[(Value.int .u8 0)] x6 v13 <| gh fun v14 =>
    Pv (binIV .add x27 (Value.int .i64 1)) fun v15 =>
    Kn1 (v14, v15, ()))
    (K x6)
def sh130_5 (ω : Om) (p0 : Value) (p2 : Value) (p3 : Value) (K : Value → M) : M :=
  Cal Tryz.prog ω 134 #[(Value.slice none 0 0), p3] <| gh fun v9 =>
  Pv (lenV p0) fun v10 =>
  LoopM ((v9, (Value.int .i64 0), ()) : Value × Value × Unit) fun s Kn1 =>
  sh130_6 ω p2 p0 v10 s.1 s.2.1 Kn1 K
def sh130_1 (ω : Om) (p0 : Value) (p2 : Value) (p9 : Value) (p10 : Value) (x3 : Value) (x11 : Value) (Kn0 : (Value × Value × Unit) → M) (K : Value → M) : M :=
  Pv (binIV .lss x11 p10) fun v2 =>
  Br v2
    (Pv (ixV 1 p9 x11) fun v3 =>
    Rv none (ld1R v3) fun v4 =>
    Pv (lenV v4) fun v5 =>
    Pv (binIV .add x3 v5) fun v6 =>
    Pv (binIV .lss v6 (Value.int .i64 0)) fun v7 =>
    Br v7
      (F /- panic -/)
      (sh130_3 ω v6 x11 Kn0 K))
    (sh130_5 ω p0 p2 x3 K)
def sh130 (ω : Om) (a0 : Value) (K : Value → M) : M :=
  Pv (lenV a0) fun v1 =>
  LoopM (((Value.int .i64 0), (Value.int .i64 0), ()) : Value × Value × Unit) fun s Kn0 =>
  sh130_1 ω a0 (Value.slice none 0 0) a0 v1 s.1 s.2.1 Kn0 K
theorem sh130_eq (ω : Om) (a0 : Value) (K : Value → M) : vcF Tryz.prog ω Tryz.f130 [a0] K = sh130 ω a0 K := by kernel_rfl
theorem cal130 {ω : Om} {a0 : Value} {K : Value → M} {I : Imm} {L : LH} (h : sh130 ω a0 (fun v => Gh (K v)) I L) : Cal Tryz.prog ω 130 #[a0] K I L :=
  Cal.gh (cal_of_vc mixed Tryz.func130 (by rw [sh130_eq]; exact h))
def sh133_6 (ω : Om) (p0 : Value) (p8 : Value) (p10 : Value) (p11 : Value) (p12 : Value) (K : Value → M) : M :=
  Draw fun S =>
    Pv (slcV 1 p10 (some p11) none none) fun v30 =>
    Pv (slcV 1 p0 (some p12) none none) fun v31 =>
    CpyV 1 v30 v31 <| gh fun v32 =>
    Pv (binIV .add p11 v32) fun v33 =>
    Pv (slcV 1 p10 (some (Value.int .i64 0)) (some v33) none) fun v34 =>
    K v34
def sh133_4 (ω : Om) (p0 : Value) (p1 : Value) (p2 : Value) (p8 : Value) (p10 : Value) (p48 : Value) (x11 : Value) (x12 : Value) (x49 : Value) (Kn0 : (Value × Value × Value × Unit) → M) (K : Value → M) : M :=
  Pv (binIV .lss x49 p48) fun v16 =>
  Br v16
    (Pv (slcV 1 p0 (some x12) none none) fun v17 =>
    Cal Tryz.prog ω 136 #[v17, p1] <| gh fun v18 =>
    Pv (binIV .add x12 v18) fun v19 =>
    Draw fun S =>
      Pv (slcV 1 p10 (some x11) none none) fun v20 =>
      Pv (slcV 1 p0 (some x12) (some v19) none) fun v21 =>
      CpyV 1 v20 v21 <| gh fun v22 =>
      Pv (binIV .add x11 v22) fun v23 =>
      Pv (slcV 1 p10 (some v23) none none) fun v24 =>
      CpyV 1 v24 p2 <| gh fun v25 =>
      Pv (binIV .add v23 v25) fun v26 =>
      Pv (lenV p1) fun v27 =>
      Pv (binIV .add v19 v27) fun v28 =>
      Pv (binIV .add x49 (Value.int .i64 1)) fun v29 =>
      Kn0 (v26, v28, v29, ()))
    (sh133_6 ω p0 p8 p10 x11 x12 K)
def sh133_7 (ω : Om) (p0 : Value) (p2 : Value) (p8 : Value) (p10 : Value) (p88 : Value) (x11 : Value) (x12 : Value) (x89 : Value) (Kn0 : (Value × Value × Value × Unit) → M) (K : Value → M) : M :=
  Pv (binIV .lss x89 p88) fun v39 =>
  Br v39
    (Pv (slcV 1 p0 (some x12) none none) fun v40 =>
    Cal Tryz.prog ω 137 #[v40] <| gh fun v41 =>
    Pv (exV v41 0) fun v42 =>
    Pv (exV v41 1) fun v43 =>
    Pv (binIV .add x12 v43) fun v44 =>
    Draw fun S =>
      Pv (slcV 1 p10 (some x11) none none) fun v45 =>
      Pv (slcV 1 p0 (some x12) (some v44) none) fun v46 =>
      CpyV 1 v45 v46 <| gh fun v47 =>
      Pv (binIV .add x11 v47) fun v48 =>
      Pv (slcV 1 p10 (some v48) none none) fun v49 =>
      CpyV 1 v49 p2 <| gh fun v50 =>
      Pv (binIV .add v48 v50) fun v51 =>
      Pv (binIV .add x89 (Value.int .i64 1)) fun v52 =>
      Kn0 (v51, v44, v52, ()))
    (sh133_6 ω p0 p8 p10 x11 x12 K)
def sh133_3 (ω : Om) (p0 : Value) (p1 : Value) (p2 : Value) (p3 : Value) (p8 : Value) (K : Value → M) : M :=
  Pv (lenV p0) fun v7 =>
  Pv (lenV p2) fun v8 =>
  Pv (lenV p1) fun v9 =>
  Pv (binIV .sub v8 v9) fun v10 =>
  Pv (binIV .mul p3 v10) fun v11 =>
  Pv (binIV .add v7 v11) fun v12 =>
  MkS 5 1 #[(Value.int .u8 0)] v12 v12 <| gh fun v13 =>
  Pv (lenV p1) fun v14 =>
  Pv (binIV .gtr v14 (Value.int .i64 0)) fun v15 =>
  Br v15
    (LoopM (((Value.int .i64 0), (Value.int .i64 0), (Value.int .i64 0), ()) : Value × Value × Value × Unit) fun s Kn0 =>
    sh133_4 ω p0 p1 p2 p8 v13 p3 s.1 s.2.1 s.2.2.1 Kn0 K)
    (Pv (slcV 1 v13 (some (Value.int .i64 0)) none none) fun v35 =>
    CpyV 1 v35 p2 <| gh fun v36 =>
    Pv (binIV .add (Value.int .i64 0) v36) fun v37 =>
    Pv (binIV .sub p3 (Value.int .i64 1)) fun v38 =>
    LoopM ((v37, (Value.int .i64 0), (Value.int .i64 0), ()) : Value × Value × Value × Unit) fun s Kn0 =>
    sh133_7 ω p0 p2 p8 v13 v38 s.1 s.2.1 s.2.2.1 Kn0 K)
def sh133_1 (ω : Om) (p0 : Value) (p1 : Value) (p2 : Value) (p3 : Value) (p8 : Value) (p9 : Value) (K : Value → M) : M :=
  Pv (binIV .eql p9 (Value.int .i64 0)) fun v3 =>
  Br v3
    (App 5 1 1 #[(Value.int .u8 0)] (Value.slice none 0 0) p0 <| gh fun v4 =>
    K v4)
    (Pv (binIV .lss p3 (Value.int .i64 0)) fun v5 =>
    Gd v5 false
      (Pv (binIV .lss p9 p3) fun v6 =>
      Br v6
        (sh133_3 ω p0 p1 p2 p9 p8 K)
        (sh133_3 ω p0 p1 p2 p3 p8 K))
      (sh133_3 ω p0 p1 p2 p9 p8 K))
def sh133 (ω : Om) (a0 : Value) (a1 : Value) (a2 : Value) (a3 : Value) (K : Value → M) : M :=
  Pv (binIV .neq a3 (Value.int .i64 0)) fun v1 =>
  Br v1
    (Cal Tryz.prog ω 135 #[a0, a1] <| gh fun v2 =>
    sh133_1 ω a0 a1 a2 a3 (Value.slice none 0 0) v2 K)
    (sh133_1 ω a0 a1 a2 a3 (Value.slice none 0 0) (Value.int .i64 0) K)
theorem sh133_eq (ω : Om) (a0 a1 a2 a3 : Value) (K : Value → M) : vcF Tryz.prog ω Tryz.f133 [a0, a1, a2, a3] K = sh133 ω a0 a1 a2 a3 K := by kernel_rfl
theorem cal133 {ω : Om} {a0 a1 a2 a3 : Value} {K : Value → M} {I : Imm} {L : LH} (h : sh133 ω a0 a1 a2 a3 (fun v => Gh (K v)) I L) : Cal Tryz.prog ω 133 #[a0, a1, a2, a3] K I L :=
  Cal.gh (cal_of_vc mixed Tryz.func133 (by rw [sh133_eq]; exact h))
def sh134_1 (ω : Om) (p0 : Value) (p1 : Value) (p4 : Value) (K : Value → M) : M :=
  Pv (capV p0) fun v2 =>
  Pv (lenV p0) fun v3 =>
  Pv (binIV .sub v2 v3) fun v4 =>
  Pv (binIV .sub p1 v4) fun v5 =>
  Pv (binIV .gtr v5 (Value.int .i64 0)) fun v6 =>
  Br v6
    (Pv (capV p0) fun v7 =>
    Pv (slcV 1 p0 none (some v7) none) fun v8 =>
    AppZ 5 1 1 #[(Value.int .u8 0)] v8 v5 <| gh fun v9 =>
    Pv (lenV p0) fun v10 =>
    Pv (slcV 1 v9 none (some v10) none) fun v11 =>
    K v11)
    (K p0)
def sh134 (ω : Om) (a0 : Value) (a1 : Value) (K : Value → M) : M :=
  Pv (binIV .lss a1 (Value.int .i64 0)) fun v1 =>
  Br v1
    (F /- panic -/)
    (sh134_1 ω a0 a1 (Value.slice none 0 0) K)
theorem sh134_eq (ω : Om) (a0 a1 : Value) (K : Value → M) : vcF Tryz.prog ω Tryz.f134 [a0, a1] K = sh134 ω a0 a1 K := by kernel_rfl
theorem cal134 {ω : Om} {a0 a1 : Value} {K : Value → M} {I : Imm} {L : LH} (h : sh134 ω a0 a1 (fun v => Gh (K v)) I L) : Cal Tryz.prog ω 134 #[a0, a1] K I L :=
  Cal.gh (cal_of_vc mixed Tryz.func134 (by rw [sh134_eq]; exact h))
def sh135_1 (ω : Om) (p1 : Value) (x0 : Value) (x4 : Value) (x5 : Value) (Kn0 : (Value × Value × Value × Unit) → M) (K : Value → M) : M :=
  Cal Tryz.prog ω 136 #[x0, p1] <| gh fun v10 =>
  Pv (binIV .eql v10 (Value.int .i64 (-1))) fun v11 =>
  Br v11
    (K x5)
    (Pv (binIV .add x5 (Value.int .i64 1)) fun v12 =>
    Pv (lenV p1) fun v13 =>
    Pv (binIV .add v10 v13) fun v14 =>
    Pv (slcV 1 x0 (some v14) none none) fun v15 =>
    Kn0 (v15, x4, v12, ()))
def sh135 (ω : Om) (a0 : Value) (a1 : Value) (K : Value → M) : M :=
  Pv (lenV a1) fun v1 =>
  Pv (binIV .eql v1 (Value.int .i64 0)) fun v2 =>
  Br v2
    (Cal Tryz.prog ω 138 #[a0] <| gh fun v3 =>
    Pv (binIV .add v3 (Value.int .i64 1)) fun v4 =>
    K v4)
    (Pv (lenV a1) fun v5 =>
    Pv (binIV .eql v5 (Value.int .i64 1)) fun v6 =>
    Br v6
      (Pv (ixV 1 a1 (Value.int .i64 0)) fun v7 =>
      Rv none (ld1R v7) fun v8 =>
      ExtE Tryz.prog ω Extern.BytealgCount.count #[a0, v8] <| gh fun v9 =>
      K v9)
      (LoopM ((a0, (Value.int .i64 0), (Value.int .i64 0), ()) : Value × Value × Value × Unit) fun s Kn0 =>
      sh135_1 ω a1 s.1 s.2.1 s.2.2.1 Kn0 K))
theorem sh135_eq (ω : Om) (a0 a1 : Value) (K : Value → M) : vcF Tryz.prog ω Tryz.f135 [a0, a1] K = sh135 ω a0 a1 K := by kernel_rfl
theorem cal135 {ω : Om} {a0 a1 : Value} {K : Value → M} {I : Imm} {L : LH} (h : sh135 ω a0 a1 (fun v => Gh (K v)) I L) : Cal Tryz.prog ω 135 #[a0, a1] K I L :=
  Cal.gh (cal_of_vc mixed Tryz.func135 (by rw [sh135_eq]; exact h))
theorem bld_1  : bldV #[(Value.slice none 0 0), (Value.slice none 0 0), (Value.int .i64 0), (Value.int .i64 0)] #[(0, 1), (1, 1), (2, 2)] [] = some (.agg #[(Value.slice none 0 0), (Value.slice none 0 0), (Value.int .i64 0), (Value.int .i64 0)]) := by kernel_rfl
theorem bld_2 (x0 : Int) : bldV #[(Value.int .i64 0), (Value.int .i64 0)] #[(0, 1), (1, 1)] [(0, .int .i64 x0)] = some (.agg #[.int .i64 x0, (Value.int .i64 0)]) := by kernel_rfl
theorem bld_3 (x0 : Option Addr) (x1 : Nat) (x2 : Nat) (x3 : Int) (x4 : Int) (x5 : Int) (x6 : Option Addr) (x7 : Nat) (x8 : Nat) : bldV #[(Value.slice none 0 0), (Value.int .i64 0), (Value.int .i64 0), (Value.int .i64 0), (Value.bool false), (Value.slice none 0 0)] #[(0, 1), (1, 1), (2, 2), (4, 1), (5, 1)] [(0, .slice x0 x1 x2), (1, .int .i64 x3), (2, .agg #[.int .i64 x4, .int .i64 x5]), (4, .slice x6 x7 x8)] = some (.agg #[.slice x0 x1 x2, .int .i64 x3, .int .i64 x4, .int .i64 x5, (Value.bool false), .slice x6 x7 x8]) := by kernel_rfl
theorem bld_4 (x0 : Option Nat) (x1 : Option Nat) : bldV #[(Value.map none), (Value.slice none 0 0), (Value.int .i64 0), (Value.int .i64 0), (Value.map none)] #[(0, 1), (1, 1), (2, 2), (4, 1)] [(0, .map x0), (3, .map x1)] = some (.agg #[.map x0, (Value.slice none 0 0), (Value.int .i64 0), (Value.int .i64 0), .map x1]) := by kernel_rfl
theorem bld_5 (x0 : Option Addr) (x1 : Nat) (x2 : Nat) (x3 : Option Addr) (x4 : Nat) (x5 : Nat) : bldV #[(Value.slice none 0 0), (Value.slice none 0 0)] #[(0, 1), (1, 1)] [(0, .slice x0 x1 x2), (1, .slice x3 x4 x5)] = some (.agg #[.slice x0 x1 x2, .slice x3 x4 x5]) := by kernel_rfl
theorem bld_6  : bldV #[(Value.int .i64 0), (Value.int .i64 0)] #[(0, 1), (1, 1)] [] = some (.agg #[(Value.int .i64 0), (Value.int .i64 0)]) := by kernel_rfl
theorem bld_7 (x0 : Int) (x1 : Int) : bldV #[(Value.slice none 0 0), (Value.slice none 0 0), (Value.int .i64 0), (Value.int .i64 0)] #[(0, 1), (1, 1), (2, 2)] [(2, .agg #[.int .i64 x0, .int .i64 x1])] = some (.agg #[(Value.slice none 0 0), (Value.slice none 0 0), .int .i64 x0, .int .i64 x1]) := by kernel_rfl
theorem bld_8 (x0 : Option Nat) (x1 : Option Addr) (x2 : Nat) (x3 : Nat) (x4 : Int) (x5 : Int) (x6 : Option Nat) : bldV #[(Value.map none), (Value.slice none 0 0), (Value.int .i64 0), (Value.int .i64 0), (Value.map none)] #[(0, 1), (1, 1), (2, 2), (4, 1)] [(0, .map x0), (1, .slice x1 x2 x3), (2, .agg #[.int .i64 x4, .int .i64 x5]), (3, .map x6)] = some (.agg #[.map x0, .slice x1 x2 x3, .int .i64 x4, .int .i64 x5, .map x6]) := by kernel_rfl
theorem bld_9 (x0 : Int) (x1 : Int) (x2 : Bool) (x3 : ByteArray) : bldV #[(Value.int .i64 0), (Value.int .i64 0), (Value.bool false), (Value.string (ByteArray.mk #[]))] #[(0, 2), (2, 1), (3, 1)] [(0, .agg #[.int .i64 x0, .int .i64 x1]), (1, .bool x2), (2, .string x3)] = some (.agg #[.int .i64 x0, .int .i64 x1, .bool x2, .string x3]) := by kernel_rfl
theorem bld_10 (x0 : Int) (x1 : Int) (x2 : Bool) (x3 : ByteArray) (x4 : Int) : bldV #[(Value.int .i64 0), (Value.int .i64 0), (Value.bool false), (Value.string (ByteArray.mk #[])), (Value.int .i64 0)] #[(0, 4), (4, 1)] [(0, .agg #[.int .i64 x0, .int .i64 x1, .bool x2, .string x3]), (1, .int .i64 x4)] = some (.agg #[.int .i64 x0, .int .i64 x1, .bool x2, .string x3, .int .i64 x4]) := by kernel_rfl
theorem bld_11  : bldV #[(Value.bool false), (Value.slice none 0 0), (Value.int .i64 0), (Value.int .i64 0), (Value.int .i64 0)] #[(0, 1), (1, 1), (2, 2), (4, 1)] [] = some (.agg #[(Value.bool false), (Value.slice none 0 0), (Value.int .i64 0), (Value.int .i64 0), (Value.int .i64 0)]) := by kernel_rfl
theorem bld_12  : bldV #[(Value.int .i64 0), (Value.int .i64 0), (Value.bool false), (Value.string (ByteArray.mk #[])), (Value.int .i64 0)] #[(0, 4), (4, 1)] [] = some (.agg #[(Value.int .i64 0), (Value.int .i64 0), (Value.bool false), (Value.string (ByteArray.mk #[])), (Value.int .i64 0)]) := by kernel_rfl
theorem bld_13 (x0 : Option Addr) (x1 : Nat) (x2 : Nat) (x3 : Int) (x4 : Int) (x5 : Bool) (x6 : Option Addr) (x7 : Nat) (x8 : Nat) : bldV #[(Value.slice none 0 0), (Value.int .i64 0), (Value.int .i64 0), (Value.bool false), (Value.slice none 0 0)] #[(0, 1), (1, 2), (3, 1), (4, 1)] [(0, .slice x0 x1 x2), (1, .agg #[.int .i64 x3, .int .i64 x4]), (2, .bool x5), (3, .slice x6 x7 x8)] = some (.agg #[.slice x0 x1 x2, .int .i64 x3, .int .i64 x4, .bool x5, .slice x6 x7 x8]) := by kernel_rfl
theorem bld_14  : bldV #[(Value.slice none 0 0), (Value.slice none 0 0)] #[(0, 1), (1, 1)] [] = some (.agg #[(Value.slice none 0 0), (Value.slice none 0 0)]) := by kernel_rfl
theorem bld_15 (x0 : Option Addr) (x1 : Nat) (x2 : Nat) (x3 : Int) (x4 : Int) (x5 : Int) (x6 : Bool) (x7 : Option Addr) (x8 : Nat) (x9 : Nat) : bldV #[(Value.slice none 0 0), (Value.int .i64 0), (Value.int .i64 0), (Value.int .i64 0), (Value.bool false), (Value.slice none 0 0)] #[(0, 1), (1, 1), (2, 2), (4, 1), (5, 1)] [(0, .slice x0 x1 x2), (1, .int .i64 x3), (2, .agg #[.int .i64 x4, .int .i64 x5]), (3, .bool x6), (4, .slice x7 x8 x9)] = some (.agg #[.slice x0 x1 x2, .int .i64 x3, .int .i64 x4, .int .i64 x5, .bool x6, .slice x7 x8 x9]) := by kernel_rfl
theorem bld_16 (x0 : Int) (x1 : Int) : bldV #[(Value.int .i64 0), (Value.int .i64 0)] #[(0, 1), (1, 1)] [(0, .int .i64 x0), (1, .int .i64 x1)] = some (.agg #[.int .i64 x0, .int .i64 x1]) := by kernel_rfl
theorem bld_17  : bldV #[(Value.slice none 0 0), (Value.int .i64 0), (Value.int .i64 0), (Value.bool false), (Value.string (ByteArray.mk #[])), (Value.int .i64 0)] #[(0, 1), (1, 5)] [] = some (.agg #[(Value.slice none 0 0), (Value.int .i64 0), (Value.int .i64 0), (Value.bool false), (Value.string (ByteArray.mk #[])), (Value.int .i64 0)]) := by kernel_rfl
theorem bld_18 (x0 : Bool) (x1 : Option Addr) (x2 : Nat) (x3 : Nat) (x4 : Int) (x5 : Int) : bldV #[(Value.bool false), (Value.slice none 0 0), (Value.int .i64 0), (Value.int .i64 0), (Value.int .i64 0)] #[(0, 1), (1, 1), (2, 2), (4, 1)] [(0, .bool x0), (1, .slice x1 x2 x3), (2, .agg #[.int .i64 x4, .int .i64 x5])] = some (.agg #[.bool x0, .slice x1 x2 x3, .int .i64 x4, .int .i64 x5, (Value.int .i64 0)]) := by kernel_rfl
theorem bld_19 (x0 : Int) : bldV #[(Value.bool false), (Value.slice none 0 0), (Value.int .i64 0), (Value.int .i64 0), (Value.int .i64 0)] #[(0, 1), (1, 1), (2, 2), (4, 1)] [(3, .int .i64 x0)] = some (.agg #[(Value.bool false), (Value.slice none 0 0), (Value.int .i64 0), (Value.int .i64 0), .int .i64 x0]) := by kernel_rfl
theorem bld_20  : bldV #[(Value.slice none 0 0), (Value.int .i64 0), (Value.int .i64 0), (Value.int .i64 0), (Value.bool false), (Value.slice none 0 0)] #[(0, 1), (1, 1), (2, 2), (4, 1), (5, 1)] [] = some (.agg #[(Value.slice none 0 0), (Value.int .i64 0), (Value.int .i64 0), (Value.int .i64 0), (Value.bool false), (Value.slice none 0 0)]) := by kernel_rfl
theorem bld_21  : bldV #[(Value.slice none 0 0), (Value.int .i64 0), (Value.int .i64 0), (Value.bool false), (Value.slice none 0 0)] #[(0, 1), (1, 2), (3, 1), (4, 1)] [] = some (.agg #[(Value.slice none 0 0), (Value.int .i64 0), (Value.int .i64 0), (Value.bool false), (Value.slice none 0 0)]) := by kernel_rfl
theorem bld_22  : bldV #[(Value.int .i64 0), (Value.int .i64 0), (Value.bool false), (Value.string (ByteArray.mk #[]))] #[(0, 2), (2, 1), (3, 1)] [] = some (.agg #[(Value.int .i64 0), (Value.int .i64 0), (Value.bool false), (Value.string (ByteArray.mk #[]))]) := by kernel_rfl
theorem bld_23 (x0 : Bool) (x1 : ByteArray) : bldV #[(Value.int .i64 0), (Value.int .i64 0), (Value.bool false), (Value.string (ByteArray.mk #[]))] #[(0, 2), (2, 1), (3, 1)] [(1, .bool x0), (2, .string x1)] = some (.agg #[(Value.int .i64 0), (Value.int .i64 0), .bool x0, .string x1]) := by kernel_rfl
theorem bld_24 (x0 : Bool) (x1 : Option Addr) (x2 : Nat) (x3 : Nat) (x4 : Option Addr) (x5 : Nat) (x6 : Nat) : bldV #[(Value.bool false), (Value.slice none 0 0), (Value.slice none 0 0)] #[(0, 1), (1, 1), (2, 1)] [(0, .bool x0), (1, .slice x1 x2 x3), (2, .slice x4 x5 x6)] = some (.agg #[.bool x0, .slice x1 x2 x3, .slice x4 x5 x6]) := by kernel_rfl
end Go.Proofs.YtmnnnoinfhiilaaGreatDoor
