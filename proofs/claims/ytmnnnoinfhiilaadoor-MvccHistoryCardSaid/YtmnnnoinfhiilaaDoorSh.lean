/- The shallow forms of the functions, printed by a program (goshallow.py). -/
import Derived.Test.YtmnnnoinfhiilaaDoorChecked
import Derived.Test.YtmnnnoinfhiilaaDoorSlRules
set_option maxRecDepth 100000
set_option linter.unusedVariables false
namespace Go.Proofs.YtmnnnoinfhiilaaDoor
open Go.SL
theorem mixed : Tryd.prog.follows .mixedOrders = true := by kernel_rfl
def sh3_5 (ω : Om) (p4 : Value) (p10 : Value) (p11 : Value) (Kn1 : (Value × Value × Value × Unit) → M) (K : Value → M) : M :=
  Pv (binIV .add p11 (Value.int .i64 1)) fun v34 =>
  Kn1 (p4, p10, v34, ())
def sh3_11 (ω : Om) (p4 : Value) (p7 : Value) (p8 : Value) (p9 : Value) (Kn0 : (Value × Value × Value × Value × Unit) → M) (K : Value → M) : M :=
  BldS 27 1 #[(Value.slice none 0 0)] 1 [(0, p8)] <| gh fun v92 =>
  App 27 1 24 #[(Value.slice none 0 0)] p7 v92 <| gh fun v93 =>
  Pv (binIV .add p9 (Value.int .i64 1)) fun v94 =>
  Kn0 (p4, v93, p8, v94, ())
def sh3_9 (ω : Om) (p6 : Value) (p7 : Value) (p9 : Value) (p10 : Value) (x4 : Value) (x8 : Value) (x17 : Value) (Kn0 : (Value × Value × Value × Value × Unit) → M) (Kn2 : (Value × Value × Value × Unit) → M) (K : Value → M) : M :=
  Pv (lenV p10) fun v73 =>
  Pv (binIV .lss x17 v73) fun v74 =>
  Br v74
    (Pv (ixV 3 p10 x17) fun v75 =>
    Pv (fldV 1 v75) fun v76 =>
    Rv none (ld1R v76) fun v77 =>
    Pv (binIV .add p9 (Value.int .i64 1)) fun v78 =>
    Pv (binIV .mul (Value.int .i64 10) p9) fun v79 =>
    Pv (binIV .add v79 (Value.int .i64 5)) fun v80 =>
    Pv (bldV #[(Value.int .i64 0), (Value.int .i64 0)] #[(0, 1), (1, 1)] [(0, v80)]) fun v81 =>
    Cal Tryd.prog ω 11 #[p6, v77, v78, (Value.bool true), v81] <| gh fun v82 =>
    Pv (exV v82 0) fun v83 =>
    Pv (exV v82 1) fun v84 =>
    Pv (binIV .neq v84 (Value.int .i64 0)) fun v85 =>
    Br v85
      (K (Value.bool false))
      (Pv (binIV .add x17 (Value.int .i64 1)) fun v86 =>
      Pv (slcV 3 p10 (some x17) (some v86) none) fun v87 =>
      Cal Tryd.prog ω 12 #[x8, v87] <| gh fun v88 =>
      Pv (exV v88 0) fun v89 =>
      Pv (exV v88 1) fun v90 =>
      Pv (binIV .add x17 (Value.int .i64 1)) fun v91 =>
      Kn2 (x4, v89, v91, ())))
    (sh3_11 ω x4 p7 x8 p9 Kn0 K)
def sh3_8 (ω : Om) (p4 : Value) (p6 : Value) (p7 : Value) (p8 : Value) (p9 : Value) (p10 : Value) (Kn0 : (Value × Value × Value × Value × Unit) → M) (K : Value → M) : M :=
  LoopM ((p4, p8, (Value.int .i64 0), ()) : Value × Value × Value × Unit) fun s Kn2 =>
  sh3_9 ω p6 p7 p9 p10 s.1 s.2.1 s.2.2.1 Kn0 Kn2 K
def sh3_3 (ω : Om) (p0 : Value) (p6 : Value) (p7 : Value) (p8 : Value) (p9 : Value) (x4 : Value) (x10 : Value) (x11 : Value) (Kn0 : (Value × Value × Value × Value × Unit) → M) (Kn1 : (Value × Value × Value × Unit) → M) (K : Value → M) : M :=
  Pv (ixV 1 p0 p9) fun v10 =>
  Rv none (ld1R v10) fun v11 =>
  Pv (lenV v11) fun v12 =>
  Pv (binIV .lss x11 v12) fun v13 =>
  Gd v13 true
    (Pv (binIV .lss x11 (Value.int .i64 10)) fun v14 =>
    Br v14
      (Pv (ixV 1 p0 p9) fun v15 =>
      Rv none (ld1R v15) fun v16 =>
      Pv (ixV 3 v16 x11) fun v17 =>
      Rv none (ldNR 3 v17) fun v18 =>
      New (.cells #[(Value.bool false), (Value.slice none 0 0), (Value.slice none 0 0)] 31 (0, 0)) <| gh fun y_19 =>
      Sto 3 y_19 v18 <| gh fun _ =>
      Pv (fldV 1 y_19) fun v20 =>
      Rv none (ld1R v20) fun v21 =>
      Cal Tryd.prog ω 9 #[v21] <| gh fun v22 =>
      Pv (unV .not v22) fun v23 =>
      Gd v23 false
        (Pv (fldV 2 y_19) fun v24 =>
        Rv none (ld1R v24) fun v25 =>
        Pv (lenV v25) fun v26 =>
        Pv (binIV .gtr v26 (Value.int .i64 100)) fun v27 =>
        Gd v27 false
          (Pv (fldV 0 y_19) fun v28 =>
          Rv none (ld1R v28) fun v29 =>
          Gd v29 true
            (Pv (fldV 2 y_19) fun v30 =>
            Rv none (ld1R v30) fun v31 =>
            Pv (lenV v31) fun v32 =>
            Pv (binIV .gtr v32 (Value.int .i64 0)) fun v33 =>
            Br v33
              (sh3_5 ω x4 x10 x11 Kn1 K)
              (Pv (fldV 1 y_19) fun v35 =>
              Rv none (ld1R v35) fun v36 =>
              Pv (binIV .add p9 (Value.int .i64 1)) fun v37 =>
              Pv (binIV .mul (Value.int .i64 10) p9) fun v38 =>
              Pv (bldV #[(Value.int .i64 0), (Value.int .i64 0)] #[(0, 1), (1, 1)] [(0, v38)]) fun v39 =>
              Pv (fldV 0 y_19) fun v40 =>
              Rv none (ld1R v40) fun v41 =>
              Pv (fldV 2 y_19) fun v42 =>
              Rv none (ld1R v42) fun v43 =>
              Pv (bldV #[(Value.slice none 0 0), (Value.int .i64 0), (Value.int .i64 0), (Value.int .i64 0), (Value.bool false), (Value.slice none 0 0)] #[(0, 1), (1, 1), (2, 2), (4, 1), (5, 1)] [(0, v36), (1, v37), (2, v39), (3, v41), (4, v43)]) fun v44 =>
              Cal Tryd.prog ω 10 #[p6, v44] <| gh fun v45 =>
              Pv (exV v45 0) fun v46 =>
              Pv (exV v45 1) fun v47 =>
              Pv (exV v45 2) fun v48 =>
              New (.cells #[(Value.int .i64 0), (Value.int .i64 0)] 34 (0, 0)) <| gh fun v49 =>
              Sto 2 v49 v46 <| gh fun _ =>
              Pv (binIV .neq v48 (Value.int .i64 0)) fun v50 =>
              Br v50
                (K (Value.bool false))
                (Rv none (ldNR 3 y_19) fun v51 =>
                BldS 31 3 #[(Value.bool false), (Value.slice none 0 0), (Value.slice none 0 0)] 1 [(0, v51)] <| gh fun v52 =>
                App 31 3 56 #[(Value.bool false), (Value.slice none 0 0), (Value.slice none 0 0)] x10 v52 <| gh fun v53 =>
                sh3_5 ω x4 v53 x11 Kn1 K)))
            (Pv (fldV 1 y_19) fun v54 =>
            Rv none (ld1R v54) fun v55 =>
            Pv (binIV .add p9 (Value.int .i64 1)) fun v56 =>
            Pv (binIV .mul (Value.int .i64 10) p9) fun v57 =>
            Pv (bldV #[(Value.int .i64 0), (Value.int .i64 0)] #[(0, 1), (1, 1)] [(0, v57)]) fun v58 =>
            Pv (fldV 0 y_19) fun v59 =>
            Rv none (ld1R v59) fun v60 =>
            Pv (fldV 2 y_19) fun v61 =>
            Rv none (ld1R v61) fun v62 =>
            Pv (bldV #[(Value.slice none 0 0), (Value.int .i64 0), (Value.int .i64 0), (Value.int .i64 0), (Value.bool false), (Value.slice none 0 0)] #[(0, 1), (1, 1), (2, 2), (4, 1), (5, 1)] [(0, v55), (1, v56), (2, v58), (3, v60), (4, v62)]) fun v63 =>
            Cal Tryd.prog ω 10 #[p6, v63] <| gh fun v64 =>
            Pv (exV v64 0) fun v65 =>
            Pv (exV v64 1) fun v66 =>
            Pv (exV v64 2) fun v67 =>
            New (.cells #[(Value.int .i64 0), (Value.int .i64 0)] 34 (0, 0)) <| gh fun v68 =>
            Sto 2 v68 v65 <| gh fun _ =>
            Pv (binIV .neq v67 (Value.int .i64 0)) fun v69 =>
            Br v69
              (K (Value.bool false))
              (Rv none (ldNR 3 y_19) fun v70 =>
              BldS 31 3 #[(Value.bool false), (Value.slice none 0 0), (Value.slice none 0 0)] 1 [(0, v70)] <| gh fun v71 =>
              App 31 3 56 #[(Value.bool false), (Value.slice none 0 0), (Value.slice none 0 0)] x10 v71 <| gh fun v72 =>
              sh3_5 ω x4 v72 x11 Kn1 K)))
          (sh3_5 ω x4 x10 x11 Kn1 K))
        (sh3_5 ω x4 x10 x11 Kn1 K))
      (sh3_8 ω x4 p6 p7 p8 p9 x10 Kn0 K))
    (sh3_8 ω x4 p6 p7 p8 p9 x10 Kn0 K)
def sh3_15 (ω : Om) (p4 : Value) (p6 : Value) (p7 : Value) (p22 : Value) (p23 : Value) (K : Value → M) : M :=
  Pv (bldV #[(Value.slice none 0 0), (Value.slice none 0 0)] #[(0, 1), (1, 1)] []) fun v106 =>
  Rv none (ldNR 2 p23) fun v107 =>
  Cal Tryd.prog ω 13 #[p6, v106, v107, (Value.int .i64 0), (Value.int .i64 1000)] <| gh fun v108 =>
  Pv (exV v108 0) fun v109 =>
  Pv (exV v108 1) fun v110 =>
  Pv (exV v108 2) fun v111 =>
  Pv (ixV 1 p7 p22) fun v112 =>
  Rv none (ld1R v112) fun v113 =>
  Cal Tryd.prog ω 14 #[v109, v113] <| gh fun v114 =>
  Pv (binIV .eql v111 (Value.int .i64 0)) fun v115 =>
  Gd v115 true
    (K v114)
    (K (Value.bool false))
def sh3_14 (ω : Om) (p4 : Value) (p6 : Value) (p7 : Value) (p22 : Value) (K : Value → M) : M :=
  Pv (bldV #[(Value.int .i64 0), (Value.int .i64 0)] #[(0, 1), (1, 1)] []) fun v99 =>
  New (.cells #[(Value.int .i64 0), (Value.int .i64 0)] 34 (0, 0)) <| gh fun m_100 =>
  Sto 2 m_100 v99 <| gh fun _ =>
  Pv (binIV .gtr p22 (Value.int .i64 0)) fun v101 =>
  Br v101
    (Pv (binIV .sub p22 (Value.int .i64 1)) fun v102 =>
    Pv (binIV .mul (Value.int .i64 10) v102) fun v103 =>
    Pv (binIV .add v103 (Value.int .i64 5)) fun v104 =>
    Pv (bldV #[(Value.int .i64 0), (Value.int .i64 0)] #[(0, 1), (1, 1)] [(0, v104)]) fun v105 =>
    Sto 2 m_100 v105 <| gh fun _ =>
    sh3_15 ω p4 p6 p7 p22 m_100 K)
    (sh3_15 ω p4 p6 p7 p22 m_100 K)
def sh3_13 (ω : Om) (p1 : Value) (p4 : Value) (p6 : Value) (p7 : Value) (K : Value → M) : M :=
  Pv (lenV p7) fun v95 =>
  Pv (binIV .rem p1 v95) fun v96 =>
  Pv (binIV .lss v96 (Value.int .i64 0)) fun v97 =>
  Br v97
    (Pv (unV .neg v96) fun v98 =>
    sh3_14 ω p4 p6 p7 v98 K)
    (sh3_14 ω p4 p6 p7 v96 K)
def sh3_2 (ω : Om) (p0 : Value) (p1 : Value) (p6 : Value) (x4 : Value) (x7 : Value) (x8 : Value) (x9 : Value) (Kn0 : (Value × Value × Value × Value × Unit) → M) (K : Value → M) : M :=
  Pv (lenV p0) fun v7 =>
  Pv (binIV .lss x9 v7) fun v8 =>
  Gd v8 true
    (Pv (binIV .lss x9 (Value.int .i64 30)) fun v9 =>
    Br v9
      (LoopM ((x4, (Value.slice none 0 0), (Value.int .i64 0), ()) : Value × Value × Value × Unit) fun s Kn1 =>
      sh3_3 ω p0 p6 x7 x8 x9 s.1 s.2.1 s.2.2.1 Kn0 Kn1 K)
      (sh3_13 ω p1 x4 p6 x7 K))
    (sh3_13 ω p1 x4 p6 x7 K)
def sh3 (ω : Om) (a0 : Value) (a1 : Value) (K : Value → M) : M :=
  Cal Tryd.prog ω 7 #[] <| gh fun v1 =>
  Cal Tryd.prog ω 8 #[] <| gh fun v2 =>
  Pv (unV .not v1) fun v3 =>
  Gd v3 false
    (Pv (binPV .eql v2 (Value.pointer none)) fun v4 =>
    Br v4
      (K (Value.bool false))
      (BldS 27 1 #[(Value.slice none 0 0)] 1 [(0, (Value.slice none 0 0))] <| gh fun v5 =>
      App 27 1 24 #[(Value.slice none 0 0)] (Value.slice none 0 0) v5 <| gh fun v6 =>
      LoopM (((Value.bool false), v6, (Value.slice none 0 0), (Value.int .i64 0), ()) : Value × Value × Value × Value × Unit) fun s Kn0 =>
      sh3_2 ω a0 a1 v2 s.1 s.2.1 s.2.2.1 s.2.2.2.1 Kn0 K))
    (K (Value.bool false))
theorem sh3_eq (ω : Om) (a0 a1 : Value) (K : Value → M) : vcF Tryd.prog ω Tryd.f3 [a0, a1] K = sh3 ω a0 a1 K := by kernel_rfl
theorem cal3 {ω : Om} {a0 a1 : Value} {K : Value → M} {I : Imm} {L : LH} (h : sh3 ω a0 a1 (fun v => Gh (K v)) I L) : Cal Tryd.prog ω 3 #[a0, a1] K I L :=
  Cal.gh (cal_of_vc mixed Tryd.func3 (by rw [sh3_eq]; exact h))
def sh7 (ω : Om) (K : Value → M) : M :=
  Cal Tryd.prog ω 8 #[] <| gh fun v1 =>
  Pv (binPV .eql v1 (Value.pointer none)) fun v2 =>
  Br v2
    (K (Value.bool false))
    (BldS 5 1 #[(Value.int .u8 0)] 1 [(0, (Value.int .u8 97))] <| gh fun v3 =>
    MrkS v3 <| gh fun v4 =>
    Pv (bldV #[(Value.int .i64 0), (Value.int .i64 0)] #[(0, 1), (1, 1)] [(0, (Value.int .i64 5))]) fun v5 =>
    BldS 5 1 #[(Value.int .u8 0)] 1 [(0, (Value.int .u8 120))] <| gh fun v6 =>
    MrkS v6 <| gh fun v7 =>
    Pv (bldV #[(Value.slice none 0 0), (Value.int .i64 0), (Value.int .i64 0), (Value.int .i64 0), (Value.bool false), (Value.slice none 0 0)] #[(0, 1), (1, 1), (2, 2), (4, 1), (5, 1)] [(0, v4), (1, (Value.int .i64 1)), (2, v5), (4, v7)]) fun v8 =>
    Cal Tryd.prog ω 10 #[v1, v8] <| gh fun v9 =>
    Pv (exV v9 0) fun v10 =>
    Pv (exV v9 1) fun v11 =>
    Pv (exV v9 2) fun v12 =>
    New (.cells #[(Value.int .i64 0), (Value.int .i64 0)] 34 (0, 0)) <| gh fun at_13 =>
    Sto 2 at_13 v10 <| gh fun _ =>
    BldS 5 1 #[(Value.int .u8 0)] 1 [(0, (Value.int .u8 97))] <| gh fun v14 =>
    MrkS v14 <| gh fun v15 =>
    Pv (bldV #[(Value.int .i64 0), (Value.int .i64 0)] #[(0, 1), (1, 1)] [(0, (Value.int .i64 1))]) fun v16 =>
    Cal Tryd.prog ω 16 #[v1, v15, v16, (Value.int .i64 1)] <| gh fun v17 =>
    Pv (exV v17 0) fun v18 =>
    Pv (exV v17 1) fun v19 =>
    New (.cells #[(Value.bool false), (Value.slice none 0 0), (Value.int .i64 0), (Value.int .i64 0), (Value.int .i64 0)] 60 (0, 0)) <| gh fun g_20 =>
    Sto 5 g_20 v18 <| gh fun _ =>
    Pv (binIV .eql v12 (Value.int .i64 0)) fun v21 =>
    Gd v21 true
      (Rv none (ldNR 2 at_13) fun v22 =>
      Pv (bldV #[(Value.int .i64 0), (Value.int .i64 0)] #[(0, 1), (1, 1)] [(0, (Value.int .i64 5))]) fun v23 =>
      Pv (binAV .eql [(TypeDesc.int .i64, 0), (TypeDesc.int .i64, 1)] v22 v23) fun v24 =>
      Gd v24 true
        (Pv (binIV .eql v19 (Value.int .i64 0)) fun v25 =>
        Gd v25 true
          (Pv (fldV 0 g_20) fun v26 =>
          Rv none (ld1R v26) fun v27 =>
          Gd v27 true
            (Pv (fldV 1 g_20) fun v28 =>
            Rv none (ld1R v28) fun v29 =>
            Rv none (bsR v29) fun v30 =>
            Pv (binSV .eql v30 (Value.string (ByteArray.mk #[120]))) fun v31 =>
            K v31)
            (K (Value.bool false)))
          (K (Value.bool false)))
        (K (Value.bool false)))
      (K (Value.bool false)))
theorem sh7_eq (ω : Om) (K : Value → M) : vcF Tryd.prog ω Tryd.f7 [] K = sh7 ω K := by kernel_rfl
theorem cal7 {ω : Om} {K : Value → M} {I : Imm} {L : LH} (h : sh7 ω (fun v => Gh (K v)) I L) : Cal Tryd.prog ω 7 #[] K I L :=
  Cal.gh (cal_of_vc mixed Tryd.func7 (by rw [sh7_eq]; exact h))
def sh8 (ω : Om) (K : Value → M) : M :=
  NewM <| gh fun v1 =>
  NewM <| gh fun v2 =>
  Pv (bldV #[(Value.map none), (Value.slice none 0 0), (Value.int .i64 0), (Value.int .i64 0), (Value.map none)] #[(0, 1), (1, 1), (2, 2), (4, 1)] [(0, v1), (3, v2)]) fun v3 =>
  New (.cells (Value.cells v3) 74 (0, 0)) <| gh fun v4 =>
  K v4
theorem sh8_eq (ω : Om) (K : Value → M) : vcF Tryd.prog ω Tryd.f8 [] K = sh8 ω K := by kernel_rfl
theorem cal8 {ω : Om} {K : Value → M} {I : Imm} {L : LH} (h : sh8 ω (fun v => Gh (K v)) I L) : Cal Tryd.prog ω 8 #[] K I L :=
  Cal.gh (cal_of_vc mixed Tryd.func8 (by rw [sh8_eq]; exact h))
def sh9 (ω : Om) (a0 : Value) (K : Value → M) : M :=
  Pv (lenV a0) fun v1 =>
  Pv (binIV .geq v1 (Value.int .i64 1)) fun v2 =>
  Gd v2 true
    (Pv (lenV a0) fun v3 =>
    Pv (binIV .leq v3 (Value.int .i64 110)) fun v4 =>
    K v4)
    (K (Value.bool false))
theorem sh9_eq (ω : Om) (a0 : Value) (K : Value → M) : vcF Tryd.prog ω Tryd.f9 [a0] K = sh9 ω a0 K := by kernel_rfl
theorem cal9 {ω : Om} {a0 : Value} {K : Value → M} {I : Imm} {L : LH} (h : sh9 ω a0 (fun v => Gh (K v)) I L) : Cal Tryd.prog ω 9 #[a0] K I L :=
  Cal.gh (cal_of_vc mixed Tryd.func9 (by rw [sh9_eq]; exact h))
def sh10_1 (ω : Om) (p4 : Value) (p5 : Value) (p6 : Value) (K : Value → M) : M :=
  Pv (bldV #[(Value.int .i64 0), (Value.int .i64 0)] #[(0, 1), (1, 1)] []) fun v25 =>
  Sto 2 p4 v25 <| gh fun _ =>
  Rv none (ldNR 2 p4) fun v26 =>
  K (Value.tuple #[v26, (Value.int .i64 0), (Value.int .i64 1)])
def sh10_4 (ω : Om) (p4 : Value) (p5 : Value) (p6 : Value) (p8 : Value) (K : Value → M) : M :=
  DrawW [p4] fun S =>
    Pv (bldV #[(Value.int .i64 0), (Value.int .i64 0)] #[(0, 1), (1, 1)] []) fun v58 =>
    Pv (nilV p8) fun v59 =>
    Pv (fldV 1 v59) fun v60 =>
    Pv (fldV 4 v60) fun v61 =>
    Rv (some S) (ld1R v61) fun v62 =>
    Sto 2 p4 v58 <| gh <| Keep S fun _ =>
    Rv none (ldNR 2 p4) fun v63 =>
    K (Value.tuple #[v63, v62, (Value.int .i64 130)])
def sh10_8 (ω : Om) (p0 : Value) (p3 : Value) (p4 : Value) (p5 : Value) (p6 : Value) (p7 : Value) (K : Value → M) : M :=
  Pv (fldV 0 p3) fun v111 =>
  Rv none (ld1R v111) fun v112 =>
  Rv none (bsR v112) fun v113 =>
  Cal Tryd.prog ω 26 #[p0, v113] <| gh fun v114 =>
  Rv none (ldNR 2 p7) fun v115 =>
  Pv (fldV 4 p3) fun v116 =>
  Rv none (ld1R v116) fun v117 =>
  Pv (fldV 5 p3) fun v118 =>
  Rv none (ld1R v118) fun v119 =>
  Rv none (bsR v119) fun v120 =>
  Pv (bldV #[(Value.int .i64 0), (Value.int .i64 0), (Value.bool false), (Value.string (ByteArray.mk #[]))] #[(0, 2), (2, 1), (3, 1)] [(0, v115), (1, v117), (2, v120)]) fun v121 =>
  Pv (fldV 1 p3) fun v122 =>
  Rv none (ld1R v122) fun v123 =>
  Pv (bldV #[(Value.int .i64 0), (Value.int .i64 0), (Value.bool false), (Value.string (ByteArray.mk #[])), (Value.int .i64 0)] #[(0, 4), (4, 1)] [(0, v121), (1, v123)]) fun v124 =>
  Pv (nilV v114) fun v125 =>
  Pv (fldV 1 v125) fun v126 =>
  Sto 5 v126 v124 <| gh fun _ =>
  Pv (fldV 0 p3) fun v127 =>
  Rv none (ld1R v127) fun v128 =>
  Rv none (bsR v128) fun v129 =>
  Cal Tryd.prog ω 27 #[p0, v129] <| gh fun v130 =>
  Rv none (ldNR 2 p7) fun v131 =>
  Sto 2 p4 v131 <| gh fun _ =>
  Rv none (ldNR 2 p4) fun v132 =>
  K (Value.tuple #[v132, (Value.int .i64 0), (Value.int .i64 0)])
def sh10_7 (ω : Om) (p0 : Value) (p3 : Value) (p4 : Value) (p5 : Value) (p6 : Value) (p7 : Value) (p8 : Value) (p9 : Value) (K : Value → M) : M :=
  Pv (nilV p8) fun v96 =>
  Pv (fldV 0 v96) fun v97 =>
  Rv none (ld1R v97) fun v98 =>
  Pv (binIV .sub p9 (Value.int .i64 1)) fun v99 =>
  Pv (ixV 4 v98 v99) fun v100 =>
  Pv (fldV 0 v100) fun v101 =>
  Rv none (ldNR 2 v101) fun v102 =>
  Cal Tryd.prog ω 25 #[v102] <| gh fun v103 =>
  Pv (exV v103 0) fun v104 =>
  Pv (exV v103 1) fun v105 =>
  New (.cells #[(Value.int .i64 0), (Value.int .i64 0)] 34 (0, 0)) <| gh fun next_106 =>
  Sto 2 next_106 v104 <| gh fun _ =>
  Pv (binIV .neq v105 (Value.int .i64 0)) fun v107 =>
  Br v107
    (Pv (bldV #[(Value.int .i64 0), (Value.int .i64 0)] #[(0, 1), (1, 1)] []) fun v108 =>
    Sto 2 p4 v108 <| gh fun _ =>
    Rv none (ldNR 2 p4) fun v109 =>
    K (Value.tuple #[v109, (Value.int .i64 0), v105]))
    (Rv none (ldNR 2 next_106) fun v110 =>
    Sto 2 p7 v110 <| gh fun _ =>
    sh10_8 ω p0 p3 p4 p5 p6 p7 K)
def sh10_6 (ω : Om) (p0 : Value) (p3 : Value) (p4 : Value) (p5 : Value) (p6 : Value) (p7 : Value) (p8 : Value) (K : Value → M) : M :=
  Pv (nilV p8) fun v81 =>
  Pv (fldV 0 v81) fun v82 =>
  Rv none (ld1R v82) fun v83 =>
  Pv (lenV v83) fun v84 =>
  Draw fun S =>
    Pv (binIV .gtr v84 (Value.int .i64 0)) fun v85 =>
    Gd v85 true
      (Rv (some S) (ldNR 2 p7) fun v86 =>
      Pv (nilV p8) fun v87 =>
      Pv (fldV 0 v87) fun v88 =>
      Rv (some S) (ld1R v88) fun v89 =>
      Pv (binIV .sub v84 (Value.int .i64 1)) fun v90 =>
      Pv (ixV 4 v89 v90) fun v91 =>
      Pv (fldV 0 v91) fun v92 =>
      Rv (some S) (ldNR 2 v92) fun v93 =>
      Cal Tryd.prog ω 24 #[v86, v93] <| gh fun v94 =>
      Pv (unV .not v94) fun v95 =>
      Br v95
        (sh10_7 ω p0 p3 p4 p5 p6 p7 p8 v84 K)
        (sh10_8 ω p0 p3 p4 p5 p6 p7 K))
      (sh10_8 ω p0 p3 p4 p5 p6 p7 K)
def sh10_5 (ω : Om) (p0 : Value) (p3 : Value) (p4 : Value) (p5 : Value) (p6 : Value) (p7 : Value) (p8 : Value) (K : Value → M) : M :=
  Pv (nilV p8) fun v76 =>
  Pv (fldV 1 v76) fun v77 =>
  Pv (fldV 0 v77) fun v78 =>
  Pv (fldV 0 v78) fun v79 =>
  Rv none (ldNR 2 v79) fun v80 =>
  Sto 2 p7 v80 <| gh fun _ =>
  sh10_6 ω p0 p3 p4 p5 p6 p7 p8 K
def sh10_3 (ω : Om) (p0 : Value) (p3 : Value) (p4 : Value) (p5 : Value) (p6 : Value) (p7 : Value) (K : Value → M) : M :=
  Draw fun S =>
    Pv (nilV p0) fun v38 =>
    Pv (fldV 0 v38) fun v39 =>
    Rv (some S) (ld1R v39) fun v40 =>
    Pv (fldV 0 p3) fun v41 =>
    Rv (some S) (ld1R v41) fun v42 =>
    Rv (some S) (bsR v42) fun v43 =>
    Rv (some S) (lkR .string (Value.pointer none) false v40 v43) fun v44 =>
    Pv (binPV .neq v44 (Value.pointer none)) fun v45 =>
    Br v45
      (Draw fun S =>
        Pv (nilV v44) fun v46 =>
        Pv (fldV 1 v46) fun v47 =>
        Pv (fldV 4 v47) fun v48 =>
        Rv (some S) (ld1R v48) fun v49 =>
        Pv (binIV .neq v49 (Value.int .i64 0)) fun v50 =>
        Gd v50 true
          (Pv (nilV v44) fun v51 =>
          Pv (fldV 1 v51) fun v52 =>
          Pv (fldV 4 v52) fun v53 =>
          Rv (some S) (ld1R v53) fun v54 =>
          Pv (fldV 1 p3) fun v55 =>
          Rv (some S) (ld1R v55) fun v56 =>
          Pv (binIV .neq v54 v56) fun v57 =>
          Br v57
            (sh10_4 ω p4 p5 p6 v44 K)
            (Draw fun S =>
              Pv (nilV v44) fun v64 =>
              Pv (fldV 1 v64) fun v65 =>
              Pv (fldV 4 v65) fun v66 =>
              Rv (some S) (ld1R v66) fun v67 =>
              Pv (binIV .neq v67 (Value.int .i64 0)) fun v68 =>
              Gd v68 true
                (Pv (nilV v44) fun v69 =>
                Pv (fldV 1 v69) fun v70 =>
                Pv (fldV 0 v70) fun v71 =>
                Pv (fldV 0 v71) fun v72 =>
                Rv (some S) (ldNR 2 v72) fun v73 =>
                Rv (some S) (ldNR 2 p7) fun v74 =>
                Cal Tryd.prog ω 24 #[v73, v74] <| gh fun v75 =>
                Br v75
                  (sh10_5 ω p0 p3 p4 p5 p6 p7 v44 K)
                  (sh10_6 ω p0 p3 p4 p5 p6 p7 v44 K))
                (sh10_6 ω p0 p3 p4 p5 p6 p7 v44 K)))
          (Draw fun S =>
            Pv (nilV v44) fun v133 =>
            Pv (fldV 1 v133) fun v134 =>
            Pv (fldV 4 v134) fun v135 =>
            Rv (some S) (ld1R v135) fun v136 =>
            Pv (binIV .neq v136 (Value.int .i64 0)) fun v137 =>
            Gd v137 true
              (Pv (nilV v44) fun v138 =>
              Pv (fldV 1 v138) fun v139 =>
              Pv (fldV 0 v139) fun v140 =>
              Pv (fldV 0 v140) fun v141 =>
              Rv (some S) (ldNR 2 v141) fun v142 =>
              Rv (some S) (ldNR 2 p7) fun v143 =>
              Cal Tryd.prog ω 24 #[v142, v143] <| gh fun v144 =>
              Br v144
                (sh10_5 ω p0 p3 p4 p5 p6 p7 v44 K)
                (sh10_6 ω p0 p3 p4 p5 p6 p7 v44 K))
              (sh10_6 ω p0 p3 p4 p5 p6 p7 v44 K)))
      (sh10_8 ω p0 p3 p4 p5 p6 p7 K)
def sh10_2 (ω : Om) (p0 : Value) (p3 : Value) (p4 : Value) (p5 : Value) (p6 : Value) (p7 : Value) (K : Value → M) : M :=
  Pv (nilV p0) fun v35 =>
  Pv (fldV 2 v35) fun v36 =>
  Rv none (ldNR 2 v36) fun v37 =>
  Sto 2 p7 v37 <| gh fun _ =>
  sh10_3 ω p0 p3 p4 p5 p6 p7 K
def sh10 (ω : Om) (a0 : Value) (a1 : Value) (K : Value → M) : M :=
  New (.cells (Value.cells a1) 39 (0, 0)) <| gh fun x_1 =>
  New (.cells #[(Value.int .i64 0), (Value.int .i64 0)] 34 (0, 0)) <| gh fun v2 =>
  Pv (fldV 0 x_1) fun v3 =>
  Rv none (ld1R v3) fun v4 =>
  Cal Tryd.prog ω 21 #[v4] <| gh fun v5 =>
  Pv (unV .not v5) fun v6 =>
  Gd v6 false
    (Pv (fldV 1 x_1) fun v7 =>
    Rv none (ld1R v7) fun v8 =>
    Cal Tryd.prog ω 22 #[v8] <| gh fun v9 =>
    Pv (unV .not v9) fun v10 =>
    Gd v10 false
      (Pv (fldV 2 x_1) fun v11 =>
      Rv none (ldNR 2 v11) fun v12 =>
      Cal Tryd.prog ω 23 #[v12] <| gh fun v13 =>
      Pv (unV .not v13) fun v14 =>
      Gd v14 false
        (Pv (fldV 5 x_1) fun v15 =>
        Rv none (ld1R v15) fun v16 =>
        Pv (lenV v16) fun v17 =>
        Pv (binIV .gtr v17 (Value.int .i64 10000)) fun v18 =>
        Gd v18 false
          (Pv (fldV 4 x_1) fun v19 =>
          Rv none (ld1R v19) fun v20 =>
          Gd v20 true
            (Pv (fldV 5 x_1) fun v21 =>
            Rv none (ld1R v21) fun v22 =>
            Pv (lenV v22) fun v23 =>
            Pv (binIV .gtr v23 (Value.int .i64 0)) fun v24 =>
            Br v24
              (sh10_1 ω v2 (Value.int .i64 0) (Value.int .i64 0) K)
              (Pv (fldV 2 x_1) fun v27 =>
              Rv none (ldNR 2 v27) fun v28 =>
              New (.cells #[(Value.int .i64 0), (Value.int .i64 0)] 34 (0, 0)) <| gh fun at_29 =>
              Sto 2 at_29 v28 <| gh fun _ =>
              Draw fun S =>
                Pv (nilV a0) fun v30 =>
                Pv (fldV 2 v30) fun v31 =>
                Rv (some S) (ldNR 2 v31) fun v32 =>
                Rv (some S) (ldNR 2 at_29) fun v33 =>
                Cal Tryd.prog ω 24 #[v32, v33] <| gh fun v34 =>
                Br v34
                  (sh10_2 ω a0 x_1 v2 (Value.int .i64 0) (Value.int .i64 0) at_29 K)
                  (sh10_3 ω a0 x_1 v2 (Value.int .i64 0) (Value.int .i64 0) at_29 K)))
            (Pv (fldV 2 x_1) fun v145 =>
            Rv none (ldNR 2 v145) fun v146 =>
            New (.cells #[(Value.int .i64 0), (Value.int .i64 0)] 34 (0, 0)) <| gh fun at_147 =>
            Sto 2 at_147 v146 <| gh fun _ =>
            Draw fun S =>
              Pv (nilV a0) fun v148 =>
              Pv (fldV 2 v148) fun v149 =>
              Rv (some S) (ldNR 2 v149) fun v150 =>
              Rv (some S) (ldNR 2 at_147) fun v151 =>
              Cal Tryd.prog ω 24 #[v150, v151] <| gh fun v152 =>
              Br v152
                (sh10_2 ω a0 x_1 v2 (Value.int .i64 0) (Value.int .i64 0) at_147 K)
                (sh10_3 ω a0 x_1 v2 (Value.int .i64 0) (Value.int .i64 0) at_147 K)))
          (sh10_1 ω v2 (Value.int .i64 0) (Value.int .i64 0) K))
        (sh10_1 ω v2 (Value.int .i64 0) (Value.int .i64 0) K))
      (sh10_1 ω v2 (Value.int .i64 0) (Value.int .i64 0) K))
    (sh10_1 ω v2 (Value.int .i64 0) (Value.int .i64 0) K)
theorem sh10_eq (ω : Om) (a0 a1 : Value) (K : Value → M) : vcF Tryd.prog ω Tryd.f10 [a0, a1] K = sh10 ω a0 a1 K := by kernel_rfl
theorem cal10 {ω : Om} {a0 a1 : Value} {K : Value → M} {I : Imm} {L : LH} (h : sh10 ω a0 a1 (fun v => Gh (K v)) I L) : Cal Tryd.prog ω 10 #[a0, a1] K I L :=
  Cal.gh (cal_of_vc mixed Tryd.func10 (by rw [sh10_eq]; exact h))
def sh11_5 (ω : Om) (p0 : Value) (p1 : Value) (p10 : Value) (p11 : Value) (K : Value → M) : M :=
  Rv none (bsR p1) fun v62 =>
  Cal Tryd.prog ω 29 #[p0, v62] <| gh fun v63 =>
  K (Value.tuple #[(Value.bool true), (Value.int .i64 0)])
def sh11_4 (ω : Om) (p0 : Value) (p1 : Value) (p9 : Value) (p10 : Value) (p11 : Value) (p12 : Value) (p13 : Value) (K : Value → M) : M :=
  Rv none (ldNR 2 p9) fun v49 =>
  Pv (fldV 0 p13) fun v50 =>
  Sto 2 v50 v49 <| gh fun _ =>
  Draw fun S =>
    Pv (nilV p12) fun v51 =>
    Pv (fldV 0 v51) fun v52 =>
    Rv (some S) (ld1R v52) fun v53 =>
    Rv (some S) (ldNR 4 p13) fun v54 =>
    BldS 80 4 #[(Value.int .i64 0), (Value.int .i64 0), (Value.bool false), (Value.string (ByteArray.mk #[]))] 1 [(0, v54)] <| gh <| Keep S fun v55 =>
    App 80 4 40 #[(Value.int .i64 0), (Value.int .i64 0), (Value.bool false), (Value.string (ByteArray.mk #[]))] v53 v55 <| gh fun v56 =>
    Pv (nilV p12) fun v57 =>
    Pv (fldV 0 v57) fun v58 =>
    Sto 1 v58 v56 <| gh fun _ =>
    Rv none (bsR p1) fun v59 =>
    Rv none (ldNR 4 p13) fun v60 =>
    Cal Tryd.prog ω 28 #[p0, v59, v60] <| gh fun v61 =>
    sh11_5 ω p0 p1 p10 p11 K
def sh11 (ω : Om) (a0 : Value) (a1 : Value) (a2 : Value) (a3 : Value) (a4 : Value) (K : Value → M) : M :=
  New (.cells (Value.cells a4) 34 (0, 0)) <| gh fun at_1 =>
  Cal Tryd.prog ω 21 #[a1] <| gh fun v2 =>
  Pv (unV .not v2) fun v3 =>
  Gd v3 false
    (Cal Tryd.prog ω 22 #[a2] <| gh fun v4 =>
    Pv (unV .not v4) fun v5 =>
    Gd v5 false
      (Gd a3 true
        (Rv none (ldNR 2 at_1) fun v6 =>
        Cal Tryd.prog ω 23 #[v6] <| gh fun v7 =>
        Pv (unV .not v7) fun v8 =>
        Br v8
          (K (Value.tuple #[(Value.bool false), (Value.int .i64 1)]))
          (Draw fun S =>
            Pv (nilV a0) fun v9 =>
            Pv (fldV 0 v9) fun v10 =>
            Rv (some S) (ld1R v10) fun v11 =>
            Rv (some S) (bsR a1) fun v12 =>
            Rv (some S) (lkR .string (Value.pointer none) false v11 v12) fun v13 =>
            Pv (binPV .eql v13 (Value.pointer none)) fun v14 =>
            Gd v14 false
              (Pv (nilV v13) fun v15 =>
              Pv (fldV 1 v15) fun v16 =>
              Pv (fldV 4 v16) fun v17 =>
              Rv none (ld1R v17) fun v18 =>
              Pv (binIV .neq v18 a2) fun v19 =>
              Br v19
                (K (Value.tuple #[(Value.bool false), (Value.int .i64 0)]))
                (Pv (nilV v13) fun v20 =>
                Pv (fldV 1 v20) fun v21 =>
                Pv (fldV 0 v21) fun v22 =>
                Rv none (ldNR 4 v22) fun v23 =>
                New (.cells #[(Value.int .i64 0), (Value.int .i64 0), (Value.bool false), (Value.string (ByteArray.mk #[]))] 80 (0, 0)) <| gh fun v_24 =>
                Sto 4 v_24 v23 <| gh fun _ =>
                Pv (nilV v13) fun v25 =>
                Pv (fldV 0 v25) fun v26 =>
                Rv none (ld1R v26) fun v27 =>
                Pv (lenV v27) fun v28 =>
                Draw fun S =>
                  Gd a3 true
                    (Pv (fldV 0 v_24) fun v29 =>
                    Rv (some S) (ldNR 2 v29) fun v30 =>
                    Rv (some S) (ldNR 2 at_1) fun v31 =>
                    Cal Tryd.prog ω 24 #[v30, v31] <| gh <| Keep S fun v32 =>
                    Gd v32 false
                      (Pv (binIV .gtr v28 (Value.int .i64 0)) fun v33 =>
                      Gd v33 true
                        (Rv (some S) (ldNR 2 at_1) fun v34 =>
                        Pv (nilV v13) fun v35 =>
                        Pv (fldV 0 v35) fun v36 =>
                        Rv (some S) (ld1R v36) fun v37 =>
                        Pv (binIV .sub v28 (Value.int .i64 1)) fun v38 =>
                        Pv (ixV 4 v37 v38) fun v39 =>
                        Pv (fldV 0 v39) fun v40 =>
                        Rv (some S) (ldNR 2 v40) fun v41 =>
                        Cal Tryd.prog ω 24 #[v34, v41] <| gh fun v42 =>
                        Pv (unV .not v42) fun v43 =>
                        Br v43
                          (K (Value.tuple #[(Value.bool false), (Value.int .i64 1)]))
                          (Pv (bldV #[(Value.int .i64 0), (Value.int .i64 0), (Value.bool false), (Value.string (ByteArray.mk #[])), (Value.int .i64 0)] #[(0, 4), (4, 1)] []) fun v44 =>
                          Pv (nilV v13) fun v45 =>
                          Pv (fldV 1 v45) fun v46 =>
                          Sto 5 v46 v44 <| gh fun _ =>
                          Rv none (bsR a1) fun v47 =>
                          Cal Tryd.prog ω 27 #[a0, v47] <| gh fun v48 =>
                          Br a3
                            (sh11_4 ω a0 a1 at_1 (Value.bool false) (Value.int .i64 0) v13 v_24 K)
                            (sh11_5 ω a0 a1 (Value.bool false) (Value.int .i64 0) K)))
                        (Pv (bldV #[(Value.int .i64 0), (Value.int .i64 0), (Value.bool false), (Value.string (ByteArray.mk #[])), (Value.int .i64 0)] #[(0, 4), (4, 1)] []) fun v64 =>
                        Pv (nilV v13) fun v65 =>
                        Pv (fldV 1 v65) fun v66 =>
                        Sto 5 v66 v64 <| gh fun _ =>
                        Rv none (bsR a1) fun v67 =>
                        Cal Tryd.prog ω 27 #[a0, v67] <| gh fun v68 =>
                        Br a3
                          (sh11_4 ω a0 a1 at_1 (Value.bool false) (Value.int .i64 0) v13 v_24 K)
                          (sh11_5 ω a0 a1 (Value.bool false) (Value.int .i64 0) K)))
                      (K (Value.tuple #[(Value.bool false), (Value.int .i64 1)])))
                    ((fun I L => S I L ∧ (Pv (bldV #[(Value.int .i64 0), (Value.int .i64 0), (Value.bool false), (Value.string (ByteArray.mk #[])), (Value.int .i64 0)] #[(0, 4), (4, 1)] []) fun v69 =>
                    Pv (nilV v13) fun v70 =>
                    Pv (fldV 1 v70) fun v71 =>
                    Sto 5 v71 v69 <| gh fun _ =>
                    Rv none (bsR a1) fun v72 =>
                    Cal Tryd.prog ω 27 #[a0, v72] <| gh fun v73 =>
                    Br a3
                      (sh11_4 ω a0 a1 at_1 (Value.bool false) (Value.int .i64 0) v13 v_24 K)
                      (sh11_5 ω a0 a1 (Value.bool false) (Value.int .i64 0) K)) I L))))
              (K (Value.tuple #[(Value.bool false), (Value.int .i64 0)]))))
        (Draw fun S =>
          Pv (nilV a0) fun v74 =>
          Pv (fldV 0 v74) fun v75 =>
          Rv (some S) (ld1R v75) fun v76 =>
          Rv (some S) (bsR a1) fun v77 =>
          Rv (some S) (lkR .string (Value.pointer none) false v76 v77) fun v78 =>
          Pv (binPV .eql v78 (Value.pointer none)) fun v79 =>
          Gd v79 false
            (Pv (nilV v78) fun v80 =>
            Pv (fldV 1 v80) fun v81 =>
            Pv (fldV 4 v81) fun v82 =>
            Rv none (ld1R v82) fun v83 =>
            Pv (binIV .neq v83 a2) fun v84 =>
            Br v84
              (K (Value.tuple #[(Value.bool false), (Value.int .i64 0)]))
              (Pv (nilV v78) fun v85 =>
              Pv (fldV 1 v85) fun v86 =>
              Pv (fldV 0 v86) fun v87 =>
              Rv none (ldNR 4 v87) fun v88 =>
              New (.cells #[(Value.int .i64 0), (Value.int .i64 0), (Value.bool false), (Value.string (ByteArray.mk #[]))] 80 (0, 0)) <| gh fun v_89 =>
              Sto 4 v_89 v88 <| gh fun _ =>
              Pv (nilV v78) fun v90 =>
              Pv (fldV 0 v90) fun v91 =>
              Rv none (ld1R v91) fun v92 =>
              Pv (lenV v92) fun v93 =>
              Draw fun S =>
                Gd a3 true
                  (Pv (fldV 0 v_89) fun v94 =>
                  Rv (some S) (ldNR 2 v94) fun v95 =>
                  Rv (some S) (ldNR 2 at_1) fun v96 =>
                  Cal Tryd.prog ω 24 #[v95, v96] <| gh <| Keep S fun v97 =>
                  Gd v97 false
                    (Pv (binIV .gtr v93 (Value.int .i64 0)) fun v98 =>
                    Gd v98 true
                      (Rv (some S) (ldNR 2 at_1) fun v99 =>
                      Pv (nilV v78) fun v100 =>
                      Pv (fldV 0 v100) fun v101 =>
                      Rv (some S) (ld1R v101) fun v102 =>
                      Pv (binIV .sub v93 (Value.int .i64 1)) fun v103 =>
                      Pv (ixV 4 v102 v103) fun v104 =>
                      Pv (fldV 0 v104) fun v105 =>
                      Rv (some S) (ldNR 2 v105) fun v106 =>
                      Cal Tryd.prog ω 24 #[v99, v106] <| gh fun v107 =>
                      Pv (unV .not v107) fun v108 =>
                      Br v108
                        (K (Value.tuple #[(Value.bool false), (Value.int .i64 1)]))
                        (Pv (bldV #[(Value.int .i64 0), (Value.int .i64 0), (Value.bool false), (Value.string (ByteArray.mk #[])), (Value.int .i64 0)] #[(0, 4), (4, 1)] []) fun v109 =>
                        Pv (nilV v78) fun v110 =>
                        Pv (fldV 1 v110) fun v111 =>
                        Sto 5 v111 v109 <| gh fun _ =>
                        Rv none (bsR a1) fun v112 =>
                        Cal Tryd.prog ω 27 #[a0, v112] <| gh fun v113 =>
                        Br a3
                          (sh11_4 ω a0 a1 at_1 (Value.bool false) (Value.int .i64 0) v78 v_89 K)
                          (sh11_5 ω a0 a1 (Value.bool false) (Value.int .i64 0) K)))
                      (Pv (bldV #[(Value.int .i64 0), (Value.int .i64 0), (Value.bool false), (Value.string (ByteArray.mk #[])), (Value.int .i64 0)] #[(0, 4), (4, 1)] []) fun v114 =>
                      Pv (nilV v78) fun v115 =>
                      Pv (fldV 1 v115) fun v116 =>
                      Sto 5 v116 v114 <| gh fun _ =>
                      Rv none (bsR a1) fun v117 =>
                      Cal Tryd.prog ω 27 #[a0, v117] <| gh fun v118 =>
                      Br a3
                        (sh11_4 ω a0 a1 at_1 (Value.bool false) (Value.int .i64 0) v78 v_89 K)
                        (sh11_5 ω a0 a1 (Value.bool false) (Value.int .i64 0) K)))
                    (K (Value.tuple #[(Value.bool false), (Value.int .i64 1)])))
                  ((fun I L => S I L ∧ (Pv (bldV #[(Value.int .i64 0), (Value.int .i64 0), (Value.bool false), (Value.string (ByteArray.mk #[])), (Value.int .i64 0)] #[(0, 4), (4, 1)] []) fun v119 =>
                  Pv (nilV v78) fun v120 =>
                  Pv (fldV 1 v120) fun v121 =>
                  Sto 5 v121 v119 <| gh fun _ =>
                  Rv none (bsR a1) fun v122 =>
                  Cal Tryd.prog ω 27 #[a0, v122] <| gh fun v123 =>
                  Br a3
                    (sh11_4 ω a0 a1 at_1 (Value.bool false) (Value.int .i64 0) v78 v_89 K)
                    (sh11_5 ω a0 a1 (Value.bool false) (Value.int .i64 0) K)) I L))))
            (K (Value.tuple #[(Value.bool false), (Value.int .i64 0)]))))
      (K (Value.tuple #[(Value.bool false), (Value.int .i64 1)])))
    (K (Value.tuple #[(Value.bool false), (Value.int .i64 1)]))
theorem sh11_eq (ω : Om) (a0 a1 a2 a3 a4 : Value) (K : Value → M) : vcF Tryd.prog ω Tryd.f11 [a0, a1, a2, a3, a4] K = sh11 ω a0 a1 a2 a3 a4 K := by kernel_rfl
theorem cal11 {ω : Om} {a0 a1 a2 a3 a4 : Value} {K : Value → M} {I : Imm} {L : LH} (h : sh11 ω a0 a1 a2 a3 a4 (fun v => Gh (K v)) I L) : Cal Tryd.prog ω 11 #[a0, a1, a2, a3, a4] K I L :=
  Cal.gh (cal_of_vc mixed Tryd.func11 (by rw [sh11_eq]; exact h))
def sh12_5 (ω : Om) (p7 : Value) (p8 : Value) (p9 : Value) (Kn1 : (Value × Value × Value × Unit) → M) (K : Value → M) : M :=
  Pv (binIV .add p9 (Value.int .i64 1)) fun v46 =>
  Kn1 (p7, p8, v46, ())
def sh12_7 (ω : Om) (p0 : Value) (p7 : Value) (p8 : Value) (p9 : Value) (Kn1 : (Value × Value × Value × Unit) → M) (K : Value → M) : M :=
  Pv (ixV 2 p0 p9) fun v66 =>
  Rv none (ldNR 2 v66) fun v67 =>
  BldS 92 2 #[(Value.slice none 0 0), (Value.slice none 0 0)] 1 [(0, v67)] <| gh fun v68 =>
  App 92 2 48 #[(Value.slice none 0 0), (Value.slice none 0 0)] p7 v68 <| gh fun v69 =>
  sh12_5 ω v69 p8 p9 Kn1 K
def sh12_6 (ω : Om) (p0 : Value) (p1 : Value) (p6 : Value) (p7 : Value) (p8 : Value) (p9 : Value) (Kn1 : (Value × Value × Value × Unit) → M) (K : Value → M) : M :=
  Draw fun S =>
    Pv (ixV 3 p1 p6) fun v57 =>
    Pv (fldV 1 v57) fun v58 =>
    Rv (some S) (ld1R v58) fun v59 =>
    Pv (ixV 3 p1 p6) fun v60 =>
    Pv (fldV 2 v60) fun v61 =>
    Rv (some S) (ld1R v61) fun v62 =>
    Pv (bldV #[(Value.slice none 0 0), (Value.slice none 0 0)] #[(0, 1), (1, 1)] [(0, v59), (1, v62)]) fun v63 =>
    BldS 92 2 #[(Value.slice none 0 0), (Value.slice none 0 0)] 1 [(0, v63)] <| gh fun v64 =>
    App 92 2 48 #[(Value.slice none 0 0), (Value.slice none 0 0)] p7 v64 <| gh fun v65 =>
    sh12_7 ω p0 v65 (Value.bool true) p9 Kn1 K
def sh12_10 (ω : Om) (p0 : Value) (p4 : Value) (p5 : Value) (p6 : Value) (p7 : Value) (Kn0 : (Value × Value × Value × Value × Unit) → M) (K : Value → M) : M :=
  Pv (binIV .add p6 (Value.int .i64 1)) fun v80 =>
  Kn0 (p7, p4, p5, v80, ())
def sh12_9 (ω : Om) (p0 : Value) (p1 : Value) (p4 : Value) (p5 : Value) (p6 : Value) (p7 : Value) (p8 : Value) (Kn0 : (Value × Value × Value × Value × Unit) → M) (K : Value → M) : M :=
  Pv (unV .not p8) fun v70 =>
  Br v70
    (Draw fun S =>
      Pv (ixV 3 p1 p6) fun v71 =>
      Pv (fldV 1 v71) fun v72 =>
      Rv (some S) (ld1R v72) fun v73 =>
      Pv (ixV 3 p1 p6) fun v74 =>
      Pv (fldV 2 v74) fun v75 =>
      Rv (some S) (ld1R v75) fun v76 =>
      Pv (bldV #[(Value.slice none 0 0), (Value.slice none 0 0)] #[(0, 1), (1, 1)] [(0, v73), (1, v76)]) fun v77 =>
      BldS 92 2 #[(Value.slice none 0 0), (Value.slice none 0 0)] 1 [(0, v77)] <| gh fun v78 =>
      App 92 2 48 #[(Value.slice none 0 0), (Value.slice none 0 0)] p7 v78 <| gh fun v79 =>
      sh12_10 ω p0 p4 p5 p6 v79 Kn0 K)
    (sh12_10 ω p0 p4 p5 p6 p7 Kn0 K)
def sh12_3 (ω : Om) (p0 : Value) (p1 : Value) (p4 : Value) (p5 : Value) (p6 : Value) (x7 : Value) (x8 : Value) (x9 : Value) (Kn0 : (Value × Value × Value × Value × Unit) → M) (Kn1 : (Value × Value × Value × Unit) → M) (K : Value → M) : M :=
  Pv (lenV p0) fun v35 =>
  Pv (binIV .lss x9 v35) fun v36 =>
  Br v36
    (Draw fun S =>
      Pv (ixV 2 p0 x9) fun v37 =>
      Pv (fldV 0 v37) fun v38 =>
      Rv (some S) (ld1R v38) fun v39 =>
      Rv (some S) (bsR v39) fun v40 =>
      Pv (ixV 3 p1 p6) fun v41 =>
      Pv (fldV 1 v41) fun v42 =>
      Rv (some S) (ld1R v42) fun v43 =>
      Rv (some S) (bsR v43) fun v44 =>
      Pv (binSV .eql v40 v44) fun v45 =>
      Br v45
        (sh12_5 ω x7 x8 x9 Kn1 K)
        (Draw fun S =>
          Pv (unV .not x8) fun v47 =>
          Gd v47 true
            (Pv (ixV 2 p0 x9) fun v48 =>
            Pv (fldV 0 v48) fun v49 =>
            Rv (some S) (ld1R v49) fun v50 =>
            Rv (some S) (bsR v50) fun v51 =>
            Pv (ixV 3 p1 p6) fun v52 =>
            Pv (fldV 1 v52) fun v53 =>
            Rv (some S) (ld1R v53) fun v54 =>
            Rv (some S) (bsR v54) fun v55 =>
            Pv (binSV .gtr v51 v55) fun v56 =>
            Br v56
              (sh12_6 ω p0 p1 p6 x7 x8 x9 Kn1 K)
              (sh12_7 ω p0 x7 x8 x9 Kn1 K))
            (sh12_7 ω p0 x7 x8 x9 Kn1 K)))
    (sh12_9 ω p0 p1 p4 p5 p6 x7 x8 Kn0 K)
def sh12_11 (ω : Om) (p0 : Value) (p1 : Value) (p4 : Value) (p5 : Value) (p6 : Value) (x7 : Value) (x8 : Value) (x9 : Value) (Kn0 : (Value × Value × Value × Value × Unit) → M) (Kn1 : (Value × Value × Value × Unit) → M) (K : Value → M) : M :=
  Pv (lenV p0) fun v84 =>
  Pv (binIV .lss x9 v84) fun v85 =>
  Br v85
    (Draw fun S =>
      Pv (ixV 2 p0 x9) fun v86 =>
      Pv (fldV 0 v86) fun v87 =>
      Rv (some S) (ld1R v87) fun v88 =>
      Rv (some S) (bsR v88) fun v89 =>
      Pv (ixV 3 p1 p6) fun v90 =>
      Pv (fldV 1 v90) fun v91 =>
      Rv (some S) (ld1R v91) fun v92 =>
      Rv (some S) (bsR v92) fun v93 =>
      Pv (binSV .eql v89 v93) fun v94 =>
      Br v94
        (sh12_5 ω x7 x8 x9 Kn1 K)
        (Draw fun S =>
          Pv (unV .not x8) fun v95 =>
          Gd v95 true
            (Pv (ixV 2 p0 x9) fun v96 =>
            Pv (fldV 0 v96) fun v97 =>
            Rv (some S) (ld1R v97) fun v98 =>
            Rv (some S) (bsR v98) fun v99 =>
            Pv (ixV 3 p1 p6) fun v100 =>
            Pv (fldV 1 v100) fun v101 =>
            Rv (some S) (ld1R v101) fun v102 =>
            Rv (some S) (bsR v102) fun v103 =>
            Pv (binSV .gtr v99 v103) fun v104 =>
            Br v104
              (sh12_6 ω p0 p1 p6 x7 x8 x9 Kn1 K)
              (sh12_7 ω p0 x7 x8 x9 Kn1 K))
            (sh12_7 ω p0 x7 x8 x9 Kn1 K)))
    (sh12_9 ω p0 p1 p4 p5 p6 x7 x8 Kn0 K)
def sh12_12 (ω : Om) (p0 : Value) (p1 : Value) (p4 : Value) (p5 : Value) (p6 : Value) (x7 : Value) (x8 : Value) (x9 : Value) (Kn0 : (Value × Value × Value × Value × Unit) → M) (Kn1 : (Value × Value × Value × Unit) → M) (K : Value → M) : M :=
  Pv (lenV p0) fun v119 =>
  Pv (binIV .lss x9 v119) fun v120 =>
  Br v120
    (Draw fun S =>
      Pv (ixV 2 p0 x9) fun v121 =>
      Pv (fldV 0 v121) fun v122 =>
      Rv (some S) (ld1R v122) fun v123 =>
      Rv (some S) (bsR v123) fun v124 =>
      Pv (ixV 3 p1 p6) fun v125 =>
      Pv (fldV 1 v125) fun v126 =>
      Rv (some S) (ld1R v126) fun v127 =>
      Rv (some S) (bsR v127) fun v128 =>
      Pv (binSV .eql v124 v128) fun v129 =>
      Br v129
        (sh12_5 ω x7 x8 x9 Kn1 K)
        (Draw fun S =>
          Pv (unV .not x8) fun v130 =>
          Gd v130 true
            (Pv (ixV 2 p0 x9) fun v131 =>
            Pv (fldV 0 v131) fun v132 =>
            Rv (some S) (ld1R v132) fun v133 =>
            Rv (some S) (bsR v133) fun v134 =>
            Pv (ixV 3 p1 p6) fun v135 =>
            Pv (fldV 1 v135) fun v136 =>
            Rv (some S) (ld1R v136) fun v137 =>
            Rv (some S) (bsR v137) fun v138 =>
            Pv (binSV .gtr v134 v138) fun v139 =>
            Br v139
              (sh12_6 ω p0 p1 p6 x7 x8 x9 Kn1 K)
              (sh12_7 ω p0 x7 x8 x9 Kn1 K))
            (sh12_7 ω p0 x7 x8 x9 Kn1 K)))
    (sh12_9 ω p0 p1 p4 p5 p6 x7 x8 Kn0 K)
def sh12_13 (ω : Om) (p0 : Value) (p1 : Value) (p4 : Value) (p5 : Value) (p6 : Value) (x7 : Value) (x8 : Value) (x9 : Value) (Kn0 : (Value × Value × Value × Value × Unit) → M) (Kn1 : (Value × Value × Value × Unit) → M) (K : Value → M) : M :=
  Pv (lenV p0) fun v143 =>
  Pv (binIV .lss x9 v143) fun v144 =>
  Br v144
    (Draw fun S =>
      Pv (ixV 2 p0 x9) fun v145 =>
      Pv (fldV 0 v145) fun v146 =>
      Rv (some S) (ld1R v146) fun v147 =>
      Rv (some S) (bsR v147) fun v148 =>
      Pv (ixV 3 p1 p6) fun v149 =>
      Pv (fldV 1 v149) fun v150 =>
      Rv (some S) (ld1R v150) fun v151 =>
      Rv (some S) (bsR v151) fun v152 =>
      Pv (binSV .eql v148 v152) fun v153 =>
      Br v153
        (sh12_5 ω x7 x8 x9 Kn1 K)
        (Draw fun S =>
          Pv (unV .not x8) fun v154 =>
          Gd v154 true
            (Pv (ixV 2 p0 x9) fun v155 =>
            Pv (fldV 0 v155) fun v156 =>
            Rv (some S) (ld1R v156) fun v157 =>
            Rv (some S) (bsR v157) fun v158 =>
            Pv (ixV 3 p1 p6) fun v159 =>
            Pv (fldV 1 v159) fun v160 =>
            Rv (some S) (ld1R v160) fun v161 =>
            Rv (some S) (bsR v161) fun v162 =>
            Pv (binSV .gtr v158 v162) fun v163 =>
            Br v163
              (sh12_6 ω p0 p1 p6 x7 x8 x9 Kn1 K)
              (sh12_7 ω p0 x7 x8 x9 Kn1 K))
            (sh12_7 ω p0 x7 x8 x9 Kn1 K)))
    (sh12_9 ω p0 p1 p4 p5 p6 x7 x8 Kn0 K)
def sh12_1 (ω : Om) (p1 : Value) (x0 : Value) (x4 : Value) (x5 : Value) (x6 : Value) (Kn0 : (Value × Value × Value × Value × Unit) → M) (K : Value → M) : M :=
  Pv (lenV p1) fun v1 =>
  Pv (binIV .lss x6 v1) fun v2 =>
  Br v2
    (Draw fun S =>
      Pv (ixV 3 p1 x6) fun v3 =>
      Pv (fldV 1 v3) fun v4 =>
      Rv (some S) (ld1R v4) fun v5 =>
      Pv (lenV v5) fun v6 =>
      Pv (binIV .lss v6 (Value.int .i64 1)) fun v7 =>
      Gd v7 false
        (Pv (ixV 3 p1 x6) fun v8 =>
        Pv (fldV 1 v8) fun v9 =>
        Rv (some S) (ld1R v9) fun v10 =>
        Pv (lenV v10) fun v11 =>
        Pv (binIV .gtr v11 (Value.int .i64 250)) fun v12 =>
        Gd v12 false
          (Pv (ixV 3 p1 x6) fun v13 =>
          Pv (fldV 0 v13) fun v14 =>
          Rv (some S) (ld1R v14) fun v15 =>
          Gd v15 true
            (Pv (ixV 3 p1 x6) fun v16 =>
            Pv (fldV 2 v16) fun v17 =>
            Rv (some S) (ld1R v17) fun v18 =>
            Pv (lenV v18) fun v19 =>
            Pv (binIV .gtr v19 (Value.int .i64 0)) fun v20 =>
            Gd v20 false
              (Pv (binIV .gtr x6 (Value.int .i64 0)) fun v21 =>
              Gd v21 true
                (Pv (ixV 3 p1 x6) fun v22 =>
                Pv (fldV 1 v22) fun v23 =>
                Rv (some S) (ld1R v23) fun v24 =>
                Rv (some S) (bsR v24) fun v25 =>
                Pv (binIV .sub x6 (Value.int .i64 1)) fun v26 =>
                Pv (ixV 3 p1 v26) fun v27 =>
                Pv (fldV 1 v27) fun v28 =>
                Rv (some S) (ld1R v28) fun v29 =>
                Rv (some S) (bsR v29) fun v30 =>
                Pv (binSV .leq v25 v30) fun v31 =>
                Br v31
                  (K (Value.tuple #[(Value.slice none 0 0), (Value.bool false)]))
                  (Pv (ixV 3 p1 x6) fun v32 =>
                  Pv (fldV 0 v32) fun v33 =>
                  Rv none (ld1R v33) fun v34 =>
                  LoopM (((Value.slice none 0 0), v34, (Value.int .i64 0), ()) : Value × Value × Value × Unit) fun s Kn1 =>
                  sh12_3 ω x0 p1 x4 x5 x6 s.1 s.2.1 s.2.2.1 Kn0 Kn1 K))
                (Pv (ixV 3 p1 x6) fun v81 =>
                Pv (fldV 0 v81) fun v82 =>
                Rv none (ld1R v82) fun v83 =>
                LoopM (((Value.slice none 0 0), v83, (Value.int .i64 0), ()) : Value × Value × Value × Unit) fun s Kn1 =>
                sh12_11 ω x0 p1 x4 x5 x6 s.1 s.2.1 s.2.2.1 Kn0 Kn1 K))
              (K (Value.tuple #[(Value.slice none 0 0), (Value.bool false)])))
            (Pv (binIV .gtr x6 (Value.int .i64 0)) fun v105 =>
            Gd v105 true
              (Pv (ixV 3 p1 x6) fun v106 =>
              Pv (fldV 1 v106) fun v107 =>
              Rv (some S) (ld1R v107) fun v108 =>
              Rv (some S) (bsR v108) fun v109 =>
              Pv (binIV .sub x6 (Value.int .i64 1)) fun v110 =>
              Pv (ixV 3 p1 v110) fun v111 =>
              Pv (fldV 1 v111) fun v112 =>
              Rv (some S) (ld1R v112) fun v113 =>
              Rv (some S) (bsR v113) fun v114 =>
              Pv (binSV .leq v109 v114) fun v115 =>
              Br v115
                (K (Value.tuple #[(Value.slice none 0 0), (Value.bool false)]))
                (Pv (ixV 3 p1 x6) fun v116 =>
                Pv (fldV 0 v116) fun v117 =>
                Rv none (ld1R v117) fun v118 =>
                LoopM (((Value.slice none 0 0), v118, (Value.int .i64 0), ()) : Value × Value × Value × Unit) fun s Kn1 =>
                sh12_12 ω x0 p1 x4 x5 x6 s.1 s.2.1 s.2.2.1 Kn0 Kn1 K))
              (Pv (ixV 3 p1 x6) fun v140 =>
              Pv (fldV 0 v140) fun v141 =>
              Rv none (ld1R v141) fun v142 =>
              LoopM (((Value.slice none 0 0), v142, (Value.int .i64 0), ()) : Value × Value × Value × Unit) fun s Kn1 =>
              sh12_13 ω x0 p1 x4 x5 x6 s.1 s.2.1 s.2.2.1 Kn0 Kn1 K)))
          (K (Value.tuple #[(Value.slice none 0 0), (Value.bool false)])))
        (K (Value.tuple #[(Value.slice none 0 0), (Value.bool false)])))
    (K (Value.tuple #[x0, (Value.bool true)]))
def sh12 (ω : Om) (a0 : Value) (a1 : Value) (K : Value → M) : M :=
  LoopM ((a0, (Value.slice none 0 0), (Value.bool false), (Value.int .i64 0), ()) : Value × Value × Value × Value × Unit) fun s Kn0 =>
  sh12_1 ω a1 s.1 s.2.1 s.2.2.1 s.2.2.2.1 Kn0 K
theorem sh12_eq (ω : Om) (a0 a1 : Value) (K : Value → M) : vcF Tryd.prog ω Tryd.f12 [a0, a1] K = sh12 ω a0 a1 K := by kernel_rfl
theorem cal12 {ω : Om} {a0 a1 : Value} {K : Value → M} {I : Imm} {L : LH} (h : sh12 ω a0 a1 (fun v => Gh (K v)) I L) : Cal Tryd.prog ω 12 #[a0, a1] K I L :=
  Cal.gh (cal_of_vc mixed Tryd.func12 (by rw [sh12_eq]; exact h))
def sh13_2 (ω : Om) (p9 : Value) (p13 : Value) (Nk : M) (Xk : Nat → M) (K : Value → M) : M :=
  Rv none (ld1R p13) fun v44 =>
  Pv (lenV v44) fun v45 =>
  Rv none (ld1R p9) fun v46 =>
  Pv (binIV .eql v45 v46) fun v47 =>
  Br v47
    (Xk 1)
    (Nk)
def sh13_4 (ω : Om) (p10 : Value) (p11 : Value) (p12 : Value) (p13 : Value) (Q0 : Nat) (K : Value → M) : M :=
  Rv none (ld1R p13) fun v48 =>
  Cal Tryd.prog ω 33 #[v48] <| gh fun v49 =>
  Sto 1 p10 v49 <| gh fun _ =>
  Sto 1 p11 (Value.int .i64 0) <| gh fun _ =>
  Sto 1 p12 (Value.int .i64 0) <| gh fun _ =>
  Tak Q0 <|
  Rv none (ld1R p10) fun v50 =>
  Rv none (ld1R p11) fun v51 =>
  Rv none (ld1R p12) fun v52 =>
  K (Value.tuple #[v50, v51, v52])
def sh13_1 (ω : Om) (p0 : Value) (p6 : Value) (p7 : Value) (p8 : Value) (p9 : Value) (p10 : Value) (p11 : Value) (p12 : Value) (p18 : Value) (K : Value → M) : M :=
  Br p18
    (Sto 1 p10 (Value.slice none 0 0) <| gh fun _ =>
    Sto 1 p11 (Value.int .i64 0) <| gh fun _ =>
    Sto 1 p12 (Value.int .i64 1) <| gh fun _ =>
    Rv none (ld1R p10) fun v12 =>
    Rv none (ld1R p11) fun v13 =>
    Rv none (ld1R p12) fun v14 =>
    K (Value.tuple #[v12, v13, v14]))
    (Draw fun S =>
      Pv (nilV p0) fun v15 =>
      Pv (fldV 2 v15) fun v16 =>
      Rv (some S) (ldNR 2 v16) fun v17 =>
      Rv (some S) (ldNR 2 p7) fun v18 =>
      Cal Tryd.prog ω 24 #[v17, v18] <| gh fun v19 =>
      Br v19
        (Sto 1 p10 (Value.slice none 0 0) <| gh fun _ =>
        Sto 1 p11 (Value.int .i64 0) <| gh fun _ =>
        Sto 1 p12 (Value.int .i64 131) <| gh fun _ =>
        Rv none (ld1R p10) fun v20 =>
        Rv none (ld1R p11) fun v21 =>
        Rv none (ld1R p12) fun v22 =>
        K (Value.tuple #[v20, v21, v22]))
        (New (.cells #[(Value.slice none 0 0)] 27 (0, 0)) <| gh fun out_23 =>
        Rv none (ldNR 2 p6) fun v24 =>
        Cal Tryd.prog ω 31 #[p0, v24] <| gh fun v25 =>
        RngF2 Tryd.prog ω v25 (fun r1_0 r1_1 Bg Nk Xk Rk =>
            Bg (Rv none (ldNR 2 p7) fun v26 =>
            Rv none (ld1R p8) fun v27 =>
            Cal Tryd.prog ω 32 #[r1_1, v26, v27] <| gh fun v28 =>
            Pv (exV v28 0) fun v29 =>
            Pv (exV v28 1) fun v30 =>
            New (.cells #[(Value.bool false), (Value.slice none 0 0), (Value.int .i64 0), (Value.int .i64 0), (Value.int .i64 0)] 60 (0, 0)) <| gh fun g_31 =>
            Sto 5 g_31 v29 <| gh fun _ =>
            Pv (binIV .neq v30 (Value.int .i64 0)) fun v32 =>
            Br v32
              (DrawW [p10] fun S =>
                Pv (fldV 4 g_31) fun v33 =>
                Rv (some S) (ld1R v33) fun v34 =>
                Sto 1 p10 (Value.slice none 0 0) <| gh <| Keep S fun _ =>
                Sto 1 p11 v34 <| gh fun _ =>
                Sto 1 p12 v30 <| gh fun _ =>
                Rk)
              (Pv (fldV 0 g_31) fun v35 =>
              Rv none (ld1R v35) fun v36 =>
              Br v36
                (Rv none (ld1R out_23) fun v37 =>
                CvSB 5 r1_0 <| gh fun v38 =>
                Pv (fldV 1 g_31) fun v39 =>
                Rv none (ld1R v39) fun v40 =>
                Pv (bldV #[(Value.slice none 0 0), (Value.slice none 0 0)] #[(0, 1), (1, 1)] [(0, v38), (1, v40)]) fun v41 =>
                BldS 92 2 #[(Value.slice none 0 0), (Value.slice none 0 0)] 1 [(0, v41)] <| gh fun v42 =>
                App 92 2 48 #[(Value.slice none 0 0), (Value.slice none 0 0)] v37 v42 <| gh fun v43 =>
                Sto 1 out_23 v43 <| gh fun _ =>
                sh13_2 ω p9 out_23 Nk Xk K)
                (sh13_2 ω p9 out_23 Nk Xk K))))
          (fun D1 => sh13_4 ω p10 p11 p12 out_23 D1 K)
          (fun D1 => [(1, sh13_4 ω p10 p11 p12 out_23 D1 K)])
          (fun D1 => Tak D1 <|
            Rv none (ld1R p10) fun v53 =>
            Rv none (ld1R p11) fun v54 =>
            Rv none (ld1R p12) fun v55 =>
            K (Value.tuple #[v53, v54, v55]))))
def sh13 (ω : Om) (a0 : Value) (a1 : Value) (a2 : Value) (a3 : Value) (a4 : Value) (K : Value → M) : M :=
  New (.cells (Value.cells a1) 47 (0, 0)) <| gh fun p_1 =>
  New (.cells (Value.cells a2) 34 (0, 0)) <| gh fun at_2 =>
  New (.cells (Value.cells a3) 3 (0, 0)) <| gh fun txn_3 =>
  New (.cells (Value.cells a4) 3 (0, 0)) <| gh fun most_4 =>
  New (.cells #[(Value.slice none 0 0)] 27 (0, 0)) <| gh fun v5 =>
  New (.cells #[(Value.int .i64 0)] 3 (0, 0)) <| gh fun v6 =>
  New (.cells #[(Value.int .i64 0)] 35 (0, 0)) <| gh fun v7 =>
  Rv none (ldNR 2 at_2) fun v8 =>
  Rv none (ld1R txn_3) fun v9 =>
  Cal Tryd.prog ω 30 #[v8, v9] <| gh fun v10 =>
  Pv (unV .not v10) fun v11 =>
  Br v11
    (sh13_1 ω a0 p_1 at_2 txn_3 most_4 v5 v6 v7 v11 K)
    (Rv none (ld1R most_4) fun v56 =>
    Pv (binIV .lss v56 (Value.int .i64 1)) fun v57 =>
    sh13_1 ω a0 p_1 at_2 txn_3 most_4 v5 v6 v7 v57 K)
theorem sh13_eq (ω : Om) (a0 a1 a2 a3 a4 : Value) (K : Value → M) : vcF Tryd.prog ω Tryd.f13 [a0, a1, a2, a3, a4] K = sh13 ω a0 a1 a2 a3 a4 K := by kernel_rfl
theorem cal13 {ω : Om} {a0 a1 a2 a3 a4 : Value} {K : Value → M} {I : Imm} {L : LH} (h : sh13 ω a0 a1 a2 a3 a4 (fun v => Gh (K v)) I L) : Cal Tryd.prog ω 13 #[a0, a1, a2, a3, a4] K I L :=
  Cal.gh (cal_of_vc mixed Tryd.func13 (by rw [sh13_eq]; exact h))
def sh14_1 (ω : Om) (p0 : Value) (p1 : Value) (x4 : Value) (x5 : Value) (Kn0 : (Value × Value × Unit) → M) (K : Value → M) : M :=
  Pv (lenV p0) fun v4 =>
  Pv (binIV .lss x5 v4) fun v5 =>
  Br v5
    (Draw fun S =>
      Pv (ixV 2 p0 x5) fun v6 =>
      Pv (fldV 0 v6) fun v7 =>
      Rv (some S) (ld1R v7) fun v8 =>
      Rv (some S) (bsR v8) fun v9 =>
      Pv (ixV 2 p1 x5) fun v10 =>
      Pv (fldV 0 v10) fun v11 =>
      Rv (some S) (ld1R v11) fun v12 =>
      Rv (some S) (bsR v12) fun v13 =>
      Pv (binSV .neq v9 v13) fun v14 =>
      Gd v14 false
        (Pv (ixV 2 p0 x5) fun v15 =>
        Pv (fldV 1 v15) fun v16 =>
        Rv (some S) (ld1R v16) fun v17 =>
        Rv (some S) (bsR v17) fun v18 =>
        Pv (ixV 2 p1 x5) fun v19 =>
        Pv (fldV 1 v19) fun v20 =>
        Rv (some S) (ld1R v20) fun v21 =>
        Rv (some S) (bsR v21) fun v22 =>
        Pv (binSV .neq v18 v22) fun v23 =>
        Br v23
          (K (Value.bool false))
          (Pv (binIV .add x5 (Value.int .i64 1)) fun v24 =>
          Kn0 (x4, v24, ())))
        (K (Value.bool false)))
    (K (Value.bool true))
def sh14 (ω : Om) (a0 : Value) (a1 : Value) (K : Value → M) : M :=
  Pv (lenV a0) fun v1 =>
  Pv (lenV a1) fun v2 =>
  Pv (binIV .neq v1 v2) fun v3 =>
  Br v3
    (K (Value.bool false))
    (LoopM (((Value.bool false), (Value.int .i64 0), ()) : Value × Value × Unit) fun s Kn0 =>
    sh14_1 ω a0 a1 s.1 s.2.1 Kn0 K)
theorem sh14_eq (ω : Om) (a0 a1 : Value) (K : Value → M) : vcF Tryd.prog ω Tryd.f14 [a0, a1] K = sh14 ω a0 a1 K := by kernel_rfl
theorem cal14 {ω : Om} {a0 a1 : Value} {K : Value → M} {I : Imm} {L : LH} (h : sh14 ω a0 a1 (fun v => Gh (K v)) I L) : Cal Tryd.prog ω 14 #[a0, a1] K I L :=
  Cal.gh (cal_of_vc mixed Tryd.func14 (by rw [sh14_eq]; exact h))
def sh16_1 (ω : Om) (p0 : Value) (p3 : Value) (p6 : Value) (p8 : Value) (p9 : Value) (p10 : Value) (p18 : Value) (K : Value → M) : M :=
  Br p18
    (Pv (bldV #[(Value.bool false), (Value.slice none 0 0), (Value.int .i64 0), (Value.int .i64 0), (Value.int .i64 0)] #[(0, 1), (1, 1), (2, 2), (4, 1)] []) fun v10 =>
    Sto 5 p8 v10 <| gh fun _ =>
    Rv none (ldNR 5 p8) fun v11 =>
    K (Value.tuple #[v11, (Value.int .i64 1)]))
    (Draw fun S =>
      Pv (nilV p0) fun v12 =>
      Pv (fldV 2 v12) fun v13 =>
      Rv (some S) (ldNR 2 v13) fun v14 =>
      Rv (some S) (ldNR 2 p6) fun v15 =>
      Cal Tryd.prog ω 24 #[v14, v15] <| gh fun v16 =>
      Br v16
        (Pv (bldV #[(Value.bool false), (Value.slice none 0 0), (Value.int .i64 0), (Value.int .i64 0), (Value.int .i64 0)] #[(0, 1), (1, 1), (2, 2), (4, 1)] []) fun v17 =>
        Sto 5 p8 v17 <| gh fun _ =>
        Rv none (ldNR 5 p8) fun v18 =>
        K (Value.tuple #[v18, (Value.int .i64 131)]))
        (Pv (binPV .eql p10 (Value.pointer none)) fun v19 =>
        Br v19
          (Pv (bldV #[(Value.bool false), (Value.slice none 0 0), (Value.int .i64 0), (Value.int .i64 0), (Value.int .i64 0)] #[(0, 1), (1, 1), (2, 2), (4, 1)] []) fun v20 =>
          Sto 5 p8 v20 <| gh fun _ =>
          Rv none (ldNR 5 p8) fun v21 =>
          K (Value.tuple #[v21, (Value.int .i64 0)]))
          (Rv none (ldNR 2 p6) fun v22 =>
          Cal Tryd.prog ω 32 #[p10, v22, p3] <| gh fun v23 =>
          Pv (exV v23 0) fun v24 =>
          Pv (exV v23 1) fun v25 =>
          Sto 5 p8 v24 <| gh fun _ =>
          Rv none (ldNR 5 p8) fun v26 =>
          K (Value.tuple #[v26, v25]))))
def sh16 (ω : Om) (a0 : Value) (a1 : Value) (a2 : Value) (a3 : Value) (K : Value → M) : M :=
  New (.cells (Value.cells a2) 34 (0, 0)) <| gh fun at_1 =>
  New (.cells #[(Value.bool false), (Value.slice none 0 0), (Value.int .i64 0), (Value.int .i64 0), (Value.int .i64 0)] 60 (0, 0)) <| gh fun v2 =>
  Draw fun S =>
    Pv (nilV a0) fun v3 =>
    Pv (fldV 0 v3) fun v4 =>
    Rv (some S) (ld1R v4) fun v5 =>
    Rv (some S) (bsR a1) fun v6 =>
    Rv (some S) (lkR .string (Value.pointer none) false v5 v6) fun v7 =>
    Cal Tryd.prog ω 21 #[a1] <| gh fun v8 =>
    Pv (unV .not v8) fun v9 =>
    Br v9
      (sh16_1 ω a0 a3 at_1 v2 (Value.int .i64 0) v7 v9 K)
      (Rv none (ldNR 2 at_1) fun v27 =>
      Cal Tryd.prog ω 30 #[v27, a3] <| gh fun v28 =>
      Pv (unV .not v28) fun v29 =>
      sh16_1 ω a0 a3 at_1 v2 (Value.int .i64 0) v7 v29 K)
theorem sh16_eq (ω : Om) (a0 a1 a2 a3 : Value) (K : Value → M) : vcF Tryd.prog ω Tryd.f16 [a0, a1, a2, a3] K = sh16 ω a0 a1 a2 a3 K := by kernel_rfl
theorem cal16 {ω : Om} {a0 a1 a2 a3 : Value} {K : Value → M} {I : Imm} {L : LH} (h : sh16 ω a0 a1 a2 a3 (fun v => Gh (K v)) I L) : Cal Tryd.prog ω 16 #[a0, a1, a2, a3] K I L :=
  Cal.gh (cal_of_vc mixed Tryd.func16 (by rw [sh16_eq]; exact h))
def sh21 (ω : Om) (a0 : Value) (K : Value → M) : M :=
  Pv (lenV a0) fun v1 =>
  Pv (binIV .geq v1 (Value.int .i64 1)) fun v2 =>
  Gd v2 true
    (Pv (lenV a0) fun v3 =>
    Pv (binIV .leq v3 (Value.int .i64 110)) fun v4 =>
    K v4)
    (K (Value.bool false))
theorem sh21_eq (ω : Om) (a0 : Value) (K : Value → M) : vcF Tryd.prog ω Tryd.f21 [a0] K = sh21 ω a0 K := by kernel_rfl
theorem cal21 {ω : Om} {a0 : Value} {K : Value → M} {I : Imm} {L : LH} (h : sh21 ω a0 (fun v => Gh (K v)) I L) : Cal Tryd.prog ω 21 #[a0] K I L :=
  Cal.gh (cal_of_vc mixed Tryd.func21 (by rw [sh21_eq]; exact h))
def sh22 (ω : Om) (a0 : Value) (K : Value → M) : M :=
  Pv (binIV .geq a0 (Value.int .i64 1)) fun v1 =>
  Gd v1 true
    (Pv (binIV .leq a0 (Value.int .i64 9007199254740991)) fun v2 =>
    K v2)
    (K (Value.bool false))
theorem sh22_eq (ω : Om) (a0 : Value) (K : Value → M) : vcF Tryd.prog ω Tryd.f22 [a0] K = sh22 ω a0 K := by kernel_rfl
theorem cal22 {ω : Om} {a0 : Value} {K : Value → M} {I : Imm} {L : LH} (h : sh22 ω a0 (fun v => Gh (K v)) I L) : Cal Tryd.prog ω 22 #[a0] K I L :=
  Cal.gh (cal_of_vc mixed Tryd.func22 (by rw [sh22_eq]; exact h))
def sh23 (ω : Om) (a0 : Value) (K : Value → M) : M :=
  New (.cells (Value.cells a0) 34 (0, 0)) <| gh fun s_1 =>
  Pv (fldV 0 s_1) fun v2 =>
  Rv none (ld1R v2) fun v3 =>
  Cal Tryd.prog ω 46 #[v3] <| gh fun v4 =>
  Gd v4 true
    (Pv (fldV 1 s_1) fun v5 =>
    Rv none (ld1R v5) fun v6 =>
    Pv (binIV .geq v6 (Value.int .i64 0)) fun v7 =>
    Gd v7 true
      (Pv (fldV 1 s_1) fun v8 =>
      Rv none (ld1R v8) fun v9 =>
      Pv (binIV .leq v9 (Value.int .i64 65535)) fun v10 =>
      K v10)
      (K (Value.bool false)))
    (K (Value.bool false))
theorem sh23_eq (ω : Om) (a0 : Value) (K : Value → M) : vcF Tryd.prog ω Tryd.f23 [a0] K = sh23 ω a0 K := by kernel_rfl
theorem cal23 {ω : Om} {a0 : Value} {K : Value → M} {I : Imm} {L : LH} (h : sh23 ω a0 (fun v => Gh (K v)) I L) : Cal Tryd.prog ω 23 #[a0] K I L :=
  Cal.gh (cal_of_vc mixed Tryd.func23 (by rw [sh23_eq]; exact h))
def sh24 (ω : Om) (a0 : Value) (a1 : Value) (K : Value → M) : M :=
  New (.cells (Value.cells a0) 34 (0, 0)) <| gh fun a_1 =>
  New (.cells (Value.cells a1) 34 (0, 0)) <| gh fun b_2 =>
  Rv none (ldNR 2 a_1) fun v3 =>
  Rv none (ldNR 2 b_2) fun v4 =>
  Cal Tryd.prog ω 47 #[v3, v4] <| gh fun v5 =>
  Pv (binIV .gtr v5 (Value.int .i64 0)) fun v6 =>
  K v6
theorem sh24_eq (ω : Om) (a0 a1 : Value) (K : Value → M) : vcF Tryd.prog ω Tryd.f24 [a0, a1] K = sh24 ω a0 a1 K := by kernel_rfl
theorem cal24 {ω : Om} {a0 a1 : Value} {K : Value → M} {I : Imm} {L : LH} (h : sh24 ω a0 a1 (fun v => Gh (K v)) I L) : Cal Tryd.prog ω 24 #[a0, a1] K I L :=
  Cal.gh (cal_of_vc mixed Tryd.func24 (by rw [sh24_eq]; exact h))
def sh25 (ω : Om) (a0 : Value) (K : Value → M) : M :=
  New (.cells (Value.cells a0) 34 (0, 0)) <| gh fun s_1 =>
  New (.cells #[(Value.int .i64 0), (Value.int .i64 0)] 34 (0, 0)) <| gh fun v2 =>
  Rv none (ldNR 2 s_1) fun v3 =>
  Cal Tryd.prog ω 23 #[v3] <| gh fun v4 =>
  Pv (unV .not v4) fun v5 =>
  Br v5
    (Pv (bldV #[(Value.int .i64 0), (Value.int .i64 0)] #[(0, 1), (1, 1)] []) fun v6 =>
    Sto 2 v2 v6 <| gh fun _ =>
    Rv none (ldNR 2 v2) fun v7 =>
    K (Value.tuple #[v7, (Value.int .i64 80)]))
    (Rv none (ldNR 2 s_1) fun v8 =>
    Pv (bldV #[(Value.int .i64 0), (Value.int .i64 0)] #[(0, 1), (1, 1)] [(0, (Value.int .i64 9007199254740991)), (1, (Value.int .i64 65535))]) fun v9 =>
    Pv (binAV .eql [(TypeDesc.int .i64, 0), (TypeDesc.int .i64, 1)] v8 v9) fun v10 =>
    Br v10
      (Pv (bldV #[(Value.int .i64 0), (Value.int .i64 0)] #[(0, 1), (1, 1)] []) fun v11 =>
      Sto 2 v2 v11 <| gh fun _ =>
      Rv none (ldNR 2 v2) fun v12 =>
      K (Value.tuple #[v12, (Value.int .i64 82)]))
      (Pv (fldV 1 s_1) fun v13 =>
      Rv none (ld1R v13) fun v14 =>
      Pv (binIV .eql v14 (Value.int .i64 65535)) fun v15 =>
      Br v15
        (Pv (fldV 0 s_1) fun v16 =>
        Rv none (ld1R v16) fun v17 =>
        Pv (binIV .add v17 (Value.int .i64 1)) fun v18 =>
        Pv (bldV #[(Value.int .i64 0), (Value.int .i64 0)] #[(0, 1), (1, 1)] [(0, v18)]) fun v19 =>
        Sto 2 v2 v19 <| gh fun _ =>
        Rv none (ldNR 2 v2) fun v20 =>
        K (Value.tuple #[v20, (Value.int .i64 0)]))
        (Pv (fldV 1 s_1) fun v21 =>
        Rv none (ld1R v21) fun v22 =>
        Pv (binIV .add v22 (Value.int .i64 1)) fun v23 =>
        Pv (fldV 1 s_1) fun v24 =>
        Sto 1 v24 v23 <| gh fun _ =>
        Rv none (ldNR 2 s_1) fun v25 =>
        Sto 2 v2 v25 <| gh fun _ =>
        Rv none (ldNR 2 v2) fun v26 =>
        K (Value.tuple #[v26, (Value.int .i64 0)]))))
theorem sh25_eq (ω : Om) (a0 : Value) (K : Value → M) : vcF Tryd.prog ω Tryd.f25 [a0] K = sh25 ω a0 K := by kernel_rfl
theorem cal25 {ω : Om} {a0 : Value} {K : Value → M} {I : Imm} {L : LH} (h : sh25 ω a0 (fun v => Gh (K v)) I L) : Cal Tryd.prog ω 25 #[a0] K I L :=
  Cal.gh (cal_of_vc mixed Tryd.func25 (by rw [sh25_eq]; exact h))
def sh26 (ω : Om) (a0 : Value) (a1 : Value) (K : Value → M) : M :=
  Pv (nilV a0) fun v1 =>
  Pv (fldV 0 v1) fun v2 =>
  Rv none (ld1R v2) fun v3 =>
  Rv none (lkR .string (Value.pointer none) false v3 a1) fun v4 =>
  Pv (binPV .eql v4 (Value.pointer none)) fun v5 =>
  Br v5
    (Pv (bldV #[(Value.slice none 0 0), (Value.int .i64 0), (Value.int .i64 0), (Value.bool false), (Value.string (ByteArray.mk #[])), (Value.int .i64 0)] #[(0, 1), (1, 5)] []) fun v6 =>
    New (.cells (Value.cells v6) 85 (0, 0)) <| gh fun v7 =>
    Pv (nilV a0) fun v8 =>
    Pv (fldV 0 v8) fun v9 =>
    Rv none (ld1R v9) fun v10 =>
    PutM .string v10 a1 v7 <| gh fun _ =>
    Pv (nilV a0) fun v11 =>
    Pv (fldV 1 v11) fun v12 =>
    Rv none (ld1R v12) fun v13 =>
    Cal Tryd.prog ω 48 #[v13, a1] <| gh fun v14 =>
    Pv (exV v14 0) fun v15 =>
    Pv (exV v14 1) fun v16 =>
    Pv (nilV a0) fun v17 =>
    Pv (fldV 1 v17) fun v18 =>
    Rv none (ld1R v18) fun v19 =>
    BldS 9 1 #[(Value.string (ByteArray.mk #[]))] 1 [(0, a1)] <| gh fun v20 =>
    Cal Tryd.prog ω 49 #[v19, v15, v20] <| gh fun v21 =>
    Pv (nilV a0) fun v22 =>
    Pv (fldV 1 v22) fun v23 =>
    Sto 1 v23 v21 <| gh fun _ =>
    K v7)
    (K v4)
theorem sh26_eq (ω : Om) (a0 a1 : Value) (K : Value → M) : vcF Tryd.prog ω Tryd.f26 [a0, a1] K = sh26 ω a0 a1 K := by kernel_rfl
theorem cal26 {ω : Om} {a0 a1 : Value} {K : Value → M} {I : Imm} {L : LH} (h : sh26 ω a0 a1 (fun v => Gh (K v)) I L) : Cal Tryd.prog ω 26 #[a0, a1] K I L :=
  Cal.gh (cal_of_vc mixed Tryd.func26 (by rw [sh26_eq]; exact h))
def sh27 (ω : Om) (a0 : Value) (a1 : Value) (K : Value → M) : M :=
  BldS 5 1 #[(Value.int .u8 0)] 1 [(0, (Value.int .u8 105))] <| gh fun v1 =>
  App 5 1 1 #[(Value.int .u8 0)] v1 a1 <| gh fun v2 =>
  Pv (nilV a0) fun v3 =>
  Pv (fldV 0 v3) fun v4 =>
  Rv none (ld1R v4) fun v5 =>
  Rv none (lkR .string (Value.pointer none) false v5 a1) fun v6 =>
  Pv (nilV v6) fun v7 =>
  Pv (fldV 1 v7) fun v8 =>
  Pv (fldV 4 v8) fun v9 =>
  Rv none (ld1R v9) fun v10 =>
  Pv (binIV .eql v10 (Value.int .i64 0)) fun v11 =>
  Br v11
    (Cal Tryd.prog ω 50 #[a0, v2, (Value.slice none 0 0), (Value.bool true)] <| gh fun v12 =>
    K (Value.tuple #[]))
    (Pv (nilV v6) fun v13 =>
    Pv (fldV 1 v13) fun v14 =>
    Pv (fldV 0 v14) fun v15 =>
    Pv (fldV 0 v15) fun v16 =>
    Rv none (ldNR 2 v16) fun v17 =>
    Cal Tryd.prog ω 51 #[v17] <| gh fun v18 =>
    Pv (exV v18 0) fun v19 =>
    Pv (exV v18 1) fun v20 =>
    Pv (nilV v6) fun v21 =>
    Pv (fldV 1 v21) fun v22 =>
    Pv (fldV 4 v22) fun v23 =>
    Rv none (ld1R v23) fun v24 =>
    Pv (cvIV .u64 v24) fun v25 =>
    Cal Tryd.prog ω 52 #[v25] <| gh fun v26 =>
    App 5 1 1 #[(Value.int .u8 0)] v19 v26 <| gh fun v27 =>
    Pv (nilV v6) fun v28 =>
    Pv (fldV 1 v28) fun v29 =>
    Pv (fldV 0 v29) fun v30 =>
    Rv none (ldNR 4 v30) fun v31 =>
    Cal Tryd.prog ω 53 #[v31] <| gh fun v32 =>
    App 5 1 1 #[(Value.int .u8 0)] v27 v32 <| gh fun v33 =>
    Cal Tryd.prog ω 50 #[a0, v2, v33, (Value.bool false)] <| gh fun v34 =>
    K (Value.tuple #[]))
theorem sh27_eq (ω : Om) (a0 a1 : Value) (K : Value → M) : vcF Tryd.prog ω Tryd.f27 [a0, a1] K = sh27 ω a0 a1 K := by kernel_rfl
theorem cal27 {ω : Om} {a0 a1 : Value} {K : Value → M} {I : Imm} {L : LH} (h : sh27 ω a0 a1 (fun v => Gh (K v)) I L) : Cal Tryd.prog ω 27 #[a0, a1] K I L :=
  Cal.gh (cal_of_vc mixed Tryd.func27 (by rw [sh27_eq]; exact h))
def sh28 (ω : Om) (a0 : Value) (a1 : Value) (a2 : Value) (K : Value → M) : M :=
  New (.cells (Value.cells a2) 80 (0, 0)) <| gh fun v_1 =>
  Draw fun S =>
    Rv (some S) (ldNR 4 v_1) fun v2 =>
    Cal Tryd.prog ω 54 #[a1, v2] <| gh <| Keep S fun v3 =>
    Rv (some S) (ldNR 4 v_1) fun v4 =>
    Cal Tryd.prog ω 53 #[v4] <| gh fun v5 =>
    Cal Tryd.prog ω 50 #[a0, v3, v5, (Value.bool false)] <| gh fun v6 =>
    K (Value.tuple #[])
theorem sh28_eq (ω : Om) (a0 a1 a2 : Value) (K : Value → M) : vcF Tryd.prog ω Tryd.f28 [a0, a1, a2] K = sh28 ω a0 a1 a2 K := by kernel_rfl
theorem cal28 {ω : Om} {a0 a1 a2 : Value} {K : Value → M} {I : Imm} {L : LH} (h : sh28 ω a0 a1 a2 (fun v => Gh (K v)) I L) : Cal Tryd.prog ω 28 #[a0, a1, a2] K I L :=
  Cal.gh (cal_of_vc mixed Tryd.func28 (by rw [sh28_eq]; exact h))
def sh29 (ω : Om) (a0 : Value) (a1 : Value) (K : Value → M) : M :=
  Pv (nilV a0) fun v1 =>
  Pv (fldV 0 v1) fun v2 =>
  Rv none (ld1R v2) fun v3 =>
  Rv none (lkR .string (Value.pointer none) false v3 a1) fun v4 =>
  Pv (nilV v4) fun v5 =>
  Pv (fldV 0 v5) fun v6 =>
  Rv none (ld1R v6) fun v7 =>
  Pv (lenV v7) fun v8 =>
  Pv (binIV .gtr v8 (Value.int .i64 0)) fun v9 =>
  Gd v9 false
    (Pv (nilV v4) fun v10 =>
    Pv (fldV 1 v10) fun v11 =>
    Pv (fldV 4 v11) fun v12 =>
    Rv none (ld1R v12) fun v13 =>
    Pv (binIV .neq v13 (Value.int .i64 0)) fun v14 =>
    Br v14
      (K (Value.tuple #[]))
      (Pv (nilV a0) fun v15 =>
      Pv (fldV 0 v15) fun v16 =>
      Rv none (ld1R v16) fun v17 =>
      DelM .string v17 a1 <| gh fun _ =>
      Pv (nilV a0) fun v18 =>
      Pv (fldV 1 v18) fun v19 =>
      Rv none (ld1R v19) fun v20 =>
      Cal Tryd.prog ω 48 #[v20, a1] <| gh fun v21 =>
      Pv (exV v21 0) fun v22 =>
      Pv (exV v21 1) fun v23 =>
      Pv (nilV a0) fun v24 =>
      Pv (fldV 1 v24) fun v25 =>
      Rv none (ld1R v25) fun v26 =>
      Pv (binIV .add v22 (Value.int .i64 1)) fun v27 =>
      Cal Tryd.prog ω 55 #[v26, v22, v27] <| gh fun v28 =>
      Pv (nilV a0) fun v29 =>
      Pv (fldV 1 v29) fun v30 =>
      Sto 1 v30 v28 <| gh fun _ =>
      K (Value.tuple #[])))
    (K (Value.tuple #[]))
theorem sh29_eq (ω : Om) (a0 a1 : Value) (K : Value → M) : vcF Tryd.prog ω Tryd.f29 [a0, a1] K = sh29 ω a0 a1 K := by kernel_rfl
theorem cal29 {ω : Om} {a0 a1 : Value} {K : Value → M} {I : Imm} {L : LH} (h : sh29 ω a0 a1 (fun v => Gh (K v)) I L) : Cal Tryd.prog ω 29 #[a0, a1] K I L :=
  Cal.gh (cal_of_vc mixed Tryd.func29 (by rw [sh29_eq]; exact h))
def sh30 (ω : Om) (a0 : Value) (a1 : Value) (K : Value → M) : M :=
  New (.cells (Value.cells a0) 34 (0, 0)) <| gh fun at_1 =>
  Rv none (ldNR 2 at_1) fun v2 =>
  Cal Tryd.prog ω 23 #[v2] <| gh fun v3 =>
  Gd v3 true
    (Pv (binIV .eql a1 (Value.int .i64 0)) fun v4 =>
    Gd v4 false
      (Cal Tryd.prog ω 22 #[a1] <| gh fun v5 =>
      K v5)
      (K (Value.bool true)))
    (K (Value.bool false))
theorem sh30_eq (ω : Om) (a0 a1 : Value) (K : Value → M) : vcF Tryd.prog ω Tryd.f30 [a0, a1] K = sh30 ω a0 a1 K := by kernel_rfl
theorem cal30 {ω : Om} {a0 a1 : Value} {K : Value → M} {I : Imm} {L : LH} (h : sh30 ω a0 a1 (fun v => Gh (K v)) I L) : Cal Tryd.prog ω 30 #[a0, a1] K I L :=
  Cal.gh (cal_of_vc mixed Tryd.func30 (by rw [sh30_eq]; exact h))
def sh31 (ω : Om) (a0 : Value) (a1 : Value) (K : Value → M) : M :=
  New (.cells (Value.cells a0) 24 (0, 0)) <| gh fun s_1 =>
  New (.cells (Value.cells a1) 47 (0, 0)) <| gh fun p_2 =>
  K (Value.func (Fn.func 56) #[] #[s_1, p_2])
theorem sh31_eq (ω : Om) (a0 a1 : Value) (K : Value → M) : vcF Tryd.prog ω Tryd.f31 [a0, a1] K = sh31 ω a0 a1 K := by kernel_rfl
theorem cal31 {ω : Om} {a0 a1 : Value} {K : Value → M} {I : Imm} {L : LH} (h : sh31 ω a0 a1 (fun v => Gh (K v)) I L) : Cal Tryd.prog ω 31 #[a0, a1] K I L :=
  Cal.gh (cal_of_vc mixed Tryd.func31 (by rw [sh31_eq]; exact h))
def sh32_3 (ω : Om) (p6 : Value) (p7 : Value) (K : Value → M) : M :=
  Pv (bldV #[(Value.bool false), (Value.slice none 0 0), (Value.int .i64 0), (Value.int .i64 0), (Value.int .i64 0)] #[(0, 1), (1, 1), (2, 2), (4, 1)] []) fun v15 =>
  Sto 5 p6 v15 <| gh fun _ =>
  Rv none (ldNR 5 p6) fun v16 =>
  K (Value.tuple #[v16, (Value.int .i64 0)])
def sh32_2 (ω : Om) (p6 : Value) (p7 : Value) (p8 : Value) (K : Value → M) : M :=
  Pv (binPV .eql p8 (Value.pointer none)) fun v11 =>
  Gd v11 false
    (Pv (nilV p8) fun v12 =>
    Pv (fldV 2 v12) fun v13 =>
    Rv none (ld1R v13) fun v14 =>
    Br v14
      (sh32_3 ω p6 p7 K)
      (Draw fun S =>
        Pv (nilV p8) fun v17 =>
        Pv (fldV 3 v17) fun v18 =>
        Rv (some S) (ld1R v18) fun v19 =>
        CvSB 5 v19 <| gh <| Keep S fun v20 =>
        Pv (nilV p8) fun v21 =>
        Pv (fldV 0 v21) fun v22 =>
        Rv (some S) (ldNR 2 v22) fun v23 =>
        Pv (bldV #[(Value.bool false), (Value.slice none 0 0), (Value.int .i64 0), (Value.int .i64 0), (Value.int .i64 0)] #[(0, 1), (1, 1), (2, 2), (4, 1)] [(0, (Value.bool true)), (1, v20), (2, v23)]) fun v24 =>
        Sto 5 p6 v24 <| gh fun _ =>
        Rv none (ldNR 5 p6) fun v25 =>
        K (Value.tuple #[v25, (Value.int .i64 0)])))
    (sh32_3 ω p6 p7 K)
def sh32 (ω : Om) (a0 : Value) (a1 : Value) (a2 : Value) (K : Value → M) : M :=
  New (.cells (Value.cells a1) 34 (0, 0)) <| gh fun at_1 =>
  New (.cells #[(Value.bool false), (Value.slice none 0 0), (Value.int .i64 0), (Value.int .i64 0), (Value.int .i64 0)] 60 (0, 0)) <| gh fun v2 =>
  Rv none (ldNR 2 at_1) fun v3 =>
  Cal Tryd.prog ω 41 #[a0, v3] <| gh fun v4 =>
  Pv (nilV a0) fun v5 =>
  Pv (fldV 1 v5) fun v6 =>
  Pv (nilV v6) fun v7 =>
  Pv (fldV 4 v7) fun v8 =>
  Rv none (ld1R v8) fun v9 =>
  Pv (binIV .eql v9 (Value.int .i64 0)) fun v10 =>
  Br v10
    (sh32_2 ω v2 (Value.int .i64 0) v4 K)
    (Pv (nilV v6) fun v26 =>
    Pv (fldV 4 v26) fun v27 =>
    Rv none (ld1R v27) fun v28 =>
    Pv (binIV .eql v28 a2) fun v29 =>
    Br v29
      (Pv (nilV v6) fun v30 =>
      Pv (fldV 0 v30) fun v31 =>
      sh32_2 ω v2 (Value.int .i64 0) v31 K)
      (Draw fun S =>
        Pv (nilV v6) fun v32 =>
        Pv (fldV 0 v32) fun v33 =>
        Pv (fldV 0 v33) fun v34 =>
        Rv (some S) (ldNR 2 v34) fun v35 =>
        Rv (some S) (ldNR 2 at_1) fun v36 =>
        Cal Tryd.prog ω 24 #[v35, v36] <| gh fun v37 =>
        Pv (unV .not v37) fun v38 =>
        Br v38
          (Pv (nilV v6) fun v39 =>
          Pv (fldV 4 v39) fun v40 =>
          Rv none (ld1R v40) fun v41 =>
          Pv (bldV #[(Value.bool false), (Value.slice none 0 0), (Value.int .i64 0), (Value.int .i64 0), (Value.int .i64 0)] #[(0, 1), (1, 1), (2, 2), (4, 1)] [(3, v41)]) fun v42 =>
          Sto 5 v2 v42 <| gh fun _ =>
          Rv none (ldNR 5 v2) fun v43 =>
          K (Value.tuple #[v43, (Value.int .i64 130)]))
          (sh32_2 ω v2 (Value.int .i64 0) v4 K)))
theorem sh32_eq (ω : Om) (a0 a1 a2 : Value) (K : Value → M) : vcF Tryd.prog ω Tryd.f32 [a0, a1, a2] K = sh32 ω a0 a1 a2 K := by kernel_rfl
theorem cal32 {ω : Om} {a0 a1 a2 : Value} {K : Value → M} {I : Imm} {L : LH} (h : sh32 ω a0 a1 a2 (fun v => Gh (K v)) I L) : Cal Tryd.prog ω 32 #[a0, a1, a2] K I L :=
  Cal.gh (cal_of_vc mixed Tryd.func32 (by rw [sh32_eq]; exact h))
def sh33 (ω : Om) (a0 : Value) (K : Value → M) : M :=
  Pv (lenV a0) fun v1 =>
  Pv (lenV a0) fun v2 =>
  Pv (slcV 2 a0 none (some v1) (some v2)) fun v3 =>
  K v3
theorem sh33_eq (ω : Om) (a0 : Value) (K : Value → M) : vcF Tryd.prog ω Tryd.f33 [a0] K = sh33 ω a0 K := by kernel_rfl
theorem cal33 {ω : Om} {a0 : Value} {K : Value → M} {I : Imm} {L : LH} (h : sh33 ω a0 (fun v => Gh (K v)) I L) : Cal Tryd.prog ω 33 #[a0] K I L :=
  Cal.gh (cal_of_vc mixed Tryd.func33 (by rw [sh33_eq]; exact h))
def sh41_1 (ω : Om) (p0 : Value) (p3 : Value) (x4 : Value) (x5 : Value) (Kn0 : (Value × Value × Unit) → M) (K : Value → M) : M :=
  Pv (binIV .geq x5 (Value.int .i64 0)) fun v7 =>
  Br v7
    (Draw fun S =>
      Pv (nilV p0) fun v8 =>
      Pv (fldV 0 v8) fun v9 =>
      Rv (some S) (ld1R v9) fun v10 =>
      Pv (ixV 4 v10 x5) fun v11 =>
      Pv (fldV 0 v11) fun v12 =>
      Rv (some S) (ldNR 2 v12) fun v13 =>
      Rv (some S) (ldNR 2 p3) fun v14 =>
      Cal Tryd.prog ω 24 #[v13, v14] <| gh fun v15 =>
      Pv (unV .not v15) fun v16 =>
      Br v16
        (Pv (nilV p0) fun v17 =>
        Pv (fldV 0 v17) fun v18 =>
        Rv none (ld1R v18) fun v19 =>
        Pv (ixV 4 v19 x5) fun v20 =>
        K v20)
        (Pv (binIV .sub x5 (Value.int .i64 1)) fun v21 =>
        Kn0 (x4, v21, ())))
    (K (Value.pointer none))
def sh41 (ω : Om) (a0 : Value) (a1 : Value) (K : Value → M) : M :=
  New (.cells (Value.cells a1) 34 (0, 0)) <| gh fun at_1 =>
  Pv (nilV a0) fun v2 =>
  Pv (fldV 0 v2) fun v3 =>
  Rv none (ld1R v3) fun v4 =>
  Pv (lenV v4) fun v5 =>
  Pv (binIV .sub v5 (Value.int .i64 1)) fun v6 =>
  LoopM (((Value.pointer none), v6, ()) : Value × Value × Unit) fun s Kn0 =>
  sh41_1 ω a0 at_1 s.1 s.2.1 Kn0 K
theorem sh41_eq (ω : Om) (a0 a1 : Value) (K : Value → M) : vcF Tryd.prog ω Tryd.f41 [a0, a1] K = sh41 ω a0 a1 K := by kernel_rfl
theorem cal41 {ω : Om} {a0 a1 : Value} {K : Value → M} {I : Imm} {L : LH} (h : sh41 ω a0 a1 (fun v => Gh (K v)) I L) : Cal Tryd.prog ω 41 #[a0, a1] K I L :=
  Cal.gh (cal_of_vc mixed Tryd.func41 (by rw [sh41_eq]; exact h))
def sh46 (ω : Om) (a0 : Value) (K : Value → M) : M :=
  Pv (binIV .geq a0 (Value.int .i64 0)) fun v1 =>
  Gd v1 true
    (Pv (binIV .leq a0 (Value.int .i64 9007199254740991)) fun v2 =>
    K v2)
    (K (Value.bool false))
theorem sh46_eq (ω : Om) (a0 : Value) (K : Value → M) : vcF Tryd.prog ω Tryd.f46 [a0] K = sh46 ω a0 K := by kernel_rfl
theorem cal46 {ω : Om} {a0 : Value} {K : Value → M} {I : Imm} {L : LH} (h : sh46 ω a0 (fun v => Gh (K v)) I L) : Cal Tryd.prog ω 46 #[a0] K I L :=
  Cal.gh (cal_of_vc mixed Tryd.func46 (by rw [sh46_eq]; exact h))
def sh47 (ω : Om) (a0 : Value) (a1 : Value) (K : Value → M) : M :=
  New (.cells (Value.cells a0) 34 (0, 0)) <| gh fun a_1 =>
  New (.cells (Value.cells a1) 34 (0, 0)) <| gh fun b_2 =>
  Draw fun S =>
    Pv (fldV 0 a_1) fun v3 =>
    Rv (some S) (ld1R v3) fun v4 =>
    Pv (fldV 0 b_2) fun v5 =>
    Rv (some S) (ld1R v5) fun v6 =>
    Cal Tryd.prog ω 75 #[v4, v6] <| gh <| Keep S fun v7 =>
    Pv (fldV 1 a_1) fun v8 =>
    Rv (some S) (ld1R v8) fun v9 =>
    Pv (fldV 1 b_2) fun v10 =>
    Rv (some S) (ld1R v10) fun v11 =>
    Cal Tryd.prog ω 75 #[v9, v11] <| gh fun v12 =>
    BldS 3 1 #[(Value.int .i64 0)] 2 [(0, v7), (1, v12)] <| gh fun v13 =>
    Cal Tryd.prog ω 74 #[v13] <| gh fun v14 =>
    K v14
theorem sh47_eq (ω : Om) (a0 a1 : Value) (K : Value → M) : vcF Tryd.prog ω Tryd.f47 [a0, a1] K = sh47 ω a0 a1 K := by kernel_rfl
theorem cal47 {ω : Om} {a0 a1 : Value} {K : Value → M} {I : Imm} {L : LH} (h : sh47 ω a0 a1 (fun v => Gh (K v)) I L) : Cal Tryd.prog ω 47 #[a0, a1] K I L :=
  Cal.gh (cal_of_vc mixed Tryd.func47 (by rw [sh47_eq]; exact h))
def sh48_4 (ω : Om) (p0 : Value) (p1 : Value) (p4 : Value) (p5 : Value) (p6 : Value) (p7 : Value) (K : Value → M) : M :=
  Pv (binIV .lss p7 p6) fun v11 =>
  Gd v11 true
    (Pv (ixV 1 p0 p7) fun v12 =>
    Rv none (ld1R v12) fun v13 =>
    Pv (binSV .eql v13 p1) fun v14 =>
    Gd v14 false
      (Pv (ixV 1 p0 p7) fun v15 =>
      Rv none (ld1R v15) fun v16 =>
      Cal Tryd.prog ω 77 #[v16] <| gh fun v17 =>
      Gd v17 true
        (Cal Tryd.prog ω 77 #[p1] <| gh fun v18 =>
        K (Value.tuple #[p7, v18]))
        (K (Value.tuple #[p7, (Value.bool false)])))
      (K (Value.tuple #[p7, (Value.bool true)])))
    (K (Value.tuple #[p7, (Value.bool false)]))
def sh48_1 (ω : Om) (p0 : Value) (p1 : Value) (p4 : Value) (p5 : Value) (p6 : Value) (x7 : Value) (x8 : Value) (Kn0 : (Value × Value × Unit) → M) (K : Value → M) : M :=
  Pv (binIV .lss x7 x8) fun v2 =>
  Br v2
    (Pv (binIV .add x7 x8) fun v3 =>
    Pv (cvIV .u64 v3) fun v4 =>
    Pv (binIV .shr v4 (Value.int .u64 1)) fun v5 =>
    Pv (cvIV .i64 v5) fun v6 =>
    Pv (ixV 1 p0 v6) fun v7 =>
    Rv none (ld1R v7) fun v8 =>
    Cal Tryd.prog ω 76 #[v8, p1] <| gh fun v9 =>
    Br v9
      (Pv (binIV .add v6 (Value.int .i64 1)) fun v10 =>
      Kn0 (v10, x8, ()))
      (Kn0 (x7, v6, ())))
    (sh48_4 ω p0 p1 p4 p5 p6 x7 K)
def sh48 (ω : Om) (a0 : Value) (a1 : Value) (K : Value → M) : M :=
  Pv (lenV a0) fun v1 =>
  LoopM (((Value.int .i64 0), v1, ()) : Value × Value × Unit) fun s Kn0 =>
  sh48_1 ω a0 a1 (Value.int .i64 0) (Value.bool false) v1 s.1 s.2.1 Kn0 K
theorem sh48_eq (ω : Om) (a0 a1 : Value) (K : Value → M) : vcF Tryd.prog ω Tryd.f48 [a0, a1] K = sh48 ω a0 a1 K := by kernel_rfl
theorem cal48 {ω : Om} {a0 a1 : Value} {K : Value → M} {I : Imm} {L : LH} (h : sh48 ω a0 a1 (fun v => Gh (K v)) I L) : Cal Tryd.prog ω 48 #[a0, a1] K I L :=
  Cal.gh (cal_of_vc mixed Tryd.func48 (by rw [sh48_eq]; exact h))
def sh49 (ω : Om) (a0 : Value) (a1 : Value) (a2 : Value) (K : Value → M) : M :=
  Pv (slcV 1 a0 (some a1) none none) fun v1 =>
  Pv (lenV a2) fun v2 =>
  Pv (binIV .eql v2 (Value.int .i64 0)) fun v3 =>
  Br v3
    (K a0)
    (Pv (lenV a0) fun v4 =>
    Pv (binIV .eql a1 v4) fun v5 =>
    Br v5
      (App 9 1 16 #[(Value.string (ByteArray.mk #[]))] a0 a2 <| gh fun v6 =>
      K v6)
      (Pv (binIV .add v4 v2) fun v7 =>
      Pv (capV a0) fun v8 =>
      Pv (binIV .gtr v7 v8) fun v9 =>
      Br v9
        (Pv (slcV 1 a0 none (some a1) none) fun v10 =>
        Pv (binIV .add v4 v2) fun v11 =>
        Pv (binIV .sub v11 a1) fun v12 =>
        AppZ 9 1 16 #[(Value.string (ByteArray.mk #[]))] v10 v12 <| gh fun v13 =>
        Pv (slcV 1 v13 (some a1) none none) fun v14 =>
        CpyV 1 v14 a2 <| gh fun v15 =>
        Draw fun S =>
          Pv (binIV .add a1 v2) fun v16 =>
          Pv (slcV 1 v13 (some v16) none none) fun v17 =>
          Pv (slcV 1 a0 (some a1) none none) fun v18 =>
          CpyV 1 v17 v18 <| gh fun v19 =>
          K v13)
        (Pv (binIV .add v4 v2) fun v20 =>
        Pv (slcV 1 a0 none (some v20) none) fun v21 =>
        Pv (binIV .add a1 v2) fun v22 =>
        Pv (slcV 1 v21 (some v22) none none) fun v23 =>
        ExtE Tryd.prog ω (Extern.SlicesOverlaps.overlaps #[72, 72] #[4]) #[a2, v23] <| gh fun v24 =>
        Pv (unV .not v24) fun v25 =>
        Br v25
          (Draw fun S =>
            Pv (binIV .add a1 v2) fun v26 =>
            Pv (slcV 1 v21 (some v26) none none) fun v27 =>
            Pv (slcV 1 v21 (some a1) none none) fun v28 =>
            CpyV 1 v27 v28 <| gh fun v29 =>
            Pv (slcV 1 v21 (some a1) none none) fun v30 =>
            CpyV 1 v30 a2 <| gh fun v31 =>
            K v21)
          (Pv (slcV 1 v21 (some v4) none none) fun v32 =>
          CpyV 1 v32 a2 <| gh fun v33 =>
          Pv (slcV 1 v21 (some a1) none none) fun v34 =>
          Cal Tryd.prog ω 79 #[v34, v2] <| gh fun v35 =>
          K v21))))
theorem sh49_eq (ω : Om) (a0 a1 a2 : Value) (K : Value → M) : vcF Tryd.prog ω Tryd.f49 [a0, a1, a2] K = sh49 ω a0 a1 a2 K := by kernel_rfl
theorem cal49 {ω : Om} {a0 a1 a2 : Value} {K : Value → M} {I : Imm} {L : LH} (h : sh49 ω a0 a1 a2 (fun v => Gh (K v)) I L) : Cal Tryd.prog ω 49 #[a0, a1, a2] K I L :=
  Cal.gh (cal_of_vc mixed Tryd.func49 (by rw [sh49_eq]; exact h))
def sh50 (ω : Om) (a0 : Value) (a1 : Value) (a2 : Value) (a3 : Value) (K : Value → M) : M :=
  Draw fun S =>
    Pv (nilV a0) fun v1 =>
    Pv (fldV 4 v1) fun v2 =>
    Rv (some S) (ld1R v2) fun v3 =>
    Rv (some S) (bsR a1) fun v4 =>
    Pv (bldV #[(Value.bool false), (Value.slice none 0 0), (Value.slice none 0 0)] #[(0, 1), (1, 1), (2, 1)] [(0, a3), (1, a1), (2, a2)]) fun v5 =>
    PutM .string v3 v4 v5 <| gh fun _ =>
    K (Value.tuple #[])
theorem sh50_eq (ω : Om) (a0 a1 a2 a3 : Value) (K : Value → M) : vcF Tryd.prog ω Tryd.f50 [a0, a1, a2, a3] K = sh50 ω a0 a1 a2 a3 K := by kernel_rfl
theorem cal50 {ω : Om} {a0 a1 a2 a3 : Value} {K : Value → M} {I : Imm} {L : LH} (h : sh50 ω a0 a1 a2 a3 (fun v => Gh (K v)) I L) : Cal Tryd.prog ω 50 #[a0, a1, a2, a3] K I L :=
  Cal.gh (cal_of_vc mixed Tryd.func50 (by rw [sh50_eq]; exact h))
def sh51_3 (ω : Om) (p1 : Value) (p2 : Value) (p3 : Value) (p4 : Value) (K : Value → M) : M :=
  Pv (fldV 1 p1) fun v14 =>
  Rv none (ld1R v14) fun v15 =>
  Pv (binIV .shr v15 (Value.int .u64 8)) fun v16 =>
  Pv (cvIV .u8 v16) fun v17 =>
  Pv (fldV 1 p1) fun v18 =>
  Rv none (ld1R v18) fun v19 =>
  Pv (cvIV .u8 v19) fun v20 =>
  BldS 5 1 #[(Value.int .u8 0)] 2 [(0, v17), (1, v20)] <| gh fun v21 =>
  App 5 1 1 #[(Value.int .u8 0)] p4 v21 <| gh fun v22 =>
  K (Value.tuple #[v22, (Value.int .i64 0)])
def sh51_1 (ω : Om) (p1 : Value) (p2 : Value) (p3 : Value) (x4 : Value) (x5 : Value) (Kn0 : (Value × Value × Unit) → M) (K : Value → M) : M :=
  Pv (binIV .geq x5 (Value.int .i64 0)) fun v6 =>
  Br v6
    (Pv (fldV 0 p1) fun v7 =>
    Rv none (ld1R v7) fun v8 =>
    Pv (binIV .shr v8 x5) fun v9 =>
    Pv (cvIV .u8 v9) fun v10 =>
    BldS 5 1 #[(Value.int .u8 0)] 1 [(0, v10)] <| gh fun v11 =>
    App 5 1 1 #[(Value.int .u8 0)] x4 v11 <| gh fun v12 =>
    Pv (binIV .sub x5 (Value.int .i64 8)) fun v13 =>
    Kn0 (v12, v13, ()))
    (sh51_3 ω p1 p2 p3 x4 K)
def sh51 (ω : Om) (a0 : Value) (K : Value → M) : M :=
  New (.cells (Value.cells a0) 34 (0, 0)) <| gh fun s_1 =>
  Rv none (ldNR 2 s_1) fun v2 =>
  Cal Tryd.prog ω 23 #[v2] <| gh fun v3 =>
  Pv (unV .not v3) fun v4 =>
  Br v4
    (K (Value.tuple #[(Value.slice none 0 0), (Value.int .i64 80)]))
    (MkS 5 1 #[(Value.int .u8 0)] (Value.int .i64 0) (Value.int .i64 9) <| gh fun v5 =>
    LoopM ((v5, (Value.int .i64 48), ()) : Value × Value × Unit) fun s Kn0 =>
    sh51_1 ω s_1 (Value.slice none 0 0) (Value.int .i64 0) s.1 s.2.1 Kn0 K)
theorem sh51_eq (ω : Om) (a0 : Value) (K : Value → M) : vcF Tryd.prog ω Tryd.f51 [a0] K = sh51 ω a0 K := by kernel_rfl
theorem cal51 {ω : Om} {a0 : Value} {K : Value → M} {I : Imm} {L : LH} (h : sh51 ω a0 (fun v => Gh (K v)) I L) : Cal Tryd.prog ω 51 #[a0] K I L :=
  Cal.gh (cal_of_vc mixed Tryd.func51 (by rw [sh51_eq]; exact h))
def sh52_3 (ω : Om) (p0 : Value) (p2 : Value) (p3 : Value) (K : Value → M) : M :=
  Pv (cvIV .u8 p0) fun v7 =>
  BldS 5 1 #[(Value.int .u8 0)] 1 [(0, v7)] <| gh fun v8 =>
  App 5 1 1 #[(Value.int .u8 0)] p3 v8 <| gh fun v9 =>
  Cal Tryd.prog ω 80 #[v9] <| gh fun v10 =>
  K v10
def sh52_1 (ω : Om) (p2 : Value) (x0 : Value) (x3 : Value) (Kn0 : (Value × Value × Unit) → M) (K : Value → M) : M :=
  Pv (binIV .gtr x0 (Value.int .u64 127)) fun v1 =>
  Br v1
    (Pv (cvIV .u8 x0) fun v2 =>
    Pv (binIV .or v2 (Value.int .u8 128)) fun v3 =>
    BldS 5 1 #[(Value.int .u8 0)] 1 [(0, v3)] <| gh fun v4 =>
    App 5 1 1 #[(Value.int .u8 0)] x3 v4 <| gh fun v5 =>
    Pv (binIV .shr x0 (Value.int .u64 7)) fun v6 =>
    Kn0 (v6, v5, ()))
    (sh52_3 ω x0 p2 x3 K)
def sh52 (ω : Om) (a0 : Value) (K : Value → M) : M :=
  LoopM ((a0, (Value.slice none 0 0), ()) : Value × Value × Unit) fun s Kn0 =>
  sh52_1 ω (Value.slice none 0 0) s.1 s.2.1 Kn0 K
theorem sh52_eq (ω : Om) (a0 : Value) (K : Value → M) : vcF Tryd.prog ω Tryd.f52 [a0] K = sh52 ω a0 K := by kernel_rfl
theorem cal52 {ω : Om} {a0 : Value} {K : Value → M} {I : Imm} {L : LH} (h : sh52 ω a0 (fun v => Gh (K v)) I L) : Cal Tryd.prog ω 52 #[a0] K I L :=
  Cal.gh (cal_of_vc mixed Tryd.func52 (by rw [sh52_eq]; exact h))
def sh53 (ω : Om) (a0 : Value) (K : Value → M) : M :=
  New (.cells (Value.cells a0) 80 (0, 0)) <| gh fun v_1 =>
  Pv (fldV 2 v_1) fun v2 =>
  Rv none (ld1R v2) fun v3 =>
  Br v3
    (BldS 5 1 #[(Value.int .u8 0)] 1 [(0, (Value.int .u8 1))] <| gh fun v4 =>
    K v4)
    (BldS 5 1 #[(Value.int .u8 0)] 1 [(0, (Value.int .u8 0))] <| gh fun v5 =>
    Pv (fldV 3 v_1) fun v6 =>
    Rv none (ld1R v6) fun v7 =>
    App 5 1 1 #[(Value.int .u8 0)] v5 v7 <| gh fun v8 =>
    K v8)
theorem sh53_eq (ω : Om) (a0 : Value) (K : Value → M) : vcF Tryd.prog ω Tryd.f53 [a0] K = sh53 ω a0 K := by kernel_rfl
theorem cal53 {ω : Om} {a0 : Value} {K : Value → M} {I : Imm} {L : LH} (h : sh53 ω a0 (fun v => Gh (K v)) I L) : Cal Tryd.prog ω 53 #[a0] K I L :=
  Cal.gh (cal_of_vc mixed Tryd.func53 (by rw [sh53_eq]; exact h))
def sh54 (ω : Om) (a0 : Value) (a1 : Value) (K : Value → M) : M :=
  New (.cells (Value.cells a1) 80 (0, 0)) <| gh fun v_1 =>
  Pv (fldV 0 v_1) fun v2 =>
  Rv none (ldNR 2 v2) fun v3 =>
  Cal Tryd.prog ω 51 #[v3] <| gh fun v4 =>
  Pv (exV v4 0) fun v5 =>
  Pv (exV v4 1) fun v6 =>
  BldS 5 1 #[(Value.int .u8 0)] 1 [(0, (Value.int .u8 118))] <| gh fun v7 =>
  CvSB 5 a0 <| gh fun v8 =>
  Cal Tryd.prog ω 81 #[v8] <| gh fun v9 =>
  App 5 1 1 #[(Value.int .u8 0)] v7 v9 <| gh fun v10 =>
  App 5 1 1 #[(Value.int .u8 0)] v10 v5 <| gh fun v11 =>
  K v11
theorem sh54_eq (ω : Om) (a0 a1 : Value) (K : Value → M) : vcF Tryd.prog ω Tryd.f54 [a0, a1] K = sh54 ω a0 a1 K := by kernel_rfl
theorem cal54 {ω : Om} {a0 a1 : Value} {K : Value → M} {I : Imm} {L : LH} (h : sh54 ω a0 a1 (fun v => Gh (K v)) I L) : Cal Tryd.prog ω 54 #[a0, a1] K I L :=
  Cal.gh (cal_of_vc mixed Tryd.func54 (by rw [sh54_eq]; exact h))
def sh55 (ω : Om) (a0 : Value) (a1 : Value) (a2 : Value) (K : Value → M) : M :=
  Pv (lenV a0) fun v1 =>
  Pv (slcV 1 a0 (some a1) (some a2) (some v1)) fun v2 =>
  Pv (binIV .eql a1 a2) fun v3 =>
  Br v3
    (K a0)
    (Pv (lenV a0) fun v4 =>
    Draw fun S =>
      Pv (slcV 1 a0 none (some a1) none) fun v5 =>
      Pv (slcV 1 a0 (some a2) none none) fun v6 =>
      App 9 1 16 #[(Value.string (ByteArray.mk #[]))] v5 v6 <| gh fun v7 =>
      Pv (lenV v7) fun v8 =>
      Pv (slcV 1 v7 (some v8) (some v4) none) fun v9 =>
      ClrV #[(Value.string (ByteArray.mk #[]))] v9 <| gh fun _ =>
      K v7)
theorem sh55_eq (ω : Om) (a0 a1 a2 : Value) (K : Value → M) : vcF Tryd.prog ω Tryd.f55 [a0, a1, a2] K = sh55 ω a0 a1 a2 K := by kernel_rfl
theorem cal55 {ω : Om} {a0 a1 a2 : Value} {K : Value → M} {I : Imm} {L : LH} (h : sh55 ω a0 a1 a2 (fun v => Gh (K v)) I L) : Cal Tryd.prog ω 55 #[a0, a1, a2] K I L :=
  Cal.gh (cal_of_vc mixed Tryd.func55 (by rw [sh55_eq]; exact h))
def sh56_1 (ω : Om) (p0 : Value) (p1 : Value) (p2 : Value) (p24 : Value) (p25 : Value) (x26 : Value) (Kn0 : (Value × Unit) → M) (K : Value → M) : M :=
  Pv (binIV .lss x26 p25) fun v17 =>
  Br v17
    (Pv (ixV 1 p24 x26) fun v18 =>
    Rv none (ld1R v18) fun v19 =>
    Pv (fldV 1 p2) fun v20 =>
    Rv none (ld1R v20) fun v21 =>
    Pv (lenV v21) fun v22 =>
    Pv (binIV .gtr v22 (Value.int .i64 0)) fun v23 =>
    Gd v23 true
      (Pv (fldV 1 p2) fun v24 =>
      Rv none (ld1R v24) fun v25 =>
      Rv none (bsR v25) fun v26 =>
      Pv (binSV .geq v19 v26) fun v27 =>
      Gd v27 false
        (Rv none (ld1R p1) fun v28 =>
        Pv (nilV v28) fun v29 =>
        Pv (fldV 0 v29) fun v30 =>
        Rv none (ld1R v30) fun v31 =>
        Rv none (lkR .string (Value.pointer none) false v31 v19) fun v32 =>
        CalV Tryd.prog ω p0 #[v19, v32] <| gh fun v33 =>
        Pv (unV .not v33) fun v34 =>
        Br v34
          (K (Value.tuple #[]))
          (Pv (binIV .add x26 (Value.int .i64 1)) fun v35 =>
          Kn0 (v35, ())))
        (K (Value.tuple #[])))
      (Rv none (ld1R p1) fun v36 =>
      Pv (nilV v36) fun v37 =>
      Pv (fldV 0 v37) fun v38 =>
      Rv none (ld1R v38) fun v39 =>
      Rv none (lkR .string (Value.pointer none) false v39 v19) fun v40 =>
      CalV Tryd.prog ω p0 #[v19, v40] <| gh fun v41 =>
      Pv (unV .not v41) fun v42 =>
      Br v42
        (K (Value.tuple #[]))
        (Pv (binIV .add x26 (Value.int .i64 1)) fun v43 =>
        Kn0 (v43, ()))))
    (K (Value.tuple #[]))
def sh56 (ω : Om) (a0 : Value) (a1 : Value) (a2 : Value) (K : Value → M) : M :=
  Draw fun S =>
    Rv (some S) (ld1R a1) fun v1 =>
    Pv (nilV v1) fun v2 =>
    Pv (fldV 1 v2) fun v3 =>
    Rv (some S) (ld1R v3) fun v4 =>
    Pv (fldV 0 a2) fun v5 =>
    Rv (some S) (ld1R v5) fun v6 =>
    Rv (some S) (bsR v6) fun v7 =>
    Cal Tryd.prog ω 48 #[v4, v7] <| gh fun v8 =>
    Pv (exV v8 0) fun v9 =>
    Pv (exV v8 1) fun v10 =>
    Rv none (ld1R a1) fun v11 =>
    Pv (nilV v11) fun v12 =>
    Pv (fldV 1 v12) fun v13 =>
    Rv none (ld1R v13) fun v14 =>
    Pv (slcV 1 v14 (some v9) none none) fun v15 =>
    Pv (lenV v15) fun v16 =>
    LoopM (((Value.int .i64 0), ()) : Value × Unit) fun s Kn0 =>
    sh56_1 ω a0 a1 a2 v15 v16 s.1 Kn0 K
theorem sh56_eq (ω : Om) (a0 a1 a2 : Value) (K : Value → M) : vcF Tryd.prog ω Tryd.f56 [a0, a1, a2] K = sh56 ω a0 a1 a2 K := by kernel_rfl
theorem cal56 {ω : Om} {a0 a1 a2 : Value} {K : Value → M} {I : Imm} {L : LH} (h : sh56 ω a0 a1 a2 (fun v => Gh (K v)) I L) : Cal Tryd.prog ω 56 #[a0, a1, a2] K I L :=
  Cal.gh (cal_of_vc mixed Tryd.func56 (by rw [sh56_eq]; exact h))
def sh74_1 (ω : Om) (p3 : Value) (p6 : Value) (p7 : Value) (x2 : Value) (x8 : Value) (Kn0 : (Value × Value × Unit) → M) (K : Value → M) : M :=
  Pv (binIV .lss x8 p7) fun v2 =>
  Br v2
    (Pv (ixV 1 p6 x8) fun v3 =>
    Rv none (ld1R v3) fun v4 =>
    Pv (binIV .neq v4 p3) fun v5 =>
    Br v5
      (K v4)
      (Pv (binIV .add x8 (Value.int .i64 1)) fun v6 =>
      Kn0 (x2, v6, ())))
    (K p3)
def sh74 (ω : Om) (a0 : Value) (K : Value → M) : M :=
  Pv (lenV a0) fun v1 =>
  LoopM (((Value.int .i64 0), (Value.int .i64 0), ()) : Value × Value × Unit) fun s Kn0 =>
  sh74_1 ω (Value.int .i64 0) a0 v1 s.1 s.2.1 Kn0 K
theorem sh74_eq (ω : Om) (a0 : Value) (K : Value → M) : vcF Tryd.prog ω Tryd.f74 [a0] K = sh74 ω a0 K := by kernel_rfl
theorem cal74 {ω : Om} {a0 : Value} {K : Value → M} {I : Imm} {L : LH} (h : sh74 ω a0 (fun v => Gh (K v)) I L) : Cal Tryd.prog ω 74 #[a0] K I L :=
  Cal.gh (cal_of_vc mixed Tryd.func74 (by rw [sh74_eq]; exact h))
def sh75 (ω : Om) (a0 : Value) (a1 : Value) (K : Value → M) : M :=
  Cal Tryd.prog ω 84 #[a0] <| gh fun v1 =>
  Cal Tryd.prog ω 84 #[a1] <| gh fun v2 =>
  Br v1
    (Br v2
      (K (Value.int .i64 0))
      (K (Value.int .i64 (-1))))
    (Br v2
      (K (Value.int .i64 1))
      (Pv (binIV .lss a0 a1) fun v3 =>
      Br v3
        (K (Value.int .i64 (-1)))
        (Pv (binIV .gtr a0 a1) fun v4 =>
        Br v4
          (K (Value.int .i64 1))
          (K (Value.int .i64 0)))))
theorem sh75_eq (ω : Om) (a0 a1 : Value) (K : Value → M) : vcF Tryd.prog ω Tryd.f75 [a0, a1] K = sh75 ω a0 a1 K := by kernel_rfl
theorem cal75 {ω : Om} {a0 a1 : Value} {K : Value → M} {I : Imm} {L : LH} (h : sh75 ω a0 a1 (fun v => Gh (K v)) I L) : Cal Tryd.prog ω 75 #[a0, a1] K I L :=
  Cal.gh (cal_of_vc mixed Tryd.func75 (by rw [sh75_eq]; exact h))
def sh76 (ω : Om) (a0 : Value) (a1 : Value) (K : Value → M) : M :=
  Cal Tryd.prog ω 85 #[a0] <| gh fun v1 =>
  Gd v1 true
    (Cal Tryd.prog ω 85 #[a1] <| gh fun v2 =>
    Pv (unV .not v2) fun v3 =>
    Gd v3 false
      (Pv (binSV .lss a0 a1) fun v4 =>
      K v4)
      (K (Value.bool true)))
    (Pv (binSV .lss a0 a1) fun v5 =>
    K v5)
theorem sh76_eq (ω : Om) (a0 a1 : Value) (K : Value → M) : vcF Tryd.prog ω Tryd.f76 [a0, a1] K = sh76 ω a0 a1 K := by kernel_rfl
theorem cal76 {ω : Om} {a0 a1 : Value} {K : Value → M} {I : Imm} {L : LH} (h : sh76 ω a0 a1 (fun v => Gh (K v)) I L) : Cal Tryd.prog ω 76 #[a0, a1] K I L :=
  Cal.gh (cal_of_vc mixed Tryd.func76 (by rw [sh76_eq]; exact h))
def sh77 (ω : Om) (a0 : Value) (K : Value → M) : M :=
  Pv (binSV .neq a0 a0) fun v1 =>
  K v1
theorem sh77_eq (ω : Om) (a0 : Value) (K : Value → M) : vcF Tryd.prog ω Tryd.f77 [a0] K = sh77 ω a0 K := by kernel_rfl
theorem cal77 {ω : Om} {a0 : Value} {K : Value → M} {I : Imm} {L : LH} (h : sh77 ω a0 (fun v => Gh (K v)) I L) : Cal Tryd.prog ω 77 #[a0] K I L :=
  Cal.gh (cal_of_vc mixed Tryd.func77 (by rw [sh77_eq]; exact h))
def sh80 (ω : Om) (a0 : Value) (K : Value → M) : M :=
  Pv (lenV a0) fun v1 =>
  Pv (lenV a0) fun v2 =>
  Pv (slcV 1 a0 none (some v1) (some v2)) fun v3 =>
  K v3
theorem sh80_eq (ω : Om) (a0 : Value) (K : Value → M) : vcF Tryd.prog ω Tryd.f80 [a0] K = sh80 ω a0 K := by kernel_rfl
theorem cal80 {ω : Om} {a0 : Value} {K : Value → M} {I : Imm} {L : LH} (h : sh80 ω a0 (fun v => Gh (K v)) I L) : Cal Tryd.prog ω 80 #[a0] K I L :=
  Cal.gh (cal_of_vc mixed Tryd.func80 (by rw [sh80_eq]; exact h))
def sh81 (ω : Om) (a0 : Value) (K : Value → M) : M :=
  BldS 5 1 #[(Value.int .u8 0)] 1 [(0, (Value.int .u8 0))] <| gh fun v1 =>
  BldS 5 1 #[(Value.int .u8 0)] 2 [(0, (Value.int .u8 0)), (1, (Value.int .u8 255))] <| gh fun v2 =>
  Cal Tryd.prog ω 87 #[a0, v1, v2] <| gh fun v3 =>
  BldS 5 1 #[(Value.int .u8 0)] 2 [(0, (Value.int .u8 0)), (1, (Value.int .u8 1))] <| gh fun v4 =>
  BldS 29 1 #[(Value.slice none 0 0)] 2 [(0, v3), (1, v4)] <| gh fun v5 =>
  Cal Tryd.prog ω 88 #[v5] <| gh fun v6 =>
  K v6
theorem sh81_eq (ω : Om) (a0 : Value) (K : Value → M) : vcF Tryd.prog ω Tryd.f81 [a0] K = sh81 ω a0 K := by kernel_rfl
theorem cal81 {ω : Om} {a0 : Value} {K : Value → M} {I : Imm} {L : LH} (h : sh81 ω a0 (fun v => Gh (K v)) I L) : Cal Tryd.prog ω 81 #[a0] K I L :=
  Cal.gh (cal_of_vc mixed Tryd.func81 (by rw [sh81_eq]; exact h))
def sh84 (ω : Om) (a0 : Value) (K : Value → M) : M :=
  Pv (binIV .neq a0 a0) fun v1 =>
  K v1
theorem sh84_eq (ω : Om) (a0 : Value) (K : Value → M) : vcF Tryd.prog ω Tryd.f84 [a0] K = sh84 ω a0 K := by kernel_rfl
theorem cal84 {ω : Om} {a0 : Value} {K : Value → M} {I : Imm} {L : LH} (h : sh84 ω a0 (fun v => Gh (K v)) I L) : Cal Tryd.prog ω 84 #[a0] K I L :=
  Cal.gh (cal_of_vc mixed Tryd.func84 (by rw [sh84_eq]; exact h))
def sh85 (ω : Om) (a0 : Value) (K : Value → M) : M :=
  Pv (binSV .neq a0 a0) fun v1 =>
  K v1
theorem sh85_eq (ω : Om) (a0 : Value) (K : Value → M) : vcF Tryd.prog ω Tryd.f85 [a0] K = sh85 ω a0 K := by kernel_rfl
theorem cal85 {ω : Om} {a0 : Value} {K : Value → M} {I : Imm} {L : LH} (h : sh85 ω a0 (fun v => Gh (K v)) I L) : Cal Tryd.prog ω 85 #[a0] K I L :=
  Cal.gh (cal_of_vc mixed Tryd.func85 (by rw [sh85_eq]; exact h))
def sh87 (ω : Om) (a0 : Value) (a1 : Value) (a2 : Value) (K : Value → M) : M :=
  Cal Tryd.prog ω 90 #[a0, a1, a2, (Value.int .i64 (-1))] <| gh fun v1 =>
  K v1
theorem sh87_eq (ω : Om) (a0 a1 a2 : Value) (K : Value → M) : vcF Tryd.prog ω Tryd.f87 [a0, a1, a2] K = sh87 ω a0 a1 a2 K := by kernel_rfl
theorem cal87 {ω : Om} {a0 a1 a2 : Value} {K : Value → M} {I : Imm} {L : LH} (h : sh87 ω a0 a1 a2 (fun v => Gh (K v)) I L) : Cal Tryd.prog ω 87 #[a0, a1, a2] K I L :=
  Cal.gh (cal_of_vc mixed Tryd.func87 (by rw [sh87_eq]; exact h))
def sh88_3 (ω : Om) (p3 : Value) (p11 : Value) (Kn0 : (Value × Value × Unit) → M) (K : Value → M) : M :=
  Pv (binIV .add p11 (Value.int .i64 1)) fun v8 =>
  Kn0 (p3, v8, ())
def sh88_6 (ω : Om) (p2 : Value) (p25 : Value) (p26 : Value) (x6 : Value) (x27 : Value) (Kn1 : (Value × Value × Unit) → M) (K : Value → M) : M :=
  Pv (binIV .lss x27 p26) fun v11 =>
  Br v11
    (Pv (ixV 1 p25 x27) fun v12 =>
    Rv none (ld1R v12) fun v13 =>
    App 5 1 1 #[(Value.int .u8 0)] x6 v13 <| gh fun v14 =>
    Pv (binIV .add x27 (Value.int .i64 1)) fun v15 =>
    Kn1 (v14, v15, ()))
    (K x6)
def sh88_5 (ω : Om) (p0 : Value) (p2 : Value) (p3 : Value) (K : Value → M) : M :=
  Cal Tryd.prog ω 91 #[(Value.slice none 0 0), p3] <| gh fun v9 =>
  Pv (lenV p0) fun v10 =>
  LoopM ((v9, (Value.int .i64 0), ()) : Value × Value × Unit) fun s Kn1 =>
  sh88_6 ω p2 p0 v10 s.1 s.2.1 Kn1 K
def sh88_1 (ω : Om) (p0 : Value) (p2 : Value) (p9 : Value) (p10 : Value) (x3 : Value) (x11 : Value) (Kn0 : (Value × Value × Unit) → M) (K : Value → M) : M :=
  Pv (binIV .lss x11 p10) fun v2 =>
  Br v2
    (Pv (ixV 1 p9 x11) fun v3 =>
    Rv none (ld1R v3) fun v4 =>
    Pv (lenV v4) fun v5 =>
    Pv (binIV .add x3 v5) fun v6 =>
    Pv (binIV .lss v6 (Value.int .i64 0)) fun v7 =>
    Br v7
      (F /- panic -/)
      (sh88_3 ω v6 x11 Kn0 K))
    (sh88_5 ω p0 p2 x3 K)
def sh88 (ω : Om) (a0 : Value) (K : Value → M) : M :=
  Pv (lenV a0) fun v1 =>
  LoopM (((Value.int .i64 0), (Value.int .i64 0), ()) : Value × Value × Unit) fun s Kn0 =>
  sh88_1 ω a0 (Value.slice none 0 0) a0 v1 s.1 s.2.1 Kn0 K
theorem sh88_eq (ω : Om) (a0 : Value) (K : Value → M) : vcF Tryd.prog ω Tryd.f88 [a0] K = sh88 ω a0 K := by kernel_rfl
theorem cal88 {ω : Om} {a0 : Value} {K : Value → M} {I : Imm} {L : LH} (h : sh88 ω a0 (fun v => Gh (K v)) I L) : Cal Tryd.prog ω 88 #[a0] K I L :=
  Cal.gh (cal_of_vc mixed Tryd.func88 (by rw [sh88_eq]; exact h))
def sh90_6 (ω : Om) (p0 : Value) (p8 : Value) (p10 : Value) (p11 : Value) (p12 : Value) (K : Value → M) : M :=
  Draw fun S =>
    Pv (slcV 1 p10 (some p11) none none) fun v30 =>
    Pv (slcV 1 p0 (some p12) none none) fun v31 =>
    CpyV 1 v30 v31 <| gh fun v32 =>
    Pv (binIV .add p11 v32) fun v33 =>
    Pv (slcV 1 p10 (some (Value.int .i64 0)) (some v33) none) fun v34 =>
    K v34
def sh90_4 (ω : Om) (p0 : Value) (p1 : Value) (p2 : Value) (p8 : Value) (p10 : Value) (p48 : Value) (x11 : Value) (x12 : Value) (x49 : Value) (Kn0 : (Value × Value × Value × Unit) → M) (K : Value → M) : M :=
  Pv (binIV .lss x49 p48) fun v16 =>
  Br v16
    (Pv (slcV 1 p0 (some x12) none none) fun v17 =>
    Cal Tryd.prog ω 93 #[v17, p1] <| gh fun v18 =>
    Pv (binIV .add x12 v18) fun v19 =>
    Draw fun S =>
      Pv (slcV 1 p10 (some x11) none none) fun v20 =>
      Pv (slcV 1 p0 (some x12) (some v19) none) fun v21 =>
      CpyV 1 v20 v21 <| gh fun v22 =>
      Pv (binIV .add x11 v22) fun v23 =>
      Pv (slcV 1 p10 (some v23) none none) fun v24 =>
      CpyV 1 v24 p2 <| gh fun v25 =>
      Pv (binIV .add v23 v25) fun v26 =>
      Pv (lenV p1) fun v27 =>
      Pv (binIV .add v19 v27) fun v28 =>
      Pv (binIV .add x49 (Value.int .i64 1)) fun v29 =>
      Kn0 (v26, v28, v29, ()))
    (sh90_6 ω p0 p8 p10 x11 x12 K)
def sh90_7 (ω : Om) (p0 : Value) (p2 : Value) (p8 : Value) (p10 : Value) (p88 : Value) (x11 : Value) (x12 : Value) (x89 : Value) (Kn0 : (Value × Value × Value × Unit) → M) (K : Value → M) : M :=
  Pv (binIV .lss x89 p88) fun v39 =>
  Br v39
    (Pv (slcV 1 p0 (some x12) none none) fun v40 =>
    Cal Tryd.prog ω 94 #[v40] <| gh fun v41 =>
    Pv (exV v41 0) fun v42 =>
    Pv (exV v41 1) fun v43 =>
    Pv (binIV .add x12 v43) fun v44 =>
    Draw fun S =>
      Pv (slcV 1 p10 (some x11) none none) fun v45 =>
      Pv (slcV 1 p0 (some x12) (some v44) none) fun v46 =>
      CpyV 1 v45 v46 <| gh fun v47 =>
      Pv (binIV .add x11 v47) fun v48 =>
      Pv (slcV 1 p10 (some v48) none none) fun v49 =>
      CpyV 1 v49 p2 <| gh fun v50 =>
      Pv (binIV .add v48 v50) fun v51 =>
      Pv (binIV .add x89 (Value.int .i64 1)) fun v52 =>
      Kn0 (v51, v44, v52, ()))
    (sh90_6 ω p0 p8 p10 x11 x12 K)
def sh90_3 (ω : Om) (p0 : Value) (p1 : Value) (p2 : Value) (p3 : Value) (p8 : Value) (K : Value → M) : M :=
  Pv (lenV p0) fun v7 =>
  Pv (lenV p2) fun v8 =>
  Pv (lenV p1) fun v9 =>
  Pv (binIV .sub v8 v9) fun v10 =>
  Pv (binIV .mul p3 v10) fun v11 =>
  Pv (binIV .add v7 v11) fun v12 =>
  MkS 5 1 #[(Value.int .u8 0)] v12 v12 <| gh fun v13 =>
  Pv (lenV p1) fun v14 =>
  Pv (binIV .gtr v14 (Value.int .i64 0)) fun v15 =>
  Br v15
    (LoopM (((Value.int .i64 0), (Value.int .i64 0), (Value.int .i64 0), ()) : Value × Value × Value × Unit) fun s Kn0 =>
    sh90_4 ω p0 p1 p2 p8 v13 p3 s.1 s.2.1 s.2.2.1 Kn0 K)
    (Pv (slcV 1 v13 (some (Value.int .i64 0)) none none) fun v35 =>
    CpyV 1 v35 p2 <| gh fun v36 =>
    Pv (binIV .add (Value.int .i64 0) v36) fun v37 =>
    Pv (binIV .sub p3 (Value.int .i64 1)) fun v38 =>
    LoopM ((v37, (Value.int .i64 0), (Value.int .i64 0), ()) : Value × Value × Value × Unit) fun s Kn0 =>
    sh90_7 ω p0 p2 p8 v13 v38 s.1 s.2.1 s.2.2.1 Kn0 K)
def sh90_1 (ω : Om) (p0 : Value) (p1 : Value) (p2 : Value) (p3 : Value) (p8 : Value) (p9 : Value) (K : Value → M) : M :=
  Pv (binIV .eql p9 (Value.int .i64 0)) fun v3 =>
  Br v3
    (App 5 1 1 #[(Value.int .u8 0)] (Value.slice none 0 0) p0 <| gh fun v4 =>
    K v4)
    (Pv (binIV .lss p3 (Value.int .i64 0)) fun v5 =>
    Gd v5 false
      (Pv (binIV .lss p9 p3) fun v6 =>
      Br v6
        (sh90_3 ω p0 p1 p2 p9 p8 K)
        (sh90_3 ω p0 p1 p2 p3 p8 K))
      (sh90_3 ω p0 p1 p2 p9 p8 K))
def sh90 (ω : Om) (a0 : Value) (a1 : Value) (a2 : Value) (a3 : Value) (K : Value → M) : M :=
  Pv (binIV .neq a3 (Value.int .i64 0)) fun v1 =>
  Br v1
    (Cal Tryd.prog ω 92 #[a0, a1] <| gh fun v2 =>
    sh90_1 ω a0 a1 a2 a3 (Value.slice none 0 0) v2 K)
    (sh90_1 ω a0 a1 a2 a3 (Value.slice none 0 0) (Value.int .i64 0) K)
theorem sh90_eq (ω : Om) (a0 a1 a2 a3 : Value) (K : Value → M) : vcF Tryd.prog ω Tryd.f90 [a0, a1, a2, a3] K = sh90 ω a0 a1 a2 a3 K := by kernel_rfl
theorem cal90 {ω : Om} {a0 a1 a2 a3 : Value} {K : Value → M} {I : Imm} {L : LH} (h : sh90 ω a0 a1 a2 a3 (fun v => Gh (K v)) I L) : Cal Tryd.prog ω 90 #[a0, a1, a2, a3] K I L :=
  Cal.gh (cal_of_vc mixed Tryd.func90 (by rw [sh90_eq]; exact h))
def sh91_1 (ω : Om) (p0 : Value) (p1 : Value) (p4 : Value) (K : Value → M) : M :=
  Pv (capV p0) fun v2 =>
  Pv (lenV p0) fun v3 =>
  Pv (binIV .sub v2 v3) fun v4 =>
  Pv (binIV .sub p1 v4) fun v5 =>
  Pv (binIV .gtr v5 (Value.int .i64 0)) fun v6 =>
  Br v6
    (Pv (capV p0) fun v7 =>
    Pv (slcV 1 p0 none (some v7) none) fun v8 =>
    AppZ 5 1 1 #[(Value.int .u8 0)] v8 v5 <| gh fun v9 =>
    Pv (lenV p0) fun v10 =>
    Pv (slcV 1 v9 none (some v10) none) fun v11 =>
    K v11)
    (K p0)
def sh91 (ω : Om) (a0 : Value) (a1 : Value) (K : Value → M) : M :=
  Pv (binIV .lss a1 (Value.int .i64 0)) fun v1 =>
  Br v1
    (F /- panic -/)
    (sh91_1 ω a0 a1 (Value.slice none 0 0) K)
theorem sh91_eq (ω : Om) (a0 a1 : Value) (K : Value → M) : vcF Tryd.prog ω Tryd.f91 [a0, a1] K = sh91 ω a0 a1 K := by kernel_rfl
theorem cal91 {ω : Om} {a0 a1 : Value} {K : Value → M} {I : Imm} {L : LH} (h : sh91 ω a0 a1 (fun v => Gh (K v)) I L) : Cal Tryd.prog ω 91 #[a0, a1] K I L :=
  Cal.gh (cal_of_vc mixed Tryd.func91 (by rw [sh91_eq]; exact h))
def sh92_1 (ω : Om) (p1 : Value) (x0 : Value) (x4 : Value) (x5 : Value) (Kn0 : (Value × Value × Value × Unit) → M) (K : Value → M) : M :=
  Cal Tryd.prog ω 93 #[x0, p1] <| gh fun v10 =>
  Pv (binIV .eql v10 (Value.int .i64 (-1))) fun v11 =>
  Br v11
    (K x5)
    (Pv (binIV .add x5 (Value.int .i64 1)) fun v12 =>
    Pv (lenV p1) fun v13 =>
    Pv (binIV .add v10 v13) fun v14 =>
    Pv (slcV 1 x0 (some v14) none none) fun v15 =>
    Kn0 (v15, x4, v12, ()))
def sh92 (ω : Om) (a0 : Value) (a1 : Value) (K : Value → M) : M :=
  Pv (lenV a1) fun v1 =>
  Pv (binIV .eql v1 (Value.int .i64 0)) fun v2 =>
  Br v2
    (Cal Tryd.prog ω 95 #[a0] <| gh fun v3 =>
    Pv (binIV .add v3 (Value.int .i64 1)) fun v4 =>
    K v4)
    (Pv (lenV a1) fun v5 =>
    Pv (binIV .eql v5 (Value.int .i64 1)) fun v6 =>
    Br v6
      (Pv (ixV 1 a1 (Value.int .i64 0)) fun v7 =>
      Rv none (ld1R v7) fun v8 =>
      ExtE Tryd.prog ω Extern.BytealgCount.count #[a0, v8] <| gh fun v9 =>
      K v9)
      (LoopM ((a0, (Value.int .i64 0), (Value.int .i64 0), ()) : Value × Value × Value × Unit) fun s Kn0 =>
      sh92_1 ω a1 s.1 s.2.1 s.2.2.1 Kn0 K))
theorem sh92_eq (ω : Om) (a0 a1 : Value) (K : Value → M) : vcF Tryd.prog ω Tryd.f92 [a0, a1] K = sh92 ω a0 a1 K := by kernel_rfl
theorem cal92 {ω : Om} {a0 a1 : Value} {K : Value → M} {I : Imm} {L : LH} (h : sh92 ω a0 a1 (fun v => Gh (K v)) I L) : Cal Tryd.prog ω 92 #[a0, a1] K I L :=
  Cal.gh (cal_of_vc mixed Tryd.func92 (by rw [sh92_eq]; exact h))
def sh97 (ω : Om) (a0 : Value) (a1 : Value) (K : Value → M) : M :=
  ExtE Tryd.prog ω Extern.BytealgIndexByte.indexByte #[a0, a1] <| gh fun v1 =>
  K v1
theorem sh97_eq (ω : Om) (a0 a1 : Value) (K : Value → M) : vcF Tryd.prog ω Tryd.f97 [a0, a1] K = sh97 ω a0 a1 K := by kernel_rfl
theorem cal97 {ω : Om} {a0 a1 : Value} {K : Value → M} {I : Imm} {L : LH} (h : sh97 ω a0 a1 (fun v => Gh (K v)) I L) : Cal Tryd.prog ω 97 #[a0, a1] K I L :=
  Cal.gh (cal_of_vc mixed Tryd.func97 (by rw [sh97_eq]; exact h))
theorem bld_1 (x0 : Int) : bldV #[(Value.int .i64 0), (Value.int .i64 0)] #[(0, 1), (1, 1)] [(0, .int .i64 x0)] = some (.agg #[.int .i64 x0, (Value.int .i64 0)]) := by kernel_rfl
theorem bld_2 (x0 : Option Addr) (x1 : Nat) (x2 : Nat) (x3 : Int) (x4 : Int) (x5 : Int) (x6 : Bool) (x7 : Option Addr) (x8 : Nat) (x9 : Nat) : bldV #[(Value.slice none 0 0), (Value.int .i64 0), (Value.int .i64 0), (Value.int .i64 0), (Value.bool false), (Value.slice none 0 0)] #[(0, 1), (1, 1), (2, 2), (4, 1), (5, 1)] [(0, .slice x0 x1 x2), (1, .int .i64 x3), (2, .agg #[.int .i64 x4, .int .i64 x5]), (3, .bool x6), (4, .slice x7 x8 x9)] = some (.agg #[.slice x0 x1 x2, .int .i64 x3, .int .i64 x4, .int .i64 x5, .bool x6, .slice x7 x8 x9]) := by kernel_rfl
theorem bld_3  : bldV #[(Value.int .i64 0), (Value.int .i64 0)] #[(0, 1), (1, 1)] [] = some (.agg #[(Value.int .i64 0), (Value.int .i64 0)]) := by kernel_rfl
theorem bld_4  : bldV #[(Value.slice none 0 0), (Value.slice none 0 0)] #[(0, 1), (1, 1)] [] = some (.agg #[(Value.slice none 0 0), (Value.slice none 0 0)]) := by kernel_rfl
theorem bld_5  : bldV #[(Value.slice none 0 0), (Value.slice none 0 0), (Value.int .i64 0), (Value.int .i64 0)] #[(0, 1), (1, 1), (2, 2)] [] = some (.agg #[(Value.slice none 0 0), (Value.slice none 0 0), (Value.int .i64 0), (Value.int .i64 0)]) := by kernel_rfl
theorem bld_6 (x0 : Option Addr) (x1 : Nat) (x2 : Nat) (x3 : Int) (x4 : Int) (x5 : Int) (x6 : Option Addr) (x7 : Nat) (x8 : Nat) : bldV #[(Value.slice none 0 0), (Value.int .i64 0), (Value.int .i64 0), (Value.int .i64 0), (Value.bool false), (Value.slice none 0 0)] #[(0, 1), (1, 1), (2, 2), (4, 1), (5, 1)] [(0, .slice x0 x1 x2), (1, .int .i64 x3), (2, .agg #[.int .i64 x4, .int .i64 x5]), (4, .slice x6 x7 x8)] = some (.agg #[.slice x0 x1 x2, .int .i64 x3, .int .i64 x4, .int .i64 x5, (Value.bool false), .slice x6 x7 x8]) := by kernel_rfl
theorem bld_7 (x0 : Option Nat) (x1 : Option Nat) : bldV #[(Value.map none), (Value.slice none 0 0), (Value.int .i64 0), (Value.int .i64 0), (Value.map none)] #[(0, 1), (1, 1), (2, 2), (4, 1)] [(0, .map x0), (3, .map x1)] = some (.agg #[.map x0, (Value.slice none 0 0), (Value.int .i64 0), (Value.int .i64 0), .map x1]) := by kernel_rfl
theorem bld_8 (x0 : Int) (x1 : Int) (x2 : Bool) (x3 : ByteArray) : bldV #[(Value.int .i64 0), (Value.int .i64 0), (Value.bool false), (Value.string (ByteArray.mk #[]))] #[(0, 2), (2, 1), (3, 1)] [(0, .agg #[.int .i64 x0, .int .i64 x1]), (1, .bool x2), (2, .string x3)] = some (.agg #[.int .i64 x0, .int .i64 x1, .bool x2, .string x3]) := by kernel_rfl
theorem bld_9 (x0 : Int) (x1 : Int) (x2 : Bool) (x3 : ByteArray) (x4 : Int) : bldV #[(Value.int .i64 0), (Value.int .i64 0), (Value.bool false), (Value.string (ByteArray.mk #[])), (Value.int .i64 0)] #[(0, 4), (4, 1)] [(0, .agg #[.int .i64 x0, .int .i64 x1, .bool x2, .string x3]), (1, .int .i64 x4)] = some (.agg #[.int .i64 x0, .int .i64 x1, .bool x2, .string x3, .int .i64 x4]) := by kernel_rfl
theorem bld_10  : bldV #[(Value.int .i64 0), (Value.int .i64 0), (Value.bool false), (Value.string (ByteArray.mk #[])), (Value.int .i64 0)] #[(0, 4), (4, 1)] [] = some (.agg #[(Value.int .i64 0), (Value.int .i64 0), (Value.bool false), (Value.string (ByteArray.mk #[])), (Value.int .i64 0)]) := by kernel_rfl
theorem bld_11 (x0 : Option Addr) (x1 : Nat) (x2 : Nat) (x3 : Option Addr) (x4 : Nat) (x5 : Nat) : bldV #[(Value.slice none 0 0), (Value.slice none 0 0)] #[(0, 1), (1, 1)] [(0, .slice x0 x1 x2), (1, .slice x3 x4 x5)] = some (.agg #[.slice x0 x1 x2, .slice x3 x4 x5]) := by kernel_rfl
theorem bld_12  : bldV #[(Value.bool false), (Value.slice none 0 0), (Value.int .i64 0), (Value.int .i64 0), (Value.int .i64 0)] #[(0, 1), (1, 1), (2, 2), (4, 1)] [] = some (.agg #[(Value.bool false), (Value.slice none 0 0), (Value.int .i64 0), (Value.int .i64 0), (Value.int .i64 0)]) := by kernel_rfl
theorem bld_13 (x0 : Int) (x1 : Int) : bldV #[(Value.int .i64 0), (Value.int .i64 0)] #[(0, 1), (1, 1)] [(0, .int .i64 x0), (1, .int .i64 x1)] = some (.agg #[.int .i64 x0, .int .i64 x1]) := by kernel_rfl
theorem bld_14  : bldV #[(Value.slice none 0 0), (Value.int .i64 0), (Value.int .i64 0), (Value.bool false), (Value.string (ByteArray.mk #[])), (Value.int .i64 0)] #[(0, 1), (1, 5)] [] = some (.agg #[(Value.slice none 0 0), (Value.int .i64 0), (Value.int .i64 0), (Value.bool false), (Value.string (ByteArray.mk #[])), (Value.int .i64 0)]) := by kernel_rfl
theorem bld_15 (x0 : Bool) (x1 : Option Addr) (x2 : Nat) (x3 : Nat) (x4 : Int) (x5 : Int) : bldV #[(Value.bool false), (Value.slice none 0 0), (Value.int .i64 0), (Value.int .i64 0), (Value.int .i64 0)] #[(0, 1), (1, 1), (2, 2), (4, 1)] [(0, .bool x0), (1, .slice x1 x2 x3), (2, .agg #[.int .i64 x4, .int .i64 x5])] = some (.agg #[.bool x0, .slice x1 x2 x3, .int .i64 x4, .int .i64 x5, (Value.int .i64 0)]) := by kernel_rfl
theorem bld_16 (x0 : Int) : bldV #[(Value.bool false), (Value.slice none 0 0), (Value.int .i64 0), (Value.int .i64 0), (Value.int .i64 0)] #[(0, 1), (1, 1), (2, 2), (4, 1)] [(3, .int .i64 x0)] = some (.agg #[(Value.bool false), (Value.slice none 0 0), (Value.int .i64 0), (Value.int .i64 0), .int .i64 x0]) := by kernel_rfl
theorem bld_17 (x0 : Option Addr) (x1 : Nat) (x2 : Nat) (x3 : Int) (x4 : Int) (x5 : Bool) (x6 : Option Addr) (x7 : Nat) (x8 : Nat) : bldV #[(Value.slice none 0 0), (Value.int .i64 0), (Value.int .i64 0), (Value.bool false), (Value.slice none 0 0)] #[(0, 1), (1, 2), (3, 1), (4, 1)] [(0, .slice x0 x1 x2), (1, .agg #[.int .i64 x3, .int .i64 x4]), (2, .bool x5), (3, .slice x6 x7 x8)] = some (.agg #[.slice x0 x1 x2, .int .i64 x3, .int .i64 x4, .bool x5, .slice x6 x7 x8]) := by kernel_rfl
theorem bld_18 (x0 : Bool) (x1 : Option Addr) (x2 : Nat) (x3 : Nat) (x4 : Option Addr) (x5 : Nat) (x6 : Nat) : bldV #[(Value.bool false), (Value.slice none 0 0), (Value.slice none 0 0)] #[(0, 1), (1, 1), (2, 1)] [(0, .bool x0), (1, .slice x1 x2 x3), (2, .slice x4 x5 x6)] = some (.agg #[.bool x0, .slice x1 x2 x3, .slice x4 x5 x6]) := by kernel_rfl
theorem bld_19  : bldV #[(Value.slice none 0 0), (Value.int .i64 0), (Value.int .i64 0), (Value.int .i64 0), (Value.bool false), (Value.slice none 0 0)] #[(0, 1), (1, 1), (2, 2), (4, 1), (5, 1)] [] = some (.agg #[(Value.slice none 0 0), (Value.int .i64 0), (Value.int .i64 0), (Value.int .i64 0), (Value.bool false), (Value.slice none 0 0)]) := by kernel_rfl
theorem bld_20  : bldV #[(Value.slice none 0 0), (Value.int .i64 0), (Value.int .i64 0), (Value.bool false), (Value.slice none 0 0)] #[(0, 1), (1, 2), (3, 1), (4, 1)] [] = some (.agg #[(Value.slice none 0 0), (Value.int .i64 0), (Value.int .i64 0), (Value.bool false), (Value.slice none 0 0)]) := by kernel_rfl
end Go.Proofs.YtmnnnoinfhiilaaDoor
