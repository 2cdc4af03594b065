/- The shallow forms of the functions, printed by a program (goshallow.py). -/
import Derived.Test.YtlalbollbdlfhaaChecked
import Derived.Test.YtlalbollbdlfhaaSlRules
set_option maxRecDepth 100000
set_option linter.unusedVariables false
namespace Go.Proofs.Ytlalbollbdlfhaa
open Go.SL

theorem mixed : Try.prog.follows .mixedOrders = true := by kernel_rfl

def sh3 (ω : Om) (a0 : Value) (a1 : Value) (a2 : Value) (K : Value → M) : M :=
  New (.cells (Value.cells a1) 23 (0, 0)) <| gh fun start_1 =>
  Cal Try.prog ω 5 #[] <| gh fun v2 =>
  Rv none (ldNR 2 start_1) fun v3 =>
  Cal Try.prog ω 6 #[a0, v3, a2] <| gh fun v4 =>
  Pv (exV v4 0) fun v5 =>
  Pv (exV v4 1) fun v6 =>
  Rv none (ldNR 2 start_1) fun v7 =>
  Cal Try.prog ω 7 #[a0, v7, a2] <| gh fun v8 =>
  Pv (exV v8 0) fun v9 =>
  Pv (exV v8 1) fun v10 =>
  Pv (unV .not v2) fun v11 =>
  Gd v11 false
    (Pv (binIV .neq v6 v10) fun v12 =>
    Gd v12 false
      (Pv (binPV .eql v5 (Value.pointer none)) fun v13 =>
      Pv (binPV .eql v9 (Value.pointer none)) fun v14 =>
      Pv (binBV .neq v13 v14) fun v15 =>
      Br v15
        (K (Value.bool false))
        (Pv (binPV .eql v5 (Value.pointer none)) fun v16 =>
        Br v16
          (K (Value.bool true))
          (Cal Try.prog ω 9 #[] <| gh fun v17 =>
          Cal Try.prog ω 8 #[v5, v9, v17] <| gh fun v18 =>
          K v18)))
      (K (Value.bool false)))
    (K (Value.bool false))
theorem sh3_eq (ω : Om) (a0 a1 a2 : Value) (K : Value → M) : vcF Try.prog ω Try.f3 [a0, a1, a2] K = sh3 ω a0 a1 a2 K := by kernel_rfl
theorem cal3 {ω : Om} {a0 a1 a2 : Value} {K : Value → M} {I : Imm} {L : LH} (h : sh3 ω a0 a1 a2 (fun v => Gh (K v)) I L) : Cal Try.prog ω 3 #[a0, a1, a2] K I L :=
  Cal.gh (cal_of_vc mixed Try.func3 (by rw [sh3_eq]; exact h))

def sh4_6 (ω : Om) (p0 : Value) (p4 : Value) (p6 : Value) (p9 : Value) (Kn0 : (Value × Value × Unit) → M) (K : Value → M) : M :=
  Cal Try.prog ω 15 #[p6, p0] <| gh fun v17 =>
  Pv (exV v17 0) fun v18 =>
  Pv (exV v17 1) fun v19 =>
  New (.cells #[(Value.int .i64 0), (Value.int .i64 0), (Value.int .i64 0), (Value.int .i64 0), (Value.int .i64 0), (Value.int .i64 0), (Value.int .i64 0), (Value.int .i64 0), (Value.int .i64 0), (Value.bool false), (Value.bool false), (Value.slice none 0 0), (Value.slice none 0 0), (Value.slice none 0 0), (Value.slice none 0 0), (Value.int .i64 0), (Value.int .i64 0)] 55 (0, 0)) <| gh fun a_20 =>
  Sto 17 a_20 v18 <| gh fun _ =>
  Cal Try.prog ω 15 #[p6, p0] <| gh fun v21 =>
  Pv (exV v21 0) fun v22 =>
  Pv (exV v21 1) fun v23 =>
  New (.cells #[(Value.int .i64 0), (Value.int .i64 0), (Value.int .i64 0), (Value.int .i64 0), (Value.int .i64 0), (Value.int .i64 0), (Value.int .i64 0), (Value.int .i64 0), (Value.int .i64 0), (Value.bool false), (Value.bool false), (Value.slice none 0 0), (Value.slice none 0 0), (Value.slice none 0 0), (Value.slice none 0 0), (Value.int .i64 0), (Value.int .i64 0)] 55 (0, 0)) <| gh fun b_24 =>
  Sto 17 b_24 v22 <| gh fun _ =>
  Cal Try.prog ω 9 #[] <| gh fun v25 =>
  Cal Try.prog ω 15 #[p6, v25] <| gh fun v26 =>
  Pv (exV v26 0) fun v27 =>
  Pv (exV v26 1) fun v28 =>
  New (.cells #[(Value.int .i64 0), (Value.int .i64 0), (Value.int .i64 0), (Value.int .i64 0), (Value.int .i64 0), (Value.int .i64 0), (Value.int .i64 0), (Value.int .i64 0), (Value.int .i64 0), (Value.bool false), (Value.bool false), (Value.slice none 0 0), (Value.slice none 0 0), (Value.slice none 0 0), (Value.slice none 0 0), (Value.int .i64 0), (Value.int .i64 0)] 55 (0, 0)) <| gh fun c_29 =>
  Sto 17 c_29 v27 <| gh fun _ =>
  Pv (fldV 1 a_20) fun v30 =>
  Rv none (ldNR 15 v30) fun v31 =>
  Pv (fldV 1 b_24) fun v32 =>
  Rv none (ldNR 15 v32) fun v33 =>
  Cal Try.prog ω 17 #[v31, v33] <| gh fun v34 =>
  Pv (binBV .neq v19 v23) fun v35 =>
  Gd v35 false
    (Pv (binBV .neq v19 v28) fun v36 =>
    Gd v36 false
      (Pv (fldV 0 a_20) fun v37 =>
      Rv none (ld1R v37) fun v38 =>
      Pv (fldV 0 b_24) fun v39 =>
      Rv none (ld1R v39) fun v40 =>
      Pv (binIV .neq v38 v40) fun v41 =>
      Gd v41 false
        (Pv (unV .not v34) fun v42 =>
        Br v42
          (K (Value.bool false))
          (Pv (fldV 1 a_20) fun v43 =>
          Pv (fldV 12 v43) fun v44 =>
          Pv (fldV 1 v44) fun v45 =>
          Rv none (ld1R v45) fun v46 =>
          Pv (fldV 1 c_29) fun v47 =>
          Pv (fldV 12 v47) fun v48 =>
          Pv (fldV 1 v48) fun v49 =>
          Sto 1 v49 v46 <| gh fun _ =>
          Pv (fldV 1 a_20) fun v50 =>
          Rv none (ldNR 15 v50) fun v51 =>
          Pv (fldV 1 c_29) fun v52 =>
          Rv none (ldNR 15 v52) fun v53 =>
          Cal Try.prog ω 17 #[v51, v53] <| gh fun v54 =>
          Pv (unV .not v54) fun v55 =>
          Br v55
            (K (Value.bool false))
            (Pv (binIV .add p9 (Value.int .i64 1)) fun v56 =>
            Kn0 (p4, v56, ()))))
        (K (Value.bool false)))
      (K (Value.bool false)))
    (K (Value.bool false))
def sh4_10 (ω : Om) (p0 : Value) (p4 : Value) (p6 : Value) (p9 : Value) (p10 : Value) (Kn0 : (Value × Value × Unit) → M) (K : Value → M) : M :=
  Pv (fldV 1 p10) fun v60 =>
  Rv none (ldNR 2 v60) fun v61 =>
  Cal Try.prog ω 11 #[p6, v61] <| gh fun v62 =>
  sh4_6 ω p0 p4 p6 p9 Kn0 K
def sh4_11 (ω : Om) (p0 : Value) (p4 : Value) (p6 : Value) (p9 : Value) (p10 : Value) (p55 : Value) (Kn0 : (Value × Value × Unit) → M) (K : Value → M) : M :=
  Pv (binIV .eql p55 (Value.int .i64 1)) fun v63 =>
  Br v63
    (Pv (fldV 3 p10) fun v64 =>
    Rv none (ld1R v64) fun v65 =>
    Cal Try.prog ω 12 #[p6, v65] <| gh fun v66 =>
    sh4_6 ω p0 p4 p6 p9 Kn0 K)
    (Pv (binIV .eql p55 (Value.int .i64 2)) fun v67 =>
    Br v67
      (Cal Try.prog ω 13 #[p6] <| gh fun v68 =>
      sh4_6 ω p0 p4 p6 p9 Kn0 K)
      (Pv (binIV .eql p55 (Value.int .i64 3)) fun v69 =>
      Br v69
        (Cal Try.prog ω 14 #[p6] <| gh fun v70 =>
        sh4_6 ω p0 p4 p6 p9 Kn0 K)
        (Pv (binIV .eql p55 (Value.int .i64 4)) fun v71 =>
        Br v71
          (Cal Try.prog ω 15 #[p6, p0] <| gh fun v72 =>
          Pv (exV v72 0) fun v73 =>
          Pv (exV v72 1) fun v74 =>
          New (.cells #[(Value.int .i64 0), (Value.int .i64 0), (Value.int .i64 0), (Value.int .i64 0), (Value.int .i64 0), (Value.int .i64 0), (Value.int .i64 0), (Value.int .i64 0), (Value.int .i64 0), (Value.bool false), (Value.bool false), (Value.slice none 0 0), (Value.slice none 0 0), (Value.slice none 0 0), (Value.slice none 0 0), (Value.int .i64 0), (Value.int .i64 0)] 55 (0, 0)) <| gh fun q_75 =>
          Sto 17 q_75 v73 <| gh fun _ =>
          Br v74
            (Rv none (ldNR 17 q_75) fun v76 =>
            Pv (fldV 4 p10) fun v77 =>
            Rv none (ldNR 11 v77) fun v78 =>
            Cal Try.prog ω 16 #[p6, v76, v78] <| gh fun v79 =>
            sh4_6 ω p0 p4 p6 p9 Kn0 K)
            (sh4_6 ω p0 p4 p6 p9 Kn0 K))
          (sh4_6 ω p0 p4 p6 p9 Kn0 K))))
def sh4_5 (ω : Om) (p0 : Value) (p1 : Value) (p6 : Value) (x4 : Value) (x9 : Value) (Kn0 : (Value × Value × Unit) → M) (K : Value → M) : M :=
  Pv (lenV p1) fun v11 =>
  Pv (binIV .lss x9 v11) fun v12 =>
  Gd v12 true
    (Pv (binIV .lss x9 (Value.int .i64 150)) fun v13 =>
    Br v13
      (Pv (ixV 31 p1 x9) fun v14 =>
      Rv none (ldNR 31 v14) fun v15 =>
      New (.cells #[(Value.int .i64 0), (Value.slice none 0 0), (Value.slice none 0 0), (Value.slice none 0 0), (Value.int .i64 0), (Value.bool false), (Value.slice none 0 0), (Value.int .i64 0), (Value.int .i64 0), (Value.int .i64 0), (Value.slice none 0 0), (Value.int .i64 0), (Value.int .i64 0), (Value.int .i64 0), (Value.int .i64 0), (Value.int .i64 0), (Value.int .i64 0), (Value.int .i64 0), (Value.int .i64 0), (Value.int .i64 0), (Value.int .i64 0), (Value.int .i64 0), (Value.int .i64 0), (Value.bool false), (Value.bool false), (Value.slice none 0 0), (Value.slice none 0 0), (Value.slice none 0 0), (Value.slice none 0 0), (Value.int .i64 0), (Value.int .i64 0)] 50 (0, 0)) <| gh fun y_16 =>
      Sto 31 y_16 v15 <| gh fun _ =>
      Pv (fldV 0 y_16) fun v57 =>
      Rv none (ld1R v57) fun v58 =>
      Pv (binIV .eql v58 (Value.int .i64 0)) fun v59 =>
      Br v59
        (sh4_10 ω p0 x4 p6 x9 y_16 Kn0 K)
        (sh4_11 ω p0 x4 p6 x9 y_16 v58 Kn0 K))
      (K (Value.bool true)))
    (K (Value.bool true))
def sh4 (ω : Om) (a0 : Value) (a1 : Value) (K : Value → M) : M :=
  Cal Try.prog ω 5 #[] <| gh fun v1 =>
  Pv (bldV #[(Value.int .i64 0), (Value.int .i64 0)] #[(0, 1), (1, 1)] [(0, (Value.int .i64 5))]) fun v2 =>
  Cal Try.prog ω 6 #[(Value.int .i64 3), v2, (Value.int .i64 2)] <| gh fun v3 =>
  Pv (exV v3 0) fun v4 =>
  Pv (exV v3 1) fun v5 =>
  Pv (unV .not v1) fun v6 =>
  Gd v6 false
    (Pv (binIV .neq v5 (Value.int .i64 0)) fun v7 =>
    Gd v7 false
      (Pv (binPV .eql v4 (Value.pointer none)) fun v8 =>
      Br v8
        (K (Value.bool false))
        (Cal Try.prog ω 10 #[a0] <| gh fun v9 =>
        Pv (unV .not v9) fun v10 =>
        Br v10
          (K (Value.bool true))
          (LoopM (((Value.bool false), (Value.int .i64 0), ()) : Value × Value × Unit) fun s Kn0 =>
          sh4_5 ω a0 a1 v4 s.1 s.2.1 Kn0 K)))
      (K (Value.bool false)))
    (K (Value.bool false))
theorem sh4_eq (ω : Om) (a0 a1 : Value) (K : Value → M) : vcF Try.prog ω Try.f4 [a0, a1] K = sh4 ω a0 a1 K := by kernel_rfl
theorem cal4 {ω : Om} {a0 a1 : Value} {K : Value → M} {I : Imm} {L : LH} (h : sh4 ω a0 a1 (fun v => Gh (K v)) I L) : Cal Try.prog ω 4 #[a0, a1] K I L :=
  Cal.gh (cal_of_vc mixed Try.func4 (by rw [sh4_eq]; exact h))

def sh5 (ω : Om) (K : Value → M) : M :=
  Pv (bldV #[(Value.int .i64 0), (Value.int .i64 0)] #[(0, 1), (1, 1)] [(0, (Value.int .i64 5))]) fun v1 =>
  Cal Try.prog ω 6 #[(Value.int .i64 1), v1, (Value.int .i64 3)] <| gh fun v2 =>
  Pv (exV v2 0) fun v3 =>
  Pv (exV v2 1) fun v4 =>
  Pv (binIV .neq v4 (Value.int .i64 0)) fun v5 =>
  Gd v5 false
    (Pv (binPV .eql v3 (Value.pointer none)) fun v6 =>
    Br v6
      (K (Value.bool false))
      (BldS 5 1 #[(Value.int .u8 0)] 1 [(0, (Value.int .u8 97))] <| gh fun v7 =>
      MrkS v7 <| gh fun v8 =>
      BldS 5 1 #[(Value.int .u8 0)] 1 [(0, (Value.int .u8 120))] <| gh fun v9 =>
      MrkS v9 <| gh fun v10 =>
      Pv (bldV #[(Value.bool false), (Value.slice none 0 0), (Value.slice none 0 0)] #[(0, 1), (1, 1), (2, 1)] [(1, v8), (2, v10)]) fun v11 =>
      BldS 62 3 #[(Value.bool false), (Value.slice none 0 0), (Value.slice none 0 0)] 1 [(0, v11)] <| gh fun v12 =>
      Cal Try.prog ω 12 #[v3, v12] <| gh fun v13 =>
      Cal Try.prog ω 9 #[] <| gh fun v14 =>
      Cal Try.prog ω 15 #[v3, v14] <| gh fun v15 =>
      Pv (exV v15 0) fun v16 =>
      Pv (exV v15 1) fun v17 =>
      New (.cells #[(Value.int .i64 0), (Value.int .i64 0), (Value.int .i64 0), (Value.int .i64 0), (Value.int .i64 0), (Value.int .i64 0), (Value.int .i64 0), (Value.int .i64 0), (Value.int .i64 0), (Value.bool false), (Value.bool false), (Value.slice none 0 0), (Value.slice none 0 0), (Value.slice none 0 0), (Value.slice none 0 0), (Value.int .i64 0), (Value.int .i64 0)] 55 (0, 0)) <| gh fun q_18 =>
      Sto 17 q_18 v16 <| gh fun _ =>
      Pv (binIV .eql v13 (Value.int .i64 0)) fun v19 =>
      Gd v19 true
        (Gd v17 true
          (Pv (fldV 0 q_18) fun v20 =>
          Rv none (ld1R v20) fun v21 =>
          Pv (binIV .eql v21 (Value.int .i64 1)) fun v22 =>
          Gd v22 true
            (Pv (fldV 1 q_18) fun v23 =>
            Pv (fldV 0 v23) fun v24 =>
            Rv none (ld1R v24) fun v25 =>
            Pv (binIV .eql v25 (Value.int .i64 5)) fun v26 =>
            K v26)
            (K (Value.bool false)))
          (K (Value.bool false)))
        (K (Value.bool false))))
    (K (Value.bool false))
theorem sh5_eq (ω : Om) (K : Value → M) : vcF Try.prog ω Try.f5 [] K = sh5 ω K := by kernel_rfl
theorem cal5 {ω : Om} {K : Value → M} {I : Imm} {L : LH} (h : sh5 ω (fun v => Gh (K v)) I L) : Cal Try.prog ω 5 #[] K I L :=
  Cal.gh (cal_of_vc mixed Try.func5 (by rw [sh5_eq]; exact h))

def sh6 (ω : Om) (a0 : Value) (a1 : Value) (a2 : Value) (K : Value → M) : M :=
  New (.cells (Value.cells a1) 23 (0, 0)) <| gh fun start_1 =>
  Pv (binIV .lss a0 (Value.int .i64 1)) fun v2 =>
  Gd v2 false
    (Pv (binIV .gtr a0 (Value.int .i64 9007199254740991)) fun v3 =>
    Gd v3 false
      (Rv none (ldNR 2 start_1) fun v4 =>
      Cal Try.prog ω 18 #[v4] <| gh fun v5 =>
      Pv (unV .not v5) fun v6 =>
      Gd v6 false
        (Pv (binIV .lss a2 (Value.int .i64 1)) fun v7 =>
        Br v7
          (K (Value.tuple #[(Value.pointer none), (Value.int .i64 1)]))
          (Rv none (ldNR 2 start_1) fun v8 =>
          Rv none (ldNR 2 start_1) fun v9 =>
          Rv none (ldNR 2 start_1) fun v10 =>
          Pv (bldV #[(Value.int .i64 0), (Value.int .i64 0), (Value.int .i64 0), (Value.int .i64 0), (Value.int .i64 0), (Value.int .i64 0), (Value.int .i64 0), (Value.int .i64 0), (Value.int .i64 0), (Value.int .i64 0), (Value.bool false), (Value.slice none 0 0), (Value.slice none 0 0), (Value.int .i64 0), (Value.int .i64 0), (Value.slice none 0 0), (Value.slice none 0 0), (Value.slice none 0 0), (Value.slice none 0 0), (Value.slice none 0 0), (Value.slice none 0 0), (Value.slice none 0 0), (Value.int .i64 0), (Value.slice none 0 0), (Value.slice none 0 0), (Value.int .i64 0), (Value.int .i64 0), (Value.int .i64 0), (Value.int .i64 0)] #[(0, 1), (1, 1), (2, 2), (4, 2), (6, 2), (8, 1), (9, 1), (10, 1), (11, 1), (12, 1), (13, 1), (14, 1), (15, 2), (17, 1), (18, 1), (19, 1), (20, 1), (21, 1), (22, 7)] [(0, a0), (1, a2), (2, v8), (3, v9), (4, v10), (5, (Value.int .i64 1)), (10, (Value.int .i64 1))]) fun v11 =>
          New (.cells (Value.cells v11) 69 (0, 0)) <| gh fun v12 =>
          K (Value.tuple #[v12, (Value.int .i64 0)])))
        (K (Value.tuple #[(Value.pointer none), (Value.int .i64 1)])))
      (K (Value.tuple #[(Value.pointer none), (Value.int .i64 1)])))
    (K (Value.tuple #[(Value.pointer none), (Value.int .i64 1)]))
theorem sh6_eq (ω : Om) (a0 a1 a2 : Value) (K : Value → M) : vcF Try.prog ω Try.f6 [a0, a1, a2] K = sh6 ω a0 a1 a2 K := by kernel_rfl
theorem cal6 {ω : Om} {a0 a1 a2 : Value} {K : Value → M} {I : Imm} {L : LH} (h : sh6 ω a0 a1 a2 (fun v => Gh (K v)) I L) : Cal Try.prog ω 6 #[a0, a1, a2] K I L :=
  Cal.gh (cal_of_vc mixed Try.func6 (by rw [sh6_eq]; exact h))

def sh7 (ω : Om) (a0 : Value) (a1 : Value) (a2 : Value) (K : Value → M) : M :=
  New (.cells (Value.cells a1) 23 (0, 0)) <| gh fun start_1 =>
  Cal Try.prog ω 19 #[a0] <| gh fun v2 =>
  Rv none (ldNR 2 start_1) fun v3 =>
  Cal Try.prog ω 20 #[v3] <| gh fun v4 =>
  Pv (unV .not v2) fun v5 =>
  Gd v5 false
    (Pv (unV .not v4) fun v6 =>
    Gd v6 false
      (Pv (binIV .lss a2 (Value.int .i64 1)) fun v7 =>
      Br v7
        (K (Value.tuple #[(Value.pointer none), (Value.int .i64 1)]))
        (Rv none (ldNR 2 start_1) fun v8 =>
        Rv none (ldNR 2 start_1) fun v9 =>
        Rv none (ldNR 2 start_1) fun v10 =>
        Pv (bldV #[(Value.int .i64 0), (Value.int .i64 0), (Value.int .i64 0), (Value.int .i64 0), (Value.int .i64 0), (Value.int .i64 0), (Value.int .i64 0), (Value.int .i64 0), (Value.int .i64 0), (Value.int .i64 0), (Value.bool false), (Value.slice none 0 0), (Value.slice none 0 0), (Value.int .i64 0), (Value.int .i64 0), (Value.slice none 0 0), (Value.slice none 0 0), (Value.slice none 0 0), (Value.slice none 0 0), (Value.slice none 0 0), (Value.slice none 0 0), (Value.slice none 0 0), (Value.int .i64 0), (Value.slice none 0 0), (Value.slice none 0 0), (Value.int .i64 0), (Value.int .i64 0), (Value.int .i64 0), (Value.int .i64 0)] #[(0, 1), (1, 1), (2, 2), (4, 2), (6, 2), (8, 1), (9, 1), (10, 1), (11, 1), (12, 1), (13, 1), (14, 1), (15, 2), (17, 1), (18, 1), (19, 1), (20, 1), (21, 1), (22, 1), (23, 2), (25, 1), (26, 1), (27, 2)] [(0, a0), (1, a2), (2, v8), (3, v9), (4, v10), (5, (Value.int .i64 1)), (10, (Value.int .i64 1))]) fun v11 =>
        New (.cells (Value.cells v11) 73 (0, 0)) <| gh fun v12 =>
        K (Value.tuple #[v12, (Value.int .i64 0)])))
      (K (Value.tuple #[(Value.pointer none), (Value.int .i64 1)])))
    (K (Value.tuple #[(Value.pointer none), (Value.int .i64 1)]))
theorem sh7_eq (ω : Om) (a0 a1 a2 : Value) (K : Value → M) : vcF Try.prog ω Try.f7 [a0, a1, a2] K = sh7 ω a0 a1 a2 K := by kernel_rfl
theorem cal7 {ω : Om} {a0 a1 a2 : Value} {K : Value → M} {I : Imm} {L : LH} (h : sh7 ω a0 a1 a2 (fun v => Gh (K v)) I L) : Cal Try.prog ω 7 #[a0, a1, a2] K I L :=
  Cal.gh (cal_of_vc mixed Try.func7 (by rw [sh7_eq]; exact h))

def sh8 (ω : Om) (a0 : Value) (a1 : Value) (a2 : Value) (K : Value → M) : M :=
  Cal Try.prog ω 21 #[a0] <| gh fun v1 =>
  Cal Try.prog ω 22 #[a0] <| gh fun v2 =>
  New (.cells #[(Value.int .i64 0), (Value.int .i64 0)] 23 (0, 0)) <| gh fun b_3 =>
  Sto 2 b_3 v2 <| gh fun _ =>
  Cal Try.prog ω 23 #[a0] <| gh fun v4 =>
  New (.cells #[(Value.int .i64 0), (Value.int .i64 0)] 23 (0, 0)) <| gh fun c_5 =>
  Sto 2 c_5 v4 <| gh fun _ =>
  Cal Try.prog ω 24 #[a0] <| gh fun v6 =>
  Cal Try.prog ω 25 #[a0] <| gh fun v7 =>
  Pv (nilV a1) fun v8 =>
  Pv (fldV 21 v8) fun v9 =>
  Rv none (ld1R v9) fun v10 =>
  Cal Try.prog ω 26 #[v7, v10] <| gh fun v11 =>
  Cal Try.prog ω 15 #[a0, a2] <| gh fun v12 =>
  Pv (exV v12 0) fun v13 =>
  Pv (exV v12 1) fun v14 =>
  New (.cells #[(Value.int .i64 0), (Value.int .i64 0), (Value.int .i64 0), (Value.int .i64 0), (Value.int .i64 0), (Value.int .i64 0), (Value.int .i64 0), (Value.int .i64 0), (Value.int .i64 0), (Value.bool false), (Value.bool false), (Value.slice none 0 0), (Value.slice none 0 0), (Value.slice none 0 0), (Value.slice none 0 0), (Value.int .i64 0), (Value.int .i64 0)] 55 (0, 0)) <| gh fun q_15 =>
  Sto 17 q_15 v13 <| gh fun _ =>
  Cal Try.prog ω 27 #[a1, a2] <| gh fun v16 =>
  Pv (exV v16 0) fun v17 =>
  Pv (exV v16 1) fun v18 =>
  Pv (exV v16 2) fun v19 =>
  New (.cells #[(Value.int .i64 0), (Value.int .i64 0), (Value.int .i64 0), (Value.int .i64 0), (Value.int .i64 0), (Value.int .i64 0), (Value.int .i64 0), (Value.int .i64 0), (Value.bool false), (Value.bool false), (Value.slice none 0 0), (Value.slice none 0 0), (Value.slice none 0 0), (Value.slice none 0 0), (Value.int .i64 0)] 48 (0, 0)) <| gh fun want_20 =>
  Sto 15 want_20 v18 <| gh fun _ =>
  Pv (fldV 1 q_15) fun v21 =>
  Rv none (ldNR 15 v21) fun v22 =>
  Rv none (ldNR 15 want_20) fun v23 =>
  Cal Try.prog ω 17 #[v22, v23] <| gh fun v24 =>
  Draw fun S =>
    Pv (binBV .neq v14 v19) fun v25 =>
    Gd v25 false
      (Gd v14 true
        (Pv (fldV 0 q_15) fun v26 =>
        Rv (some S) (ld1R v26) fun v27 =>
        Pv (binIV .neq v27 v17) fun v28 =>
        Gd v28 false
          (Pv (unV .not v24) fun v29 =>
          Gd v29 false
            (Pv (fldV 16 q_15) fun v30 =>
            Rv (some S) (ld1R v30) fun v31 =>
            Pv (nilV a1) fun v32 =>
            Pv (fldV 9 v32) fun v33 =>
            Rv (some S) (ld1R v33) fun v34 =>
            Pv (binIV .neq v31 v34) fun v35 =>
            Br v35
              (K (Value.bool false))
              (Draw fun S =>
                Pv (nilV a1) fun v36 =>
                Pv (fldV 13 v36) fun v37 =>
                Rv (some S) (ld1R v37) fun v38 =>
                Pv (binIV .eql v1 v38) fun v39 =>
                Gd v39 true
                  (Rv (some S) (ldNR 2 b_3) fun v40 =>
                  Pv (nilV a1) fun v41 =>
                  Pv (fldV 4 v41) fun v42 =>
                  Rv (some S) (ldNR 2 v42) fun v43 =>
                  Pv (binAV .eql [(TypeDesc.int .i64, 0), (TypeDesc.int .i64, 1)] v40 v43) fun v44 =>
                  Gd v44 true
                    (Rv (some S) (ldNR 2 c_5) fun v45 =>
                    Pv (nilV a1) fun v46 =>
                    Pv (fldV 6 v46) fun v47 =>
                    Rv (some S) (ldNR 2 v47) fun v48 =>
                    Pv (binAV .eql [(TypeDesc.int .i64, 0), (TypeDesc.int .i64, 1)] v45 v48) fun v49 =>
                    Gd v49 true
                      (Pv (nilV a1) fun v50 =>
                      Pv (fldV 22 v50) fun v51 =>
                      Rv (some S) (ld1R v51) fun v52 =>
                      Pv (binIV .eql v6 v52) fun v53 =>
                      Gd v53 true
                        (K v11)
                        (K (Value.bool false)))
                      (K (Value.bool false)))
                    (K (Value.bool false)))
                  (K (Value.bool false))))
            (K (Value.bool false)))
          (K (Value.bool false)))
        (Draw fun S =>
          Pv (nilV a1) fun v54 =>
          Pv (fldV 13 v54) fun v55 =>
          Rv (some S) (ld1R v55) fun v56 =>
          Pv (binIV .eql v1 v56) fun v57 =>
          Gd v57 true
            (Rv (some S) (ldNR 2 b_3) fun v58 =>
            Pv (nilV a1) fun v59 =>
            Pv (fldV 4 v59) fun v60 =>
            Rv (some S) (ldNR 2 v60) fun v61 =>
            Pv (binAV .eql [(TypeDesc.int .i64, 0), (TypeDesc.int .i64, 1)] v58 v61) fun v62 =>
            Gd v62 true
              (Rv (some S) (ldNR 2 c_5) fun v63 =>
              Pv (nilV a1) fun v64 =>
              Pv (fldV 6 v64) fun v65 =>
              Rv (some S) (ldNR 2 v65) fun v66 =>
              Pv (binAV .eql [(TypeDesc.int .i64, 0), (TypeDesc.int .i64, 1)] v63 v66) fun v67 =>
              Gd v67 true
                (Pv (nilV a1) fun v68 =>
                Pv (fldV 22 v68) fun v69 =>
                Rv (some S) (ld1R v69) fun v70 =>
                Pv (binIV .eql v6 v70) fun v71 =>
                Gd v71 true
                  (K v11)
                  (K (Value.bool false)))
                (K (Value.bool false)))
              (K (Value.bool false)))
            (K (Value.bool false))))
      (K (Value.bool false))
theorem sh8_eq (ω : Om) (a0 a1 a2 : Value) (K : Value → M) : vcF Try.prog ω Try.f8 [a0, a1, a2] K = sh8 ω a0 a1 a2 K := by kernel_rfl
theorem cal8 {ω : Om} {a0 a1 a2 : Value} {K : Value → M} {I : Imm} {L : LH} (h : sh8 ω a0 a1 a2 (fun v => Gh (K v)) I L) : Cal Try.prog ω 8 #[a0, a1, a2] K I L :=
  Cal.gh (cal_of_vc mixed Try.func8 (by rw [sh8_eq]; exact h))

def sh9 (ω : Om) (K : Value → M) : M :=
  Pv (bldV #[(Value.int .i64 0), (Value.slice none 0 0), (Value.slice none 0 0), (Value.int .i64 0)] #[(0, 1), (1, 2), (3, 1)] [(0, (Value.int .i64 1)), (2, (Value.int .i64 1))]) fun v1 =>
  BldS 81 4 #[(Value.int .i64 0), (Value.slice none 0 0), (Value.slice none 0 0), (Value.int .i64 0)] 1 [(0, v1)] <| gh fun v2 =>
  K v2
theorem sh9_eq (ω : Om) (K : Value → M) : vcF Try.prog ω Try.f9 [] K = sh9 ω K := by kernel_rfl
theorem cal9 {ω : Om} {K : Value → M} {I : Imm} {L : LH} (h : sh9 ω (fun v => Gh (K v)) I L) : Cal Try.prog ω 9 #[] K I L :=
  Cal.gh (cal_of_vc mixed Try.func9 (by rw [sh9_eq]; exact h))

def sh10_5 (ω : Om) (p2 : Value) (p3 : Value) (Kn0 : (Value × Value × Unit) → M) (K : Value → M) : M :=
  Pv (binIV .add p3 (Value.int .i64 1)) fun v21 =>
  Kn0 (p2, v21, ())
def sh10_9 (ω : Om) (p0 : Value) (p3 : Value) (x2 : Value) (x5 : Value) (Kn0 : (Value × Value × Unit) → M) (Kn1 : (Value × Value × Unit) → M) (K : Value → M) : M :=
  Pv (binIV .lss x5 p3) fun v46 =>
  Br v46
    (Draw fun S =>
      Pv (ixV 4 p0 x5) fun v47 =>
      Pv (fldV 0 v47) fun v48 =>
      Rv (some S) (ld1R v48) fun v49 =>
      Pv (ixV 4 p0 p3) fun v50 =>
      Pv (fldV 0 v50) fun v51 =>
      Rv (some S) (ld1R v51) fun v52 =>
      Pv (binIV .eql v49 v52) fun v53 =>
      Br v53
        (K (Value.bool false))
        (Pv (binIV .add x5 (Value.int .i64 1)) fun v54 =>
        Kn1 (x2, v54, ())))
    (sh10_5 ω x2 p3 Kn0 K)
def sh10_11 (ω : Om) (p0 : Value) (p3 : Value) (x2 : Value) (x5 : Value) (Kn0 : (Value × Value × Unit) → M) (Kn1 : (Value × Value × Unit) → M) (K : Value → M) : M :=
  Pv (binIV .lss x5 p3) fun v55 =>
  Br v55
    (Draw fun S =>
      Pv (ixV 4 p0 x5) fun v56 =>
      Pv (fldV 0 v56) fun v57 =>
      Rv (some S) (ld1R v57) fun v58 =>
      Pv (ixV 4 p0 p3) fun v59 =>
      Pv (fldV 0 v59) fun v60 =>
      Rv (some S) (ld1R v60) fun v61 =>
      Pv (binIV .eql v58 v61) fun v62 =>
      Br v62
        (K (Value.bool false))
        (Pv (binIV .add x5 (Value.int .i64 1)) fun v63 =>
        Kn1 (x2, v63, ())))
    (sh10_5 ω x2 p3 Kn0 K)
def sh10_4 (ω : Om) (p0 : Value) (x2 : Value) (x3 : Value) (Kn0 : (Value × Value × Unit) → M) (K : Value → M) : M :=
  Pv (lenV p0) fun v19 =>
  Pv (binIV .lss x3 v19) fun v20 =>
  Br v20
    (Pv (ixV 4 p0 x3) fun v22 =>
    Rv none (ldNR 4 v22) fun v23 =>
    Cal Try.prog ω 28 #[v23] <| gh fun v24 =>
    Draw fun S =>
      Pv (unV .not v24) fun v25 =>
      Gd v25 false
        (Pv (binIV .gtr x3 (Value.int .i64 0)) fun v26 =>
        Gd v26 true
          (Pv (binIV .sub x3 (Value.int .i64 1)) fun v27 =>
          Pv (ixV 4 p0 v27) fun v28 =>
          Pv (fldV 1 v28) fun v29 =>
          Pv (fldV 1 v29) fun v30 =>
          Rv (some S) (ld1R v30) fun v31 =>
          Pv (lenV v31) fun v32 =>
          Pv (binIV .eql v32 (Value.int .i64 0)) fun v33 =>
          Gd v33 false
            (Pv (binIV .sub x3 (Value.int .i64 1)) fun v34 =>
            Pv (ixV 4 p0 v34) fun v35 =>
            Pv (fldV 1 v35) fun v36 =>
            Pv (fldV 1 v36) fun v37 =>
            Rv (some S) (ld1R v37) fun v38 =>
            Rv (some S) (bsR v38) fun v39 =>
            Pv (ixV 4 p0 x3) fun v40 =>
            Pv (fldV 1 v40) fun v41 =>
            Pv (fldV 0 v41) fun v42 =>
            Rv (some S) (ld1R v42) fun v43 =>
            Rv (some S) (bsR v43) fun v44 =>
            Pv (binSV .neq v39 v44) fun v45 =>
            Br v45
              (K (Value.bool false))
              (LoopM ((x2, (Value.int .i64 0), ()) : Value × Value × Unit) fun s Kn1 =>
              sh10_9 ω p0 x3 s.1 s.2.1 Kn0 Kn1 K))
            (K (Value.bool false)))
          (LoopM ((x2, (Value.int .i64 0), ()) : Value × Value × Unit) fun s Kn1 =>
          sh10_11 ω p0 x3 s.1 s.2.1 Kn0 Kn1 K))
        (K (Value.bool false)))
    (K (Value.bool true))
def sh10 (ω : Om) (a0 : Value) (K : Value → M) : M :=
  Pv (lenV a0) fun v1 =>
  Pv (binIV .lss v1 (Value.int .i64 1)) fun v2 =>
  Gd v2 false
    (Pv (lenV a0) fun v3 =>
    Pv (binIV .gtr v3 (Value.int .i64 32)) fun v4 =>
    Gd v4 false
      (Pv (ixV 4 a0 (Value.int .i64 0)) fun v5 =>
      Pv (fldV 1 v5) fun v6 =>
      Pv (fldV 0 v6) fun v7 =>
      Rv none (ld1R v7) fun v8 =>
      Pv (lenV v8) fun v9 =>
      Pv (binIV .gtr v9 (Value.int .i64 0)) fun v10 =>
      Gd v10 false
        (Pv (lenV a0) fun v11 =>
        Pv (binIV .sub v11 (Value.int .i64 1)) fun v12 =>
        Pv (ixV 4 a0 v12) fun v13 =>
        Pv (fldV 1 v13) fun v14 =>
        Pv (fldV 1 v14) fun v15 =>
        Rv none (ld1R v15) fun v16 =>
        Pv (lenV v16) fun v17 =>
        Pv (binIV .gtr v17 (Value.int .i64 0)) fun v18 =>
        Br v18
          (K (Value.bool false))
          (LoopM (((Value.bool false), (Value.int .i64 0), ()) : Value × Value × Unit) fun s Kn0 =>
          sh10_4 ω a0 s.1 s.2.1 Kn0 K))
        (K (Value.bool false)))
      (K (Value.bool false)))
    (K (Value.bool false))
theorem sh10_eq (ω : Om) (a0 : Value) (K : Value → M) : vcF Try.prog ω Try.f10 [a0] K = sh10 ω a0 K := by kernel_rfl
theorem cal10 {ω : Om} {a0 : Value} {K : Value → M} {I : Imm} {L : LH} (h : sh10 ω a0 (fun v => Gh (K v)) I L) : Cal Try.prog ω 10 #[a0] K I L :=
  Cal.gh (cal_of_vc mixed Try.func10 (by rw [sh10_eq]; exact h))

def sh11 (ω : Om) (a0 : Value) (a1 : Value) (K : Value → M) : M :=
  New (.cells (Value.cells a1) 40 (0, 0)) <| gh fun p_1 =>
  Pv (nilV a0) fun v2 =>
  Pv (fldV 13 v2) fun v3 =>
  Rv none (ld1R v3) fun v4 =>
  Pv (binIV .neq v4 (Value.int .i64 1)) fun v5 =>
  Br v5
    (K (Value.int .i64 160))
    (Rv none (ldNR 2 p_1) fun v6 =>
    Cal Try.prog ω 29 #[v6] <| gh fun v7 =>
    Pv (unV .not v7) fun v8 =>
    Br v8
      (K (Value.int .i64 1))
      (Pv (nilV a0) fun v9 =>
      Pv (fldV 13 v9) fun v10 =>
      Sto 1 v10 (Value.int .i64 2) <| gh fun _ =>
      Pv (nilV a0) fun v11 =>
      Pv (fldV 14 v11) fun v12 =>
      Sto 1 v12 (Value.int .i64 1) <| gh fun _ =>
      Pv (nilV a0) fun v13 =>
      Pv (fldV 20 v13) fun v14 =>
      Sto 1 v14 (Value.slice none 0 0) <| gh fun _ =>
      Pv (nilV a0) fun v15 =>
      Pv (fldV 21 v15) fun v16 =>
      Sto 1 v16 (Value.slice none 0 0) <| gh fun _ =>
      Draw fun S =>
        Rv (some S) (ldNR 2 p_1) fun v17 =>
        Rv (some S) (ldNR 2 p_1) fun v18 =>
        Cal Try.prog ω 30 #[v17] <| gh <| Keep S fun v19 =>
        Cal Try.prog ω 30 #[v18] <| gh fun v20 =>
        Pv (nilV a0) fun v21 =>
        Pv (fldV 15 v21) fun v22 =>
        (fun I L => (BldS 40 2 #[(Value.slice none 0 0), (Value.slice none 0 0)] 1 [(0, v20)] <| gh fun v23 =>
          Sto 2 v22 v19 <| gh fun _ =>
          Pv (nilV a0) fun v24 =>
          Pv (fldV 17 v24) fun v25 =>
          Sto 1 v25 v23 <| gh fun _ =>
          K (Value.int .i64 0)) I L ∧ (Sto 2 v22 v19 <| gh fun _ =>
          BldS 40 2 #[(Value.slice none 0 0), (Value.slice none 0 0)] 1 [(0, v20)] <| gh fun v26 =>
          Pv (nilV a0) fun v27 =>
          Pv (fldV 17 v27) fun v28 =>
          Sto 1 v28 v26 <| gh fun _ =>
          K (Value.int .i64 0)) I L)))
theorem sh11_eq (ω : Om) (a0 a1 : Value) (K : Value → M) : vcF Try.prog ω Try.f11 [a0, a1] K = sh11 ω a0 a1 K := by kernel_rfl
theorem cal11 {ω : Om} {a0 a1 : Value} {K : Value → M} {I : Imm} {L : LH} (h : sh11 ω a0 a1 (fun v => Gh (K v)) I L) : Cal Try.prog ω 11 #[a0, a1] K I L :=
  Cal.gh (cal_of_vc mixed Try.func11 (by rw [sh11_eq]; exact h))

def sh12_4 (ω : Om) (p0 : Value) (p4 : Value) (p31 : Value) (p32 : Value) (x33 : Value) (Kn0 : (Value × Unit) → M) (K : Value → M) : M :=
  Pv (binIV .lss x33 p32) fun v12 =>
  Br v12
    (Pv (ixV 3 p31 x33) fun v13 =>
    Rv none (ldNR 3 v13) fun v14 =>
    New (.cells #[(Value.bool false), (Value.slice none 0 0), (Value.slice none 0 0)] 62 (0, 0)) <| gh fun x_15 =>
    Sto 3 x_15 v14 <| gh fun _ =>
    Draw fun S =>
      Pv (nilV p0) fun v16 =>
      Pv (fldV 18 v16) fun v17 =>
      Rv (some S) (ld1R v17) fun v18 =>
      Pv (fldV 0 x_15) fun v19 =>
      Rv (some S) (ld1R v19) fun v20 =>
      Pv (fldV 1 x_15) fun v21 =>
      Rv (some S) (ld1R v21) fun v22 =>
      Cal Try.prog ω 34 #[v22] <| gh <| Keep S fun v23 =>
      Pv (fldV 2 x_15) fun v24 =>
      Rv (some S) (ld1R v24) fun v25 =>
      Cal Try.prog ω 34 #[v25] <| gh <| Keep S fun v26 =>
      Pv (bldV #[(Value.bool false), (Value.slice none 0 0), (Value.slice none 0 0)] #[(0, 1), (1, 1), (2, 1)] [(0, v20), (1, v23), (2, v26)]) fun v27 =>
      BldS 62 3 #[(Value.bool false), (Value.slice none 0 0), (Value.slice none 0 0)] 1 [(0, v27)] <| gh <| Keep S fun v28 =>
      App 62 3 56 #[(Value.bool false), (Value.slice none 0 0), (Value.slice none 0 0)] v18 v28 <| gh fun v29 =>
      Pv (nilV p0) fun v30 =>
      Pv (fldV 18 v30) fun v31 =>
      Sto 1 v31 v29 <| gh fun _ =>
      Pv (binIV .add x33 (Value.int .i64 1)) fun v32 =>
      Kn0 (v32, ()))
    (K (Value.int .i64 0))
def sh12_1 (ω : Om) (p0 : Value) (p1 : Value) (p4 : Value) (p13 : Value) (K : Value → M) : M :=
  Br p13
    (K (Value.int .i64 1))
    (Pv (nilV p0) fun v5 =>
    Pv (fldV 13 v5) fun v6 =>
    Sto 1 v6 (Value.int .i64 2) <| gh fun _ =>
    Pv (nilV p0) fun v7 =>
    Pv (fldV 14 v7) fun v8 =>
    Sto 1 v8 (Value.int .i64 2) <| gh fun _ =>
    Pv (nilV p0) fun v9 =>
    Pv (fldV 18 v9) fun v10 =>
    Sto 1 v10 (Value.slice none 0 0) <| gh fun _ =>
    Pv (lenV p1) fun v11 =>
    LoopM (((Value.int .i64 0), ()) : Value × Unit) fun s Kn0 =>
    sh12_4 ω p0 p4 p1 v11 s.1 Kn0 K)
def sh12 (ω : Om) (a0 : Value) (a1 : Value) (K : Value → M) : M :=
  Pv (nilV a0) fun v1 =>
  Pv (fldV 13 v1) fun v2 =>
  Rv none (ld1R v2) fun v3 =>
  Pv (binIV .neq v3 (Value.int .i64 1)) fun v4 =>
  Br v4
    (K (Value.int .i64 160))
    (Pv (lenV a1) fun v33 =>
    Pv (binIV .lss v33 (Value.int .i64 1)) fun v34 =>
    Br v34
      (sh12_1 ω a0 a1 (Value.int .i64 0) v34 K)
      (Pv (lenV a1) fun v35 =>
      Pv (binIV .gtr v35 (Value.int .i64 200)) fun v36 =>
      Br v36
        (sh12_1 ω a0 a1 (Value.int .i64 0) v36 K)
        (Cal Try.prog ω 31 #[a1, (Value.func (.func 32) #[] #[])] <| gh fun v37 =>
        sh12_1 ω a0 a1 (Value.int .i64 0) v37 K)))
theorem sh12_eq (ω : Om) (a0 a1 : Value) (K : Value → M) : vcF Try.prog ω Try.f12 [a0, a1] K = sh12 ω a0 a1 K := by kernel_rfl
theorem cal12 {ω : Om} {a0 a1 : Value} {K : Value → M} {I : Imm} {L : LH} (h : sh12 ω a0 a1 (fun v => Gh (K v)) I L) : Cal Try.prog ω 12 #[a0, a1] K I L :=
  Cal.gh (cal_of_vc mixed Try.func12 (by rw [sh12_eq]; exact h))

def sh13_2 (ω : Om) (p0 : Value) (p2 : Value) (K : Value → M) : M :=
  Pv (nilV p0) fun v27 =>
  Pv (fldV 11 v27) fun v28 =>
  Rv none (ld1R v28) fun v29 =>
  Cal Try.prog ω 37 #[v29] <| gh fun v30 =>
  Pv (nilV p0) fun v31 =>
  Pv (fldV 14 v31) fun v32 =>
  Sto 1 v32 (Value.int .i64 3) <| gh fun _ =>
  Pv (nilV p0) fun v33 =>
  Pv (fldV 17 v33) fun v34 =>
  Sto 1 v34 v30 <| gh fun _ =>
  K (Value.int .i64 0)
def sh13 (ω : Om) (a0 : Value) (K : Value → M) : M :=
  Pv (nilV a0) fun v1 =>
  Pv (fldV 13 v1) fun v2 =>
  Rv none (ld1R v2) fun v3 =>
  Pv (binIV .neq v3 (Value.int .i64 1)) fun v4 =>
  Br v4
    (K (Value.int .i64 160))
    (Pv (nilV a0) fun v5 =>
    Pv (fldV 10 v5) fun v6 =>
    Rv none (ld1R v6) fun v7 =>
    Pv (unV .not v7) fun v8 =>
    Br v8
      (Cal Try.prog ω 35 #[a0] <| gh fun v9 =>
      K (Value.int .i64 0))
      (Pv (nilV a0) fun v10 =>
      Pv (fldV 13 v10) fun v11 =>
      Sto 1 v11 (Value.int .i64 2) <| gh fun _ =>
      Pv (nilV a0) fun v12 =>
      Pv (fldV 14 v12) fun v13 =>
      Sto 1 v13 (Value.int .i64 4) <| gh fun _ =>
      Draw fun S =>
        Pv (nilV a0) fun v14 =>
        Pv (fldV 6 v14) fun v15 =>
        Rv (some S) (ldNR 2 v15) fun v16 =>
        Pv (nilV a0) fun v17 =>
        Pv (fldV 4 v17) fun v18 =>
        Rv (some S) (ldNR 2 v18) fun v19 =>
        Cal Try.prog ω 36 #[v16, v19] <| gh <| Keep S fun v20 =>
        Pv (binIV .gtr v20 (Value.int .i64 0)) fun v21 =>
        Gd v21 true
          (Pv (nilV a0) fun v22 =>
          Pv (fldV 11 v22) fun v23 =>
          Rv (some S) (ld1R v23) fun v24 =>
          Pv (lenV v24) fun v25 =>
          Pv (binIV .gtr v25 (Value.int .i64 0)) fun v26 =>
          Br v26
            (sh13_2 ω a0 (Value.int .i64 0) K)
            (K (Value.int .i64 0)))
          (K (Value.int .i64 0))))
theorem sh13_eq (ω : Om) (a0 : Value) (K : Value → M) : vcF Try.prog ω Try.f13 [a0] K = sh13 ω a0 K := by kernel_rfl
theorem cal13 {ω : Om} {a0 : Value} {K : Value → M} {I : Imm} {L : LH} (h : sh13 ω a0 (fun v => Gh (K v)) I L) : Cal Try.prog ω 13 #[a0] K I L :=
  Cal.gh (cal_of_vc mixed Try.func13 (by rw [sh13_eq]; exact h))

def sh14 (ω : Om) (a0 : Value) (K : Value → M) : M :=
  Pv (nilV a0) fun v1 =>
  Pv (fldV 13 v1) fun v2 =>
  Rv none (ld1R v2) fun v3 =>
  Pv (binIV .neq v3 (Value.int .i64 1)) fun v4 =>
  Gd v4 true
    (Pv (nilV a0) fun v5 =>
    Pv (fldV 13 v5) fun v6 =>
    Rv none (ld1R v6) fun v7 =>
    Pv (binIV .neq v7 (Value.int .i64 2)) fun v8 =>
    Gd v8 false
      (Pv (nilV a0) fun v9 =>
      Pv (fldV 14 v9) fun v10 =>
      Rv none (ld1R v10) fun v11 =>
      Pv (binIV .eql v11 (Value.int .i64 4)) fun v12 =>
      Br v12
        (K (Value.int .i64 160))
        (Cal Try.prog ω 38 #[a0] <| gh fun v13 =>
        K (Value.int .i64 0)))
      (K (Value.int .i64 160)))
    (Pv (nilV a0) fun v14 =>
    Pv (fldV 14 v14) fun v15 =>
    Rv none (ld1R v15) fun v16 =>
    Pv (binIV .eql v16 (Value.int .i64 4)) fun v17 =>
    Br v17
      (K (Value.int .i64 160))
      (Cal Try.prog ω 38 #[a0] <| gh fun v18 =>
      K (Value.int .i64 0)))
theorem sh14_eq (ω : Om) (a0 : Value) (K : Value → M) : vcF Try.prog ω Try.f14 [a0] K = sh14 ω a0 K := by kernel_rfl
theorem cal14 {ω : Om} {a0 : Value} {K : Value → M} {I : Imm} {L : LH} (h : sh14 ω a0 (fun v => Gh (K v)) I L) : Cal Try.prog ω 14 #[a0] K I L :=
  Cal.gh (cal_of_vc mixed Try.func14 (by rw [sh14_eq]; exact h))

def sh15_1 (ω : Om) (p4 : Value) (p5 : Value) (p6 : Value) (p7 : Value) (K : Value → M) : M :=
  Rv none (ldNR 17 p6) fun v6 =>
  Sto 17 p4 v6 <| gh fun _ =>
  Rv none (ldNR 17 p4) fun v7 =>
  K (Value.tuple #[v7, p7])
def sh15 (ω : Om) (a0 : Value) (a1 : Value) (K : Value → M) : M :=
  New (.cells #[(Value.int .i64 0), (Value.int .i64 0), (Value.int .i64 0), (Value.int .i64 0), (Value.int .i64 0), (Value.int .i64 0), (Value.int .i64 0), (Value.int .i64 0), (Value.int .i64 0), (Value.bool false), (Value.bool false), (Value.slice none 0 0), (Value.slice none 0 0), (Value.slice none 0 0), (Value.slice none 0 0), (Value.int .i64 0), (Value.int .i64 0)] 55 (0, 0)) <| gh fun v1 =>
  Cal Try.prog ω 39 #[a0, a1] <| gh fun v2 =>
  Pv (exV v2 0) fun v3 =>
  Pv (exV v2 1) fun v4 =>
  New (.cells #[(Value.int .i64 0), (Value.int .i64 0), (Value.int .i64 0), (Value.int .i64 0), (Value.int .i64 0), (Value.int .i64 0), (Value.int .i64 0), (Value.int .i64 0), (Value.int .i64 0), (Value.bool false), (Value.bool false), (Value.slice none 0 0), (Value.slice none 0 0), (Value.slice none 0 0), (Value.slice none 0 0), (Value.int .i64 0), (Value.int .i64 0)] 55 (0, 0)) <| gh fun q_5 =>
  Sto 17 q_5 v3 <| gh fun _ =>
  Br v4
    (Pv (nilV a0) fun v8 =>
    Pv (fldV 9 v8) fun v9 =>
    Rv none (ld1R v9) fun v10 =>
    Pv (fldV 16 q_5) fun v11 =>
    Sto 1 v11 v10 <| gh fun _ =>
    sh15_1 ω v1 (Value.bool false) q_5 v4 K)
    (sh15_1 ω v1 (Value.bool false) q_5 v4 K)
theorem sh15_eq (ω : Om) (a0 a1 : Value) (K : Value → M) : vcF Try.prog ω Try.f15 [a0, a1] K = sh15 ω a0 a1 K := by kernel_rfl
theorem cal15 {ω : Om} {a0 a1 : Value} {K : Value → M} {I : Imm} {L : LH} (h : sh15 ω a0 a1 (fun v => Gh (K v)) I L) : Cal Try.prog ω 15 #[a0, a1] K I L :=
  Cal.gh (cal_of_vc mixed Try.func15 (by rw [sh15_eq]; exact h))

def sh16_4 (ω : Om) (p0 : Value) (p5 : Value) (p6 : Value) (p9 : Value) (K : Value → M) : M :=
  Rv none (ldNR 15 p9) fun v38 =>
  Rv none (ldNR 11 p5) fun v39 =>
  Cal Try.prog ω 43 #[p0, v38, v39] <| gh fun v40 =>
  K (Value.bool true)
def sh16_7 (ω : Om) (p0 : Value) (p5 : Value) (p6 : Value) (p9 : Value) (K : Value → M) : M :=
  Draw fun S =>
    Pv (fldV 9 p5) fun v71 =>
    Rv (some S) (ld1R v71) fun v72 =>
    Pv (fldV 12 p9) fun v73 =>
    Rv (some S) (ldNR 2 v73) fun v74 =>
    Cal Try.prog ω 30 #[v74] <| gh <| Keep S fun v75 =>
    Pv (bldV #[(Value.int .i64 0), (Value.slice none 0 0), (Value.slice none 0 0), (Value.int .i64 0), (Value.int .i64 0), (Value.int .i64 0), (Value.int .i64 0)] #[(0, 1), (1, 2), (3, 1), (4, 1), (5, 2)] [(0, v72), (1, v75)]) fun v76 =>
    Pv (nilV p0) fun v77 =>
    Pv (fldV 22 v77) fun v78 =>
    Sto 7 v78 v76 <| gh fun _ =>
    Pv (fldV 0 p9) fun v79 =>
    Rv none (ld1R v79) fun v80 =>
    Pv (binIV .eql v80 (Value.int .i64 3)) fun v81 =>
    Br v81
      (Pv (fldV 10 p9) fun v82 =>
      Rv none (ld1R v82) fun v83 =>
      Cal Try.prog ω 46 #[v83] <| gh fun v84 =>
      Pv (nilV p0) fun v85 =>
      Pv (fldV 22 v85) fun v86 =>
      Pv (fldV 1 v86) fun v87 =>
      Sto 2 v87 v84 <| gh fun _ =>
      K (Value.bool true))
      (K (Value.bool true))
def sh16_8 (ω : Om) (p0 : Value) (p6 : Value) (K : Value → M) : M :=
  Cal Try.prog ω 38 #[p0] <| gh fun v88 =>
  K (Value.bool true)
def sh16_6 (ω : Om) (p0 : Value) (p5 : Value) (p6 : Value) (p9 : Value) (p61 : Value) (K : Value → M) : M :=
  Br p61
    (Rv none (ldNR 15 p9) fun v41 =>
    Rv none (ldNR 11 p5) fun v42 =>
    Cal Try.prog ω 44 #[p0, v41, v42] <| gh fun v43 =>
    K (Value.bool true))
    (Pv (fldV 0 p5) fun v44 =>
    Rv none (ld1R v44) fun v45 =>
    Pv (binIV .eql v45 (Value.int .i64 0)) fun v46 =>
    Br v46
      (Rv none (ldNR 15 p9) fun v47 =>
      Rv none (ldNR 11 p5) fun v48 =>
      Cal Try.prog ω 45 #[p0, v47, v48] <| gh fun v49 =>
      K (Value.bool true))
      (Draw fun S =>
        Pv (fldV 0 p5) fun v50 =>
        Rv (some S) (ld1R v50) fun v51 =>
        Pv (binIV .eql v51 (Value.int .i64 130)) fun v52 =>
        Gd v52 true
          (Pv (fldV 0 p9) fun v53 =>
          Rv (some S) (ld1R v53) fun v54 =>
          Pv (binIV .eql v54 (Value.int .i64 2)) fun v55 =>
          Gd v55 false
            (Pv (fldV 0 p9) fun v56 =>
            Rv (some S) (ld1R v56) fun v57 =>
            Pv (binIV .eql v57 (Value.int .i64 3)) fun v58 =>
            Gd v58 true
              (Pv (fldV 9 p5) fun v59 =>
              Rv (some S) (ld1R v59) fun v60 =>
              Pv (binIV .geq v60 (Value.int .i64 1)) fun v61 =>
              Gd v61 true
                (Pv (fldV 9 p5) fun v62 =>
                Rv (some S) (ld1R v62) fun v63 =>
                Pv (binIV .leq v63 (Value.int .i64 9007199254740991)) fun v64 =>
                Gd v64 true
                  (Pv (fldV 9 p5) fun v65 =>
                  Rv (some S) (ld1R v65) fun v66 =>
                  Pv (nilV p0) fun v67 =>
                  Pv (fldV 0 v67) fun v68 =>
                  Rv (some S) (ld1R v68) fun v69 =>
                  Pv (binIV .neq v66 v69) fun v70 =>
                  Br v70
                    (sh16_7 ω p0 p5 p6 p9 K)
                    (sh16_8 ω p0 p6 K))
                  (sh16_8 ω p0 p6 K))
                (sh16_8 ω p0 p6 K))
              (sh16_8 ω p0 p6 K))
            (Pv (fldV 9 p5) fun v89 =>
            Rv (some S) (ld1R v89) fun v90 =>
            Pv (binIV .geq v90 (Value.int .i64 1)) fun v91 =>
            Gd v91 true
              (Pv (fldV 9 p5) fun v92 =>
              Rv (some S) (ld1R v92) fun v93 =>
              Pv (binIV .leq v93 (Value.int .i64 9007199254740991)) fun v94 =>
              Gd v94 true
                (Pv (fldV 9 p5) fun v95 =>
                Rv (some S) (ld1R v95) fun v96 =>
                Pv (nilV p0) fun v97 =>
                Pv (fldV 0 v97) fun v98 =>
                Rv (some S) (ld1R v98) fun v99 =>
                Pv (binIV .neq v96 v99) fun v100 =>
                Br v100
                  (sh16_7 ω p0 p5 p6 p9 K)
                  (sh16_8 ω p0 p6 K))
                (sh16_8 ω p0 p6 K))
              (sh16_8 ω p0 p6 K)))
          (sh16_8 ω p0 p6 K)))
def sh16_5 (ω : Om) (p0 : Value) (p5 : Value) (p6 : Value) (p9 : Value) (K : Value → M) : M :=
  Pv (nilV p0) fun v101 =>
  Pv (fldV 14 v101) fun v102 =>
  Rv none (ld1R v102) fun v103 =>
  Pv (binIV .eql v103 (Value.int .i64 5)) fun v104 =>
  Br v104
    (sh16_6 ω p0 p5 p6 p9 v104 K)
    (Pv (nilV p0) fun v105 =>
    Pv (fldV 14 v105) fun v106 =>
    Rv none (ld1R v106) fun v107 =>
    Pv (binIV .eql v107 (Value.int .i64 6)) fun v108 =>
    sh16_6 ω p0 p5 p6 p9 v108 K)
def sh16 (ω : Om) (a0 : Value) (a1 : Value) (a2 : Value) (K : Value → M) : M :=
  New (.cells (Value.cells a1) 55 (0, 0)) <| gh fun q_1 =>
  New (.cells (Value.cells a2) 46 (0, 0)) <| gh fun r_2 =>
  Cal Try.prog ω 40 #[] <| gh fun v3 =>
  Cal Try.prog ω 41 #[v3] <| gh fun v4 =>
  Cal Try.prog ω 15 #[a0, v4] <| gh fun v5 =>
  Pv (exV v5 0) fun v6 =>
  Pv (exV v5 1) fun v7 =>
  New (.cells #[(Value.int .i64 0), (Value.int .i64 0), (Value.int .i64 0), (Value.int .i64 0), (Value.int .i64 0), (Value.int .i64 0), (Value.int .i64 0), (Value.int .i64 0), (Value.int .i64 0), (Value.bool false), (Value.bool false), (Value.slice none 0 0), (Value.slice none 0 0), (Value.slice none 0 0), (Value.slice none 0 0), (Value.int .i64 0), (Value.int .i64 0)] 55 (0, 0)) <| gh fun want_8 =>
  Sto 17 want_8 v6 <| gh fun _ =>
  Pv (unV .not v7) fun v9 =>
  Gd v9 false
    (Pv (fldV 16 q_1) fun v10 =>
    Rv none (ld1R v10) fun v11 =>
    Pv (fldV 16 want_8) fun v12 =>
    Rv none (ld1R v12) fun v13 =>
    Pv (binIV .neq v11 v13) fun v14 =>
    Gd v14 false
      (Pv (fldV 1 q_1) fun v15 =>
      Rv none (ldNR 15 v15) fun v16 =>
      Pv (fldV 1 want_8) fun v17 =>
      Rv none (ldNR 15 v17) fun v18 =>
      Cal Try.prog ω 42 #[v16, v18] <| gh fun v19 =>
      Pv (unV .not v19) fun v20 =>
      Gd v20 false
        (Pv (fldV 0 r_2) fun v21 =>
        Rv none (ld1R v21) fun v22 =>
        Pv (binIV .eql v22 (Value.int .i64 141)) fun v23 =>
        Br v23
          (K (Value.bool false))
          (Pv (nilV a0) fun v24 =>
          Pv (fldV 9 v24) fun v25 =>
          Rv none (ld1R v25) fun v26 =>
          Pv (binIV .add v26 (Value.int .i64 1)) fun v27 =>
          Pv (nilV a0) fun v28 =>
          Pv (fldV 9 v28) fun v29 =>
          Sto 1 v29 v27 <| gh fun _ =>
          Pv (fldV 1 q_1) fun v30 =>
          Rv none (ldNR 15 v30) fun v31 =>
          New (.cells #[(Value.int .i64 0), (Value.int .i64 0), (Value.int .i64 0), (Value.int .i64 0), (Value.int .i64 0), (Value.int .i64 0), (Value.int .i64 0), (Value.int .i64 0), (Value.bool false), (Value.bool false), (Value.slice none 0 0), (Value.slice none 0 0), (Value.slice none 0 0), (Value.slice none 0 0), (Value.int .i64 0)] 48 (0, 0)) <| gh fun c_32 =>
          Sto 15 c_32 v31 <| gh fun _ =>
          Pv (nilV a0) fun v33 =>
          Pv (fldV 22 v33) fun v34 =>
          Pv (fldV 0 v34) fun v35 =>
          Rv none (ld1R v35) fun v36 =>
          Pv (binIV .neq v36 (Value.int .i64 0)) fun v37 =>
          Br v37
            (sh16_4 ω a0 r_2 (Value.bool false) c_32 K)
            (sh16_5 ω a0 r_2 (Value.bool false) c_32 K)))
        (K (Value.bool false)))
      (K (Value.bool false)))
    (K (Value.bool false))
theorem sh16_eq (ω : Om) (a0 a1 a2 : Value) (K : Value → M) : vcF Try.prog ω Try.f16 [a0, a1, a2] K = sh16 ω a0 a1 a2 K := by kernel_rfl
theorem cal16 {ω : Om} {a0 a1 a2 : Value} {K : Value → M} {I : Imm} {L : LH} (h : sh16 ω a0 a1 a2 (fun v => Gh (K v)) I L) : Cal Try.prog ω 16 #[a0, a1, a2] K I L :=
  Cal.gh (cal_of_vc mixed Try.func16 (by rw [sh16_eq]; exact h))

def sh17 (ω : Om) (a0 : Value) (a1 : Value) (K : Value → M) : M :=
  New (.cells (Value.cells a0) 48 (0, 0)) <| gh fun a_1 =>
  New (.cells (Value.cells a1) 48 (0, 0)) <| gh fun b_2 =>
  Rv none (ldNR 15 a_1) fun v3 =>
  Rv none (ldNR 15 b_2) fun v4 =>
  Cal Try.prog ω 47 #[v3, v4] <| gh fun v5 =>
  Gd v5 true
    (Pv (fldV 12 a_1) fun v6 =>
    Pv (fldV 1 v6) fun v7 =>
    Rv none (ld1R v7) fun v8 =>
    Rv none (bsR v8) fun v9 =>
    Pv (fldV 12 b_2) fun v10 =>
    Pv (fldV 1 v10) fun v11 =>
    Rv none (ld1R v11) fun v12 =>
    Rv none (bsR v12) fun v13 =>
    Pv (binSV .eql v9 v13) fun v14 =>
    K v14)
    (K (Value.bool false))
theorem sh17_eq (ω : Om) (a0 a1 : Value) (K : Value → M) : vcF Try.prog ω Try.f17 [a0, a1] K = sh17 ω a0 a1 K := by kernel_rfl
theorem cal17 {ω : Om} {a0 a1 : Value} {K : Value → M} {I : Imm} {L : LH} (h : sh17 ω a0 a1 (fun v => Gh (K v)) I L) : Cal Try.prog ω 17 #[a0, a1] K I L :=
  Cal.gh (cal_of_vc mixed Try.func17 (by rw [sh17_eq]; exact h))

def sh18 (ω : Om) (a0 : Value) (K : Value → M) : M :=
  New (.cells (Value.cells a0) 23 (0, 0)) <| gh fun s_1 =>
  Pv (fldV 0 s_1) fun v2 =>
  Rv none (ld1R v2) fun v3 =>
  Cal Try.prog ω 48 #[v3] <| gh fun v4 =>
  Gd v4 true
    (Pv (fldV 1 s_1) fun v5 =>
    Rv none (ld1R v5) fun v6 =>
    Pv (binIV .geq v6 (Value.int .i64 0)) fun v7 =>
    Gd v7 true
      (Pv (fldV 1 s_1) fun v8 =>
      Rv none (ld1R v8) fun v9 =>
      Pv (binIV .leq v9 (Value.int .i64 65535)) fun v10 =>
      K v10)
      (K (Value.bool false)))
    (K (Value.bool false))
theorem sh18_eq (ω : Om) (a0 : Value) (K : Value → M) : vcF Try.prog ω Try.f18 [a0] K = sh18 ω a0 K := by kernel_rfl
theorem cal18 {ω : Om} {a0 : Value} {K : Value → M} {I : Imm} {L : LH} (h : sh18 ω a0 (fun v => Gh (K v)) I L) : Cal Try.prog ω 18 #[a0] K I L :=
  Cal.gh (cal_of_vc mixed Try.func18 (by rw [sh18_eq]; exact h))

def sh19 (ω : Om) (a0 : Value) (K : Value → M) : M :=
  Pv (binIV .geq a0 (Value.int .i64 1)) fun v1 =>
  Gd v1 true
    (Pv (binIV .leq a0 (Value.int .i64 9007199254740991)) fun v2 =>
    K v2)
    (K (Value.bool false))
theorem sh19_eq (ω : Om) (a0 : Value) (K : Value → M) : vcF Try.prog ω Try.f19 [a0] K = sh19 ω a0 K := by kernel_rfl
theorem cal19 {ω : Om} {a0 : Value} {K : Value → M} {I : Imm} {L : LH} (h : sh19 ω a0 (fun v => Gh (K v)) I L) : Cal Try.prog ω 19 #[a0] K I L :=
  Cal.gh (cal_of_vc mixed Try.func19 (by rw [sh19_eq]; exact h))

def sh20 (ω : Om) (a0 : Value) (K : Value → M) : M :=
  New (.cells (Value.cells a0) 23 (0, 0)) <| gh fun s_1 =>
  Pv (fldV 0 s_1) fun v2 =>
  Rv none (ld1R v2) fun v3 =>
  Cal Try.prog ω 49 #[v3] <| gh fun v4 =>
  Gd v4 true
    (Pv (fldV 1 s_1) fun v5 =>
    Rv none (ld1R v5) fun v6 =>
    Pv (binIV .geq v6 (Value.int .i64 0)) fun v7 =>
    Gd v7 true
      (Pv (fldV 1 s_1) fun v8 =>
      Rv none (ld1R v8) fun v9 =>
      Pv (binIV .leq v9 (Value.int .i64 65535)) fun v10 =>
      K v10)
      (K (Value.bool false)))
    (K (Value.bool false))
theorem sh20_eq (ω : Om) (a0 : Value) (K : Value → M) : vcF Try.prog ω Try.f20 [a0] K = sh20 ω a0 K := by kernel_rfl
theorem cal20 {ω : Om} {a0 : Value} {K : Value → M} {I : Imm} {L : LH} (h : sh20 ω a0 (fun v => Gh (K v)) I L) : Cal Try.prog ω 20 #[a0] K I L :=
  Cal.gh (cal_of_vc mixed Try.func20 (by rw [sh20_eq]; exact h))

def sh21 (ω : Om) (a0 : Value) (K : Value → M) : M :=
  Pv (nilV a0) fun v1 =>
  Pv (fldV 13 v1) fun v2 =>
  Rv none (ld1R v2) fun v3 =>
  K v3
theorem sh21_eq (ω : Om) (a0 : Value) (K : Value → M) : vcF Try.prog ω Try.f21 [a0] K = sh21 ω a0 K := by kernel_rfl
theorem cal21 {ω : Om} {a0 : Value} {K : Value → M} {I : Imm} {L : LH} (h : sh21 ω a0 (fun v => Gh (K v)) I L) : Cal Try.prog ω 21 #[a0] K I L :=
  Cal.gh (cal_of_vc mixed Try.func21 (by rw [sh21_eq]; exact h))

def sh22 (ω : Om) (a0 : Value) (K : Value → M) : M :=
  New (.cells #[(Value.int .i64 0), (Value.int .i64 0)] 23 (0, 0)) <| gh fun v1 =>
  Pv (nilV a0) fun v2 =>
  Pv (fldV 4 v2) fun v3 =>
  Rv none (ldNR 2 v3) fun v4 =>
  Sto 2 v1 v4 <| gh fun _ =>
  Rv none (ldNR 2 v1) fun v5 =>
  K v5
theorem sh22_eq (ω : Om) (a0 : Value) (K : Value → M) : vcF Try.prog ω Try.f22 [a0] K = sh22 ω a0 K := by kernel_rfl
theorem cal22 {ω : Om} {a0 : Value} {K : Value → M} {I : Imm} {L : LH} (h : sh22 ω a0 (fun v => Gh (K v)) I L) : Cal Try.prog ω 22 #[a0] K I L :=
  Cal.gh (cal_of_vc mixed Try.func22 (by rw [sh22_eq]; exact h))

def sh23 (ω : Om) (a0 : Value) (K : Value → M) : M :=
  New (.cells #[(Value.int .i64 0), (Value.int .i64 0)] 23 (0, 0)) <| gh fun v1 =>
  Pv (nilV a0) fun v2 =>
  Pv (fldV 6 v2) fun v3 =>
  Rv none (ldNR 2 v3) fun v4 =>
  Sto 2 v1 v4 <| gh fun _ =>
  Rv none (ldNR 2 v1) fun v5 =>
  K v5
theorem sh23_eq (ω : Om) (a0 : Value) (K : Value → M) : vcF Try.prog ω Try.f23 [a0] K = sh23 ω a0 K := by kernel_rfl
theorem cal23 {ω : Om} {a0 : Value} {K : Value → M} {I : Imm} {L : LH} (h : sh23 ω a0 (fun v => Gh (K v)) I L) : Cal Try.prog ω 23 #[a0] K I L :=
  Cal.gh (cal_of_vc mixed Try.func23 (by rw [sh23_eq]; exact h))

def sh24 (ω : Om) (a0 : Value) (K : Value → M) : M :=
  Pv (nilV a0) fun v1 =>
  Pv (fldV 22 v1) fun v2 =>
  Pv (fldV 0 v2) fun v3 =>
  Rv none (ld1R v3) fun v4 =>
  K v4
theorem sh24_eq (ω : Om) (a0 : Value) (K : Value → M) : vcF Try.prog ω Try.f24 [a0] K = sh24 ω a0 K := by kernel_rfl
theorem cal24 {ω : Om} {a0 : Value} {K : Value → M} {I : Imm} {L : LH} (h : sh24 ω a0 (fun v => Gh (K v)) I L) : Cal Try.prog ω 24 #[a0] K I L :=
  Cal.gh (cal_of_vc mixed Try.func24 (by rw [sh24_eq]; exact h))

def sh25_3 (ω : Om) (p2 : Value) (p15 : Value) (p16 : Value) (x3 : Value) (x17 : Value) (Kn0 : (Value × Value × Unit) → M) (K : Value → M) : M :=
  Pv (binIV .lss x17 p16) fun v10 =>
  Br v10
    (Pv (ixV 2 p15 x17) fun v11 =>
    Rv none (ldNR 2 v11) fun v12 =>
    New (.cells #[(Value.slice none 0 0), (Value.slice none 0 0)] 95 (0, 0)) <| gh fun x_13 =>
    Sto 2 x_13 v12 <| gh fun _ =>
    Draw fun S =>
      Pv (fldV 0 x_13) fun v14 =>
      Rv (some S) (ld1R v14) fun v15 =>
      Cal Try.prog ω 34 #[v15] <| gh <| Keep S fun v16 =>
      Pv (fldV 1 x_13) fun v17 =>
      Rv (some S) (ld1R v17) fun v18 =>
      Cal Try.prog ω 34 #[v18] <| gh fun v19 =>
      Pv (bldV #[(Value.slice none 0 0), (Value.slice none 0 0)] #[(0, 1), (1, 1)] [(0, v16), (1, v19)]) fun v20 =>
      BldS 95 2 #[(Value.slice none 0 0), (Value.slice none 0 0)] 1 [(0, v20)] <| gh fun v21 =>
      App 95 2 48 #[(Value.slice none 0 0), (Value.slice none 0 0)] x3 v21 <| gh fun v22 =>
      Pv (binIV .add x17 (Value.int .i64 1)) fun v23 =>
      Kn0 (v22, v23, ()))
    (K x3)
def sh25 (ω : Om) (a0 : Value) (K : Value → M) : M :=
  Pv (nilV a0) fun v1 =>
  Pv (fldV 21 v1) fun v2 =>
  Rv none (ld1R v2) fun v3 =>
  Pv (lenV v3) fun v4 =>
  MkS 95 48 #[(Value.slice none 0 0), (Value.slice none 0 0)] (Value.int .i64 0) v4 <| gh fun v5 =>
  Pv (nilV a0) fun v6 =>
  Pv (fldV 21 v6) fun v7 =>
  Rv none (ld1R v7) fun v8 =>
  Pv (lenV v8) fun v9 =>
  LoopM ((v5, (Value.int .i64 0), ()) : Value × Value × Unit) fun s Kn0 =>
  sh25_3 ω (Value.slice none 0 0) v8 v9 s.1 s.2.1 Kn0 K
theorem sh25_eq (ω : Om) (a0 : Value) (K : Value → M) : vcF Try.prog ω Try.f25 [a0] K = sh25 ω a0 K := by kernel_rfl
theorem cal25 {ω : Om} {a0 : Value} {K : Value → M} {I : Imm} {L : LH} (h : sh25 ω a0 (fun v => Gh (K v)) I L) : Cal Try.prog ω 25 #[a0] K I L :=
  Cal.gh (cal_of_vc mixed Try.func25 (by rw [sh25_eq]; exact h))

def sh26_3 (ω : Om) (p0 : Value) (p1 : Value) (x4 : Value) (x5 : Value) (Kn0 : (Value × Value × Unit) → M) (K : Value → M) : M :=
  Pv (lenV p0) fun v4 =>
  Pv (binIV .lss x5 v4) fun v5 =>
  Br v5
    (Draw fun S =>
      Pv (ixV 2 p0 x5) fun v6 =>
      Pv (fldV 0 v6) fun v7 =>
      Rv (some S) (ld1R v7) fun v8 =>
      Rv (some S) (bsR v8) fun v9 =>
      Pv (ixV 2 p1 x5) fun v10 =>
      Pv (fldV 0 v10) fun v11 =>
      Rv (some S) (ld1R v11) fun v12 =>
      Rv (some S) (bsR v12) fun v13 =>
      Pv (binSV .neq v9 v13) fun v14 =>
      Gd v14 false
        (Pv (ixV 2 p0 x5) fun v15 =>
        Pv (fldV 1 v15) fun v16 =>
        Rv (some S) (ld1R v16) fun v17 =>
        Rv (some S) (bsR v17) fun v18 =>
        Pv (ixV 2 p1 x5) fun v19 =>
        Pv (fldV 1 v19) fun v20 =>
        Rv (some S) (ld1R v20) fun v21 =>
        Rv (some S) (bsR v21) fun v22 =>
        Pv (binSV .neq v18 v22) fun v23 =>
        Br v23
          (K (Value.bool false))
          (Pv (binIV .add x5 (Value.int .i64 1)) fun v24 =>
          Kn0 (x4, v24, ())))
        (K (Value.bool false)))
    (K (Value.bool true))
def sh26 (ω : Om) (a0 : Value) (a1 : Value) (K : Value → M) : M :=
  Pv (lenV a0) fun v1 =>
  Pv (lenV a1) fun v2 =>
  Pv (binIV .neq v1 v2) fun v3 =>
  Br v3
    (K (Value.bool false))
    (LoopM (((Value.bool false), (Value.int .i64 0), ()) : Value × Value × Unit) fun s Kn0 =>
    sh26_3 ω a0 a1 s.1 s.2.1 Kn0 K)
theorem sh26_eq (ω : Om) (a0 a1 : Value) (K : Value → M) : vcF Try.prog ω Try.f26 [a0, a1] K = sh26 ω a0 a1 K := by kernel_rfl
theorem cal26 {ω : Om} {a0 a1 : Value} {K : Value → M} {I : Imm} {L : LH} (h : sh26 ω a0 a1 (fun v => Gh (K v)) I L) : Cal Try.prog ω 26 #[a0, a1] K I L :=
  Cal.gh (cal_of_vc mixed Try.func26 (by rw [sh26_eq]; exact h))

def sh27_1 (ω : Om) (p0 : Value) (p1 : Value) (p4 : Value) (p5 : Value) (p6 : Value) (p7 : Value) (K : Value → M) : M :=
  Draw fun S =>
    Pv (nilV p0) fun v14 =>
    Pv (fldV 22 v14) fun v15 =>
    Rv (some S) (ld1R v15) fun v16 =>
    Pv (nilV p0) fun v17 =>
    Pv (fldV 0 v17) fun v18 =>
    Rv (some S) (ld1R v18) fun v19 =>
    Rv (some S) (ldNR 2 p7) fun v20 =>
    Pv (bldV #[(Value.int .i64 0), (Value.int .i64 0), (Value.int .i64 0), (Value.int .i64 0), (Value.int .i64 0), (Value.int .i64 0), (Value.int .i64 0), (Value.int .i64 0), (Value.bool false), (Value.bool false), (Value.slice none 0 0), (Value.slice none 0 0), (Value.slice none 0 0), (Value.slice none 0 0), (Value.int .i64 0)] #[(0, 1), (1, 1), (2, 1), (3, 2), (5, 2), (7, 1), (8, 1), (9, 1), (10, 1), (11, 1), (12, 2), (14, 1)] [(0, (Value.int .i64 7)), (1, v16), (5, v19), (3, v20)]) fun v21 =>
    Cal Try.prog ω 50 #[p1, (Value.slice none 0 0), v21] <| gh fun v22 =>
    Pv (exV v22 0) fun v23 =>
    Pv (exV v22 1) fun v24 =>
    Pv (exV v22 2) fun v25 =>
    Sto 15 p5 v24 <| gh fun _ =>
    Rv none (ldNR 15 p5) fun v26 =>
    K (Value.tuple #[v23, v26, v25])
def sh27_2 (ω : Om) (p4 : Value) (p5 : Value) (p6 : Value) (p8 : Value) (p9 : Value) (p10 : Value) (K : Value → M) : M :=
  Draw fun S =>
    Pv (fldV 0 p8) fun v49 =>
    Pv (fldV 0 v49) fun v50 =>
    Rv (some S) (ld1R v50) fun v51 =>
    Rv (some S) (ldNR 15 p10) fun v52 =>
    Sto 15 p5 v52 <| gh fun _ =>
    Rv none (ldNR 15 p5) fun v53 =>
    K (Value.tuple #[v51, v53, p9])
def sh27_4 (ω : Om) (p1 : Value) (p4 : Value) (p5 : Value) (p6 : Value) (p16 : Value) (p17 : Value) (K : Value → M) : M :=
  Rv none (ldNR 15 p17) fun v214 =>
  Cal Try.prog ω 50 #[p1, p16, v214] <| gh fun v215 =>
  Pv (exV v215 0) fun v216 =>
  Pv (exV v215 1) fun v217 =>
  Pv (exV v215 2) fun v218 =>
  Sto 15 p5 v217 <| gh fun _ =>
  Rv none (ldNR 15 p5) fun v219 =>
  K (Value.tuple #[v216, v219, v218])
def sh27_3 (ω : Om) (p0 : Value) (p1 : Value) (p4 : Value) (p5 : Value) (p6 : Value) (p16 : Value) (p17 : Value) (K : Value → M) : M :=
  Pv (nilV p0) fun v220 =>
  Pv (fldV 13 v220) fun v221 =>
  Rv none (ld1R v221) fun v222 =>
  Pv (binIV .eql v222 (Value.int .i64 3)) fun v223 =>
  Br v223
    (Pv (fldV 8 p17) fun v224 =>
    Sto 1 v224 (Value.bool true) <| gh fun _ =>
    Pv (nilV p0) fun v225 =>
    Pv (fldV 6 v225) fun v226 =>
    Rv none (ldNR 2 v226) fun v227 =>
    Pv (fldV 3 p17) fun v228 =>
    Sto 2 v228 v227 <| gh fun _ =>
    sh27_4 ω p1 p4 p5 p6 p16 p17 K)
    (sh27_4 ω p1 p4 p5 p6 p16 p17 K)
def sh27 (ω : Om) (a0 : Value) (a1 : Value) (K : Value → M) : M :=
  New (.cells #[(Value.int .i64 0), (Value.int .i64 0), (Value.int .i64 0), (Value.int .i64 0), (Value.int .i64 0), (Value.int .i64 0), (Value.int .i64 0), (Value.int .i64 0), (Value.bool false), (Value.bool false), (Value.slice none 0 0), (Value.slice none 0 0), (Value.slice none 0 0), (Value.slice none 0 0), (Value.int .i64 0)] 48 (0, 0)) <| gh fun v1 =>
  Pv (nilV a0) fun v2 =>
  Pv (fldV 22 v2) fun v3 =>
  Rv none (ld1R v3) fun v4 =>
  Pv (binIV .neq v4 (Value.int .i64 0)) fun v5 =>
  Br v5
    (Pv (nilV a0) fun v6 =>
    Pv (fldV 26 v6) fun v7 =>
    Rv none (ld1R v7) fun v8 =>
    Pv (binIV .eql v8 (Value.int .i64 0)) fun v9 =>
    Br v9
      (Pv (nilV a0) fun v10 =>
      Pv (fldV 2 v10) fun v11 =>
      Rv none (ldNR 2 v11) fun v12 =>
      New (.cells #[(Value.int .i64 0), (Value.int .i64 0)] 23 (0, 0)) <| gh fun at_13 =>
      Sto 2 at_13 v12 <| gh fun _ =>
      Draw fun S =>
        Pv (nilV a0) fun v27 =>
        Pv (fldV 25 v27) fun v28 =>
        Rv (some S) (ld1R v28) fun v29 =>
        Pv (nilV a0) fun v30 =>
        Pv (fldV 1 v30) fun v31 =>
        Rv (some S) (ld1R v31) fun v32 =>
        Pv (binIV .geq v29 v32) fun v33 =>
        Br v33
          (Pv (bldV #[(Value.int .i64 0), (Value.int .i64 0)] #[(0, 1), (1, 1)] []) fun v34 =>
          Sto 2 at_13 v34 <| gh fun _ =>
          sh27_1 ω a0 a1 (Value.int .i64 0) v1 (Value.bool false) at_13 K)
          (sh27_1 ω a0 a1 (Value.int .i64 0) v1 (Value.bool false) at_13 K))
      (Pv (nilV a0) fun v35 =>
      Pv (fldV 23 v35) fun v36 =>
      Rv none (ldNR 2 v36) fun v37 =>
      Cal Try.prog ω 51 #[a1, v37] <| gh fun v38 =>
      Pv (exV v38 0) fun v39 =>
      Pv (exV v38 1) fun v40 =>
      New (.cells #[(Value.int .i64 0), (Value.slice none 0 0), (Value.slice none 0 0), (Value.int .i64 0), (Value.slice none 0 0), (Value.slice none 0 0)] 98 (0, 0)) <| gh fun p_41 =>
      Sto 6 p_41 v39 <| gh fun _ =>
      Draw fun S =>
        Pv (nilV a0) fun v42 =>
        Pv (fldV 22 v42) fun v43 =>
        Rv (some S) (ld1R v43) fun v44 =>
        Pv (fldV 4 p_41) fun v45 =>
        Rv (some S) (ldNR 2 v45) fun v46 =>
        Pv (bldV #[(Value.int .i64 0), (Value.int .i64 0), (Value.int .i64 0), (Value.int .i64 0), (Value.int .i64 0), (Value.int .i64 0), (Value.int .i64 0), (Value.int .i64 0), (Value.bool false), (Value.bool false), (Value.slice none 0 0), (Value.slice none 0 0), (Value.slice none 0 0), (Value.slice none 0 0), (Value.int .i64 0)] #[(0, 1), (1, 1), (2, 1), (3, 2), (5, 2), (7, 1), (8, 1), (9, 1), (10, 1), (11, 1), (12, 2), (14, 1)] [(0, (Value.int .i64 9)), (1, v44), (10, v46)]) fun v47 =>
        New (.cells #[(Value.int .i64 0), (Value.int .i64 0), (Value.int .i64 0), (Value.int .i64 0), (Value.int .i64 0), (Value.int .i64 0), (Value.int .i64 0), (Value.int .i64 0), (Value.bool false), (Value.bool false), (Value.slice none 0 0), (Value.slice none 0 0), (Value.slice none 0 0), (Value.slice none 0 0), (Value.int .i64 0)] 48 (0, 0)) <| gh <| Keep S fun c_48 =>
        Sto 15 c_48 v47 <| gh fun _ =>
        Pv (nilV a0) fun v54 =>
        Pv (fldV 26 v54) fun v55 =>
        Rv none (ld1R v55) fun v56 =>
        Pv (binIV .eql v56 (Value.int .i64 2)) fun v57 =>
        Br v57
          (Pv (fldV 8 c_48) fun v58 =>
          Sto 1 v58 (Value.bool true) <| gh fun _ =>
          Pv (nilV a0) fun v59 =>
          Pv (fldV 27 v59) fun v60 =>
          Rv none (ldNR 2 v60) fun v61 =>
          Pv (fldV 3 c_48) fun v62 =>
          Sto 2 v62 v61 <| gh fun _ =>
          sh27_2 ω (Value.int .i64 0) v1 (Value.bool false) p_41 v40 c_48 K)
          (sh27_2 ω (Value.int .i64 0) v1 (Value.bool false) p_41 v40 c_48 K)))
    (Pv (nilV a0) fun v63 =>
    Pv (fldV 14 v63) fun v64 =>
    Rv none (ld1R v64) fun v65 =>
    Pv (binIV .eql v65 (Value.int .i64 1)) fun v66 =>
    Br v66
      (Pv (nilV a0) fun v67 =>
      Pv (fldV 17 v67) fun v68 =>
      Rv none (ld1R v68) fun v69 =>
      Pv (ixV 2 v69 (Value.int .i64 0)) fun v70 =>
      Rv none (ldNR 2 v70) fun v71 =>
      Cal Try.prog ω 51 #[a1, v71] <| gh fun v72 =>
      Pv (exV v72 0) fun v73 =>
      Pv (exV v72 1) fun v74 =>
      New (.cells #[(Value.int .i64 0), (Value.slice none 0 0), (Value.slice none 0 0), (Value.int .i64 0), (Value.slice none 0 0), (Value.slice none 0 0)] 98 (0, 0)) <| gh fun p_75 =>
      Sto 6 p_75 v73 <| gh fun _ =>
      Draw fun S =>
        Pv (fldV 0 p_75) fun v76 =>
        Pv (fldV 0 v76) fun v77 =>
        Rv (some S) (ld1R v77) fun v78 =>
        Pv (nilV a0) fun v79 =>
        Pv (fldV 0 v79) fun v80 =>
        Rv (some S) (ld1R v80) fun v81 =>
        Pv (nilV a0) fun v82 =>
        Pv (fldV 4 v82) fun v83 =>
        Rv (some S) (ldNR 2 v83) fun v84 =>
        Pv (fldV 4 p_75) fun v85 =>
        Rv (some S) (ldNR 2 v85) fun v86 =>
        Pv (bldV #[(Value.int .i64 0), (Value.int .i64 0), (Value.int .i64 0), (Value.int .i64 0), (Value.int .i64 0), (Value.int .i64 0), (Value.int .i64 0), (Value.int .i64 0), (Value.bool false), (Value.bool false), (Value.slice none 0 0), (Value.slice none 0 0), (Value.slice none 0 0), (Value.slice none 0 0), (Value.int .i64 0)] #[(0, 1), (1, 1), (2, 1), (3, 2), (5, 2), (7, 1), (8, 1), (9, 1), (10, 1), (11, 1), (12, 2), (14, 1)] [(0, (Value.int .i64 2)), (1, v81), (3, v84), (10, v86), (11, (Value.int .i64 90))]) fun v87 =>
        Sto 15 v1 v87 <| gh fun _ =>
        Rv none (ldNR 15 v1) fun v88 =>
        K (Value.tuple #[v78, v88, v74]))
      (Pv (binIV .eql v65 (Value.int .i64 2)) fun v89 =>
      Br v89
        (Pv (nilV a0) fun v90 =>
        Pv (fldV 10 v90) fun v91 =>
        Rv none (ld1R v91) fun v92 =>
        Pv (unV .not v92) fun v93 =>
        Br v93
          (Draw fun S =>
            Pv (nilV a0) fun v94 =>
            Pv (fldV 0 v94) fun v95 =>
            Rv (some S) (ld1R v95) fun v96 =>
            Pv (nilV a0) fun v97 =>
            Pv (fldV 8 v97) fun v98 =>
            Rv (some S) (ld1R v98) fun v99 =>
            Pv (nilV a0) fun v100 =>
            Pv (fldV 2 v100) fun v101 =>
            Rv (some S) (ldNR 2 v101) fun v102 =>
            Pv (bldV #[(Value.int .i64 0), (Value.int .i64 0), (Value.int .i64 0), (Value.int .i64 0), (Value.int .i64 0), (Value.int .i64 0), (Value.int .i64 0), (Value.int .i64 0), (Value.bool false), (Value.bool false), (Value.slice none 0 0), (Value.slice none 0 0), (Value.slice none 0 0), (Value.slice none 0 0), (Value.int .i64 0)] #[(0, 1), (1, 1), (2, 1), (3, 2), (5, 2), (7, 1), (8, 1), (9, 1), (10, 1), (11, 1), (12, 2), (14, 1)] [(0, (Value.int .i64 5)), (1, v96), (2, v99), (3, v102)]) fun v103 =>
            Cal Try.prog ω 50 #[a1, (Value.slice none 0 0), v103] <| gh fun v104 =>
            Pv (exV v104 0) fun v105 =>
            Pv (exV v104 1) fun v106 =>
            Pv (exV v104 2) fun v107 =>
            Sto 15 v1 v106 <| gh fun _ =>
            Rv none (ldNR 15 v1) fun v108 =>
            K (Value.tuple #[v105, v108, v107]))
          (Pv (nilV a0) fun v109 =>
          Pv (fldV 18 v109) fun v110 =>
          Rv none (ld1R v110) fun v111 =>
          Pv (ixV 3 v111 (Value.int .i64 0)) fun v112 =>
          Rv none (ldNR 3 v112) fun v113 =>
          New (.cells #[(Value.bool false), (Value.slice none 0 0), (Value.slice none 0 0)] 62 (0, 0)) <| gh fun x_114 =>
          Sto 3 x_114 v113 <| gh fun _ =>
          Draw fun S =>
            Pv (fldV 1 x_114) fun v115 =>
            Rv (some S) (ld1R v115) fun v116 =>
            Pv (nilV a0) fun v117 =>
            Pv (fldV 0 v117) fun v118 =>
            Rv (some S) (ld1R v118) fun v119 =>
            Pv (nilV a0) fun v120 =>
            Pv (fldV 8 v120) fun v121 =>
            Rv (some S) (ld1R v121) fun v122 =>
            Pv (nilV a0) fun v123 =>
            Pv (fldV 6 v123) fun v124 =>
            Rv (some S) (ldNR 2 v124) fun v125 =>
            Pv (fldV 1 x_114) fun v126 =>
            Rv (some S) (ld1R v126) fun v127 =>
            Pv (fldV 0 x_114) fun v128 =>
            Rv (some S) (ld1R v128) fun v129 =>
            Pv (fldV 2 x_114) fun v130 =>
            Rv (some S) (ld1R v130) fun v131 =>
            Pv (bldV #[(Value.int .i64 0), (Value.int .i64 0), (Value.int .i64 0), (Value.int .i64 0), (Value.int .i64 0), (Value.int .i64 0), (Value.int .i64 0), (Value.int .i64 0), (Value.bool false), (Value.bool false), (Value.slice none 0 0), (Value.slice none 0 0), (Value.slice none 0 0), (Value.slice none 0 0), (Value.int .i64 0)] #[(0, 1), (1, 1), (2, 1), (3, 2), (5, 2), (7, 1), (8, 1), (9, 1), (10, 1), (11, 1), (12, 2), (14, 1)] [(0, (Value.int .i64 3)), (1, v119), (2, v122), (3, v125), (8, v127), (7, v129), (9, v131)]) fun v132 =>
            Cal Try.prog ω 50 #[a1, v116, v132] <| gh fun v133 =>
            Pv (exV v133 0) fun v134 =>
            Pv (exV v133 1) fun v135 =>
            Pv (exV v133 2) fun v136 =>
            Sto 15 v1 v135 <| gh fun _ =>
            Rv none (ldNR 15 v1) fun v137 =>
            K (Value.tuple #[v134, v137, v136])))
        (Pv (binIV .eql v65 (Value.int .i64 3)) fun v138 =>
        Br v138
          (Pv (nilV a0) fun v139 =>
          Pv (fldV 17 v139) fun v140 =>
          Rv none (ld1R v140) fun v141 =>
          Pv (ixV 2 v141 (Value.int .i64 0)) fun v142 =>
          Rv none (ldNR 2 v142) fun v143 =>
          Cal Try.prog ω 51 #[a1, v143] <| gh fun v144 =>
          Pv (exV v144 0) fun v145 =>
          Pv (exV v144 1) fun v146 =>
          New (.cells #[(Value.int .i64 0), (Value.slice none 0 0), (Value.slice none 0 0), (Value.int .i64 0), (Value.slice none 0 0), (Value.slice none 0 0)] 98 (0, 0)) <| gh fun p_147 =>
          Sto 6 p_147 v145 <| gh fun _ =>
          Draw fun S =>
            Pv (fldV 0 p_147) fun v148 =>
            Pv (fldV 0 v148) fun v149 =>
            Rv (some S) (ld1R v149) fun v150 =>
            Pv (nilV a0) fun v151 =>
            Pv (fldV 0 v151) fun v152 =>
            Rv (some S) (ld1R v152) fun v153 =>
            Pv (nilV a0) fun v154 =>
            Pv (fldV 8 v154) fun v155 =>
            Rv (some S) (ld1R v155) fun v156 =>
            Pv (nilV a0) fun v157 =>
            Pv (fldV 4 v157) fun v158 =>
            Rv (some S) (ldNR 2 v158) fun v159 =>
            Pv (nilV a0) fun v160 =>
            Pv (fldV 6 v160) fun v161 =>
            Rv (some S) (ldNR 2 v161) fun v162 =>
            Pv (fldV 4 p_147) fun v163 =>
            Rv (some S) (ldNR 2 v163) fun v164 =>
            Pv (bldV #[(Value.int .i64 0), (Value.int .i64 0), (Value.int .i64 0), (Value.int .i64 0), (Value.int .i64 0), (Value.int .i64 0), (Value.int .i64 0), (Value.int .i64 0), (Value.bool false), (Value.bool false), (Value.slice none 0 0), (Value.slice none 0 0), (Value.slice none 0 0), (Value.slice none 0 0), (Value.int .i64 0)] #[(0, 1), (1, 1), (2, 1), (3, 2), (5, 2), (7, 1), (8, 1), (9, 1), (10, 1), (11, 1), (12, 2), (14, 1)] [(0, (Value.int .i64 4)), (1, v153), (2, v156), (3, v159), (4, v162), (10, v164)]) fun v165 =>
            Sto 15 v1 v165 <| gh fun _ =>
            Rv none (ldNR 15 v1) fun v166 =>
            K (Value.tuple #[v150, v166, v146]))
          (Pv (binIV .eql v65 (Value.int .i64 4)) fun v167 =>
          Br v167
            (Draw fun S =>
              Pv (nilV a0) fun v168 =>
              Pv (fldV 0 v168) fun v169 =>
              Rv (some S) (ld1R v169) fun v170 =>
              Pv (nilV a0) fun v171 =>
              Pv (fldV 6 v171) fun v172 =>
              Rv (some S) (ldNR 2 v172) fun v173 =>
              Pv (bldV #[(Value.int .i64 0), (Value.int .i64 0), (Value.int .i64 0), (Value.int .i64 0), (Value.int .i64 0), (Value.int .i64 0), (Value.int .i64 0), (Value.int .i64 0), (Value.bool false), (Value.bool false), (Value.slice none 0 0), (Value.slice none 0 0), (Value.slice none 0 0), (Value.slice none 0 0), (Value.int .i64 0)] #[(0, 1), (1, 1), (2, 1), (3, 2), (5, 2), (7, 1), (8, 1), (9, 1), (10, 1), (11, 1), (12, 2), (14, 1)] [(0, (Value.int .i64 6)), (1, v170), (6, (Value.bool true)), (3, v173)]) fun v174 =>
              Cal Try.prog ω 50 #[a1, (Value.slice none 0 0), v174] <| gh fun v175 =>
              Pv (exV v175 0) fun v176 =>
              Pv (exV v175 1) fun v177 =>
              Pv (exV v175 2) fun v178 =>
              Sto 15 v1 v177 <| gh fun _ =>
              Rv none (ldNR 15 v1) fun v179 =>
              K (Value.tuple #[v176, v179, v178]))
            (Pv (binIV .eql v65 (Value.int .i64 5)) fun v180 =>
            Br v180
              (Draw fun S =>
                Pv (nilV a0) fun v181 =>
                Pv (fldV 0 v181) fun v182 =>
                Rv (some S) (ld1R v182) fun v183 =>
                Pv (nilV a0) fun v184 =>
                Pv (fldV 6 v184) fun v185 =>
                Rv (some S) (ldNR 2 v185) fun v186 =>
                Pv (bldV #[(Value.int .i64 0), (Value.int .i64 0), (Value.int .i64 0), (Value.int .i64 0), (Value.int .i64 0), (Value.int .i64 0), (Value.int .i64 0), (Value.int .i64 0), (Value.bool false), (Value.bool false), (Value.slice none 0 0), (Value.slice none 0 0), (Value.slice none 0 0), (Value.slice none 0 0), (Value.int .i64 0)] #[(0, 1), (1, 1), (2, 1), (3, 2), (5, 2), (7, 1), (8, 1), (9, 1), (10, 1), (11, 1), (12, 2), (14, 1)] [(0, (Value.int .i64 6)), (1, v183), (3, v186)]) fun v187 =>
                Cal Try.prog ω 50 #[a1, (Value.slice none 0 0), v187] <| gh fun v188 =>
                Pv (exV v188 0) fun v189 =>
                Pv (exV v188 1) fun v190 =>
                Pv (exV v188 2) fun v191 =>
                Sto 15 v1 v190 <| gh fun _ =>
                Rv none (ldNR 15 v1) fun v192 =>
                K (Value.tuple #[v189, v192, v191]))
              (Pv (binIV .eql v65 (Value.int .i64 6)) fun v193 =>
              Br v193
                (Pv (nilV a0) fun v194 =>
                Pv (fldV 19 v194) fun v195 =>
                Rv none (ld1R v195) fun v196 =>
                Pv (lenV v196) fun v197 =>
                Pv (binIV .eql v197 (Value.int .i64 0)) fun v198 =>
                Br v198
                  (Pv (nilV a0) fun v199 =>
                  Pv (fldV 0 v199) fun v200 =>
                  Rv none (ld1R v200) fun v201 =>
                  Pv (bldV #[(Value.int .i64 0), (Value.int .i64 0), (Value.int .i64 0), (Value.int .i64 0), (Value.int .i64 0), (Value.int .i64 0), (Value.int .i64 0), (Value.int .i64 0), (Value.bool false), (Value.bool false), (Value.slice none 0 0), (Value.slice none 0 0), (Value.slice none 0 0), (Value.slice none 0 0), (Value.int .i64 0)] #[(0, 1), (1, 1), (2, 1), (3, 2), (5, 2), (7, 1), (8, 1), (9, 1), (10, 1), (11, 1), (12, 2), (14, 1)] [(0, (Value.int .i64 8)), (1, v201)]) fun v202 =>
                  Cal Try.prog ω 50 #[a1, (Value.slice none 0 0), v202] <| gh fun v203 =>
                  Pv (exV v203 0) fun v204 =>
                  Pv (exV v203 1) fun v205 =>
                  Pv (exV v203 2) fun v206 =>
                  Sto 15 v1 v205 <| gh fun _ =>
                  Rv none (ldNR 15 v1) fun v207 =>
                  K (Value.tuple #[v204, v207, v206]))
                  (Pv (nilV a0) fun v208 =>
                  Pv (fldV 19 v208) fun v209 =>
                  Rv none (ld1R v209) fun v210 =>
                  Pv (ixV 1 v210 (Value.int .i64 0)) fun v211 =>
                  Rv none (ld1R v211) fun v212 =>
                  CvSB 5 v212 <| gh fun v213 =>
                  Draw fun S =>
                    Pv (nilV a0) fun v229 =>
                    Pv (fldV 0 v229) fun v230 =>
                    Rv (some S) (ld1R v230) fun v231 =>
                    (fun I L => (Cal Try.prog ω 52 #[v213] <| gh <| Keep S fun v232 =>
                      Pv (bldV #[(Value.int .i64 0), (Value.int .i64 0), (Value.int .i64 0), (Value.int .i64 0), (Value.int .i64 0), (Value.int .i64 0), (Value.int .i64 0), (Value.int .i64 0), (Value.bool false), (Value.bool false), (Value.slice none 0 0), (Value.slice none 0 0), (Value.slice none 0 0), (Value.slice none 0 0), (Value.int .i64 0)] #[(0, 1), (1, 1), (2, 1), (3, 2), (5, 2), (7, 1), (8, 1), (9, 1), (10, 1), (11, 1), (12, 2), (14, 1)] [(0, (Value.int .i64 9)), (1, v231), (10, v232)]) fun v233 =>
                      New (.cells #[(Value.int .i64 0), (Value.int .i64 0), (Value.int .i64 0), (Value.int .i64 0), (Value.int .i64 0), (Value.int .i64 0), (Value.int .i64 0), (Value.int .i64 0), (Value.bool false), (Value.bool false), (Value.slice none 0 0), (Value.slice none 0 0), (Value.slice none 0 0), (Value.slice none 0 0), (Value.int .i64 0)] 48 (0, 0)) <| gh <| Keep S fun c_234 =>
                      Sto 15 c_234 v233 <| gh fun _ =>
                      sh27_3 ω a0 a1 (Value.int .i64 0) v1 (Value.bool false) v213 c_234 K) I L ∧ (New (.cells #[(Value.int .i64 0), (Value.int .i64 0), (Value.int .i64 0), (Value.int .i64 0), (Value.int .i64 0), (Value.int .i64 0), (Value.int .i64 0), (Value.int .i64 0), (Value.bool false), (Value.bool false), (Value.slice none 0 0), (Value.slice none 0 0), (Value.slice none 0 0), (Value.slice none 0 0), (Value.int .i64 0)] 48 (0, 0)) <| gh <| Keep S fun c_235 =>
                      Cal Try.prog ω 52 #[v213] <| gh <| Keep S fun v236 =>
                      Pv (bldV #[(Value.int .i64 0), (Value.int .i64 0), (Value.int .i64 0), (Value.int .i64 0), (Value.int .i64 0), (Value.int .i64 0), (Value.int .i64 0), (Value.int .i64 0), (Value.bool false), (Value.bool false), (Value.slice none 0 0), (Value.slice none 0 0), (Value.slice none 0 0), (Value.slice none 0 0), (Value.int .i64 0)] #[(0, 1), (1, 1), (2, 1), (3, 2), (5, 2), (7, 1), (8, 1), (9, 1), (10, 1), (11, 1), (12, 2), (14, 1)] [(0, (Value.int .i64 9)), (1, v231), (10, v236)]) fun v237 =>
                      Sto 15 c_235 v237 <| gh fun _ =>
                      sh27_3 ω a0 a1 (Value.int .i64 0) v1 (Value.bool false) v213 c_235 K) I L)))
                (Pv (bldV #[(Value.int .i64 0), (Value.int .i64 0), (Value.int .i64 0), (Value.int .i64 0), (Value.int .i64 0), (Value.int .i64 0), (Value.int .i64 0), (Value.int .i64 0), (Value.bool false), (Value.bool false), (Value.slice none 0 0), (Value.slice none 0 0), (Value.slice none 0 0), (Value.slice none 0 0), (Value.int .i64 0)] #[(0, 1), (1, 1), (2, 1), (3, 2), (5, 2), (7, 1), (8, 1), (9, 1), (10, 1), (11, 1), (12, 2), (14, 1)] []) fun v238 =>
                Sto 15 v1 v238 <| gh fun _ =>
                Rv none (ldNR 15 v1) fun v239 =>
                K (Value.tuple #[(Value.int .i64 0), v239, (Value.bool false)]))))))))
theorem sh27_eq (ω : Om) (a0 a1 : Value) (K : Value → M) : vcF Try.prog ω Try.f27 [a0, a1] K = sh27 ω a0 a1 K := by kernel_rfl
theorem cal27 {ω : Om} {a0 a1 : Value} {K : Value → M} {I : Imm} {L : LH} (h : sh27 ω a0 a1 (fun v => Gh (K v)) I L) : Cal Try.prog ω 27 #[a0, a1] K I L :=
  Cal.gh (cal_of_vc mixed Try.func27 (by rw [sh27_eq]; exact h))

def sh28 (ω : Om) (a0 : Value) (K : Value → M) : M :=
  New (.cells (Value.cells a0) 81 (0, 0)) <| gh fun r_1 =>
  Pv (fldV 3 r_1) fun v2 =>
  Rv none (ld1R v2) fun v3 =>
  Cal Try.prog ω 53 #[v3] <| gh fun v4 =>
  Pv (fldV 1 r_1) fun v5 =>
  Rv none (ldNR 2 v5) fun v6 =>
  Cal Try.prog ω 54 #[v6] <| gh fun v7 =>
  Pv (fldV 0 r_1) fun v8 =>
  Rv none (ld1R v8) fun v9 =>
  Pv (binIV .geq v9 (Value.int .i64 1)) fun v10 =>
  Gd v10 true
    (Pv (fldV 0 r_1) fun v11 =>
    Rv none (ld1R v11) fun v12 =>
    Pv (binIV .leq v12 (Value.int .i64 255)) fun v13 =>
    Gd v13 true
      (Gd v4 true
        (Pv (fldV 3 r_1) fun v14 =>
        Rv none (ld1R v14) fun v15 =>
        Pv (binIV .geq v15 (Value.int .i64 1)) fun v16 =>
        Gd v16 true
          (Pv (fldV 1 r_1) fun v17 =>
          Pv (fldV 0 v17) fun v18 =>
          Rv none (ld1R v18) fun v19 =>
          Pv (lenV v19) fun v20 =>
          Pv (binIV .leq v20 (Value.int .i64 110)) fun v21 =>
          Gd v21 true
            (Pv (fldV 1 r_1) fun v22 =>
            Pv (fldV 1 v22) fun v23 =>
            Rv none (ld1R v23) fun v24 =>
            Pv (lenV v24) fun v25 =>
            Pv (binIV .leq v25 (Value.int .i64 110)) fun v26 =>
            Gd v26 true
              (Pv (unV .not v7) fun v27 =>
              K v27)
              (K (Value.bool false)))
            (K (Value.bool false)))
          (K (Value.bool false)))
        (K (Value.bool false)))
      (K (Value.bool false)))
    (K (Value.bool false))
theorem sh28_eq (ω : Om) (a0 : Value) (K : Value → M) : vcF Try.prog ω Try.f28 [a0] K = sh28 ω a0 K := by kernel_rfl
theorem cal28 {ω : Om} {a0 : Value} {K : Value → M} {I : Imm} {L : LH} (h : sh28 ω a0 (fun v => Gh (K v)) I L) : Cal Try.prog ω 28 #[a0] K I L :=
  Cal.gh (cal_of_vc mixed Try.func28 (by rw [sh28_eq]; exact h))

def sh29 (ω : Om) (a0 : Value) (K : Value → M) : M :=
  New (.cells (Value.cells a0) 40 (0, 0)) <| gh fun p_1 =>
  Pv (fldV 0 p_1) fun v2 =>
  Rv none (ld1R v2) fun v3 =>
  Pv (lenV v3) fun v4 =>
  Pv (binIV .leq v4 (Value.int .i64 111)) fun v5 =>
  Gd v5 true
    (Pv (fldV 1 p_1) fun v6 =>
    Rv none (ld1R v6) fun v7 =>
    Pv (lenV v7) fun v8 =>
    Pv (binIV .leq v8 (Value.int .i64 111)) fun v9 =>
    Gd v9 true
      (Pv (fldV 1 p_1) fun v10 =>
      Rv none (ld1R v10) fun v11 =>
      Pv (lenV v11) fun v12 =>
      Pv (binIV .eql v12 (Value.int .i64 0)) fun v13 =>
      Gd v13 false
        (Pv (fldV 1 p_1) fun v14 =>
        Rv none (ld1R v14) fun v15 =>
        Rv none (bsR v15) fun v16 =>
        Pv (fldV 0 p_1) fun v17 =>
        Rv none (ld1R v17) fun v18 =>
        Rv none (bsR v18) fun v19 =>
        Pv (binSV .gtr v16 v19) fun v20 =>
        K v20)
        (K (Value.bool true)))
      (K (Value.bool false)))
    (K (Value.bool false))
theorem sh29_eq (ω : Om) (a0 : Value) (K : Value → M) : vcF Try.prog ω Try.f29 [a0] K = sh29 ω a0 K := by kernel_rfl
theorem cal29 {ω : Om} {a0 : Value} {K : Value → M} {I : Imm} {L : LH} (h : sh29 ω a0 (fun v => Gh (K v)) I L) : Cal Try.prog ω 29 #[a0] K I L :=
  Cal.gh (cal_of_vc mixed Try.func29 (by rw [sh29_eq]; exact h))

def sh30 (ω : Om) (a0 : Value) (K : Value → M) : M :=
  New (.cells (Value.cells a0) 40 (0, 0)) <| gh fun p_1 =>
  New (.cells #[(Value.slice none 0 0), (Value.slice none 0 0)] 40 (0, 0)) <| gh fun v2 =>
  Draw fun S =>
    Pv (fldV 0 p_1) fun v3 =>
    Rv (some S) (ld1R v3) fun v4 =>
    Cal Try.prog ω 34 #[v4] <| gh <| Keep S fun v5 =>
    Pv (fldV 1 p_1) fun v6 =>
    Rv (some S) (ld1R v6) fun v7 =>
    Cal Try.prog ω 34 #[v7] <| gh fun v8 =>
    Pv (bldV #[(Value.slice none 0 0), (Value.slice none 0 0)] #[(0, 1), (1, 1)] [(0, v5), (1, v8)]) fun v9 =>
    Sto 2 v2 v9 <| gh fun _ =>
    Rv none (ldNR 2 v2) fun v10 =>
    K v10
theorem sh30_eq (ω : Om) (a0 : Value) (K : Value → M) : vcF Try.prog ω Try.f30 [a0] K = sh30 ω a0 K := by kernel_rfl
theorem cal30 {ω : Om} {a0 : Value} {K : Value → M} {I : Imm} {L : LH} (h : sh30 ω a0 (fun v => Gh (K v)) I L) : Cal Try.prog ω 30 #[a0] K I L :=
  Cal.gh (cal_of_vc mixed Try.func30 (by rw [sh30_eq]; exact h))

def sh31 (ω : Om) (a0 : Value) (a1 : Value) (K : Value → M) : M :=
  Cal Try.prog ω 55 #[a0, a1] <| gh fun v1 =>
  Pv (binIV .geq v1 (Value.int .i64 0)) fun v2 =>
  K v2
theorem sh31_eq (ω : Om) (a0 a1 : Value) (K : Value → M) : vcF Try.prog ω Try.f31 [a0, a1] K = sh31 ω a0 a1 K := by kernel_rfl
theorem cal31 {ω : Om} {a0 a1 : Value} {K : Value → M} {I : Imm} {L : LH} (h : sh31 ω a0 a1 (fun v => Gh (K v)) I L) : Cal Try.prog ω 31 #[a0, a1] K I L :=
  Cal.gh (cal_of_vc mixed Try.func31 (by rw [sh31_eq]; exact h))

def sh32 (ω : Om) (a0 : Value) (K : Value → M) : M :=
  New (.cells (Value.cells a0) 62 (0, 0)) <| gh fun x_1 =>
  Rv none (ldNR 3 x_1) fun v2 =>
  Cal Try.prog ω 33 #[v2] <| gh fun v3 =>
  Pv (unV .not v3) fun v4 =>
  K v4
theorem sh32_eq (ω : Om) (a0 : Value) (K : Value → M) : vcF Try.prog ω Try.f32 [a0] K = sh32 ω a0 K := by kernel_rfl
theorem cal32 {ω : Om} {a0 : Value} {K : Value → M} {I : Imm} {L : LH} (h : sh32 ω a0 (fun v => Gh (K v)) I L) : Cal Try.prog ω 32 #[a0] K I L :=
  Cal.gh (cal_of_vc mixed Try.func32 (by rw [sh32_eq]; exact h))

def sh33 (ω : Om) (a0 : Value) (K : Value → M) : M :=
  New (.cells (Value.cells a0) 62 (0, 0)) <| gh fun x_1 =>
  Pv (fldV 1 x_1) fun v2 =>
  Rv none (ld1R v2) fun v3 =>
  Pv (lenV v3) fun v4 =>
  Pv (binIV .geq v4 (Value.int .i64 1)) fun v5 =>
  Gd v5 true
    (Pv (fldV 1 x_1) fun v6 =>
    Rv none (ld1R v6) fun v7 =>
    Pv (lenV v7) fun v8 =>
    Pv (binIV .leq v8 (Value.int .i64 110)) fun v9 =>
    Gd v9 true
      (Pv (fldV 2 x_1) fun v10 =>
      Rv none (ld1R v10) fun v11 =>
      Pv (lenV v11) fun v12 =>
      Pv (binIV .leq v12 (Value.int .i64 10000)) fun v13 =>
      Gd v13 true
        (Pv (fldV 0 x_1) fun v14 =>
        Rv none (ld1R v14) fun v15 =>
        Pv (unV .not v15) fun v16 =>
        Gd v16 false
          (Pv (fldV 2 x_1) fun v17 =>
          Rv none (ld1R v17) fun v18 =>
          Pv (lenV v18) fun v19 =>
          Pv (binIV .eql v19 (Value.int .i64 0)) fun v20 =>
          K v20)
          (K (Value.bool true)))
        (K (Value.bool false)))
      (K (Value.bool false)))
    (K (Value.bool false))
theorem sh33_eq (ω : Om) (a0 : Value) (K : Value → M) : vcF Try.prog ω Try.f33 [a0] K = sh33 ω a0 K := by kernel_rfl
theorem cal33 {ω : Om} {a0 : Value} {K : Value → M} {I : Imm} {L : LH} (h : sh33 ω a0 (fun v => Gh (K v)) I L) : Cal Try.prog ω 33 #[a0] K I L :=
  Cal.gh (cal_of_vc mixed Try.func33 (by rw [sh33_eq]; exact h))

def sh34 (ω : Om) (a0 : Value) (K : Value → M) : M :=
  Pv (binNV .eql a0 (Value.slice none 0 0)) fun v1 =>
  Br v1
    (K (Value.slice none 0 0))
    (BldS 5 1 #[(Value.int .u8 0)] 0 [] <| gh fun v2 =>
    App 5 1 1 #[(Value.int .u8 0)] v2 a0 <| gh fun v3 =>
    K v3)
theorem sh34_eq (ω : Om) (a0 : Value) (K : Value → M) : vcF Try.prog ω Try.f34 [a0] K = sh34 ω a0 K := by kernel_rfl
theorem cal34 {ω : Om} {a0 : Value} {K : Value → M} {I : Imm} {L : LH} (h : sh34 ω a0 (fun v => Gh (K v)) I L) : Cal Try.prog ω 34 #[a0] K I L :=
  Cal.gh (cal_of_vc mixed Try.func34 (by rw [sh34_eq]; exact h))

def sh35 (ω : Om) (a0 : Value) (K : Value → M) : M :=
  Pv (bldV #[(Value.int .i64 0), (Value.slice none 0 0), (Value.slice none 0 0), (Value.int .i64 0), (Value.int .i64 0), (Value.int .i64 0), (Value.int .i64 0)] #[(0, 1), (1, 2), (3, 1), (4, 1), (5, 2)] []) fun v1 =>
  Pv (nilV a0) fun v2 =>
  Pv (fldV 13 v2) fun v3 =>
  Sto 1 v3 (Value.int .i64 5) <| gh fun _ =>
  Pv (nilV a0) fun v4 =>
  Pv (fldV 14 v4) fun v5 =>
  Sto 1 v5 (Value.int .i64 0) <| gh fun _ =>
  Pv (nilV a0) fun v6 =>
  Pv (fldV 22 v6) fun v7 =>
  Sto 7 v7 v1 <| gh fun _ =>
  K (Value.tuple #[])
theorem sh35_eq (ω : Om) (a0 : Value) (K : Value → M) : vcF Try.prog ω Try.f35 [a0] K = sh35 ω a0 K := by kernel_rfl
theorem cal35 {ω : Om} {a0 : Value} {K : Value → M} {I : Imm} {L : LH} (h : sh35 ω a0 (fun v => Gh (K v)) I L) : Cal Try.prog ω 35 #[a0] K I L :=
  Cal.gh (cal_of_vc mixed Try.func35 (by rw [sh35_eq]; exact h))

def sh36 (ω : Om) (a0 : Value) (a1 : Value) (K : Value → M) : M :=
  New (.cells (Value.cells a0) 23 (0, 0)) <| gh fun a_1 =>
  New (.cells (Value.cells a1) 23 (0, 0)) <| gh fun b_2 =>
  Draw fun S =>
    Pv (fldV 0 a_1) fun v3 =>
    Rv (some S) (ld1R v3) fun v4 =>
    Pv (fldV 0 b_2) fun v5 =>
    Rv (some S) (ld1R v5) fun v6 =>
    Cal Try.prog ω 57 #[v4, v6] <| gh <| Keep S fun v7 =>
    Pv (fldV 1 a_1) fun v8 =>
    Rv (some S) (ld1R v8) fun v9 =>
    Pv (fldV 1 b_2) fun v10 =>
    Rv (some S) (ld1R v10) fun v11 =>
    Cal Try.prog ω 57 #[v9, v11] <| gh fun v12 =>
    BldS 3 1 #[(Value.int .i64 0)] 2 [(0, v7), (1, v12)] <| gh fun v13 =>
    Cal Try.prog ω 56 #[v13] <| gh fun v14 =>
    K v14
theorem sh36_eq (ω : Om) (a0 a1 : Value) (K : Value → M) : vcF Try.prog ω Try.f36 [a0, a1] K = sh36 ω a0 a1 K := by kernel_rfl
theorem cal36 {ω : Om} {a0 a1 : Value} {K : Value → M} {I : Imm} {L : LH} (h : sh36 ω a0 a1 (fun v => Gh (K v)) I L) : Cal Try.prog ω 36 #[a0, a1] K I L :=
  Cal.gh (cal_of_vc mixed Try.func36 (by rw [sh36_eq]; exact h))

def sh37 (ω : Om) (a0 : Value) (K : Value → M) : M :=
  Pv (binNV .eql a0 (Value.slice none 0 0)) fun v1 =>
  Br v1
    (K (Value.slice none 0 0))
    (BldS 40 2 #[(Value.slice none 0 0), (Value.slice none 0 0)] 0 [] <| gh fun v2 =>
    App 40 2 48 #[(Value.slice none 0 0), (Value.slice none 0 0)] v2 a0 <| gh fun v3 =>
    K v3)
theorem sh37_eq (ω : Om) (a0 : Value) (K : Value → M) : vcF Try.prog ω Try.f37 [a0] K = sh37 ω a0 K := by kernel_rfl
theorem cal37 {ω : Om} {a0 : Value} {K : Value → M} {I : Imm} {L : LH} (h : sh37 ω a0 (fun v => Gh (K v)) I L) : Cal Try.prog ω 37 #[a0] K I L :=
  Cal.gh (cal_of_vc mixed Try.func37 (by rw [sh37_eq]; exact h))

def sh38 (ω : Om) (a0 : Value) (K : Value → M) : M :=
  Pv (bldV #[(Value.int .i64 0), (Value.slice none 0 0), (Value.slice none 0 0), (Value.int .i64 0), (Value.int .i64 0), (Value.int .i64 0), (Value.int .i64 0)] #[(0, 1), (1, 2), (3, 1), (4, 1), (5, 2)] []) fun v1 =>
  Pv (nilV a0) fun v2 =>
  Pv (fldV 13 v2) fun v3 =>
  Sto 1 v3 (Value.int .i64 4) <| gh fun _ =>
  Pv (nilV a0) fun v4 =>
  Pv (fldV 14 v4) fun v5 =>
  Sto 1 v5 (Value.int .i64 5) <| gh fun _ =>
  Pv (nilV a0) fun v6 =>
  Pv (fldV 22 v6) fun v7 =>
  Sto 7 v7 v1 <| gh fun _ =>
  Pv (nilV a0) fun v8 =>
  Pv (fldV 10 v8) fun v9 =>
  Rv none (ld1R v9) fun v10 =>
  Pv (unV .not v10) fun v11 =>
  Br v11
    (Cal Try.prog ω 35 #[a0] <| gh fun v12 =>
    K (Value.tuple #[]))
    (K (Value.tuple #[]))
theorem sh38_eq (ω : Om) (a0 : Value) (K : Value → M) : vcF Try.prog ω Try.f38 [a0] K = sh38 ω a0 K := by kernel_rfl
theorem cal38 {ω : Om} {a0 : Value} {K : Value → M} {I : Imm} {L : LH} (h : sh38 ω a0 (fun v => Gh (K v)) I L) : Cal Try.prog ω 38 #[a0] K I L :=
  Cal.gh (cal_of_vc mixed Try.func38 (by rw [sh38_eq]; exact h))

def sh39_1 (ω : Om) (p0 : Value) (p1 : Value) (p4 : Value) (p5 : Value) (p6 : Value) (p27 : Value) (p135 : Value) (K : Value → M) : M :=
  Br p135
    (DrawW [p6] fun S =>
      Pv (nilV p0) fun v112 =>
      Pv (fldV 14 v112) fun v113 =>
      Rv (some S) (ld1R v113) fun v114 =>
      Pv (binIV .eql v114 (Value.int .i64 4)) fun v115 =>
      Pv (nilV p0) fun v116 =>
      Pv (fldV 6 v116) fun v117 =>
      Rv (some S) (ldNR 2 v117) fun v118 =>
      Pv (fldV 0 p6) fun v119 =>
      Sto 1 v119 (Value.int .i64 6) <| gh <| Keep S fun _ =>
      Pv (fldV 8 p6) fun v120 =>
      Sto 1 v120 v115 <| gh <| Keep S fun _ =>
      Pv (fldV 3 p6) fun v121 =>
      Sto 2 v121 v118 <| gh fun _ =>
      Rv none (ldNR 15 p6) fun v122 =>
      Cal Try.prog ω 60 #[p1, (Value.slice none 0 0), v122] <| gh fun v123 =>
      Pv (exV v123 0) fun v124 =>
      Pv (exV v123 1) fun v125 =>
      Sto 17 p4 v124 <| gh fun _ =>
      Rv none (ldNR 17 p4) fun v126 =>
      K (Value.tuple #[v126, v125]))
    (Pv (binIV .eql p27 (Value.int .i64 6)) fun v127 =>
    Br v127
      (Rv none (ldNR 15 p6) fun v128 =>
      Cal Try.prog ω 61 #[p0, p1, v128] <| gh fun v129 =>
      Pv (exV v129 0) fun v130 =>
      Pv (exV v129 1) fun v131 =>
      Sto 17 p4 v130 <| gh fun _ =>
      Rv none (ldNR 17 p4) fun v132 =>
      K (Value.tuple #[v132, v131]))
      (Pv (bldV #[(Value.int .i64 0), (Value.int .i64 0), (Value.int .i64 0), (Value.int .i64 0), (Value.int .i64 0), (Value.int .i64 0), (Value.int .i64 0), (Value.int .i64 0), (Value.int .i64 0), (Value.bool false), (Value.bool false), (Value.slice none 0 0), (Value.slice none 0 0), (Value.slice none 0 0), (Value.slice none 0 0), (Value.int .i64 0), (Value.int .i64 0)] #[(0, 1), (1, 15), (16, 1)] []) fun v133 =>
      Sto 17 p4 v133 <| gh fun _ =>
      Rv none (ldNR 17 p4) fun v134 =>
      K (Value.tuple #[v134, (Value.bool false)])))
def sh39 (ω : Om) (a0 : Value) (a1 : Value) (K : Value → M) : M :=
  New (.cells #[(Value.int .i64 0), (Value.int .i64 0), (Value.int .i64 0), (Value.int .i64 0), (Value.int .i64 0), (Value.int .i64 0), (Value.int .i64 0), (Value.int .i64 0), (Value.int .i64 0), (Value.bool false), (Value.bool false), (Value.slice none 0 0), (Value.slice none 0 0), (Value.slice none 0 0), (Value.slice none 0 0), (Value.int .i64 0), (Value.int .i64 0)] 55 (0, 0)) <| gh fun v1 =>
  Pv (nilV a0) fun v2 =>
  Pv (fldV 22 v2) fun v3 =>
  Pv (fldV 0 v3) fun v4 =>
  Rv none (ld1R v4) fun v5 =>
  Pv (binIV .neq v5 (Value.int .i64 0)) fun v6 =>
  Br v6
    (Cal Try.prog ω 58 #[a0, a1] <| gh fun v7 =>
    Pv (exV v7 0) fun v8 =>
    Pv (exV v7 1) fun v9 =>
    Sto 17 v1 v8 <| gh fun _ =>
    Rv none (ldNR 17 v1) fun v10 =>
    K (Value.tuple #[v10, v9]))
    (Pv (nilV a0) fun v11 =>
    Pv (fldV 0 v11) fun v12 =>
    Rv none (ld1R v12) fun v13 =>
    Pv (bldV #[(Value.int .i64 0), (Value.int .i64 0), (Value.int .i64 0), (Value.int .i64 0), (Value.int .i64 0), (Value.int .i64 0), (Value.int .i64 0), (Value.int .i64 0), (Value.bool false), (Value.bool false), (Value.slice none 0 0), (Value.slice none 0 0), (Value.slice none 0 0), (Value.slice none 0 0), (Value.int .i64 0)] #[(0, 1), (1, 1), (2, 1), (3, 2), (5, 2), (7, 1), (8, 1), (9, 1), (10, 1), (11, 1), (12, 2), (14, 1)] [(1, v13)]) fun v14 =>
    New (.cells #[(Value.int .i64 0), (Value.int .i64 0), (Value.int .i64 0), (Value.int .i64 0), (Value.int .i64 0), (Value.int .i64 0), (Value.int .i64 0), (Value.int .i64 0), (Value.bool false), (Value.bool false), (Value.slice none 0 0), (Value.slice none 0 0), (Value.slice none 0 0), (Value.slice none 0 0), (Value.int .i64 0)] 48 (0, 0)) <| gh fun c_15 =>
    Sto 15 c_15 v14 <| gh fun _ =>
    Pv (nilV a0) fun v16 =>
    Pv (fldV 14 v16) fun v17 =>
    Rv none (ld1R v17) fun v18 =>
    Pv (binIV .eql v18 (Value.int .i64 1)) fun v19 =>
    Br v19
      (DrawW [c_15] fun S =>
        Pv (nilV a0) fun v20 =>
        Pv (fldV 4 v20) fun v21 =>
        Rv (some S) (ldNR 2 v21) fun v22 =>
        Pv (fldV 0 c_15) fun v23 =>
        Sto 1 v23 (Value.int .i64 2) <| gh <| Keep S fun _ =>
        Pv (fldV 3 c_15) fun v24 =>
        Sto 2 v24 v22 <| gh fun _ =>
        Pv (fldV 14 c_15) fun v25 =>
        Sto 1 v25 (Value.int .i64 90) <| gh fun _ =>
        Draw fun S =>
          Pv (nilV a0) fun v26 =>
          Pv (fldV 17 v26) fun v27 =>
          Rv (some S) (ld1R v27) fun v28 =>
          Pv (ixV 2 v28 (Value.int .i64 0)) fun v29 =>
          Rv (some S) (ldNR 2 v29) fun v30 =>
          Rv (some S) (ldNR 15 c_15) fun v31 =>
          Cal Try.prog ω 59 #[a1, v30, v31] <| gh fun v32 =>
          Pv (exV v32 0) fun v33 =>
          Pv (exV v32 1) fun v34 =>
          Sto 17 v1 v33 <| gh fun _ =>
          Rv none (ldNR 17 v1) fun v35 =>
          K (Value.tuple #[v35, v34]))
      (Pv (binIV .eql v18 (Value.int .i64 2)) fun v36 =>
      Br v36
        (Pv (nilV a0) fun v37 =>
        Pv (fldV 10 v37) fun v38 =>
        Rv none (ld1R v38) fun v39 =>
        Pv (unV .not v39) fun v40 =>
        Br v40
          (DrawW [c_15] fun S =>
            Pv (nilV a0) fun v41 =>
            Pv (fldV 8 v41) fun v42 =>
            Rv (some S) (ld1R v42) fun v43 =>
            Pv (nilV a0) fun v44 =>
            Pv (fldV 2 v44) fun v45 =>
            Rv (some S) (ldNR 2 v45) fun v46 =>
            Pv (fldV 0 c_15) fun v47 =>
            Sto 1 v47 (Value.int .i64 5) <| gh <| Keep S fun _ =>
            Pv (fldV 2 c_15) fun v48 =>
            Sto 1 v48 v43 <| gh <| Keep S fun _ =>
            Pv (fldV 3 c_15) fun v49 =>
            Sto 2 v49 v46 <| gh fun _ =>
            Rv none (ldNR 15 c_15) fun v50 =>
            Cal Try.prog ω 60 #[a1, (Value.slice none 0 0), v50] <| gh fun v51 =>
            Pv (exV v51 0) fun v52 =>
            Pv (exV v51 1) fun v53 =>
            Sto 17 v1 v52 <| gh fun _ =>
            Rv none (ldNR 17 v1) fun v54 =>
            K (Value.tuple #[v54, v53]))
          (Pv (nilV a0) fun v55 =>
          Pv (fldV 18 v55) fun v56 =>
          Rv none (ld1R v56) fun v57 =>
          Pv (ixV 3 v57 (Value.int .i64 0)) fun v58 =>
          Rv none (ldNR 3 v58) fun v59 =>
          New (.cells #[(Value.bool false), (Value.slice none 0 0), (Value.slice none 0 0)] 62 (0, 0)) <| gh fun x_60 =>
          Sto 3 x_60 v59 <| gh fun _ =>
          DrawW [c_15] fun S =>
            Pv (nilV a0) fun v61 =>
            Pv (fldV 8 v61) fun v62 =>
            Rv (some S) (ld1R v62) fun v63 =>
            Pv (nilV a0) fun v64 =>
            Pv (fldV 6 v64) fun v65 =>
            Rv (some S) (ldNR 2 v65) fun v66 =>
            Pv (fldV 1 x_60) fun v67 =>
            Rv (some S) (ld1R v67) fun v68 =>
            Cal Try.prog ω 34 #[v68] <| gh <| Keep S fun v69 =>
            Pv (fldV 0 x_60) fun v70 =>
            Rv (some S) (ld1R v70) fun v71 =>
            Pv (fldV 2 x_60) fun v72 =>
            Rv (some S) (ld1R v72) fun v73 =>
            Cal Try.prog ω 34 #[v73] <| gh <| Keep S fun v74 =>
            Pv (fldV 0 c_15) fun v75 =>
            Sto 1 v75 (Value.int .i64 3) <| gh <| Keep S fun _ =>
            Pv (fldV 2 c_15) fun v76 =>
            Sto 1 v76 v63 <| gh <| Keep S fun _ =>
            Pv (fldV 3 c_15) fun v77 =>
            Sto 2 v77 v66 <| gh <| Keep S fun _ =>
            Pv (fldV 10 c_15) fun v78 =>
            Sto 1 v78 v69 <| gh <| Keep S fun _ =>
            Pv (fldV 9 c_15) fun v79 =>
            Sto 1 v79 v71 <| gh fun _ =>
            Pv (fldV 11 c_15) fun v80 =>
            Sto 1 v80 v74 <| gh fun _ =>
            Pv (fldV 1 x_60) fun v81 =>
            Rv none (ld1R v81) fun v82 =>
            Rv none (ldNR 15 c_15) fun v83 =>
            Cal Try.prog ω 60 #[a1, v82, v83] <| gh fun v84 =>
            Pv (exV v84 0) fun v85 =>
            Pv (exV v84 1) fun v86 =>
            Sto 17 v1 v85 <| gh fun _ =>
            Rv none (ldNR 17 v1) fun v87 =>
            K (Value.tuple #[v87, v86])))
        (Pv (binIV .eql v18 (Value.int .i64 3)) fun v88 =>
        Br v88
          (DrawW [c_15] fun S =>
            Pv (nilV a0) fun v89 =>
            Pv (fldV 8 v89) fun v90 =>
            Rv (some S) (ld1R v90) fun v91 =>
            Pv (nilV a0) fun v92 =>
            Pv (fldV 4 v92) fun v93 =>
            Rv (some S) (ldNR 2 v93) fun v94 =>
            Pv (nilV a0) fun v95 =>
            Pv (fldV 6 v95) fun v96 =>
            Rv (some S) (ldNR 2 v96) fun v97 =>
            Pv (fldV 0 c_15) fun v98 =>
            Sto 1 v98 (Value.int .i64 4) <| gh <| Keep S fun _ =>
            Pv (fldV 2 c_15) fun v99 =>
            Sto 1 v99 v91 <| gh <| Keep S fun _ =>
            Pv (fldV 3 c_15) fun v100 =>
            Sto 2 v100 v94 <| gh <| Keep S fun _ =>
            Pv (fldV 5 c_15) fun v101 =>
            Sto 2 v101 v97 <| gh fun _ =>
            Draw fun S =>
              Pv (nilV a0) fun v102 =>
              Pv (fldV 17 v102) fun v103 =>
              Rv (some S) (ld1R v103) fun v104 =>
              Pv (ixV 2 v104 (Value.int .i64 0)) fun v105 =>
              Rv (some S) (ldNR 2 v105) fun v106 =>
              Rv (some S) (ldNR 15 c_15) fun v107 =>
              Cal Try.prog ω 59 #[a1, v106, v107] <| gh fun v108 =>
              Pv (exV v108 0) fun v109 =>
              Pv (exV v108 1) fun v110 =>
              Sto 17 v1 v109 <| gh fun _ =>
              Rv none (ldNR 17 v1) fun v111 =>
              K (Value.tuple #[v111, v110]))
          (Pv (binIV .eql v18 (Value.int .i64 4)) fun v135 =>
          Br v135
            (sh39_1 ω a0 a1 v1 (Value.bool false) c_15 v18 v135 K)
            (Pv (binIV .eql v18 (Value.int .i64 5)) fun v136 =>
            sh39_1 ω a0 a1 v1 (Value.bool false) c_15 v18 v136 K)))))
theorem sh39_eq (ω : Om) (a0 a1 : Value) (K : Value → M) : vcF Try.prog ω Try.f39 [a0, a1] K = sh39 ω a0 a1 K := by kernel_rfl
theorem cal39 {ω : Om} {a0 a1 : Value} {K : Value → M} {I : Imm} {L : LH} (h : sh39 ω a0 a1 (fun v => Gh (K v)) I L) : Cal Try.prog ω 39 #[a0, a1] K I L :=
  Cal.gh (cal_of_vc mixed Try.func39 (by rw [sh39_eq]; exact h))

def sh40 (ω : Om) (K : Value → M) : M :=
  Pv (bldV #[(Value.int .i64 0), (Value.slice none 0 0), (Value.slice none 0 0), (Value.int .i64 0)] #[(0, 1), (1, 2), (3, 1)] [(0, (Value.int .i64 1)), (2, (Value.int .i64 1))]) fun v1 =>
  BldS 81 4 #[(Value.int .i64 0), (Value.slice none 0 0), (Value.slice none 0 0), (Value.int .i64 0)] 1 [(0, v1)] <| gh fun v2 =>
  Pv (bldV #[(Value.slice none 0 0)] #[(0, 1)] [(0, v2)]) fun v3 =>
  New (.cells (Value.cells v3) 108 (0, 0)) <| gh fun v4 =>
  K v4
theorem sh40_eq (ω : Om) (K : Value → M) : vcF Try.prog ω Try.f40 [] K = sh40 ω K := by kernel_rfl
theorem cal40 {ω : Om} {K : Value → M} {I : Imm} {L : LH} (h : sh40 ω (fun v => Gh (K v)) I L) : Cal Try.prog ω 40 #[] K I L :=
  Cal.gh (cal_of_vc mixed Try.func40 (by rw [sh40_eq]; exact h))

def sh41 (ω : Om) (a0 : Value) (K : Value → M) : M :=
  Pv (nilV a0) fun v1 =>
  Pv (fldV 0 v1) fun v2 =>
  Rv none (ld1R v2) fun v3 =>
  Cal Try.prog ω 62 #[v3] <| gh fun v4 =>
  K v4
theorem sh41_eq (ω : Om) (a0 : Value) (K : Value → M) : vcF Try.prog ω Try.f41 [a0] K = sh41 ω a0 K := by kernel_rfl
theorem cal41 {ω : Om} {a0 : Value} {K : Value → M} {I : Imm} {L : LH} (h : sh41 ω a0 (fun v => Gh (K v)) I L) : Cal Try.prog ω 41 #[a0] K I L :=
  Cal.gh (cal_of_vc mixed Try.func41 (by rw [sh41_eq]; exact h))

def sh42_1 (ω : Om) (p2 : Value) (p3 : Value) (p4 : Value) (p6 : Value) (p7 : Value) (K : Value → M) : M :=
  Pv (fldV 0 p6) fun v3 =>
  Rv none (ld1R v3) fun v4 =>
  Pv (fldV 0 p7) fun v5 =>
  Rv none (ld1R v5) fun v6 =>
  Pv (binIV .eql v4 v6) fun v7 =>
  Gd v7 true
    (Pv (fldV 1 p6) fun v8 =>
    Rv none (ld1R v8) fun v9 =>
    Pv (fldV 1 p7) fun v10 =>
    Rv none (ld1R v10) fun v11 =>
    Pv (binIV .eql v9 v11) fun v12 =>
    Gd v12 true
      (Pv (fldV 2 p6) fun v13 =>
      Rv none (ld1R v13) fun v14 =>
      Pv (fldV 2 p7) fun v15 =>
      Rv none (ld1R v15) fun v16 =>
      Pv (binIV .eql v14 v16) fun v17 =>
      Gd v17 true
        (Pv (fldV 3 p6) fun v18 =>
        Rv none (ldNR 2 v18) fun v19 =>
        Pv (fldV 3 p7) fun v20 =>
        Rv none (ldNR 2 v20) fun v21 =>
        Pv (binAV .eql [(TypeDesc.int .i64, 0), (TypeDesc.int .i64, 1)] v19 v21) fun v22 =>
        Gd v22 true
          (Pv (fldV 5 p6) fun v23 =>
          Rv none (ldNR 2 v23) fun v24 =>
          Pv (fldV 5 p7) fun v25 =>
          Rv none (ldNR 2 v25) fun v26 =>
          Pv (binAV .eql [(TypeDesc.int .i64, 0), (TypeDesc.int .i64, 1)] v24 v26) fun v27 =>
          Gd v27 true
            (Pv (fldV 7 p6) fun v28 =>
            Rv none (ld1R v28) fun v29 =>
            Pv (fldV 7 p7) fun v30 =>
            Rv none (ld1R v30) fun v31 =>
            Pv (binIV .eql v29 v31) fun v32 =>
            Gd v32 true
              (Pv (fldV 8 p6) fun v33 =>
              Rv none (ld1R v33) fun v34 =>
              Pv (fldV 8 p7) fun v35 =>
              Rv none (ld1R v35) fun v36 =>
              Pv (binBV .eql v34 v36) fun v37 =>
              Gd v37 true
                (Pv (fldV 9 p6) fun v38 =>
                Rv none (ld1R v38) fun v39 =>
                Pv (fldV 9 p7) fun v40 =>
                Rv none (ld1R v40) fun v41 =>
                Pv (binBV .eql v39 v41) fun v42 =>
                Gd v42 true
                  (Pv (fldV 14 p6) fun v43 =>
                  Rv none (ld1R v43) fun v44 =>
                  Pv (fldV 14 p7) fun v45 =>
                  Rv none (ld1R v45) fun v46 =>
                  Pv (binIV .eql v44 v46) fun v47 =>
                  Gd v47 true
                    (Pv (fldV 10 p2) fun v48 =>
                    Rv none (ld1R v48) fun v49 =>
                    Pv (fldV 10 p3) fun v50 =>
                    Rv none (ld1R v50) fun v51 =>
                    Cal Try.prog ω 64 #[v49, v51] <| gh fun v52 =>
                    Gd v52 true
                      (Pv (fldV 11 p2) fun v53 =>
                      Rv none (ld1R v53) fun v54 =>
                      Pv (fldV 11 p3) fun v55 =>
                      Rv none (ld1R v55) fun v56 =>
                      Cal Try.prog ω 64 #[v54, v56] <| gh fun v57 =>
                      Gd v57 true
                        (Pv (fldV 12 p2) fun v58 =>
                        Pv (fldV 0 v58) fun v59 =>
                        Rv none (ld1R v59) fun v60 =>
                        Pv (fldV 12 p3) fun v61 =>
                        Pv (fldV 0 v61) fun v62 =>
                        Rv none (ld1R v62) fun v63 =>
                        Cal Try.prog ω 64 #[v60, v63] <| gh fun v64 =>
                        K v64)
                        (K (Value.bool false)))
                      (K (Value.bool false)))
                    (K (Value.bool false)))
                  (K (Value.bool false)))
                (K (Value.bool false)))
              (K (Value.bool false)))
            (K (Value.bool false)))
          (K (Value.bool false)))
        (K (Value.bool false)))
      (K (Value.bool false)))
    (K (Value.bool false))
def sh42 (ω : Om) (a0 : Value) (a1 : Value) (K : Value → M) : M :=
  New (.cells (Value.cells a0) 48 (0, 0)) <| gh fun a_1 =>
  New (.cells (Value.cells a1) 48 (0, 0)) <| gh fun b_2 =>
  Draw fun S =>
    Rv (some S) (ldNR 15 a_1) fun v65 =>
    Rv (some S) (ldNR 15 b_2) fun v66 =>
    (fun I L => (CalV Try.prog ω (Value.func (.func 63) #[] #[]) #[v65] <| gh <| Keep S fun v67 =>
      (fun I L => (CalV Try.prog ω (Value.func (.func 63) #[] #[]) #[v66] <| gh fun v68 =>
        (fun I L => (New (.cells #[(Value.int .i64 0), (Value.int .i64 0), (Value.int .i64 0), (Value.int .i64 0), (Value.int .i64 0), (Value.int .i64 0), (Value.int .i64 0), (Value.int .i64 0), (Value.bool false), (Value.bool false), (Value.slice none 0 0), (Value.slice none 0 0), (Value.slice none 0 0), (Value.slice none 0 0), (Value.int .i64 0)] 48 (0, 0)) <| gh <| Keep S fun x_69 =>
          New (.cells #[(Value.int .i64 0), (Value.int .i64 0), (Value.int .i64 0), (Value.int .i64 0), (Value.int .i64 0), (Value.int .i64 0), (Value.int .i64 0), (Value.int .i64 0), (Value.bool false), (Value.bool false), (Value.slice none 0 0), (Value.slice none 0 0), (Value.slice none 0 0), (Value.slice none 0 0), (Value.int .i64 0)] 48 (0, 0)) <| gh <| Keep S fun y_70 =>
          Sto 15 x_69 v67 <| gh fun _ =>
          Sto 15 y_70 v68 <| gh fun _ =>
          sh42_1 ω a_1 b_2 (Value.bool false) x_69 y_70 K) I L ∧ (New (.cells #[(Value.int .i64 0), (Value.int .i64 0), (Value.int .i64 0), (Value.int .i64 0), (Value.int .i64 0), (Value.int .i64 0), (Value.int .i64 0), (Value.int .i64 0), (Value.bool false), (Value.bool false), (Value.slice none 0 0), (Value.slice none 0 0), (Value.slice none 0 0), (Value.slice none 0 0), (Value.int .i64 0)] 48 (0, 0)) <| gh <| Keep S fun y_71 =>
          New (.cells #[(Value.int .i64 0), (Value.int .i64 0), (Value.int .i64 0), (Value.int .i64 0), (Value.int .i64 0), (Value.int .i64 0), (Value.int .i64 0), (Value.int .i64 0), (Value.bool false), (Value.bool false), (Value.slice none 0 0), (Value.slice none 0 0), (Value.slice none 0 0), (Value.slice none 0 0), (Value.int .i64 0)] 48 (0, 0)) <| gh <| Keep S fun x_72 =>
          Sto 15 x_72 v67 <| gh fun _ =>
          Sto 15 y_71 v68 <| gh fun _ =>
          sh42_1 ω a_1 b_2 (Value.bool false) x_72 y_71 K) I L)) I L ∧ (fun I L => (New (.cells #[(Value.int .i64 0), (Value.int .i64 0), (Value.int .i64 0), (Value.int .i64 0), (Value.int .i64 0), (Value.int .i64 0), (Value.int .i64 0), (Value.int .i64 0), (Value.bool false), (Value.bool false), (Value.slice none 0 0), (Value.slice none 0 0), (Value.slice none 0 0), (Value.slice none 0 0), (Value.int .i64 0)] 48 (0, 0)) <| gh <| Keep S fun x_73 =>
        (fun I L => (CalV Try.prog ω (Value.func (.func 63) #[] #[]) #[v66] <| gh fun v74 =>
          New (.cells #[(Value.int .i64 0), (Value.int .i64 0), (Value.int .i64 0), (Value.int .i64 0), (Value.int .i64 0), (Value.int .i64 0), (Value.int .i64 0), (Value.int .i64 0), (Value.bool false), (Value.bool false), (Value.slice none 0 0), (Value.slice none 0 0), (Value.slice none 0 0), (Value.slice none 0 0), (Value.int .i64 0)] 48 (0, 0)) <| gh <| Keep S fun y_75 =>
          Sto 15 x_73 v67 <| gh fun _ =>
          Sto 15 y_75 v74 <| gh fun _ =>
          sh42_1 ω a_1 b_2 (Value.bool false) x_73 y_75 K) I L ∧ (New (.cells #[(Value.int .i64 0), (Value.int .i64 0), (Value.int .i64 0), (Value.int .i64 0), (Value.int .i64 0), (Value.int .i64 0), (Value.int .i64 0), (Value.int .i64 0), (Value.bool false), (Value.bool false), (Value.slice none 0 0), (Value.slice none 0 0), (Value.slice none 0 0), (Value.slice none 0 0), (Value.int .i64 0)] 48 (0, 0)) <| gh <| Keep S fun y_76 =>
          CalV Try.prog ω (Value.func (.func 63) #[] #[]) #[v66] <| gh fun v77 =>
          Sto 15 x_73 v67 <| gh fun _ =>
          Sto 15 y_76 v77 <| gh fun _ =>
          sh42_1 ω a_1 b_2 (Value.bool false) x_73 y_76 K) I L)) I L ∧ (New (.cells #[(Value.int .i64 0), (Value.int .i64 0), (Value.int .i64 0), (Value.int .i64 0), (Value.int .i64 0), (Value.int .i64 0), (Value.int .i64 0), (Value.int .i64 0), (Value.bool false), (Value.bool false), (Value.slice none 0 0), (Value.slice none 0 0), (Value.slice none 0 0), (Value.slice none 0 0), (Value.int .i64 0)] 48 (0, 0)) <| gh <| Keep S fun y_78 =>
        (fun I L => (CalV Try.prog ω (Value.func (.func 63) #[] #[]) #[v66] <| gh fun v79 =>
          New (.cells #[(Value.int .i64 0), (Value.int .i64 0), (Value.int .i64 0), (Value.int .i64 0), (Value.int .i64 0), (Value.int .i64 0), (Value.int .i64 0), (Value.int .i64 0), (Value.bool false), (Value.bool false), (Value.slice none 0 0), (Value.slice none 0 0), (Value.slice none 0 0), (Value.slice none 0 0), (Value.int .i64 0)] 48 (0, 0)) <| gh <| Keep S fun x_80 =>
          Sto 15 x_80 v67 <| gh fun _ =>
          Sto 15 y_78 v79 <| gh fun _ =>
          sh42_1 ω a_1 b_2 (Value.bool false) x_80 y_78 K) I L ∧ (New (.cells #[(Value.int .i64 0), (Value.int .i64 0), (Value.int .i64 0), (Value.int .i64 0), (Value.int .i64 0), (Value.int .i64 0), (Value.int .i64 0), (Value.int .i64 0), (Value.bool false), (Value.bool false), (Value.slice none 0 0), (Value.slice none 0 0), (Value.slice none 0 0), (Value.slice none 0 0), (Value.int .i64 0)] 48 (0, 0)) <| gh <| Keep S fun x_81 =>
          CalV Try.prog ω (Value.func (.func 63) #[] #[]) #[v66] <| gh fun v82 =>
          Sto 15 x_81 v67 <| gh fun _ =>
          Sto 15 y_78 v82 <| gh fun _ =>
          sh42_1 ω a_1 b_2 (Value.bool false) x_81 y_78 K) I L)) I L) I L)) I L ∧ (fun I L => (New (.cells #[(Value.int .i64 0), (Value.int .i64 0), (Value.int .i64 0), (Value.int .i64 0), (Value.int .i64 0), (Value.int .i64 0), (Value.int .i64 0), (Value.int .i64 0), (Value.bool false), (Value.bool false), (Value.slice none 0 0), (Value.slice none 0 0), (Value.slice none 0 0), (Value.slice none 0 0), (Value.int .i64 0)] 48 (0, 0)) <| gh <| Keep S fun x_83 =>
      (fun I L => (CalV Try.prog ω (Value.func (.func 63) #[] #[]) #[v65] <| gh <| Keep S fun v84 =>
        (fun I L => (CalV Try.prog ω (Value.func (.func 63) #[] #[]) #[v66] <| gh fun v85 =>
          New (.cells #[(Value.int .i64 0), (Value.int .i64 0), (Value.int .i64 0), (Value.int .i64 0), (Value.int .i64 0), (Value.int .i64 0), (Value.int .i64 0), (Value.int .i64 0), (Value.bool false), (Value.bool false), (Value.slice none 0 0), (Value.slice none 0 0), (Value.slice none 0 0), (Value.slice none 0 0), (Value.int .i64 0)] 48 (0, 0)) <| gh <| Keep S fun y_86 =>
          Sto 15 x_83 v84 <| gh fun _ =>
          Sto 15 y_86 v85 <| gh fun _ =>
          sh42_1 ω a_1 b_2 (Value.bool false) x_83 y_86 K) I L ∧ (New (.cells #[(Value.int .i64 0), (Value.int .i64 0), (Value.int .i64 0), (Value.int .i64 0), (Value.int .i64 0), (Value.int .i64 0), (Value.int .i64 0), (Value.int .i64 0), (Value.bool false), (Value.bool false), (Value.slice none 0 0), (Value.slice none 0 0), (Value.slice none 0 0), (Value.slice none 0 0), (Value.int .i64 0)] 48 (0, 0)) <| gh <| Keep S fun y_87 =>
          CalV Try.prog ω (Value.func (.func 63) #[] #[]) #[v66] <| gh fun v88 =>
          Sto 15 x_83 v84 <| gh fun _ =>
          Sto 15 y_87 v88 <| gh fun _ =>
          sh42_1 ω a_1 b_2 (Value.bool false) x_83 y_87 K) I L)) I L ∧ (New (.cells #[(Value.int .i64 0), (Value.int .i64 0), (Value.int .i64 0), (Value.int .i64 0), (Value.int .i64 0), (Value.int .i64 0), (Value.int .i64 0), (Value.int .i64 0), (Value.bool false), (Value.bool false), (Value.slice none 0 0), (Value.slice none 0 0), (Value.slice none 0 0), (Value.slice none 0 0), (Value.int .i64 0)] 48 (0, 0)) <| gh <| Keep S fun y_89 =>
        CalV Try.prog ω (Value.func (.func 63) #[] #[]) #[v65] <| gh <| Keep S fun v90 =>
        CalV Try.prog ω (Value.func (.func 63) #[] #[]) #[v66] <| gh fun v91 =>
        Sto 15 x_83 v90 <| gh fun _ =>
        Sto 15 y_89 v91 <| gh fun _ =>
        sh42_1 ω a_1 b_2 (Value.bool false) x_83 y_89 K) I L)) I L ∧ (New (.cells #[(Value.int .i64 0), (Value.int .i64 0), (Value.int .i64 0), (Value.int .i64 0), (Value.int .i64 0), (Value.int .i64 0), (Value.int .i64 0), (Value.int .i64 0), (Value.bool false), (Value.bool false), (Value.slice none 0 0), (Value.slice none 0 0), (Value.slice none 0 0), (Value.slice none 0 0), (Value.int .i64 0)] 48 (0, 0)) <| gh <| Keep S fun y_92 =>
      (fun I L => (CalV Try.prog ω (Value.func (.func 63) #[] #[]) #[v65] <| gh <| Keep S fun v93 =>
        (fun I L => (CalV Try.prog ω (Value.func (.func 63) #[] #[]) #[v66] <| gh fun v94 =>
          New (.cells #[(Value.int .i64 0), (Value.int .i64 0), (Value.int .i64 0), (Value.int .i64 0), (Value.int .i64 0), (Value.int .i64 0), (Value.int .i64 0), (Value.int .i64 0), (Value.bool false), (Value.bool false), (Value.slice none 0 0), (Value.slice none 0 0), (Value.slice none 0 0), (Value.slice none 0 0), (Value.int .i64 0)] 48 (0, 0)) <| gh <| Keep S fun x_95 =>
          Sto 15 x_95 v93 <| gh fun _ =>
          Sto 15 y_92 v94 <| gh fun _ =>
          sh42_1 ω a_1 b_2 (Value.bool false) x_95 y_92 K) I L ∧ (New (.cells #[(Value.int .i64 0), (Value.int .i64 0), (Value.int .i64 0), (Value.int .i64 0), (Value.int .i64 0), (Value.int .i64 0), (Value.int .i64 0), (Value.int .i64 0), (Value.bool false), (Value.bool false), (Value.slice none 0 0), (Value.slice none 0 0), (Value.slice none 0 0), (Value.slice none 0 0), (Value.int .i64 0)] 48 (0, 0)) <| gh <| Keep S fun x_96 =>
          CalV Try.prog ω (Value.func (.func 63) #[] #[]) #[v66] <| gh fun v97 =>
          Sto 15 x_96 v93 <| gh fun _ =>
          Sto 15 y_92 v97 <| gh fun _ =>
          sh42_1 ω a_1 b_2 (Value.bool false) x_96 y_92 K) I L)) I L ∧ (New (.cells #[(Value.int .i64 0), (Value.int .i64 0), (Value.int .i64 0), (Value.int .i64 0), (Value.int .i64 0), (Value.int .i64 0), (Value.int .i64 0), (Value.int .i64 0), (Value.bool false), (Value.bool false), (Value.slice none 0 0), (Value.slice none 0 0), (Value.slice none 0 0), (Value.slice none 0 0), (Value.int .i64 0)] 48 (0, 0)) <| gh <| Keep S fun x_98 =>
        CalV Try.prog ω (Value.func (.func 63) #[] #[]) #[v65] <| gh <| Keep S fun v99 =>
        CalV Try.prog ω (Value.func (.func 63) #[] #[]) #[v66] <| gh fun v100 =>
        Sto 15 x_98 v99 <| gh fun _ =>
        Sto 15 y_92 v100 <| gh fun _ =>
        sh42_1 ω a_1 b_2 (Value.bool false) x_98 y_92 K) I L)) I L) I L)
theorem sh42_eq (ω : Om) (a0 a1 : Value) (K : Value → M) : vcF Try.prog ω Try.f42 [a0, a1] K = sh42 ω a0 a1 K := by kernel_rfl
theorem cal42 {ω : Om} {a0 a1 : Value} {K : Value → M} {I : Imm} {L : LH} (h : sh42 ω a0 a1 (fun v => Gh (K v)) I L) : Cal Try.prog ω 42 #[a0, a1] K I L :=
  Cal.gh (cal_of_vc mixed Try.func42 (by rw [sh42_eq]; exact h))

def sh43_2 (ω : Om) (p0 : Value) (p5 : Value) (p35 : Value) (K : Value → M) : M :=
  Br p35
    (DrawW [p0] fun S =>
      Pv (fldV 10 p5) fun v24 =>
      Rv (some S) (ld1R v24) fun v25 =>
      Pv (fldV 7 p5) fun v26 =>
      Rv (some S) (ldNR 2 v26) fun v27 =>
      Pv (nilV p0) fun v28 =>
      Pv (fldV 22 v28) fun v29 =>
      Pv (fldV 4 v29) fun v30 =>
      Sto 1 v30 v25 <| gh <| Keep S fun _ =>
      Pv (nilV p0) fun v31 =>
      Pv (fldV 22 v31) fun v32 =>
      Pv (fldV 5 v32) fun v33 =>
      Sto 2 v33 v27 <| gh fun _ =>
      K (Value.tuple #[]))
    (Cal Try.prog ω 38 #[p0] <| gh fun v34 =>
    K (Value.tuple #[]))
def sh43 (ω : Om) (a0 : Value) (a1 : Value) (a2 : Value) (K : Value → M) : M :=
  New (.cells (Value.cells a1) 48 (0, 0)) <| gh fun c_1 =>
  New (.cells (Value.cells a2) 46 (0, 0)) <| gh fun r_2 =>
  Pv (fldV 0 r_2) fun v3 =>
  Rv none (ld1R v3) fun v4 =>
  Pv (binIV .neq v4 (Value.int .i64 0)) fun v5 =>
  Br v5
    (Cal Try.prog ω 38 #[a0] <| gh fun v6 =>
    K (Value.tuple #[]))
    (Pv (fldV 0 c_1) fun v7 =>
    Rv none (ld1R v7) fun v8 =>
    Pv (binIV .eql v8 (Value.int .i64 9)) fun v9 =>
    Br v9
      (Pv (bldV #[(Value.int .i64 0), (Value.slice none 0 0), (Value.slice none 0 0), (Value.int .i64 0), (Value.int .i64 0), (Value.int .i64 0), (Value.int .i64 0)] #[(0, 1), (1, 2), (3, 1), (4, 1), (5, 2)] []) fun v10 =>
      Pv (nilV a0) fun v11 =>
      Pv (fldV 22 v11) fun v12 =>
      Sto 7 v12 v10 <| gh fun _ =>
      K (Value.tuple #[]))
      (Pv (fldV 10 r_2) fun v13 =>
      Rv none (ld1R v13) fun v14 =>
      Pv (binIV .eql v14 (Value.int .i64 1)) fun v15 =>
      Br v15
        (Pv (nilV a0) fun v16 =>
        Pv (fldV 22 v16) fun v17 =>
        Pv (fldV 3 v17) fun v18 =>
        Rv none (ld1R v18) fun v19 =>
        Pv (binIV .add v19 (Value.int .i64 1)) fun v20 =>
        Pv (nilV a0) fun v21 =>
        Pv (fldV 22 v21) fun v22 =>
        Pv (fldV 3 v22) fun v23 =>
        Sto 1 v23 v20 <| gh fun _ =>
        K (Value.tuple #[]))
        (Pv (fldV 10 r_2) fun v35 =>
        Rv none (ld1R v35) fun v36 =>
        Pv (binIV .eql v36 (Value.int .i64 2)) fun v37 =>
        Br v37
          (sh43_2 ω a0 r_2 v37 K)
          (Pv (fldV 10 r_2) fun v38 =>
          Rv none (ld1R v38) fun v39 =>
          Pv (binIV .eql v39 (Value.int .i64 3)) fun v40 =>
          sh43_2 ω a0 r_2 v40 K))))
theorem sh43_eq (ω : Om) (a0 a1 a2 : Value) (K : Value → M) : vcF Try.prog ω Try.f43 [a0, a1, a2] K = sh43 ω a0 a1 a2 K := by kernel_rfl
theorem cal43 {ω : Om} {a0 a1 a2 : Value} {K : Value → M} {I : Imm} {L : LH} (h : sh43 ω a0 a1 a2 (fun v => Gh (K v)) I L) : Cal Try.prog ω 43 #[a0, a1, a2] K I L :=
  Cal.gh (cal_of_vc mixed Try.func43 (by rw [sh43_eq]; exact h))

def sh44 (ω : Om) (a0 : Value) (a1 : Value) (a2 : Value) (K : Value → M) : M :=
  New (.cells (Value.cells a1) 48 (0, 0)) <| gh fun c_1 =>
  New (.cells (Value.cells a2) 46 (0, 0)) <| gh fun r_2 =>
  Pv (fldV 0 c_1) fun v3 =>
  Rv none (ld1R v3) fun v4 =>
  Pv (binIV .eql v4 (Value.int .i64 6)) fun v5 =>
  Br v5
    (Pv (nilV a0) fun v6 =>
    Pv (fldV 12 v6) fun v7 =>
    Rv none (ld1R v7) fun v8 =>
    Cal Try.prog ω 65 #[v8] <| gh fun v9 =>
    Pv (nilV a0) fun v10 =>
    Pv (fldV 14 v10) fun v11 =>
    Sto 1 v11 (Value.int .i64 6) <| gh fun _ =>
    Pv (nilV a0) fun v12 =>
    Pv (fldV 19 v12) fun v13 =>
    Sto 1 v13 v9 <| gh fun _ =>
    K (Value.tuple #[]))
    (Pv (fldV 0 c_1) fun v14 =>
    Rv none (ld1R v14) fun v15 =>
    Pv (binIV .eql v15 (Value.int .i64 8)) fun v16 =>
    Br v16
      (Cal Try.prog ω 35 #[a0] <| gh fun v17 =>
      K (Value.tuple #[]))
      (Pv (fldV 0 r_2) fun v18 =>
      Rv none (ld1R v18) fun v19 =>
      Pv (binIV .eql v19 (Value.int .i64 0)) fun v20 =>
      Br v20
        (Pv (nilV a0) fun v21 =>
        Pv (fldV 19 v21) fun v22 =>
        Rv none (ld1R v22) fun v23 =>
        Pv (slcV 1 v23 (some (Value.int .i64 1)) none none) fun v24 =>
        Pv (nilV a0) fun v25 =>
        Pv (fldV 19 v25) fun v26 =>
        Sto 1 v26 v24 <| gh fun _ =>
        K (Value.tuple #[]))
        (K (Value.tuple #[]))))
theorem sh44_eq (ω : Om) (a0 a1 a2 : Value) (K : Value → M) : vcF Try.prog ω Try.f44 [a0, a1, a2] K = sh44 ω a0 a1 a2 K := by kernel_rfl
theorem cal44 {ω : Om} {a0 a1 a2 : Value} {K : Value → M} {I : Imm} {L : LH} (h : sh44 ω a0 a1 a2 (fun v => Gh (K v)) I L) : Cal Try.prog ω 44 #[a0, a1, a2] K I L :=
  Cal.gh (cal_of_vc mixed Try.func44 (by rw [sh44_eq]; exact h))

def sh45_3 (ω : Om) (p0 : Value) (K : Value → M) : M :=
  Pv (nilV p0) fun v25 =>
  Pv (fldV 18 v25) fun v26 =>
  Rv none (ld1R v26) fun v27 =>
  Pv (slcV 3 v27 (some (Value.int .i64 1)) none none) fun v28 =>
  Pv (nilV p0) fun v29 =>
  Pv (fldV 18 v29) fun v30 =>
  Sto 1 v30 v28 <| gh fun _ =>
  Pv (nilV p0) fun v31 =>
  Pv (fldV 18 v31) fun v32 =>
  Rv none (ld1R v32) fun v33 =>
  Pv (lenV v33) fun v34 =>
  Pv (binIV .eql v34 (Value.int .i64 0)) fun v35 =>
  Br v35
    (Pv (nilV p0) fun v36 =>
    Pv (fldV 13 v36) fun v37 =>
    Sto 1 v37 (Value.int .i64 1) <| gh fun _ =>
    Pv (nilV p0) fun v38 =>
    Pv (fldV 14 v38) fun v39 =>
    Sto 1 v39 (Value.int .i64 0) <| gh fun _ =>
    K (Value.tuple #[]))
    (K (Value.tuple #[]))
def sh45_2 (ω : Om) (p0 : Value) (p4 : Value) (K : Value → M) : M :=
  Pv (nilV p0) fun v40 =>
  Pv (fldV 12 v40) fun v41 =>
  Rv none (ld1R v41) fun v42 =>
  Cal Try.prog ω 67 #[v42, (Value.func (Fn.func 68) #[] #[p4])] <| gh fun v43 =>
  Pv (unV .not v43) fun v44 =>
  Br v44
    (Draw fun S =>
      Pv (nilV p0) fun v45 =>
      Pv (fldV 12 v45) fun v46 =>
      Rv (some S) (ld1R v46) fun v47 =>
      Pv (fldV 10 p4) fun v48 =>
      Rv (some S) (ld1R v48) fun v49 =>
      Cal Try.prog ω 34 #[v49] <| gh <| Keep S fun v50 =>
      BldS 38 1 #[(Value.slice none 0 0)] 1 [(0, v50)] <| gh <| Keep S fun v51 =>
      App 38 1 24 #[(Value.slice none 0 0)] v47 v51 <| gh fun v52 =>
      Pv (nilV p0) fun v53 =>
      Pv (fldV 12 v53) fun v54 =>
      Sto 1 v54 v52 <| gh fun _ =>
      sh45_3 ω p0 K)
    (sh45_3 ω p0 K)
def sh45 (ω : Om) (a0 : Value) (a1 : Value) (a2 : Value) (K : Value → M) : M :=
  New (.cells (Value.cells a1) 48 (0, 0)) <| gh fun c_1 =>
  New (.cells (Value.cells a2) 46 (0, 0)) <| gh fun r_2 =>
  Pv (fldV 0 c_1) fun v3 =>
  Rv none (ld1R v3) fun v4 =>
  Pv (binIV .eql v4 (Value.int .i64 2)) fun v5 =>
  Br v5
    (Rv none (ldNR 15 c_1) fun v6 =>
    Rv none (ldNR 11 r_2) fun v7 =>
    Cal Try.prog ω 66 #[a0, v6, v7] <| gh fun v8 =>
    K (Value.tuple #[]))
    (Pv (binIV .eql v4 (Value.int .i64 5)) fun v9 =>
    Br v9
      (Pv (nilV a0) fun v10 =>
      Pv (fldV 8 v10) fun v11 =>
      Rv none (ld1R v11) fun v12 =>
      Pv (binIV .add v12 (Value.int .i64 1)) fun v13 =>
      Pv (nilV a0) fun v14 =>
      Pv (fldV 8 v14) fun v15 =>
      Sto 1 v15 v13 <| gh fun _ =>
      Pv (nilV a0) fun v16 =>
      Pv (fldV 10 v16) fun v17 =>
      Sto 1 v17 (Value.bool true) <| gh fun _ =>
      K (Value.tuple #[]))
      (Pv (binIV .eql v4 (Value.int .i64 3)) fun v18 =>
      Br v18
        (Pv (nilV a0) fun v19 =>
        Pv (fldV 8 v19) fun v20 =>
        Rv none (ld1R v20) fun v21 =>
        Pv (binIV .add v21 (Value.int .i64 1)) fun v22 =>
        Pv (nilV a0) fun v23 =>
        Pv (fldV 8 v23) fun v24 =>
        Sto 1 v24 v22 <| gh fun _ =>
        Draw fun S =>
          Pv (fldV 7 r_2) fun v55 =>
          Rv (some S) (ldNR 2 v55) fun v56 =>
          Pv (nilV a0) fun v57 =>
          Pv (fldV 6 v57) fun v58 =>
          Rv (some S) (ldNR 2 v58) fun v59 =>
          Cal Try.prog ω 36 #[v56, v59] <| gh fun v60 =>
          Pv (binIV .gtr v60 (Value.int .i64 0)) fun v61 =>
          Br v61
            (Pv (fldV 7 r_2) fun v62 =>
            Rv none (ldNR 2 v62) fun v63 =>
            Pv (nilV a0) fun v64 =>
            Pv (fldV 6 v64) fun v65 =>
            Sto 2 v65 v63 <| gh fun _ =>
            sh45_2 ω a0 c_1 K)
            (sh45_2 ω a0 c_1 K))
        (Pv (binIV .eql v4 (Value.int .i64 4)) fun v66 =>
        Br v66
          (Pv (nilV a0) fun v67 =>
          Pv (fldV 8 v67) fun v68 =>
          Rv none (ld1R v68) fun v69 =>
          Pv (binIV .add v69 (Value.int .i64 1)) fun v70 =>
          Pv (nilV a0) fun v71 =>
          Pv (fldV 8 v71) fun v72 =>
          Sto 1 v72 v70 <| gh fun _ =>
          Pv (nilV a0) fun v73 =>
          Pv (fldV 17 v73) fun v74 =>
          Rv none (ld1R v74) fun v75 =>
          Pv (ixV 2 v75 (Value.int .i64 0)) fun v76 =>
          Draw fun S =>
            Pv (fldV 12 c_1) fun v77 =>
            Pv (fldV 1 v77) fun v78 =>
            Rv (some S) (ld1R v78) fun v79 =>
            Pv (nilV v76) fun v80 =>
            Pv (fldV 1 v80) fun v81 =>
            Rv (some S) (ld1R v81) fun v82 =>
            Cal Try.prog ω 69 #[v79, v82] <| gh fun v83 =>
            Br v83
              (Draw fun S =>
                Pv (fldV 12 c_1) fun v84 =>
                Pv (fldV 1 v84) fun v85 =>
                Rv (some S) (ld1R v85) fun v86 =>
                Cal Try.prog ω 34 #[v86] <| gh <| Keep S fun v87 =>
                Pv (nilV v76) fun v88 =>
                Pv (fldV 1 v88) fun v89 =>
                Rv (some S) (ld1R v89) fun v90 =>
                Pv (bldV #[(Value.slice none 0 0), (Value.slice none 0 0)] #[(0, 1), (1, 1)] [(0, v87), (1, v90)]) fun v91 =>
                Pv (nilV v76) fun v92 =>
                Sto 2 v92 v91 <| gh fun _ =>
                K (Value.tuple #[]))
              (Pv (nilV a0) fun v93 =>
              Pv (fldV 17 v93) fun v94 =>
              Rv none (ld1R v94) fun v95 =>
              Pv (slcV 2 v95 (some (Value.int .i64 1)) none none) fun v96 =>
              Pv (nilV a0) fun v97 =>
              Pv (fldV 17 v97) fun v98 =>
              Sto 1 v98 v96 <| gh fun _ =>
              Pv (nilV a0) fun v99 =>
              Pv (fldV 17 v99) fun v100 =>
              Rv none (ld1R v100) fun v101 =>
              Pv (lenV v101) fun v102 =>
              Pv (binIV .eql v102 (Value.int .i64 0)) fun v103 =>
              Br v103
                (Pv (nilV a0) fun v104 =>
                Pv (fldV 6 v104) fun v105 =>
                Rv none (ldNR 2 v105) fun v106 =>
                Pv (nilV a0) fun v107 =>
                Pv (fldV 4 v107) fun v108 =>
                Sto 2 v108 v106 <| gh fun _ =>
                Pv (nilV a0) fun v109 =>
                Pv (fldV 14 v109) fun v110 =>
                Sto 1 v110 (Value.int .i64 4) <| gh fun _ =>
                K (Value.tuple #[]))
                (K (Value.tuple #[]))))
          (Pv (binIV .eql v4 (Value.int .i64 6)) fun v111 =>
          Br v111
            (Pv (nilV a0) fun v112 =>
            Pv (fldV 12 v112) fun v113 =>
            Rv none (ld1R v113) fun v114 =>
            Cal Try.prog ω 65 #[v114] <| gh fun v115 =>
            Pv (nilV a0) fun v116 =>
            Pv (fldV 13 v116) fun v117 =>
            Sto 1 v117 (Value.int .i64 3) <| gh fun _ =>
            Pv (nilV a0) fun v118 =>
            Pv (fldV 14 v118) fun v119 =>
            Sto 1 v119 (Value.int .i64 6) <| gh fun _ =>
            Pv (nilV a0) fun v120 =>
            Pv (fldV 19 v120) fun v121 =>
            Sto 1 v121 v115 <| gh fun _ =>
            K (Value.tuple #[]))
            (K (Value.tuple #[]))))))
theorem sh45_eq (ω : Om) (a0 a1 a2 : Value) (K : Value → M) : vcF Try.prog ω Try.f45 [a0, a1, a2] K = sh45 ω a0 a1 a2 K := by kernel_rfl
theorem cal45 {ω : Om} {a0 a1 a2 : Value} {K : Value → M} {I : Imm} {L : LH} (h : sh45 ω a0 a1 a2 (fun v => Gh (K v)) I L) : Cal Try.prog ω 45 #[a0, a1, a2] K I L :=
  Cal.gh (cal_of_vc mixed Try.func45 (by rw [sh45_eq]; exact h))

def sh46 (ω : Om) (a0 : Value) (K : Value → M) : M :=
  New (.cells #[(Value.slice none 0 0), (Value.slice none 0 0)] 40 (0, 0)) <| gh fun v1 =>
  Cal Try.prog ω 34 #[a0] <| gh fun v2 =>
  Cal Try.prog ω 34 #[a0] <| gh fun v3 =>
  BldS 5 1 #[(Value.int .u8 0)] 1 [(0, (Value.int .u8 0))] <| gh fun v4 =>
  App 5 1 1 #[(Value.int .u8 0)] v3 v4 <| gh fun v5 =>
  Pv (bldV #[(Value.slice none 0 0), (Value.slice none 0 0)] #[(0, 1), (1, 1)] [(0, v2), (1, v5)]) fun v6 =>
  Sto 2 v1 v6 <| gh fun _ =>
  Rv none (ldNR 2 v1) fun v7 =>
  K v7
theorem sh46_eq (ω : Om) (a0 : Value) (K : Value → M) : vcF Try.prog ω Try.f46 [a0] K = sh46 ω a0 K := by kernel_rfl
theorem cal46 {ω : Om} {a0 : Value} {K : Value → M} {I : Imm} {L : LH} (h : sh46 ω a0 (fun v => Gh (K v)) I L) : Cal Try.prog ω 46 #[a0] K I L :=
  Cal.gh (cal_of_vc mixed Try.func46 (by rw [sh46_eq]; exact h))

def sh47 (ω : Om) (a0 : Value) (a1 : Value) (K : Value → M) : M :=
  New (.cells (Value.cells a0) 48 (0, 0)) <| gh fun a_1 =>
  New (.cells (Value.cells a1) 48 (0, 0)) <| gh fun b_2 =>
  Pv (fldV 0 a_1) fun v3 =>
  Rv none (ld1R v3) fun v4 =>
  Pv (fldV 0 b_2) fun v5 =>
  Rv none (ld1R v5) fun v6 =>
  Pv (binIV .eql v4 v6) fun v7 =>
  Gd v7 true
    (Pv (fldV 1 a_1) fun v8 =>
    Rv none (ld1R v8) fun v9 =>
    Pv (fldV 1 b_2) fun v10 =>
    Rv none (ld1R v10) fun v11 =>
    Pv (binIV .eql v9 v11) fun v12 =>
    Gd v12 true
      (Pv (fldV 2 a_1) fun v13 =>
      Rv none (ld1R v13) fun v14 =>
      Pv (fldV 2 b_2) fun v15 =>
      Rv none (ld1R v15) fun v16 =>
      Pv (binIV .eql v14 v16) fun v17 =>
      Gd v17 true
        (Pv (fldV 3 a_1) fun v18 =>
        Rv none (ldNR 2 v18) fun v19 =>
        Pv (fldV 3 b_2) fun v20 =>
        Rv none (ldNR 2 v20) fun v21 =>
        Pv (binAV .eql [(TypeDesc.int .i64, 0), (TypeDesc.int .i64, 1)] v19 v21) fun v22 =>
        Gd v22 true
          (Pv (fldV 5 a_1) fun v23 =>
          Rv none (ldNR 2 v23) fun v24 =>
          Pv (fldV 5 b_2) fun v25 =>
          Rv none (ldNR 2 v25) fun v26 =>
          Pv (binAV .eql [(TypeDesc.int .i64, 0), (TypeDesc.int .i64, 1)] v24 v26) fun v27 =>
          Gd v27 true
            (Pv (fldV 7 a_1) fun v28 =>
            Rv none (ld1R v28) fun v29 =>
            Pv (fldV 7 b_2) fun v30 =>
            Rv none (ld1R v30) fun v31 =>
            Pv (binIV .eql v29 v31) fun v32 =>
            Gd v32 true
              (Pv (fldV 8 a_1) fun v33 =>
              Rv none (ld1R v33) fun v34 =>
              Pv (fldV 8 b_2) fun v35 =>
              Rv none (ld1R v35) fun v36 =>
              Pv (binBV .eql v34 v36) fun v37 =>
              Gd v37 true
                (Pv (fldV 9 a_1) fun v38 =>
                Rv none (ld1R v38) fun v39 =>
                Pv (fldV 9 b_2) fun v40 =>
                Rv none (ld1R v40) fun v41 =>
                Pv (binBV .eql v39 v41) fun v42 =>
                Gd v42 true
                  (Pv (fldV 10 a_1) fun v43 =>
                  Rv none (ld1R v43) fun v44 =>
                  Rv none (bsR v44) fun v45 =>
                  Pv (fldV 10 b_2) fun v46 =>
                  Rv none (ld1R v46) fun v47 =>
                  Rv none (bsR v47) fun v48 =>
                  Pv (binSV .eql v45 v48) fun v49 =>
                  Gd v49 true
                    (Pv (fldV 11 a_1) fun v50 =>
                    Rv none (ld1R v50) fun v51 =>
                    Rv none (bsR v51) fun v52 =>
                    Pv (fldV 11 b_2) fun v53 =>
                    Rv none (ld1R v53) fun v54 =>
                    Rv none (bsR v54) fun v55 =>
                    Pv (binSV .eql v52 v55) fun v56 =>
                    Gd v56 true
                      (Pv (fldV 12 a_1) fun v57 =>
                      Pv (fldV 0 v57) fun v58 =>
                      Rv none (ld1R v58) fun v59 =>
                      Rv none (bsR v59) fun v60 =>
                      Pv (fldV 12 b_2) fun v61 =>
                      Pv (fldV 0 v61) fun v62 =>
                      Rv none (ld1R v62) fun v63 =>
                      Rv none (bsR v63) fun v64 =>
                      Pv (binSV .eql v60 v64) fun v65 =>
                      Gd v65 true
                        (Pv (fldV 14 a_1) fun v66 =>
                        Rv none (ld1R v66) fun v67 =>
                        Pv (fldV 14 b_2) fun v68 =>
                        Rv none (ld1R v68) fun v69 =>
                        Pv (binIV .eql v67 v69) fun v70 =>
                        K v70)
                        (K (Value.bool false)))
                      (K (Value.bool false)))
                    (K (Value.bool false)))
                  (K (Value.bool false)))
                (K (Value.bool false)))
              (K (Value.bool false)))
            (K (Value.bool false)))
          (K (Value.bool false)))
        (K (Value.bool false)))
      (K (Value.bool false)))
    (K (Value.bool false))
theorem sh47_eq (ω : Om) (a0 a1 : Value) (K : Value → M) : vcF Try.prog ω Try.f47 [a0, a1] K = sh47 ω a0 a1 K := by kernel_rfl
theorem cal47 {ω : Om} {a0 a1 : Value} {K : Value → M} {I : Imm} {L : LH} (h : sh47 ω a0 a1 (fun v => Gh (K v)) I L) : Cal Try.prog ω 47 #[a0, a1] K I L :=
  Cal.gh (cal_of_vc mixed Try.func47 (by rw [sh47_eq]; exact h))

def sh48 (ω : Om) (a0 : Value) (K : Value → M) : M :=
  Pv (binIV .geq a0 (Value.int .i64 0)) fun v1 =>
  Gd v1 true
    (Pv (binIV .leq a0 (Value.int .i64 9007199254740991)) fun v2 =>
    K v2)
    (K (Value.bool false))
theorem sh48_eq (ω : Om) (a0 : Value) (K : Value → M) : vcF Try.prog ω Try.f48 [a0] K = sh48 ω a0 K := by kernel_rfl
theorem cal48 {ω : Om} {a0 : Value} {K : Value → M} {I : Imm} {L : LH} (h : sh48 ω a0 (fun v => Gh (K v)) I L) : Cal Try.prog ω 48 #[a0] K I L :=
  Cal.gh (cal_of_vc mixed Try.func48 (by rw [sh48_eq]; exact h))

def sh49 (ω : Om) (a0 : Value) (K : Value → M) : M :=
  Pv (binIV .geq a0 (Value.int .i64 0)) fun v1 =>
  Gd v1 true
    (Pv (binIV .leq a0 (Value.int .i64 9007199254740991)) fun v2 =>
    K v2)
    (K (Value.bool false))
theorem sh49_eq (ω : Om) (a0 : Value) (K : Value → M) : vcF Try.prog ω Try.f49 [a0] K = sh49 ω a0 K := by kernel_rfl
theorem cal49 {ω : Om} {a0 : Value} {K : Value → M} {I : Imm} {L : LH} (h : sh49 ω a0 (fun v => Gh (K v)) I L) : Cal Try.prog ω 49 #[a0] K I L :=
  Cal.gh (cal_of_vc mixed Try.func49 (by rw [sh49_eq]; exact h))

def sh50 (ω : Om) (a0 : Value) (a1 : Value) (a2 : Value) (K : Value → M) : M :=
  New (.cells (Value.cells a2) 48 (0, 0)) <| gh fun c_1 =>
  New (.cells #[(Value.int .i64 0), (Value.int .i64 0), (Value.int .i64 0), (Value.int .i64 0), (Value.int .i64 0), (Value.int .i64 0), (Value.int .i64 0), (Value.int .i64 0), (Value.bool false), (Value.bool false), (Value.slice none 0 0), (Value.slice none 0 0), (Value.slice none 0 0), (Value.slice none 0 0), (Value.int .i64 0)] 48 (0, 0)) <| gh fun v2 =>
  Cal Try.prog ω 70 #[a0, a1] <| gh fun v3 =>
  Pv (exV v3 0) fun v4 =>
  Pv (exV v3 1) fun v5 =>
  New (.cells #[(Value.int .i64 0), (Value.slice none 0 0), (Value.slice none 0 0), (Value.int .i64 0)] 81 (0, 0)) <| gh fun r_6 =>
  Sto 4 r_6 v4 <| gh fun _ =>
  Draw fun S =>
    Pv (fldV 0 r_6) fun v7 =>
    Rv (some S) (ld1R v7) fun v8 =>
    Rv (some S) (ldNR 15 c_1) fun v9 =>
    Sto 15 v2 v9 <| gh fun _ =>
    Rv none (ldNR 15 v2) fun v10 =>
    K (Value.tuple #[v8, v10, v5])
theorem sh50_eq (ω : Om) (a0 a1 a2 : Value) (K : Value → M) : vcF Try.prog ω Try.f50 [a0, a1, a2] K = sh50 ω a0 a1 a2 K := by kernel_rfl
theorem cal50 {ω : Om} {a0 a1 a2 : Value} {K : Value → M} {I : Imm} {L : LH} (h : sh50 ω a0 a1 a2 (fun v => Gh (K v)) I L) : Cal Try.prog ω 50 #[a0, a1, a2] K I L :=
  Cal.gh (cal_of_vc mixed Try.func50 (by rw [sh50_eq]; exact h))

def sh51 (ω : Om) (a0 : Value) (a1 : Value) (K : Value → M) : M :=
  New (.cells (Value.cells a1) 40 (0, 0)) <| gh fun p_1 =>
  New (.cells #[(Value.int .i64 0), (Value.slice none 0 0), (Value.slice none 0 0), (Value.int .i64 0), (Value.slice none 0 0), (Value.slice none 0 0)] 98 (0, 0)) <| gh fun v2 =>
  Pv (fldV 0 p_1) fun v3 =>
  Rv none (ld1R v3) fun v4 =>
  Cal Try.prog ω 70 #[a0, v4] <| gh fun v5 =>
  Pv (exV v5 0) fun v6 =>
  Pv (exV v5 1) fun v7 =>
  New (.cells #[(Value.int .i64 0), (Value.slice none 0 0), (Value.slice none 0 0), (Value.int .i64 0)] 81 (0, 0)) <| gh fun r_8 =>
  Sto 4 r_8 v6 <| gh fun _ =>
  Pv (unV .not v7) fun v9 =>
  Br v9
    (Pv (bldV #[(Value.int .i64 0), (Value.slice none 0 0), (Value.slice none 0 0), (Value.int .i64 0), (Value.slice none 0 0), (Value.slice none 0 0)] #[(0, 4), (4, 2)] []) fun v10 =>
    Sto 6 v2 v10 <| gh fun _ =>
    Rv none (ldNR 6 v2) fun v11 =>
    K (Value.tuple #[v11, (Value.bool false)]))
    (Draw fun S =>
      Rv (some S) (ldNR 4 r_8) fun v12 =>
      Pv (fldV 1 r_8) fun v13 =>
      Rv (some S) (ldNR 2 v13) fun v14 =>
      Rv (some S) (ldNR 2 p_1) fun v15 =>
      Cal Try.prog ω 71 #[v14, v15] <| gh <| Keep S fun v16 =>
      Pv (bldV #[(Value.int .i64 0), (Value.slice none 0 0), (Value.slice none 0 0), (Value.int .i64 0), (Value.slice none 0 0), (Value.slice none 0 0)] #[(0, 4), (4, 2)] [(0, v12), (1, v16)]) fun v17 =>
      Sto 6 v2 v17 <| gh fun _ =>
      Rv none (ldNR 6 v2) fun v18 =>
      K (Value.tuple #[v18, (Value.bool true)]))
theorem sh51_eq (ω : Om) (a0 a1 : Value) (K : Value → M) : vcF Try.prog ω Try.f51 [a0, a1] K = sh51 ω a0 a1 K := by kernel_rfl
theorem cal51 {ω : Om} {a0 a1 : Value} {K : Value → M} {I : Imm} {L : LH} (h : sh51 ω a0 a1 (fun v => Gh (K v)) I L) : Cal Try.prog ω 51 #[a0, a1] K I L :=
  Cal.gh (cal_of_vc mixed Try.func51 (by rw [sh51_eq]; exact h))

def sh52 (ω : Om) (a0 : Value) (K : Value → M) : M :=
  New (.cells #[(Value.slice none 0 0), (Value.slice none 0 0)] 40 (0, 0)) <| gh fun v1 =>
  BldS 5 1 #[(Value.int .u8 0)] 0 [] <| gh fun v2 =>
  App 5 1 1 #[(Value.int .u8 0)] v2 a0 <| gh fun v3 =>
  BldS 5 1 #[(Value.int .u8 0)] 1 [(0, (Value.int .u8 0))] <| gh fun v4 =>
  App 5 1 1 #[(Value.int .u8 0)] v3 v4 <| gh fun v5 =>
  Pv (bldV #[(Value.slice none 0 0), (Value.slice none 0 0)] #[(0, 1), (1, 1)] [(0, a0), (1, v5)]) fun v6 =>
  Sto 2 v1 v6 <| gh fun _ =>
  Rv none (ldNR 2 v1) fun v7 =>
  K v7
theorem sh52_eq (ω : Om) (a0 : Value) (K : Value → M) : vcF Try.prog ω Try.f52 [a0] K = sh52 ω a0 K := by kernel_rfl
theorem cal52 {ω : Om} {a0 : Value} {K : Value → M} {I : Imm} {L : LH} (h : sh52 ω a0 (fun v => Gh (K v)) I L) : Cal Try.prog ω 52 #[a0] K I L :=
  Cal.gh (cal_of_vc mixed Try.func52 (by rw [sh52_eq]; exact h))

def sh53 (ω : Om) (a0 : Value) (K : Value → M) : M :=
  Pv (binIV .geq a0 (Value.int .i64 0)) fun v1 =>
  Gd v1 true
    (Pv (binIV .leq a0 (Value.int .i64 9007199254740991)) fun v2 =>
    K v2)
    (K (Value.bool false))
theorem sh53_eq (ω : Om) (a0 : Value) (K : Value → M) : vcF Try.prog ω Try.f53 [a0] K = sh53 ω a0 K := by kernel_rfl
theorem cal53 {ω : Om} {a0 : Value} {K : Value → M} {I : Imm} {L : LH} (h : sh53 ω a0 (fun v => Gh (K v)) I L) : Cal Try.prog ω 53 #[a0] K I L :=
  Cal.gh (cal_of_vc mixed Try.func53 (by rw [sh53_eq]; exact h))

def sh54 (ω : Om) (a0 : Value) (K : Value → M) : M :=
  New (.cells (Value.cells a0) 40 (0, 0)) <| gh fun p_1 =>
  Pv (fldV 1 p_1) fun v2 =>
  Rv none (ld1R v2) fun v3 =>
  Pv (lenV v3) fun v4 =>
  Pv (binIV .gtr v4 (Value.int .i64 0)) fun v5 =>
  Gd v5 true
    (Pv (fldV 1 p_1) fun v6 =>
    Rv none (ld1R v6) fun v7 =>
    Rv none (bsR v7) fun v8 =>
    Pv (fldV 0 p_1) fun v9 =>
    Rv none (ld1R v9) fun v10 =>
    Rv none (bsR v10) fun v11 =>
    Pv (binSV .leq v8 v11) fun v12 =>
    K v12)
    (K (Value.bool false))
theorem sh54_eq (ω : Om) (a0 : Value) (K : Value → M) : vcF Try.prog ω Try.f54 [a0] K = sh54 ω a0 K := by kernel_rfl
theorem cal54 {ω : Om} {a0 : Value} {K : Value → M} {I : Imm} {L : LH} (h : sh54 ω a0 (fun v => Gh (K v)) I L) : Cal Try.prog ω 54 #[a0] K I L :=
  Cal.gh (cal_of_vc mixed Try.func54 (by rw [sh54_eq]; exact h))

def sh55_3 (ω : Om) (p0 : Value) (p1 : Value) (p7 : Value) (x4 : Value) (x8 : Value) (Kn0 : (Value × Value × Unit) → M) (K : Value → M) : M :=
  Pv (binIV .lss x8 p7) fun v2 =>
  Br v2
    (Pv (ixV 3 p0 x8) fun v3 =>
    Rv none (ldNR 3 v3) fun v4 =>
    CalV Try.prog ω p1 #[v4] <| gh fun v5 =>
    Br v5
      (K x8)
      (Pv (binIV .add x8 (Value.int .i64 1)) fun v6 =>
      Kn0 (x4, v6, ())))
    (K (Value.int .i64 (-1)))
def sh55 (ω : Om) (a0 : Value) (a1 : Value) (K : Value → M) : M :=
  Pv (lenV a0) fun v1 =>
  LoopM (((Value.int .i64 0), (Value.int .i64 0), ()) : Value × Value × Unit) fun s Kn0 =>
  sh55_3 ω a0 a1 v1 s.1 s.2.1 Kn0 K
theorem sh55_eq (ω : Om) (a0 a1 : Value) (K : Value → M) : vcF Try.prog ω Try.f55 [a0, a1] K = sh55 ω a0 a1 K := by kernel_rfl
theorem cal55 {ω : Om} {a0 a1 : Value} {K : Value → M} {I : Imm} {L : LH} (h : sh55 ω a0 a1 (fun v => Gh (K v)) I L) : Cal Try.prog ω 55 #[a0, a1] K I L :=
  Cal.gh (cal_of_vc mixed Try.func55 (by rw [sh55_eq]; exact h))

def sh56_3 (ω : Om) (p3 : Value) (p6 : Value) (p7 : Value) (x2 : Value) (x8 : Value) (Kn0 : (Value × Value × Unit) → M) (K : Value → M) : M :=
  Pv (binIV .lss x8 p7) fun v2 =>
  Br v2
    (Pv (ixV 1 p6 x8) fun v3 =>
    Rv none (ld1R v3) fun v4 =>
    Pv (binIV .neq v4 p3) fun v5 =>
    Br v5
      (K v4)
      (Pv (binIV .add x8 (Value.int .i64 1)) fun v6 =>
      Kn0 (x2, v6, ())))
    (K p3)
def sh56 (ω : Om) (a0 : Value) (K : Value → M) : M :=
  Pv (lenV a0) fun v1 =>
  LoopM (((Value.int .i64 0), (Value.int .i64 0), ()) : Value × Value × Unit) fun s Kn0 =>
  sh56_3 ω (Value.int .i64 0) a0 v1 s.1 s.2.1 Kn0 K
theorem sh56_eq (ω : Om) (a0 : Value) (K : Value → M) : vcF Try.prog ω Try.f56 [a0] K = sh56 ω a0 K := by kernel_rfl
theorem cal56 {ω : Om} {a0 : Value} {K : Value → M} {I : Imm} {L : LH} (h : sh56 ω a0 (fun v => Gh (K v)) I L) : Cal Try.prog ω 56 #[a0] K I L :=
  Cal.gh (cal_of_vc mixed Try.func56 (by rw [sh56_eq]; exact h))

def sh57 (ω : Om) (a0 : Value) (a1 : Value) (K : Value → M) : M :=
  Cal Try.prog ω 72 #[a0] <| gh fun v1 =>
  Cal Try.prog ω 72 #[a1] <| gh fun v2 =>
  Br v1
    (Br v2
      (K (Value.int .i64 0))
      (K (Value.int .i64 (-1))))
    (Br v2
      (K (Value.int .i64 1))
      (Pv (binIV .lss a0 a1) fun v3 =>
      Br v3
        (K (Value.int .i64 (-1)))
        (Pv (binIV .gtr a0 a1) fun v4 =>
        Br v4
          (K (Value.int .i64 1))
          (K (Value.int .i64 0)))))
theorem sh57_eq (ω : Om) (a0 a1 : Value) (K : Value → M) : vcF Try.prog ω Try.f57 [a0, a1] K = sh57 ω a0 a1 K := by kernel_rfl
theorem cal57 {ω : Om} {a0 a1 : Value} {K : Value → M} {I : Imm} {L : LH} (h : sh57 ω a0 a1 (fun v => Gh (K v)) I L) : Cal Try.prog ω 57 #[a0, a1] K I L :=
  Cal.gh (cal_of_vc mixed Try.func57 (by rw [sh57_eq]; exact h))

def sh58_1 (ω : Om) (p1 : Value) (p4 : Value) (p5 : Value) (p7 : Value) (K : Value → M) : M :=
  Rv none (ldNR 15 p7) fun v19 =>
  Cal Try.prog ω 60 #[p1, (Value.slice none 0 0), v19] <| gh fun v20 =>
  Pv (exV v20 0) fun v21 =>
  Pv (exV v20 1) fun v22 =>
  Sto 17 p4 v21 <| gh fun _ =>
  Rv none (ldNR 17 p4) fun v23 =>
  K (Value.tuple #[v23, v22])
def sh58_2 (ω : Om) (p1 : Value) (p4 : Value) (p5 : Value) (p6 : Value) (p7 : Value) (K : Value → M) : M :=
  Pv (fldV 1 p6) fun v35 =>
  Rv none (ldNR 2 v35) fun v36 =>
  Rv none (ldNR 15 p7) fun v37 =>
  Cal Try.prog ω 59 #[p1, v36, v37] <| gh fun v38 =>
  Pv (exV v38 0) fun v39 =>
  Pv (exV v38 1) fun v40 =>
  Sto 17 p4 v39 <| gh fun _ =>
  Rv none (ldNR 17 p4) fun v41 =>
  K (Value.tuple #[v41, v40])
def sh58 (ω : Om) (a0 : Value) (a1 : Value) (K : Value → M) : M :=
  New (.cells #[(Value.int .i64 0), (Value.int .i64 0), (Value.int .i64 0), (Value.int .i64 0), (Value.int .i64 0), (Value.int .i64 0), (Value.int .i64 0), (Value.int .i64 0), (Value.int .i64 0), (Value.bool false), (Value.bool false), (Value.slice none 0 0), (Value.slice none 0 0), (Value.slice none 0 0), (Value.slice none 0 0), (Value.int .i64 0), (Value.int .i64 0)] 55 (0, 0)) <| gh fun v1 =>
  Pv (nilV a0) fun v2 =>
  Pv (fldV 22 v2) fun v3 =>
  Rv none (ldNR 7 v3) fun v4 =>
  New (.cells #[(Value.int .i64 0), (Value.slice none 0 0), (Value.slice none 0 0), (Value.int .i64 0), (Value.int .i64 0), (Value.int .i64 0), (Value.int .i64 0)] 67 (0, 0)) <| gh fun b_5 =>
  Sto 7 b_5 v4 <| gh fun _ =>
  Draw fun S =>
    Pv (fldV 0 b_5) fun v6 =>
    Rv (some S) (ld1R v6) fun v7 =>
    Pv (nilV a0) fun v8 =>
    Pv (fldV 0 v8) fun v9 =>
    Rv (some S) (ld1R v9) fun v10 =>
    Pv (nilV a0) fun v11 =>
    Pv (fldV 2 v11) fun v12 =>
    Rv (some S) (ldNR 2 v12) fun v13 =>
    Pv (bldV #[(Value.int .i64 0), (Value.int .i64 0), (Value.int .i64 0), (Value.int .i64 0), (Value.int .i64 0), (Value.int .i64 0), (Value.int .i64 0), (Value.int .i64 0), (Value.bool false), (Value.bool false), (Value.slice none 0 0), (Value.slice none 0 0), (Value.slice none 0 0), (Value.slice none 0 0), (Value.int .i64 0)] #[(0, 1), (1, 1), (2, 1), (3, 2), (5, 2), (7, 1), (8, 1), (9, 1), (10, 1), (11, 1), (12, 2), (14, 1)] [(0, (Value.int .i64 7)), (1, v7), (5, v10), (3, v13)]) fun v14 =>
    New (.cells #[(Value.int .i64 0), (Value.int .i64 0), (Value.int .i64 0), (Value.int .i64 0), (Value.int .i64 0), (Value.int .i64 0), (Value.int .i64 0), (Value.int .i64 0), (Value.bool false), (Value.bool false), (Value.slice none 0 0), (Value.slice none 0 0), (Value.slice none 0 0), (Value.slice none 0 0), (Value.int .i64 0)] 48 (0, 0)) <| gh <| Keep S fun c_15 =>
    Sto 15 c_15 v14 <| gh fun _ =>
    Pv (fldV 4 b_5) fun v16 =>
    Rv none (ld1R v16) fun v17 =>
    Pv (binIV .eql v17 (Value.int .i64 0)) fun v18 =>
    Br v18
      (Draw fun S =>
        Pv (fldV 3 b_5) fun v24 =>
        Rv (some S) (ld1R v24) fun v25 =>
        Pv (nilV a0) fun v26 =>
        Pv (fldV 1 v26) fun v27 =>
        Rv (some S) (ld1R v27) fun v28 =>
        Pv (binIV .geq v25 v28) fun v29 =>
        Br v29
          (Pv (bldV #[(Value.int .i64 0), (Value.int .i64 0)] #[(0, 1), (1, 1)] []) fun v30 =>
          Pv (fldV 3 c_15) fun v31 =>
          Sto 2 v31 v30 <| gh fun _ =>
          sh58_1 ω a1 v1 (Value.bool false) c_15 K)
          (sh58_1 ω a1 v1 (Value.bool false) c_15 K))
      (Pv (fldV 0 b_5) fun v32 =>
      Rv none (ld1R v32) fun v33 =>
      Pv (bldV #[(Value.int .i64 0), (Value.int .i64 0), (Value.int .i64 0), (Value.int .i64 0), (Value.int .i64 0), (Value.int .i64 0), (Value.int .i64 0), (Value.int .i64 0), (Value.bool false), (Value.bool false), (Value.slice none 0 0), (Value.slice none 0 0), (Value.slice none 0 0), (Value.slice none 0 0), (Value.int .i64 0)] #[(0, 1), (1, 1), (2, 1), (3, 2), (5, 2), (7, 1), (8, 1), (9, 1), (10, 1), (11, 1), (12, 2), (14, 1)] [(0, (Value.int .i64 9)), (1, v33)]) fun v34 =>
      Sto 15 c_15 v34 <| gh fun _ =>
      Pv (fldV 4 b_5) fun v42 =>
      Rv none (ld1R v42) fun v43 =>
      Pv (binIV .eql v43 (Value.int .i64 2)) fun v44 =>
      Br v44
        (DrawW [c_15] fun S =>
          Pv (fldV 5 b_5) fun v45 =>
          Rv (some S) (ldNR 2 v45) fun v46 =>
          Pv (fldV 8 c_15) fun v47 =>
          Sto 1 v47 (Value.bool true) <| gh <| Keep S fun _ =>
          Pv (fldV 3 c_15) fun v48 =>
          Sto 2 v48 v46 <| gh fun _ =>
          sh58_2 ω a1 v1 (Value.bool false) b_5 c_15 K)
        (sh58_2 ω a1 v1 (Value.bool false) b_5 c_15 K))
theorem sh58_eq (ω : Om) (a0 a1 : Value) (K : Value → M) : vcF Try.prog ω Try.f58 [a0, a1] K = sh58 ω a0 a1 K := by kernel_rfl
theorem cal58 {ω : Om} {a0 a1 : Value} {K : Value → M} {I : Imm} {L : LH} (h : sh58 ω a0 a1 (fun v => Gh (K v)) I L) : Cal Try.prog ω 58 #[a0, a1] K I L :=
  Cal.gh (cal_of_vc mixed Try.func58 (by rw [sh58_eq]; exact h))

def sh59 (ω : Om) (a0 : Value) (a1 : Value) (a2 : Value) (K : Value → M) : M :=
  New (.cells (Value.cells a1) 40 (0, 0)) <| gh fun p_1 =>
  New (.cells (Value.cells a2) 48 (0, 0)) <| gh fun c_2 =>
  New (.cells #[(Value.int .i64 0), (Value.int .i64 0), (Value.int .i64 0), (Value.int .i64 0), (Value.int .i64 0), (Value.int .i64 0), (Value.int .i64 0), (Value.int .i64 0), (Value.int .i64 0), (Value.bool false), (Value.bool false), (Value.slice none 0 0), (Value.slice none 0 0), (Value.slice none 0 0), (Value.slice none 0 0), (Value.int .i64 0), (Value.int .i64 0)] 55 (0, 0)) <| gh fun v3 =>
  Rv none (ldNR 2 p_1) fun v4 =>
  Cal Try.prog ω 73 #[a0, v4] <| gh fun v5 =>
  Pv (exV v5 0) fun v6 =>
  Pv (exV v5 1) fun v7 =>
  New (.cells #[(Value.int .i64 0), (Value.slice none 0 0), (Value.slice none 0 0), (Value.int .i64 0), (Value.slice none 0 0), (Value.slice none 0 0)] 98 (0, 0)) <| gh fun x_8 =>
  Sto 6 x_8 v6 <| gh fun _ =>
  Pv (unV .not v7) fun v9 =>
  Br v9
    (Pv (bldV #[(Value.int .i64 0), (Value.int .i64 0), (Value.int .i64 0), (Value.int .i64 0), (Value.int .i64 0), (Value.int .i64 0), (Value.int .i64 0), (Value.int .i64 0), (Value.int .i64 0), (Value.bool false), (Value.bool false), (Value.slice none 0 0), (Value.slice none 0 0), (Value.slice none 0 0), (Value.slice none 0 0), (Value.int .i64 0), (Value.int .i64 0)] #[(0, 1), (1, 15), (16, 1)] []) fun v10 =>
    Sto 17 v3 v10 <| gh fun _ =>
    Rv none (ldNR 17 v3) fun v11 =>
    K (Value.tuple #[v11, (Value.bool false)]))
    (Pv (fldV 4 x_8) fun v12 =>
    Rv none (ldNR 2 v12) fun v13 =>
    Pv (fldV 12 c_2) fun v14 =>
    Sto 2 v14 v13 <| gh fun _ =>
    Pv (fldV 0 x_8) fun v15 =>
    Pv (fldV 0 v15) fun v16 =>
    Rv none (ld1R v16) fun v17 =>
    Rv none (ldNR 15 c_2) fun v18 =>
    Pv (bldV #[(Value.int .i64 0), (Value.int .i64 0), (Value.int .i64 0), (Value.int .i64 0), (Value.int .i64 0), (Value.int .i64 0), (Value.int .i64 0), (Value.int .i64 0), (Value.int .i64 0), (Value.bool false), (Value.bool false), (Value.slice none 0 0), (Value.slice none 0 0), (Value.slice none 0 0), (Value.slice none 0 0), (Value.int .i64 0), (Value.int .i64 0)] #[(0, 1), (1, 15), (16, 1)] [(0, v17), (1, v18)]) fun v19 =>
    Sto 17 v3 v19 <| gh fun _ =>
    Rv none (ldNR 17 v3) fun v20 =>
    K (Value.tuple #[v20, (Value.bool true)]))
theorem sh59_eq (ω : Om) (a0 a1 a2 : Value) (K : Value → M) : vcF Try.prog ω Try.f59 [a0, a1, a2] K = sh59 ω a0 a1 a2 K := by kernel_rfl
theorem cal59 {ω : Om} {a0 a1 a2 : Value} {K : Value → M} {I : Imm} {L : LH} (h : sh59 ω a0 a1 a2 (fun v => Gh (K v)) I L) : Cal Try.prog ω 59 #[a0, a1, a2] K I L :=
  Cal.gh (cal_of_vc mixed Try.func59 (by rw [sh59_eq]; exact h))

def sh60 (ω : Om) (a0 : Value) (a1 : Value) (a2 : Value) (K : Value → M) : M :=
  New (.cells (Value.cells a2) 48 (0, 0)) <| gh fun c_1 =>
  New (.cells #[(Value.int .i64 0), (Value.int .i64 0), (Value.int .i64 0), (Value.int .i64 0), (Value.int .i64 0), (Value.int .i64 0), (Value.int .i64 0), (Value.int .i64 0), (Value.int .i64 0), (Value.bool false), (Value.bool false), (Value.slice none 0 0), (Value.slice none 0 0), (Value.slice none 0 0), (Value.slice none 0 0), (Value.int .i64 0), (Value.int .i64 0)] 55 (0, 0)) <| gh fun v2 =>
  Cal Try.prog ω 46 #[a1] <| gh fun v3 =>
  Cal Try.prog ω 73 #[a0, v3] <| gh fun v4 =>
  Pv (exV v4 0) fun v5 =>
  Pv (exV v4 1) fun v6 =>
  New (.cells #[(Value.int .i64 0), (Value.slice none 0 0), (Value.slice none 0 0), (Value.int .i64 0), (Value.slice none 0 0), (Value.slice none 0 0)] 98 (0, 0)) <| gh fun p_7 =>
  Sto 6 p_7 v5 <| gh fun _ =>
  Pv (unV .not v6) fun v8 =>
  Br v8
    (Pv (bldV #[(Value.int .i64 0), (Value.int .i64 0), (Value.int .i64 0), (Value.int .i64 0), (Value.int .i64 0), (Value.int .i64 0), (Value.int .i64 0), (Value.int .i64 0), (Value.int .i64 0), (Value.bool false), (Value.bool false), (Value.slice none 0 0), (Value.slice none 0 0), (Value.slice none 0 0), (Value.slice none 0 0), (Value.int .i64 0), (Value.int .i64 0)] #[(0, 1), (1, 15), (16, 1)] []) fun v9 =>
    Sto 17 v2 v9 <| gh fun _ =>
    Rv none (ldNR 17 v2) fun v10 =>
    K (Value.tuple #[v10, (Value.bool false)]))
    (Pv (fldV 0 p_7) fun v11 =>
    Pv (fldV 0 v11) fun v12 =>
    Rv none (ld1R v12) fun v13 =>
    Rv none (ldNR 15 c_1) fun v14 =>
    Pv (bldV #[(Value.int .i64 0), (Value.int .i64 0), (Value.int .i64 0), (Value.int .i64 0), (Value.int .i64 0), (Value.int .i64 0), (Value.int .i64 0), (Value.int .i64 0), (Value.int .i64 0), (Value.bool false), (Value.bool false), (Value.slice none 0 0), (Value.slice none 0 0), (Value.slice none 0 0), (Value.slice none 0 0), (Value.int .i64 0), (Value.int .i64 0)] #[(0, 1), (1, 15), (16, 1)] [(0, v13), (1, v14)]) fun v15 =>
    Sto 17 v2 v15 <| gh fun _ =>
    Rv none (ldNR 17 v2) fun v16 =>
    K (Value.tuple #[v16, (Value.bool true)]))
theorem sh60_eq (ω : Om) (a0 a1 a2 : Value) (K : Value → M) : vcF Try.prog ω Try.f60 [a0, a1, a2] K = sh60 ω a0 a1 a2 K := by kernel_rfl
theorem cal60 {ω : Om} {a0 a1 a2 : Value} {K : Value → M} {I : Imm} {L : LH} (h : sh60 ω a0 a1 a2 (fun v => Gh (K v)) I L) : Cal Try.prog ω 60 #[a0, a1, a2] K I L :=
  Cal.gh (cal_of_vc mixed Try.func60 (by rw [sh60_eq]; exact h))

def sh61_1 (ω : Om) (p0 : Value) (p1 : Value) (p5 : Value) (p6 : Value) (p7 : Value) (K : Value → M) : M :=
  Draw fun S =>
    Pv (nilV p0) fun v22 =>
    Pv (fldV 19 v22) fun v23 =>
    Rv (some S) (ld1R v23) fun v24 =>
    Pv (ixV 1 v24 (Value.int .i64 0)) fun v25 =>
    Rv (some S) (ld1R v25) fun v26 =>
    Rv (some S) (ldNR 15 p5) fun v27 =>
    Cal Try.prog ω 60 #[p1, v26, v27] <| gh fun v28 =>
    Pv (exV v28 0) fun v29 =>
    Pv (exV v28 1) fun v30 =>
    Sto 17 p6 v29 <| gh fun _ =>
    Rv none (ldNR 17 p6) fun v31 =>
    K (Value.tuple #[v31, v30])
def sh61 (ω : Om) (a0 : Value) (a1 : Value) (a2 : Value) (K : Value → M) : M :=
  New (.cells (Value.cells a2) 48 (0, 0)) <| gh fun c_1 =>
  New (.cells #[(Value.int .i64 0), (Value.int .i64 0), (Value.int .i64 0), (Value.int .i64 0), (Value.int .i64 0), (Value.int .i64 0), (Value.int .i64 0), (Value.int .i64 0), (Value.int .i64 0), (Value.bool false), (Value.bool false), (Value.slice none 0 0), (Value.slice none 0 0), (Value.slice none 0 0), (Value.slice none 0 0), (Value.int .i64 0), (Value.int .i64 0)] 55 (0, 0)) <| gh fun v2 =>
  Pv (nilV a0) fun v3 =>
  Pv (fldV 19 v3) fun v4 =>
  Rv none (ld1R v4) fun v5 =>
  Pv (lenV v5) fun v6 =>
  Pv (binIV .eql v6 (Value.int .i64 0)) fun v7 =>
  Br v7
    (Pv (fldV 0 c_1) fun v8 =>
    Sto 1 v8 (Value.int .i64 8) <| gh fun _ =>
    Rv none (ldNR 15 c_1) fun v9 =>
    Cal Try.prog ω 60 #[a1, (Value.slice none 0 0), v9] <| gh fun v10 =>
    Pv (exV v10 0) fun v11 =>
    Pv (exV v10 1) fun v12 =>
    Sto 17 v2 v11 <| gh fun _ =>
    Rv none (ldNR 17 v2) fun v13 =>
    K (Value.tuple #[v13, v12]))
    (Pv (nilV a0) fun v14 =>
    Pv (fldV 19 v14) fun v15 =>
    Rv none (ld1R v15) fun v16 =>
    Pv (ixV 1 v16 (Value.int .i64 0)) fun v17 =>
    Rv none (ld1R v17) fun v18 =>
    Cal Try.prog ω 46 #[v18] <| gh fun v19 =>
    Pv (fldV 0 c_1) fun v20 =>
    Sto 1 v20 (Value.int .i64 9) <| gh fun _ =>
    Pv (fldV 12 c_1) fun v21 =>
    Sto 2 v21 v19 <| gh fun _ =>
    Pv (nilV a0) fun v32 =>
    Pv (fldV 13 v32) fun v33 =>
    Rv none (ld1R v33) fun v34 =>
    Pv (binIV .eql v34 (Value.int .i64 3)) fun v35 =>
    Br v35
      (DrawW [c_1] fun S =>
        Pv (nilV a0) fun v36 =>
        Pv (fldV 6 v36) fun v37 =>
        Rv (some S) (ldNR 2 v37) fun v38 =>
        Pv (fldV 8 c_1) fun v39 =>
        Sto 1 v39 (Value.bool true) <| gh <| Keep S fun _ =>
        Pv (fldV 3 c_1) fun v40 =>
        Sto 2 v40 v38 <| gh fun _ =>
        sh61_1 ω a0 a1 c_1 v2 (Value.bool false) K)
      (sh61_1 ω a0 a1 c_1 v2 (Value.bool false) K))
theorem sh61_eq (ω : Om) (a0 a1 a2 : Value) (K : Value → M) : vcF Try.prog ω Try.f61 [a0, a1, a2] K = sh61 ω a0 a1 a2 K := by kernel_rfl
theorem cal61 {ω : Om} {a0 a1 a2 : Value} {K : Value → M} {I : Imm} {L : LH} (h : sh61 ω a0 a1 a2 (fun v => Gh (K v)) I L) : Cal Try.prog ω 61 #[a0, a1, a2] K I L :=
  Cal.gh (cal_of_vc mixed Try.func61 (by rw [sh61_eq]; exact h))

def sh62_3 (ω : Om) (p2 : Value) (p9 : Value) (p10 : Value) (x3 : Value) (x11 : Value) (Kn0 : (Value × Value × Unit) → M) (K : Value → M) : M :=
  Pv (binIV .lss x11 p10) fun v4 =>
  Br v4
    (Pv (ixV 4 p9 x11) fun v5 =>
    Rv none (ldNR 4 v5) fun v6 =>
    New (.cells #[(Value.int .i64 0), (Value.slice none 0 0), (Value.slice none 0 0), (Value.int .i64 0)] 81 (0, 0)) <| gh fun r_7 =>
    Sto 4 r_7 v6 <| gh fun _ =>
    Rv none (ldNR 4 r_7) fun v8 =>
    Cal Try.prog ω 74 #[v8] <| gh fun v9 =>
    BldS 81 4 #[(Value.int .i64 0), (Value.slice none 0 0), (Value.slice none 0 0), (Value.int .i64 0)] 1 [(0, v9)] <| gh fun v10 =>
    App 81 4 64 #[(Value.int .i64 0), (Value.slice none 0 0), (Value.slice none 0 0), (Value.int .i64 0)] x3 v10 <| gh fun v11 =>
    Pv (binIV .add x11 (Value.int .i64 1)) fun v12 =>
    Kn0 (v11, v12, ()))
    (K x3)
def sh62 (ω : Om) (a0 : Value) (K : Value → M) : M :=
  Pv (lenV a0) fun v1 =>
  MkS 81 64 #[(Value.int .i64 0), (Value.slice none 0 0), (Value.slice none 0 0), (Value.int .i64 0)] (Value.int .i64 0) v1 <| gh fun v2 =>
  Pv (lenV a0) fun v3 =>
  LoopM ((v2, (Value.int .i64 0), ()) : Value × Value × Unit) fun s Kn0 =>
  sh62_3 ω (Value.slice none 0 0) a0 v3 s.1 s.2.1 Kn0 K
theorem sh62_eq (ω : Om) (a0 : Value) (K : Value → M) : vcF Try.prog ω Try.f62 [a0] K = sh62 ω a0 K := by kernel_rfl
theorem cal62 {ω : Om} {a0 : Value} {K : Value → M} {I : Imm} {L : LH} (h : sh62 ω a0 (fun v => Gh (K v)) I L) : Cal Try.prog ω 62 #[a0] K I L :=
  Cal.gh (cal_of_vc mixed Try.func62 (by rw [sh62_eq]; exact h))

def sh63 (ω : Om) (a0 : Value) (K : Value → M) : M :=
  New (.cells (Value.cells a0) 48 (0, 0)) <| gh fun c_1 =>
  New (.cells #[(Value.int .i64 0), (Value.int .i64 0), (Value.int .i64 0), (Value.int .i64 0), (Value.int .i64 0), (Value.int .i64 0), (Value.int .i64 0), (Value.int .i64 0), (Value.bool false), (Value.bool false), (Value.slice none 0 0), (Value.slice none 0 0), (Value.slice none 0 0), (Value.slice none 0 0), (Value.int .i64 0)] 48 (0, 0)) <| gh fun v2 =>
  Pv (bldV #[(Value.slice none 0 0), (Value.slice none 0 0)] #[(0, 1), (1, 1)] []) fun v3 =>
  Pv (fldV 10 c_1) fun v4 =>
  Sto 1 v4 (Value.slice none 0 0) <| gh fun _ =>
  Pv (fldV 11 c_1) fun v5 =>
  Sto 1 v5 (Value.slice none 0 0) <| gh fun _ =>
  Pv (fldV 12 c_1) fun v6 =>
  Sto 2 v6 v3 <| gh fun _ =>
  Rv none (ldNR 15 c_1) fun v7 =>
  Sto 15 v2 v7 <| gh fun _ =>
  Rv none (ldNR 15 v2) fun v8 =>
  K v8
theorem sh63_eq (ω : Om) (a0 : Value) (K : Value → M) : vcF Try.prog ω Try.f63 [a0] K = sh63 ω a0 K := by kernel_rfl
theorem cal63 {ω : Om} {a0 : Value} {K : Value → M} {I : Imm} {L : LH} (h : sh63 ω a0 (fun v => Gh (K v)) I L) : Cal Try.prog ω 63 #[a0] K I L :=
  Cal.gh (cal_of_vc mixed Try.func63 (by rw [sh63_eq]; exact h))

def sh64 (ω : Om) (a0 : Value) (a1 : Value) (K : Value → M) : M :=
  Rv none (bsR a0) fun v1 =>
  Rv none (bsR a1) fun v2 =>
  Pv (binSV .eql v1 v2) fun v3 =>
  K v3
theorem sh64_eq (ω : Om) (a0 a1 : Value) (K : Value → M) : vcF Try.prog ω Try.f64 [a0, a1] K = sh64 ω a0 a1 K := by kernel_rfl
theorem cal64 {ω : Om} {a0 a1 : Value} {K : Value → M} {I : Imm} {L : LH} (h : sh64 ω a0 a1 (fun v => Gh (K v)) I L) : Cal Try.prog ω 64 #[a0, a1] K I L :=
  Cal.gh (cal_of_vc mixed Try.func64 (by rw [sh64_eq]; exact h))

def sh65 (ω : Om) (a0 : Value) (K : Value → M) : M :=
  Pv (binNV .eql a0 (Value.slice none 0 0)) fun v1 =>
  Br v1
    (K (Value.slice none 0 0))
    (BldS 38 1 #[(Value.slice none 0 0)] 0 [] <| gh fun v2 =>
    App 38 1 24 #[(Value.slice none 0 0)] v2 a0 <| gh fun v3 =>
    K v3)
theorem sh65_eq (ω : Om) (a0 : Value) (K : Value → M) : vcF Try.prog ω Try.f65 [a0] K = sh65 ω a0 K := by kernel_rfl
theorem cal65 {ω : Om} {a0 : Value} {K : Value → M} {I : Imm} {L : LH} (h : sh65 ω a0 (fun v => Gh (K v)) I L) : Cal Try.prog ω 65 #[a0] K I L :=
  Cal.gh (cal_of_vc mixed Try.func65 (by rw [sh65_eq]; exact h))

def sh66_2 (ω : Om) (p0 : Value) (p8 : Value) (K : Value → M) : M :=
  Pv (nilV p0) fun v7 =>
  Pv (fldV 15 v7) fun v8 =>
  Pv (fldV 1 v8) fun v9 =>
  Rv none (ld1R v9) fun v10 =>
  Cal Try.prog ω 69 #[p8, v10] <| gh fun v11 =>
  Br v11
    (Pv (nilV p0) fun v12 =>
    Pv (fldV 15 v12) fun v13 =>
    Pv (fldV 1 v13) fun v14 =>
    Rv none (ld1R v14) fun v15 =>
    Pv (bldV #[(Value.slice none 0 0), (Value.slice none 0 0)] #[(0, 1), (1, 1)] [(0, p8), (1, v15)]) fun v16 =>
    BldS 40 2 #[(Value.slice none 0 0), (Value.slice none 0 0)] 1 [(0, v16)] <| gh fun v17 =>
    Pv (nilV p0) fun v18 =>
    Pv (fldV 17 v18) fun v19 =>
    Sto 1 v19 v17 <| gh fun _ =>
    K (Value.tuple #[]))
    (Draw fun S =>
      Pv (nilV p0) fun v20 =>
      Pv (fldV 11 v20) fun v21 =>
      Rv (some S) (ld1R v21) fun v22 =>
      Pv (nilV p0) fun v23 =>
      Pv (fldV 15 v23) fun v24 =>
      Rv (some S) (ldNR 2 v24) fun v25 =>
      BldS 40 2 #[(Value.slice none 0 0), (Value.slice none 0 0)] 1 [(0, v25)] <| gh <| Keep S fun v26 =>
      App 40 2 48 #[(Value.slice none 0 0), (Value.slice none 0 0)] v22 v26 <| gh fun v27 =>
      Pv (nilV p0) fun v28 =>
      Pv (fldV 11 v28) fun v29 =>
      Sto 1 v29 v27 <| gh fun _ =>
      Pv (nilV p0) fun v30 =>
      Pv (fldV 20 v30) fun v31 =>
      Rv none (ld1R v31) fun v32 =>
      Pv (nilV p0) fun v33 =>
      Pv (fldV 21 v33) fun v34 =>
      Sto 1 v34 v32 <| gh fun _ =>
      Pv (nilV p0) fun v35 =>
      Pv (fldV 20 v35) fun v36 =>
      Sto 1 v36 (Value.slice none 0 0) <| gh fun _ =>
      Pv (nilV p0) fun v37 =>
      Pv (fldV 13 v37) fun v38 =>
      Sto 1 v38 (Value.int .i64 1) <| gh fun _ =>
      Pv (nilV p0) fun v39 =>
      Pv (fldV 14 v39) fun v40 =>
      Sto 1 v40 (Value.int .i64 0) <| gh fun _ =>
      K (Value.tuple #[]))
def sh66_1 (ω : Om) (p0 : Value) (p4 : Value) (p5 : Value) (K : Value → M) : M :=
  Pv (fldV 12 p4) fun v3 =>
  Pv (fldV 1 v3) fun v4 =>
  Rv none (ld1R v4) fun v5 =>
  Cal Try.prog ω 34 #[v5] <| gh fun v6 =>
  Pv (fldV 6 p5) fun v41 =>
  Rv none (ld1R v41) fun v42 =>
  Pv (lenV v42) fun v43 =>
  Pv (binIV .eql v43 (Value.int .i64 90)) fun v44 =>
  Br v44
    (Pv (fldV 6 p5) fun v45 =>
    Rv none (ld1R v45) fun v46 =>
    Pv (binIV .sub v43 (Value.int .i64 1)) fun v47 =>
    Pv (ixV 2 v46 v47) fun v48 =>
    Pv (fldV 0 v48) fun v49 =>
    Rv none (ld1R v49) fun v50 =>
    Cal Try.prog ω 34 #[v50] <| gh fun v51 =>
    BldS 5 1 #[(Value.int .u8 0)] 1 [(0, (Value.int .u8 0))] <| gh fun v52 =>
    App 5 1 1 #[(Value.int .u8 0)] v51 v52 <| gh fun v53 =>
    sh66_2 ω p0 v53 K)
    (sh66_2 ω p0 v6 K)
def sh66_4 (ω : Om) (p0 : Value) (p4 : Value) (p5 : Value) (p11 : Value) (p12 : Value) (x13 : Value) (Kn0 : (Value × Unit) → M) (K : Value → M) : M :=
  Pv (binIV .lss x13 p12) fun v57 =>
  Br v57
    (Pv (ixV 2 p11 x13) fun v58 =>
    Rv none (ldNR 2 v58) fun v59 =>
    New (.cells #[(Value.slice none 0 0), (Value.slice none 0 0)] 95 (0, 0)) <| gh fun x_60 =>
    Sto 2 x_60 v59 <| gh fun _ =>
    Draw fun S =>
      Pv (nilV p0) fun v61 =>
      Pv (fldV 20 v61) fun v62 =>
      Rv (some S) (ld1R v62) fun v63 =>
      Pv (fldV 0 x_60) fun v64 =>
      Rv (some S) (ld1R v64) fun v65 =>
      Cal Try.prog ω 34 #[v65] <| gh <| Keep S fun v66 =>
      Pv (fldV 1 x_60) fun v67 =>
      Rv (some S) (ld1R v67) fun v68 =>
      Cal Try.prog ω 34 #[v68] <| gh <| Keep S fun v69 =>
      Pv (bldV #[(Value.slice none 0 0), (Value.slice none 0 0)] #[(0, 1), (1, 1)] [(0, v66), (1, v69)]) fun v70 =>
      BldS 95 2 #[(Value.slice none 0 0), (Value.slice none 0 0)] 1 [(0, v70)] <| gh <| Keep S fun v71 =>
      App 95 2 48 #[(Value.slice none 0 0), (Value.slice none 0 0)] v63 v71 <| gh fun v72 =>
      Pv (nilV p0) fun v73 =>
      Pv (fldV 20 v73) fun v74 =>
      Sto 1 v74 v72 <| gh fun _ =>
      Pv (binIV .add x13 (Value.int .i64 1)) fun v75 =>
      Kn0 (v75, ()))
    (sh66_1 ω p0 p4 p5 K)
def sh66 (ω : Om) (a0 : Value) (a1 : Value) (a2 : Value) (K : Value → M) : M :=
  New (.cells (Value.cells a1) 48 (0, 0)) <| gh fun c_1 =>
  New (.cells (Value.cells a2) 46 (0, 0)) <| gh fun r_2 =>
  Pv (fldV 6 r_2) fun v54 =>
  Rv none (ld1R v54) fun v55 =>
  Pv (lenV v55) fun v56 =>
  LoopM (((Value.int .i64 0), ()) : Value × Unit) fun s Kn0 =>
  sh66_4 ω a0 c_1 r_2 v55 v56 s.1 Kn0 K
theorem sh66_eq (ω : Om) (a0 a1 a2 : Value) (K : Value → M) : vcF Try.prog ω Try.f66 [a0, a1, a2] K = sh66 ω a0 a1 a2 K := by kernel_rfl
theorem cal66 {ω : Om} {a0 a1 a2 : Value} {K : Value → M} {I : Imm} {L : LH} (h : sh66 ω a0 a1 a2 (fun v => Gh (K v)) I L) : Cal Try.prog ω 66 #[a0, a1, a2] K I L :=
  Cal.gh (cal_of_vc mixed Try.func66 (by rw [sh66_eq]; exact h))

def sh67 (ω : Om) (a0 : Value) (a1 : Value) (K : Value → M) : M :=
  Cal Try.prog ω 75 #[a0, a1] <| gh fun v1 =>
  Pv (binIV .geq v1 (Value.int .i64 0)) fun v2 =>
  K v2
theorem sh67_eq (ω : Om) (a0 a1 : Value) (K : Value → M) : vcF Try.prog ω Try.f67 [a0, a1] K = sh67 ω a0 a1 K := by kernel_rfl
theorem cal67 {ω : Om} {a0 a1 : Value} {K : Value → M} {I : Imm} {L : LH} (h : sh67 ω a0 a1 (fun v => Gh (K v)) I L) : Cal Try.prog ω 67 #[a0, a1] K I L :=
  Cal.gh (cal_of_vc mixed Try.func67 (by rw [sh67_eq]; exact h))

def sh68 (ω : Om) (a0 : Value) (a1 : Value) (K : Value → M) : M :=
  Pv (fldV 10 a1) fun v1 =>
  Rv none (ld1R v1) fun v2 =>
  Cal Try.prog ω 64 #[a0, v2] <| gh fun v3 =>
  K v3
theorem sh68_eq (ω : Om) (a0 a1 : Value) (K : Value → M) : vcF Try.prog ω Try.f68 [a0, a1] K = sh68 ω a0 a1 K := by kernel_rfl
theorem cal68 {ω : Om} {a0 a1 : Value} {K : Value → M} {I : Imm} {L : LH} (h : sh68 ω a0 a1 (fun v => Gh (K v)) I L) : Cal Try.prog ω 68 #[a0, a1] K I L :=
  Cal.gh (cal_of_vc mixed Try.func68 (by rw [sh68_eq]; exact h))

def sh69 (ω : Om) (a0 : Value) (a1 : Value) (K : Value → M) : M :=
  Pv (lenV a0) fun v1 =>
  Pv (binIV .gtr v1 (Value.int .i64 0)) fun v2 =>
  Gd v2 true
    (Pv (lenV a1) fun v3 =>
    Pv (binIV .eql v3 (Value.int .i64 0)) fun v4 =>
    Gd v4 false
      (Cal Try.prog ω 76 #[a0, a1] <| gh fun v5 =>
      Pv (binIV .lss v5 (Value.int .i64 0)) fun v6 =>
      K v6)
      (K (Value.bool true)))
    (K (Value.bool false))
theorem sh69_eq (ω : Om) (a0 a1 : Value) (K : Value → M) : vcF Try.prog ω Try.f69 [a0, a1] K = sh69 ω a0 a1 K := by kernel_rfl
theorem cal69 {ω : Om} {a0 a1 : Value} {K : Value → M} {I : Imm} {L : LH} (h : sh69 ω a0 a1 (fun v => Gh (K v)) I L) : Cal Try.prog ω 69 #[a0, a1] K I L :=
  Cal.gh (cal_of_vc mixed Try.func69 (by rw [sh69_eq]; exact h))

def sh70_1 (ω : Om) (p4 : Value) (p5 : Value) (K : Value → M) : M :=
  Pv (bldV #[(Value.int .i64 0), (Value.slice none 0 0), (Value.slice none 0 0), (Value.int .i64 0)] #[(0, 1), (1, 2), (3, 1)] []) fun v2 =>
  Sto 4 p4 v2 <| gh fun _ =>
  Rv none (ldNR 4 p4) fun v3 =>
  K (Value.tuple #[v3, (Value.bool false)])
def sh70_3 (ω : Om) (p0 : Value) (p1 : Value) (p4 : Value) (x5 : Value) (x6 : Value) (Kn0 : (Value × Value × Unit) → M) (K : Value → M) : M :=
  Pv (lenV p0) fun v4 =>
  Pv (binIV .lss x6 v4) fun v5 =>
  Br v5
    (Pv (ixV 4 p0 x6) fun v6 =>
    Pv (fldV 1 v6) fun v7 =>
    Rv none (ldNR 2 v7) fun v8 =>
    Cal Try.prog ω 77 #[v8, p1] <| gh fun v9 =>
    Br v9
      (Pv (ixV 4 p0 x6) fun v10 =>
      Rv none (ldNR 4 v10) fun v11 =>
      Sto 4 p4 v11 <| gh fun _ =>
      Rv none (ldNR 4 p4) fun v12 =>
      K (Value.tuple #[v12, (Value.bool true)]))
      (Pv (binIV .add x6 (Value.int .i64 1)) fun v13 =>
      Kn0 (x5, v13, ())))
    (sh70_1 ω p4 x5 K)
def sh70 (ω : Om) (a0 : Value) (a1 : Value) (K : Value → M) : M :=
  New (.cells #[(Value.int .i64 0), (Value.slice none 0 0), (Value.slice none 0 0), (Value.int .i64 0)] 81 (0, 0)) <| gh fun v1 =>
  LoopM (((Value.bool false), (Value.int .i64 0), ()) : Value × Value × Unit) fun s Kn0 =>
  sh70_3 ω a0 a1 v1 s.1 s.2.1 Kn0 K
theorem sh70_eq (ω : Om) (a0 a1 : Value) (K : Value → M) : vcF Try.prog ω Try.f70 [a0, a1] K = sh70 ω a0 a1 K := by kernel_rfl
theorem cal70 {ω : Om} {a0 a1 : Value} {K : Value → M} {I : Imm} {L : LH} (h : sh70 ω a0 a1 (fun v => Gh (K v)) I L) : Cal Try.prog ω 70 #[a0, a1] K I L :=
  Cal.gh (cal_of_vc mixed Try.func70 (by rw [sh70_eq]; exact h))

def sh71_2 (ω : Om) (p4 : Value) (p5 : Value) (K : Value → M) : M :=
  Rv none (ldNR 2 p5) fun v10 =>
  Sto 2 p4 v10 <| gh fun _ =>
  Rv none (ldNR 2 p4) fun v11 =>
  K v11
def sh71_3 (ω : Om) (p3 : Value) (p4 : Value) (p5 : Value) (K : Value → M) : M :=
  Pv (fldV 1 p3) fun v27 =>
  Rv none (ld1R v27) fun v28 =>
  Pv (fldV 1 p5) fun v29 =>
  Sto 1 v29 v28 <| gh fun _ =>
  sh71_2 ω p4 p5 K
def sh71_1 (ω : Om) (p3 : Value) (p4 : Value) (p5 : Value) (K : Value → M) : M :=
  Pv (fldV 1 p5) fun v12 =>
  Rv none (ld1R v12) fun v13 =>
  Pv (lenV v13) fun v14 =>
  Pv (binIV .eql v14 (Value.int .i64 0)) fun v15 =>
  Gd v15 false
    (Pv (fldV 1 p3) fun v16 =>
    Rv none (ld1R v16) fun v17 =>
    Pv (lenV v17) fun v18 =>
    Pv (binIV .gtr v18 (Value.int .i64 0)) fun v19 =>
    Gd v19 true
      (Pv (fldV 1 p3) fun v20 =>
      Rv none (ld1R v20) fun v21 =>
      Rv none (bsR v21) fun v22 =>
      Pv (fldV 1 p5) fun v23 =>
      Rv none (ld1R v23) fun v24 =>
      Rv none (bsR v24) fun v25 =>
      Pv (binSV .lss v22 v25) fun v26 =>
      Br v26
        (sh71_3 ω p3 p4 p5 K)
        (sh71_2 ω p4 p5 K))
      (sh71_2 ω p4 p5 K))
    (sh71_3 ω p3 p4 p5 K)
def sh71 (ω : Om) (a0 : Value) (a1 : Value) (K : Value → M) : M :=
  New (.cells (Value.cells a0) 40 (0, 0)) <| gh fun a_1 =>
  New (.cells (Value.cells a1) 40 (0, 0)) <| gh fun b_2 =>
  New (.cells #[(Value.slice none 0 0), (Value.slice none 0 0)] 40 (0, 0)) <| gh fun v3 =>
  Pv (fldV 0 a_1) fun v4 =>
  Rv none (ld1R v4) fun v5 =>
  Pv (fldV 1 a_1) fun v6 =>
  Rv none (ld1R v6) fun v7 =>
  Pv (bldV #[(Value.slice none 0 0), (Value.slice none 0 0)] #[(0, 1), (1, 1)] [(0, v5), (1, v7)]) fun v8 =>
  New (.cells #[(Value.slice none 0 0), (Value.slice none 0 0)] 40 (0, 0)) <| gh fun out_9 =>
  Sto 2 out_9 v8 <| gh fun _ =>
  Pv (fldV 0 b_2) fun v30 =>
  Rv none (ld1R v30) fun v31 =>
  Rv none (bsR v31) fun v32 =>
  Pv (fldV 0 out_9) fun v33 =>
  Rv none (ld1R v33) fun v34 =>
  Rv none (bsR v34) fun v35 =>
  Pv (binSV .gtr v32 v35) fun v36 =>
  Br v36
    (Pv (fldV 0 b_2) fun v37 =>
    Rv none (ld1R v37) fun v38 =>
    Pv (fldV 0 out_9) fun v39 =>
    Sto 1 v39 v38 <| gh fun _ =>
    sh71_1 ω b_2 v3 out_9 K)
    (sh71_1 ω b_2 v3 out_9 K)
theorem sh71_eq (ω : Om) (a0 a1 : Value) (K : Value → M) : vcF Try.prog ω Try.f71 [a0, a1] K = sh71 ω a0 a1 K := by kernel_rfl
theorem cal71 {ω : Om} {a0 a1 : Value} {K : Value → M} {I : Imm} {L : LH} (h : sh71 ω a0 a1 (fun v => Gh (K v)) I L) : Cal Try.prog ω 71 #[a0, a1] K I L :=
  Cal.gh (cal_of_vc mixed Try.func71 (by rw [sh71_eq]; exact h))

def sh72 (ω : Om) (a0 : Value) (K : Value → M) : M :=
  Pv (binIV .neq a0 a0) fun v1 =>
  K v1
theorem sh72_eq (ω : Om) (a0 : Value) (K : Value → M) : vcF Try.prog ω Try.f72 [a0] K = sh72 ω a0 K := by kernel_rfl
theorem cal72 {ω : Om} {a0 : Value} {K : Value → M} {I : Imm} {L : LH} (h : sh72 ω a0 (fun v => Gh (K v)) I L) : Cal Try.prog ω 72 #[a0] K I L :=
  Cal.gh (cal_of_vc mixed Try.func72 (by rw [sh72_eq]; exact h))

def sh73_1 (ω : Om) (p4 : Value) (p5 : Value) (K : Value → M) : M :=
  Pv (bldV #[(Value.int .i64 0), (Value.slice none 0 0), (Value.slice none 0 0), (Value.int .i64 0), (Value.slice none 0 0), (Value.slice none 0 0)] #[(0, 4), (4, 2)] []) fun v3 =>
  Sto 6 p4 v3 <| gh fun _ =>
  Rv none (ldNR 6 p4) fun v4 =>
  K (Value.tuple #[v4, (Value.bool false)])
def sh73_4 (ω : Om) (p3 : Value) (p4 : Value) (p5 : Value) (p7 : Value) (p8 : Value) (K : Value → M) : M :=
  Draw fun S =>
    Rv (some S) (ldNR 4 p7) fun v33 =>
    Pv (fldV 0 p3) fun v34 =>
    Rv (some S) (ld1R v34) fun v35 =>
    Pv (bldV #[(Value.slice none 0 0), (Value.slice none 0 0)] #[(0, 1), (1, 1)] [(0, v35), (1, p8)]) fun v36 =>
    Cal Try.prog ω 30 #[v36] <| gh <| Keep S fun v37 =>
    Pv (bldV #[(Value.int .i64 0), (Value.slice none 0 0), (Value.slice none 0 0), (Value.int .i64 0), (Value.slice none 0 0), (Value.slice none 0 0)] #[(0, 4), (4, 2)] [(0, v33), (1, v37)]) fun v38 =>
    Sto 6 p4 v38 <| gh fun _ =>
    Rv none (ldNR 6 p4) fun v39 =>
    K (Value.tuple #[v39, (Value.bool true)])
def sh73_5 (ω : Om) (p3 : Value) (p4 : Value) (p5 : Value) (p7 : Value) (p8 : Value) (K : Value → M) : M :=
  Pv (fldV 1 p3) fun v50 =>
  Rv none (ld1R v50) fun v51 =>
  sh73_4 ω p3 p4 p5 p7 v51 K
def sh73_3 (ω : Om) (p3 : Value) (p4 : Value) (p9 : Value) (p10 : Value) (x5 : Value) (x11 : Value) (Kn0 : (Value × Value × Unit) → M) (K : Value → M) : M :=
  Pv (binIV .lss x11 p10) fun v6 =>
  Br v6
    (Pv (ixV 4 p9 x11) fun v7 =>
    Rv none (ldNR 4 v7) fun v8 =>
    New (.cells #[(Value.int .i64 0), (Value.slice none 0 0), (Value.slice none 0 0), (Value.int .i64 0)] 81 (0, 0)) <| gh fun r_9 =>
    Sto 4 r_9 v8 <| gh fun _ =>
    Pv (fldV 0 p3) fun v10 =>
    Rv none (ld1R v10) fun v11 =>
    Pv (fldV 1 r_9) fun v12 =>
    Pv (fldV 0 v12) fun v13 =>
    Rv none (ld1R v13) fun v14 =>
    Cal Try.prog ω 76 #[v11, v14] <| gh fun v15 =>
    Pv (binIV .lss v15 (Value.int .i64 0)) fun v16 =>
    Gd v16 false
      (Pv (fldV 1 r_9) fun v17 =>
      Pv (fldV 1 v17) fun v18 =>
      Rv none (ld1R v18) fun v19 =>
      Pv (lenV v19) fun v20 =>
      Pv (binIV .gtr v20 (Value.int .i64 0)) fun v21 =>
      Gd v21 true
        (Pv (fldV 0 p3) fun v22 =>
        Rv none (ld1R v22) fun v23 =>
        Pv (fldV 1 r_9) fun v24 =>
        Pv (fldV 1 v24) fun v25 =>
        Rv none (ld1R v25) fun v26 =>
        Cal Try.prog ω 76 #[v23, v26] <| gh fun v27 =>
        Pv (binIV .geq v27 (Value.int .i64 0)) fun v28 =>
        Br v28
          (Pv (binIV .add x11 (Value.int .i64 1)) fun v29 =>
          Kn0 (x5, v29, ()))
          (Pv (fldV 1 r_9) fun v30 =>
          Pv (fldV 1 v30) fun v31 =>
          Rv none (ld1R v31) fun v32 =>
          Pv (lenV v32) fun v40 =>
          Pv (binIV .eql v40 (Value.int .i64 0)) fun v41 =>
          Gd v41 false
            (Pv (fldV 1 p3) fun v42 =>
            Rv none (ld1R v42) fun v43 =>
            Pv (lenV v43) fun v44 =>
            Pv (binIV .gtr v44 (Value.int .i64 0)) fun v45 =>
            Gd v45 true
              (Pv (fldV 1 p3) fun v46 =>
              Rv none (ld1R v46) fun v47 =>
              Cal Try.prog ω 76 #[v47, v32] <| gh fun v48 =>
              Pv (binIV .lss v48 (Value.int .i64 0)) fun v49 =>
              Br v49
                (sh73_5 ω p3 p4 x5 r_9 v32 K)
                (sh73_4 ω p3 p4 x5 r_9 v32 K))
              (sh73_4 ω p3 p4 x5 r_9 v32 K))
            (sh73_5 ω p3 p4 x5 r_9 v32 K)))
        (Pv (fldV 1 r_9) fun v52 =>
        Pv (fldV 1 v52) fun v53 =>
        Rv none (ld1R v53) fun v54 =>
        Pv (lenV v54) fun v55 =>
        Pv (binIV .eql v55 (Value.int .i64 0)) fun v56 =>
        Gd v56 false
          (Pv (fldV 1 p3) fun v57 =>
          Rv none (ld1R v57) fun v58 =>
          Pv (lenV v58) fun v59 =>
          Pv (binIV .gtr v59 (Value.int .i64 0)) fun v60 =>
          Gd v60 true
            (Pv (fldV 1 p3) fun v61 =>
            Rv none (ld1R v61) fun v62 =>
            Cal Try.prog ω 76 #[v62, v54] <| gh fun v63 =>
            Pv (binIV .lss v63 (Value.int .i64 0)) fun v64 =>
            Br v64
              (sh73_5 ω p3 p4 x5 r_9 v54 K)
              (sh73_4 ω p3 p4 x5 r_9 v54 K))
            (sh73_4 ω p3 p4 x5 r_9 v54 K))
          (sh73_5 ω p3 p4 x5 r_9 v54 K)))
      (Pv (binIV .add x11 (Value.int .i64 1)) fun v65 =>
      Kn0 (x5, v65, ())))
    (sh73_1 ω p4 x5 K)
def sh73 (ω : Om) (a0 : Value) (a1 : Value) (K : Value → M) : M :=
  New (.cells (Value.cells a1) 40 (0, 0)) <| gh fun p_1 =>
  New (.cells #[(Value.int .i64 0), (Value.slice none 0 0), (Value.slice none 0 0), (Value.int .i64 0), (Value.slice none 0 0), (Value.slice none 0 0)] 98 (0, 0)) <| gh fun v2 =>
  Pv (lenV a0) fun v5 =>
  LoopM (((Value.bool false), (Value.int .i64 0), ()) : Value × Value × Unit) fun s Kn0 =>
  sh73_3 ω p_1 v2 a0 v5 s.1 s.2.1 Kn0 K
theorem sh73_eq (ω : Om) (a0 a1 : Value) (K : Value → M) : vcF Try.prog ω Try.f73 [a0, a1] K = sh73 ω a0 a1 K := by kernel_rfl
theorem cal73 {ω : Om} {a0 a1 : Value} {K : Value → M} {I : Imm} {L : LH} (h : sh73 ω a0 a1 (fun v => Gh (K v)) I L) : Cal Try.prog ω 73 #[a0, a1] K I L :=
  Cal.gh (cal_of_vc mixed Try.func73 (by rw [sh73_eq]; exact h))

def sh74 (ω : Om) (a0 : Value) (K : Value → M) : M :=
  New (.cells (Value.cells a0) 81 (0, 0)) <| gh fun r_1 =>
  New (.cells #[(Value.int .i64 0), (Value.slice none 0 0), (Value.slice none 0 0), (Value.int .i64 0)] 81 (0, 0)) <| gh fun v2 =>
  Pv (fldV 1 r_1) fun v3 =>
  Rv none (ldNR 2 v3) fun v4 =>
  Cal Try.prog ω 78 #[v4] <| gh fun v5 =>
  Pv (fldV 1 r_1) fun v6 =>
  Sto 2 v6 v5 <| gh fun _ =>
  Rv none (ldNR 4 r_1) fun v7 =>
  Sto 4 v2 v7 <| gh fun _ =>
  Rv none (ldNR 4 v2) fun v8 =>
  K v8
theorem sh74_eq (ω : Om) (a0 : Value) (K : Value → M) : vcF Try.prog ω Try.f74 [a0] K = sh74 ω a0 K := by kernel_rfl
theorem cal74 {ω : Om} {a0 : Value} {K : Value → M} {I : Imm} {L : LH} (h : sh74 ω a0 (fun v => Gh (K v)) I L) : Cal Try.prog ω 74 #[a0] K I L :=
  Cal.gh (cal_of_vc mixed Try.func74 (by rw [sh74_eq]; exact h))

def sh75_3 (ω : Om) (p0 : Value) (p1 : Value) (p7 : Value) (x4 : Value) (x8 : Value) (Kn0 : (Value × Value × Unit) → M) (K : Value → M) : M :=
  Pv (binIV .lss x8 p7) fun v2 =>
  Br v2
    (Pv (ixV 1 p0 x8) fun v3 =>
    Rv none (ld1R v3) fun v4 =>
    CalV Try.prog ω p1 #[v4] <| gh fun v5 =>
    Br v5
      (K x8)
      (Pv (binIV .add x8 (Value.int .i64 1)) fun v6 =>
      Kn0 (x4, v6, ())))
    (K (Value.int .i64 (-1)))
def sh75 (ω : Om) (a0 : Value) (a1 : Value) (K : Value → M) : M :=
  Pv (lenV a0) fun v1 =>
  LoopM (((Value.int .i64 0), (Value.int .i64 0), ()) : Value × Value × Unit) fun s Kn0 =>
  sh75_3 ω a0 a1 v1 s.1 s.2.1 Kn0 K
theorem sh75_eq (ω : Om) (a0 a1 : Value) (K : Value → M) : vcF Try.prog ω Try.f75 [a0, a1] K = sh75 ω a0 a1 K := by kernel_rfl
theorem cal75 {ω : Om} {a0 a1 : Value} {K : Value → M} {I : Imm} {L : LH} (h : sh75 ω a0 a1 (fun v => Gh (K v)) I L) : Cal Try.prog ω 75 #[a0, a1] K I L :=
  Cal.gh (cal_of_vc mixed Try.func75 (by rw [sh75_eq]; exact h))

def sh76 (ω : Om) (a0 : Value) (a1 : Value) (K : Value → M) : M :=
  ExtE Try.prog ω Extern.BytealgCompare.compare #[a0, a1] <| gh fun v1 =>
  K v1
theorem sh76_eq (ω : Om) (a0 a1 : Value) (K : Value → M) : vcF Try.prog ω Try.f76 [a0, a1] K = sh76 ω a0 a1 K := by kernel_rfl
theorem cal76 {ω : Om} {a0 a1 : Value} {K : Value → M} {I : Imm} {L : LH} (h : sh76 ω a0 a1 (fun v => Gh (K v)) I L) : Cal Try.prog ω 76 #[a0, a1] K I L :=
  Cal.gh (cal_of_vc mixed Try.func76 (by rw [sh76_eq]; exact h))

def sh77 (ω : Om) (a0 : Value) (a1 : Value) (K : Value → M) : M :=
  New (.cells (Value.cells a0) 40 (0, 0)) <| gh fun p_1 =>
  Rv none (bsR a1) fun v2 =>
  Pv (fldV 0 p_1) fun v3 =>
  Rv none (ld1R v3) fun v4 =>
  Rv none (bsR v4) fun v5 =>
  Pv (binSV .geq v2 v5) fun v6 =>
  Gd v6 true
    (Pv (fldV 1 p_1) fun v7 =>
    Rv none (ld1R v7) fun v8 =>
    Pv (lenV v8) fun v9 =>
    Pv (binIV .eql v9 (Value.int .i64 0)) fun v10 =>
    Gd v10 false
      (Rv none (bsR a1) fun v11 =>
      Pv (fldV 1 p_1) fun v12 =>
      Rv none (ld1R v12) fun v13 =>
      Rv none (bsR v13) fun v14 =>
      Pv (binSV .lss v11 v14) fun v15 =>
      K v15)
      (K (Value.bool true)))
    (K (Value.bool false))
theorem sh77_eq (ω : Om) (a0 a1 : Value) (K : Value → M) : vcF Try.prog ω Try.f77 [a0, a1] K = sh77 ω a0 a1 K := by kernel_rfl
theorem cal77 {ω : Om} {a0 a1 : Value} {K : Value → M} {I : Imm} {L : LH} (h : sh77 ω a0 a1 (fun v => Gh (K v)) I L) : Cal Try.prog ω 77 #[a0, a1] K I L :=
  Cal.gh (cal_of_vc mixed Try.func77 (by rw [sh77_eq]; exact h))

def sh78 (ω : Om) (a0 : Value) (K : Value → M) : M :=
  New (.cells (Value.cells a0) 40 (0, 0)) <| gh fun p_1 =>
  New (.cells #[(Value.slice none 0 0), (Value.slice none 0 0)] 40 (0, 0)) <| gh fun v2 =>
  Draw fun S =>
    Pv (fldV 0 p_1) fun v3 =>
    Rv (some S) (ld1R v3) fun v4 =>
    Cal Try.prog ω 34 #[v4] <| gh <| Keep S fun v5 =>
    Pv (fldV 1 p_1) fun v6 =>
    Rv (some S) (ld1R v6) fun v7 =>
    Cal Try.prog ω 34 #[v7] <| gh fun v8 =>
    Pv (bldV #[(Value.slice none 0 0), (Value.slice none 0 0)] #[(0, 1), (1, 1)] [(0, v5), (1, v8)]) fun v9 =>
    Sto 2 v2 v9 <| gh fun _ =>
    Rv none (ldNR 2 v2) fun v10 =>
    K v10
theorem sh78_eq (ω : Om) (a0 : Value) (K : Value → M) : vcF Try.prog ω Try.f78 [a0] K = sh78 ω a0 K := by kernel_rfl
theorem cal78 {ω : Om} {a0 : Value} {K : Value → M} {I : Imm} {L : LH} (h : sh78 ω a0 (fun v => Gh (K v)) I L) : Cal Try.prog ω 78 #[a0] K I L :=
  Cal.gh (cal_of_vc mixed Try.func78 (by rw [sh78_eq]; exact h))

theorem bld_1 (x0 : Int) : bldV #[(Value.int .i64 0), (Value.int .i64 0)] #[(0, 1), (1, 1)] [(0, .int .i64 x0)] = some (.agg #[.int .i64 x0, (Value.int .i64 0)]) := by kernel_rfl
theorem bld_2 (x0 : Option Addr) (x1 : Nat) (x2 : Nat) (x3 : Option Addr) (x4 : Nat) (x5 : Nat) : bldV #[(Value.bool false), (Value.slice none 0 0), (Value.slice none 0 0)] #[(0, 1), (1, 1), (2, 1)] [(1, .slice x0 x1 x2), (2, .slice x3 x4 x5)] = some (.agg #[(Value.bool false), .slice x0 x1 x2, .slice x3 x4 x5]) := by kernel_rfl
theorem bld_3 (x0 : Int) (x1 : Int) (x2 : Int) (x3 : Int) (x4 : Int) (x5 : Int) (x6 : Int) (x7 : Int) (x8 : Int) (x9 : Int) : bldV #[(Value.int .i64 0), (Value.int .i64 0), (Value.int .i64 0), (Value.int .i64 0), (Value.int .i64 0), (Value.int .i64 0), (Value.int .i64 0), (Value.int .i64 0), (Value.int .i64 0), (Value.int .i64 0), (Value.bool false), (Value.slice none 0 0), (Value.slice none 0 0), (Value.int .i64 0), (Value.int .i64 0), (Value.slice none 0 0), (Value.slice none 0 0), (Value.slice none 0 0), (Value.slice none 0 0), (Value.slice none 0 0), (Value.slice none 0 0), (Value.slice none 0 0), (Value.int .i64 0), (Value.slice none 0 0), (Value.slice none 0 0), (Value.int .i64 0), (Value.int .i64 0), (Value.int .i64 0), (Value.int .i64 0)] #[(0, 1), (1, 1), (2, 2), (4, 2), (6, 2), (8, 1), (9, 1), (10, 1), (11, 1), (12, 1), (13, 1), (14, 1), (15, 2), (17, 1), (18, 1), (19, 1), (20, 1), (21, 1), (22, 7)] [(0, .int .i64 x0), (1, .int .i64 x1), (2, .agg #[.int .i64 x2, .int .i64 x3]), (3, .agg #[.int .i64 x4, .int .i64 x5]), (4, .agg #[.int .i64 x6, .int .i64 x7]), (5, .int .i64 x8), (10, .int .i64 x9)] = some (.agg #[.int .i64 x0, .int .i64 x1, .int .i64 x2, .int .i64 x3, .int .i64 x4, .int .i64 x5, .int .i64 x6, .int .i64 x7, .int .i64 x8, (Value.int .i64 0), (Value.bool false), (Value.slice none 0 0), (Value.slice none 0 0), .int .i64 x9, (Value.int .i64 0), (Value.slice none 0 0), (Value.slice none 0 0), (Value.slice none 0 0), (Value.slice none 0 0), (Value.slice none 0 0), (Value.slice none 0 0), (Value.slice none 0 0), (Value.int .i64 0), (Value.slice none 0 0), (Value.slice none 0 0), (Value.int .i64 0), (Value.int .i64 0), (Value.int .i64 0), (Value.int .i64 0)]) := by kernel_rfl
theorem bld_4 (x0 : Int) (x1 : Int) (x2 : Int) (x3 : Int) (x4 : Int) (x5 : Int) (x6 : Int) (x7 : Int) (x8 : Int) (x9 : Int) : bldV #[(Value.int .i64 0), (Value.int .i64 0), (Value.int .i64 0), (Value.int .i64 0), (Value.int .i64 0), (Value.int .i64 0), (Value.int .i64 0), (Value.int .i64 0), (Value.int .i64 0), (Value.int .i64 0), (Value.bool false), (Value.slice none 0 0), (Value.slice none 0 0), (Value.int .i64 0), (Value.int .i64 0), (Value.slice none 0 0), (Value.slice none 0 0), (Value.slice none 0 0), (Value.slice none 0 0), (Value.slice none 0 0), (Value.slice none 0 0), (Value.slice none 0 0), (Value.int .i64 0), (Value.slice none 0 0), (Value.slice none 0 0), (Value.int .i64 0), (Value.int .i64 0), (Value.int .i64 0), (Value.int .i64 0)] #[(0, 1), (1, 1), (2, 2), (4, 2), (6, 2), (8, 1), (9, 1), (10, 1), (11, 1), (12, 1), (13, 1), (14, 1), (15, 2), (17, 1), (18, 1), (19, 1), (20, 1), (21, 1), (22, 1), (23, 2), (25, 1), (26, 1), (27, 2)] [(0, .int .i64 x0), (1, .int .i64 x1), (2, .agg #[.int .i64 x2, .int .i64 x3]), (3, .agg #[.int .i64 x4, .int .i64 x5]), (4, .agg #[.int .i64 x6, .int .i64 x7]), (5, .int .i64 x8), (10, .int .i64 x9)] = some (.agg #[.int .i64 x0, .int .i64 x1, .int .i64 x2, .int .i64 x3, .int .i64 x4, .int .i64 x5, .int .i64 x6, .int .i64 x7, .int .i64 x8, (Value.int .i64 0), (Value.bool false), (Value.slice none 0 0), (Value.slice none 0 0), .int .i64 x9, (Value.int .i64 0), (Value.slice none 0 0), (Value.slice none 0 0), (Value.slice none 0 0), (Value.slice none 0 0), (Value.slice none 0 0), (Value.slice none 0 0), (Value.slice none 0 0), (Value.int .i64 0), (Value.slice none 0 0), (Value.slice none 0 0), (Value.int .i64 0), (Value.int .i64 0), (Value.int .i64 0), (Value.int .i64 0)]) := by kernel_rfl
theorem bld_5 (x0 : Int) (x1 : Int) : bldV #[(Value.int .i64 0), (Value.slice none 0 0), (Value.slice none 0 0), (Value.int .i64 0)] #[(0, 1), (1, 2), (3, 1)] [(0, .int .i64 x0), (2, .int .i64 x1)] = some (.agg #[.int .i64 x0, (Value.slice none 0 0), (Value.slice none 0 0), .int .i64 x1]) := by kernel_rfl
theorem bld_6 (x0 : Bool) (x1 : Option Addr) (x2 : Nat) (x3 : Nat) (x4 : Option Addr) (x5 : Nat) (x6 : Nat) : bldV #[(Value.bool false), (Value.slice none 0 0), (Value.slice none 0 0)] #[(0, 1), (1, 1), (2, 1)] [(0, .bool x0), (1, .slice x1 x2 x3), (2, .slice x4 x5 x6)] = some (.agg #[.bool x0, .slice x1 x2 x3, .slice x4 x5 x6]) := by kernel_rfl
theorem bld_7 (x0 : Int) (x1 : Option Addr) (x2 : Nat) (x3 : Nat) (x4 : Option Addr) (x5 : Nat) (x6 : Nat) : bldV #[(Value.int .i64 0), (Value.slice none 0 0), (Value.slice none 0 0), (Value.int .i64 0), (Value.int .i64 0), (Value.int .i64 0), (Value.int .i64 0)] #[(0, 1), (1, 2), (3, 1), (4, 1), (5, 2)] [(0, .int .i64 x0), (1, .agg #[.slice x1 x2 x3, .slice x4 x5 x6])] = some (.agg #[.int .i64 x0, .slice x1 x2 x3, .slice x4 x5 x6, (Value.int .i64 0), (Value.int .i64 0), (Value.int .i64 0), (Value.int .i64 0)]) := by kernel_rfl
theorem bld_8 (x0 : Option Addr) (x1 : Nat) (x2 : Nat) (x3 : Option Addr) (x4 : Nat) (x5 : Nat) : bldV #[(Value.slice none 0 0), (Value.slice none 0 0)] #[(0, 1), (1, 1)] [(0, .slice x0 x1 x2), (1, .slice x3 x4 x5)] = some (.agg #[.slice x0 x1 x2, .slice x3 x4 x5]) := by kernel_rfl
theorem bld_9 (x0 : Int) (x1 : Int) (x2 : Int) (x3 : Int) (x4 : Int) : bldV #[(Value.int .i64 0), (Value.int .i64 0), (Value.int .i64 0), (Value.int .i64 0), (Value.int .i64 0), (Value.int .i64 0), (Value.int .i64 0), (Value.int .i64 0), (Value.bool false), (Value.bool false), (Value.slice none 0 0), (Value.slice none 0 0), (Value.slice none 0 0), (Value.slice none 0 0), (Value.int .i64 0)] #[(0, 1), (1, 1), (2, 1), (3, 2), (5, 2), (7, 1), (8, 1), (9, 1), (10, 1), (11, 1), (12, 2), (14, 1)] [(0, .int .i64 x0), (1, .int .i64 x1), (5, .int .i64 x2), (3, .agg #[.int .i64 x3, .int .i64 x4])] = some (.agg #[.int .i64 x0, .int .i64 x1, (Value.int .i64 0), .int .i64 x3, .int .i64 x4, (Value.int .i64 0), (Value.int .i64 0), .int .i64 x2, (Value.bool false), (Value.bool false), (Value.slice none 0 0), (Value.slice none 0 0), (Value.slice none 0 0), (Value.slice none 0 0), (Value.int .i64 0)]) := by kernel_rfl
theorem bld_10  : bldV #[(Value.int .i64 0), (Value.int .i64 0)] #[(0, 1), (1, 1)] [] = some (.agg #[(Value.int .i64 0), (Value.int .i64 0)]) := by kernel_rfl
theorem bld_11 (x0 : Int) (x1 : Int) (x2 : Option Addr) (x3 : Nat) (x4 : Nat) (x5 : Option Addr) (x6 : Nat) (x7 : Nat) : bldV #[(Value.int .i64 0), (Value.int .i64 0), (Value.int .i64 0), (Value.int .i64 0), (Value.int .i64 0), (Value.int .i64 0), (Value.int .i64 0), (Value.int .i64 0), (Value.bool false), (Value.bool false), (Value.slice none 0 0), (Value.slice none 0 0), (Value.slice none 0 0), (Value.slice none 0 0), (Value.int .i64 0)] #[(0, 1), (1, 1), (2, 1), (3, 2), (5, 2), (7, 1), (8, 1), (9, 1), (10, 1), (11, 1), (12, 2), (14, 1)] [(0, .int .i64 x0), (1, .int .i64 x1), (10, .agg #[.slice x2 x3 x4, .slice x5 x6 x7])] = some (.agg #[.int .i64 x0, .int .i64 x1, (Value.int .i64 0), (Value.int .i64 0), (Value.int .i64 0), (Value.int .i64 0), (Value.int .i64 0), (Value.int .i64 0), (Value.bool false), (Value.bool false), (Value.slice none 0 0), (Value.slice none 0 0), .slice x2 x3 x4, .slice x5 x6 x7, (Value.int .i64 0)]) := by kernel_rfl
theorem bld_12 (x0 : Int) (x1 : Int) (x2 : Int) (x3 : Int) (x4 : Option Addr) (x5 : Nat) (x6 : Nat) (x7 : Option Addr) (x8 : Nat) (x9 : Nat) (x10 : Int) : bldV #[(Value.int .i64 0), (Value.int .i64 0), (Value.int .i64 0), (Value.int .i64 0), (Value.int .i64 0), (Value.int .i64 0), (Value.int .i64 0), (Value.int .i64 0), (Value.bool false), (Value.bool false), (Value.slice none 0 0), (Value.slice none 0 0), (Value.slice none 0 0), (Value.slice none 0 0), (Value.int .i64 0)] #[(0, 1), (1, 1), (2, 1), (3, 2), (5, 2), (7, 1), (8, 1), (9, 1), (10, 1), (11, 1), (12, 2), (14, 1)] [(0, .int .i64 x0), (1, .int .i64 x1), (3, .agg #[.int .i64 x2, .int .i64 x3]), (10, .agg #[.slice x4 x5 x6, .slice x7 x8 x9]), (11, .int .i64 x10)] = some (.agg #[.int .i64 x0, .int .i64 x1, (Value.int .i64 0), .int .i64 x2, .int .i64 x3, (Value.int .i64 0), (Value.int .i64 0), (Value.int .i64 0), (Value.bool false), (Value.bool false), (Value.slice none 0 0), (Value.slice none 0 0), .slice x4 x5 x6, .slice x7 x8 x9, .int .i64 x10]) := by kernel_rfl
theorem bld_13 (x0 : Int) (x1 : Int) (x2 : Int) (x3 : Int) (x4 : Int) : bldV #[(Value.int .i64 0), (Value.int .i64 0), (Value.int .i64 0), (Value.int .i64 0), (Value.int .i64 0), (Value.int .i64 0), (Value.int .i64 0), (Value.int .i64 0), (Value.bool false), (Value.bool false), (Value.slice none 0 0), (Value.slice none 0 0), (Value.slice none 0 0), (Value.slice none 0 0), (Value.int .i64 0)] #[(0, 1), (1, 1), (2, 1), (3, 2), (5, 2), (7, 1), (8, 1), (9, 1), (10, 1), (11, 1), (12, 2), (14, 1)] [(0, .int .i64 x0), (1, .int .i64 x1), (2, .int .i64 x2), (3, .agg #[.int .i64 x3, .int .i64 x4])] = some (.agg #[.int .i64 x0, .int .i64 x1, .int .i64 x2, .int .i64 x3, .int .i64 x4, (Value.int .i64 0), (Value.int .i64 0), (Value.int .i64 0), (Value.bool false), (Value.bool false), (Value.slice none 0 0), (Value.slice none 0 0), (Value.slice none 0 0), (Value.slice none 0 0), (Value.int .i64 0)]) := by kernel_rfl
theorem bld_14 (x0 : Int) (x1 : Int) (x2 : Int) (x3 : Int) (x4 : Int) (x5 : Option Addr) (x6 : Nat) (x7 : Nat) (x8 : Bool) (x9 : Option Addr) (x10 : Nat) (x11 : Nat) : bldV #[(Value.int .i64 0), (Value.int .i64 0), (Value.int .i64 0), (Value.int .i64 0), (Value.int .i64 0), (Value.int .i64 0), (Value.int .i64 0), (Value.int .i64 0), (Value.bool false), (Value.bool false), (Value.slice none 0 0), (Value.slice none 0 0), (Value.slice none 0 0), (Value.slice none 0 0), (Value.int .i64 0)] #[(0, 1), (1, 1), (2, 1), (3, 2), (5, 2), (7, 1), (8, 1), (9, 1), (10, 1), (11, 1), (12, 2), (14, 1)] [(0, .int .i64 x0), (1, .int .i64 x1), (2, .int .i64 x2), (3, .agg #[.int .i64 x3, .int .i64 x4]), (8, .slice x5 x6 x7), (7, .bool x8), (9, .slice x9 x10 x11)] = some (.agg #[.int .i64 x0, .int .i64 x1, .int .i64 x2, .int .i64 x3, .int .i64 x4, (Value.int .i64 0), (Value.int .i64 0), (Value.int .i64 0), (Value.bool false), .bool x8, .slice x5 x6 x7, .slice x9 x10 x11, (Value.slice none 0 0), (Value.slice none 0 0), (Value.int .i64 0)]) := by kernel_rfl
theorem bld_15 (x0 : Int) (x1 : Int) (x2 : Int) (x3 : Int) (x4 : Int) (x5 : Int) (x6 : Int) (x7 : Option Addr) (x8 : Nat) (x9 : Nat) (x10 : Option Addr) (x11 : Nat) (x12 : Nat) : bldV #[(Value.int .i64 0), (Value.int .i64 0), (Value.int .i64 0), (Value.int .i64 0), (Value.int .i64 0), (Value.int .i64 0), (Value.int .i64 0), (Value.int .i64 0), (Value.bool false), (Value.bool false), (Value.slice none 0 0), (Value.slice none 0 0), (Value.slice none 0 0), (Value.slice none 0 0), (Value.int .i64 0)] #[(0, 1), (1, 1), (2, 1), (3, 2), (5, 2), (7, 1), (8, 1), (9, 1), (10, 1), (11, 1), (12, 2), (14, 1)] [(0, .int .i64 x0), (1, .int .i64 x1), (2, .int .i64 x2), (3, .agg #[.int .i64 x3, .int .i64 x4]), (4, .agg #[.int .i64 x5, .int .i64 x6]), (10, .agg #[.slice x7 x8 x9, .slice x10 x11 x12])] = some (.agg #[.int .i64 x0, .int .i64 x1, .int .i64 x2, .int .i64 x3, .int .i64 x4, .int .i64 x5, .int .i64 x6, (Value.int .i64 0), (Value.bool false), (Value.bool false), (Value.slice none 0 0), (Value.slice none 0 0), .slice x7 x8 x9, .slice x10 x11 x12, (Value.int .i64 0)]) := by kernel_rfl
theorem bld_16 (x0 : Int) (x1 : Int) (x2 : Bool) (x3 : Int) (x4 : Int) : bldV #[(Value.int .i64 0), (Value.int .i64 0), (Value.int .i64 0), (Value.int .i64 0), (Value.int .i64 0), (Value.int .i64 0), (Value.int .i64 0), (Value.int .i64 0), (Value.bool false), (Value.bool false), (Value.slice none 0 0), (Value.slice none 0 0), (Value.slice none 0 0), (Value.slice none 0 0), (Value.int .i64 0)] #[(0, 1), (1, 1), (2, 1), (3, 2), (5, 2), (7, 1), (8, 1), (9, 1), (10, 1), (11, 1), (12, 2), (14, 1)] [(0, .int .i64 x0), (1, .int .i64 x1), (6, .bool x2), (3, .agg #[.int .i64 x3, .int .i64 x4])] = some (.agg #[.int .i64 x0, .int .i64 x1, (Value.int .i64 0), .int .i64 x3, .int .i64 x4, (Value.int .i64 0), (Value.int .i64 0), (Value.int .i64 0), .bool x2, (Value.bool false), (Value.slice none 0 0), (Value.slice none 0 0), (Value.slice none 0 0), (Value.slice none 0 0), (Value.int .i64 0)]) := by kernel_rfl
theorem bld_17 (x0 : Int) (x1 : Int) (x2 : Int) (x3 : Int) : bldV #[(Value.int .i64 0), (Value.int .i64 0), (Value.int .i64 0), (Value.int .i64 0), (Value.int .i64 0), (Value.int .i64 0), (Value.int .i64 0), (Value.int .i64 0), (Value.bool false), (Value.bool false), (Value.slice none 0 0), (Value.slice none 0 0), (Value.slice none 0 0), (Value.slice none 0 0), (Value.int .i64 0)] #[(0, 1), (1, 1), (2, 1), (3, 2), (5, 2), (7, 1), (8, 1), (9, 1), (10, 1), (11, 1), (12, 2), (14, 1)] [(0, .int .i64 x0), (1, .int .i64 x1), (3, .agg #[.int .i64 x2, .int .i64 x3])] = some (.agg #[.int .i64 x0, .int .i64 x1, (Value.int .i64 0), .int .i64 x2, .int .i64 x3, (Value.int .i64 0), (Value.int .i64 0), (Value.int .i64 0), (Value.bool false), (Value.bool false), (Value.slice none 0 0), (Value.slice none 0 0), (Value.slice none 0 0), (Value.slice none 0 0), (Value.int .i64 0)]) := by kernel_rfl
theorem bld_18 (x0 : Int) (x1 : Int) : bldV #[(Value.int .i64 0), (Value.int .i64 0), (Value.int .i64 0), (Value.int .i64 0), (Value.int .i64 0), (Value.int .i64 0), (Value.int .i64 0), (Value.int .i64 0), (Value.bool false), (Value.bool false), (Value.slice none 0 0), (Value.slice none 0 0), (Value.slice none 0 0), (Value.slice none 0 0), (Value.int .i64 0)] #[(0, 1), (1, 1), (2, 1), (3, 2), (5, 2), (7, 1), (8, 1), (9, 1), (10, 1), (11, 1), (12, 2), (14, 1)] [(0, .int .i64 x0), (1, .int .i64 x1)] = some (.agg #[.int .i64 x0, .int .i64 x1, (Value.int .i64 0), (Value.int .i64 0), (Value.int .i64 0), (Value.int .i64 0), (Value.int .i64 0), (Value.int .i64 0), (Value.bool false), (Value.bool false), (Value.slice none 0 0), (Value.slice none 0 0), (Value.slice none 0 0), (Value.slice none 0 0), (Value.int .i64 0)]) := by kernel_rfl
theorem bld_19  : bldV #[(Value.int .i64 0), (Value.int .i64 0), (Value.int .i64 0), (Value.int .i64 0), (Value.int .i64 0), (Value.int .i64 0), (Value.int .i64 0), (Value.int .i64 0), (Value.bool false), (Value.bool false), (Value.slice none 0 0), (Value.slice none 0 0), (Value.slice none 0 0), (Value.slice none 0 0), (Value.int .i64 0)] #[(0, 1), (1, 1), (2, 1), (3, 2), (5, 2), (7, 1), (8, 1), (9, 1), (10, 1), (11, 1), (12, 2), (14, 1)] [] = some (.agg #[(Value.int .i64 0), (Value.int .i64 0), (Value.int .i64 0), (Value.int .i64 0), (Value.int .i64 0), (Value.int .i64 0), (Value.int .i64 0), (Value.int .i64 0), (Value.bool false), (Value.bool false), (Value.slice none 0 0), (Value.slice none 0 0), (Value.slice none 0 0), (Value.slice none 0 0), (Value.int .i64 0)]) := by kernel_rfl
theorem bld_20  : bldV #[(Value.int .i64 0), (Value.slice none 0 0), (Value.slice none 0 0), (Value.int .i64 0), (Value.int .i64 0), (Value.int .i64 0), (Value.int .i64 0)] #[(0, 1), (1, 2), (3, 1), (4, 1), (5, 2)] [] = some (.agg #[(Value.int .i64 0), (Value.slice none 0 0), (Value.slice none 0 0), (Value.int .i64 0), (Value.int .i64 0), (Value.int .i64 0), (Value.int .i64 0)]) := by kernel_rfl
theorem bld_21 (x0 : Int) : bldV #[(Value.int .i64 0), (Value.int .i64 0), (Value.int .i64 0), (Value.int .i64 0), (Value.int .i64 0), (Value.int .i64 0), (Value.int .i64 0), (Value.int .i64 0), (Value.bool false), (Value.bool false), (Value.slice none 0 0), (Value.slice none 0 0), (Value.slice none 0 0), (Value.slice none 0 0), (Value.int .i64 0)] #[(0, 1), (1, 1), (2, 1), (3, 2), (5, 2), (7, 1), (8, 1), (9, 1), (10, 1), (11, 1), (12, 2), (14, 1)] [(1, .int .i64 x0)] = some (.agg #[(Value.int .i64 0), .int .i64 x0, (Value.int .i64 0), (Value.int .i64 0), (Value.int .i64 0), (Value.int .i64 0), (Value.int .i64 0), (Value.int .i64 0), (Value.bool false), (Value.bool false), (Value.slice none 0 0), (Value.slice none 0 0), (Value.slice none 0 0), (Value.slice none 0 0), (Value.int .i64 0)]) := by kernel_rfl
theorem bld_22  : bldV #[(Value.int .i64 0), (Value.int .i64 0), (Value.int .i64 0), (Value.int .i64 0), (Value.int .i64 0), (Value.int .i64 0), (Value.int .i64 0), (Value.int .i64 0), (Value.int .i64 0), (Value.bool false), (Value.bool false), (Value.slice none 0 0), (Value.slice none 0 0), (Value.slice none 0 0), (Value.slice none 0 0), (Value.int .i64 0), (Value.int .i64 0)] #[(0, 1), (1, 15), (16, 1)] [] = some (.agg #[(Value.int .i64 0), (Value.int .i64 0), (Value.int .i64 0), (Value.int .i64 0), (Value.int .i64 0), (Value.int .i64 0), (Value.int .i64 0), (Value.int .i64 0), (Value.int .i64 0), (Value.bool false), (Value.bool false), (Value.slice none 0 0), (Value.slice none 0 0), (Value.slice none 0 0), (Value.slice none 0 0), (Value.int .i64 0), (Value.int .i64 0)]) := by kernel_rfl
theorem bld_23 (x0 : Option Addr) (x1 : Nat) (x2 : Nat) : bldV #[(Value.slice none 0 0)] #[(0, 1)] [(0, .slice x0 x1 x2)] = some (.agg #[.slice x0 x1 x2]) := by kernel_rfl
theorem bld_24  : bldV #[(Value.int .i64 0), (Value.slice none 0 0), (Value.slice none 0 0), (Value.int .i64 0), (Value.slice none 0 0), (Value.slice none 0 0)] #[(0, 4), (4, 2)] [] = some (.agg #[(Value.int .i64 0), (Value.slice none 0 0), (Value.slice none 0 0), (Value.int .i64 0), (Value.slice none 0 0), (Value.slice none 0 0)]) := by kernel_rfl
theorem bld_25 (x0 : Int) (x1 : Option Addr) (x2 : Nat) (x3 : Nat) (x4 : Option Addr) (x5 : Nat) (x6 : Nat) (x7 : Int) (x8 : Option Addr) (x9 : Nat) (x10 : Nat) (x11 : Option Addr) (x12 : Nat) (x13 : Nat) : bldV #[(Value.int .i64 0), (Value.slice none 0 0), (Value.slice none 0 0), (Value.int .i64 0), (Value.slice none 0 0), (Value.slice none 0 0)] #[(0, 4), (4, 2)] [(0, .agg #[.int .i64 x0, .slice x1 x2 x3, .slice x4 x5 x6, .int .i64 x7]), (1, .agg #[.slice x8 x9 x10, .slice x11 x12 x13])] = some (.agg #[.int .i64 x0, .slice x1 x2 x3, .slice x4 x5 x6, .int .i64 x7, .slice x8 x9 x10, .slice x11 x12 x13]) := by kernel_rfl
theorem bld_26 (x0 : Int) (x1 : Int) (x2 : Int) (x3 : Int) (x4 : Int) (x5 : Int) (x6 : Int) (x7 : Int) (x8 : Int) (x9 : Bool) (x10 : Bool) (x11 : Option Addr) (x12 : Nat) (x13 : Nat) (x14 : Option Addr) (x15 : Nat) (x16 : Nat) (x17 : Option Addr) (x18 : Nat) (x19 : Nat) (x20 : Option Addr) (x21 : Nat) (x22 : Nat) (x23 : Int) : bldV #[(Value.int .i64 0), (Value.int .i64 0), (Value.int .i64 0), (Value.int .i64 0), (Value.int .i64 0), (Value.int .i64 0), (Value.int .i64 0), (Value.int .i64 0), (Value.int .i64 0), (Value.bool false), (Value.bool false), (Value.slice none 0 0), (Value.slice none 0 0), (Value.slice none 0 0), (Value.slice none 0 0), (Value.int .i64 0), (Value.int .i64 0)] #[(0, 1), (1, 15), (16, 1)] [(0, .int .i64 x0), (1, .agg #[.int .i64 x1, .int .i64 x2, .int .i64 x3, .int .i64 x4, .int .i64 x5, .int .i64 x6, .int .i64 x7, .int .i64 x8, .bool x9, .bool x10, .slice x11 x12 x13, .slice x14 x15 x16, .slice x17 x18 x19, .slice x20 x21 x22, .int .i64 x23])] = some (.agg #[.int .i64 x0, .int .i64 x1, .int .i64 x2, .int .i64 x3, .int .i64 x4, .int .i64 x5, .int .i64 x6, .int .i64 x7, .int .i64 x8, .bool x9, .bool x10, .slice x11 x12 x13, .slice x14 x15 x16, .slice x17 x18 x19, .slice x20 x21 x22, .int .i64 x23, (Value.int .i64 0)]) := by kernel_rfl
theorem bld_27  : bldV #[(Value.slice none 0 0), (Value.slice none 0 0)] #[(0, 1), (1, 1)] [] = some (.agg #[(Value.slice none 0 0), (Value.slice none 0 0)]) := by kernel_rfl
theorem bld_28  : bldV #[(Value.int .i64 0), (Value.slice none 0 0), (Value.slice none 0 0), (Value.int .i64 0)] #[(0, 1), (1, 2), (3, 1)] [] = some (.agg #[(Value.int .i64 0), (Value.slice none 0 0), (Value.slice none 0 0), (Value.int .i64 0)]) := by kernel_rfl
end Go.Proofs.Ytlalbollbdlfhaa
