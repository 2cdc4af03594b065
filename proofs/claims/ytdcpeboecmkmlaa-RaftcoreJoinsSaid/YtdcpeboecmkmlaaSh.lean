/- The shallow forms of the functions, printed by a program (goshallow.py). -/
import Derived.Test.YtdcpeboecmkmlaaChecked
import Derived.Test.YtdcpeboecmkmlaaSlRules
set_option maxRecDepth 100000
set_option linter.unusedVariables false
namespace Go.Proofs.Ytdcpeboecmkmlaa
open Go.SL

theorem mixed : Try.prog.follows .mixedOrders = true := by kernel_rfl

def sh3_5 (ω : Om) (p2 : Value) (p8 : Value) (p9 : Value) (p10 : Value) (Kn0 : (Value × Value × Value × Value × Unit) → M) (K : Value → M) : M :=
  Pv (binIV .add p10 (Value.int .i64 1)) fun v6 =>
  Kn0 (p2, p8, p9, v6, ())
def sh3_9 (ω : Om) (p2 : Value) (p4 : Value) (p8 : Value) (p9 : Value) (p10 : Value) (p11 : Value) (p12 : Value) (Kn0 : (Value × Value × Value × Value × Unit) → M) (K : Value → M) : M :=
  Draw fun S =>
    Pv (ixPV 1 3 p4 p12) fun v19 =>
    Rv (some S) (ld1R v19) fun v20 =>
    Pv (fldV 3 p11) fun v21 =>
    Rv (some S) (ld1R v21) fun v22 =>
    Pv (cvIV .u8 v22) fun v23 =>
    BldS 5 1 #[(Value.int .u8 0)] 1 [(0, v23)] <| gh <| Keep S fun v24 =>
    Cal Try.prog ω 14 #[v20, p8, (Value.int .i64 2), v24] <| gh fun v25 =>
    Pv (exV v25 0) fun v26 =>
    Pv (exV v25 1) fun v27 =>
    Pv (binIV .neq v27 (Value.int .i64 0)) fun v28 =>
    Br v28
      (K (Value.bool false))
      (sh3_5 ω p2 p8 p9 p10 Kn0 K)
def sh3_14 (ω : Om) (p2 : Value) (p21 : Value) (Kn1 : (Value × Value × Unit) → M) (K : Value → M) : M :=
  Pv (binIV .add p21 (Value.int .i64 1)) fun v58 =>
  Kn1 (p2, v58, ())
def sh3_17 (ω : Om) (p4 : Value) (p21 : Value) (x2 : Value) (x22 : Value) (Kn1 : (Value × Value × Unit) → M) (Kn2 : (Value × Value × Unit) → M) (K : Value → M) : M :=
  Pv (binIV .lss x22 p21) fun v59 =>
  Br v59
    (Draw fun S =>
      Pv (ixPV 1 3 p4 p21) fun v60 =>
      Rv (some S) (ld1R v60) fun v61 =>
      Pv (ixPV 1 3 p4 x22) fun v62 =>
      Rv (some S) (ld1R v62) fun v63 =>
      Cal Try.prog ω 18 #[v61, v63] <| gh fun v64 =>
      Pv (unV .not v64) fun v65 =>
      Br v65
        (K (Value.bool false))
        (Pv (binIV .add x22 (Value.int .i64 1)) fun v66 =>
        Kn2 (x2, v66, ())))
    (sh3_14 ω x2 p21 Kn1 K)
def sh3_13 (ω : Om) (p4 : Value) (p8 : Value) (p9 : Value) (p10 : Value) (x2 : Value) (x21 : Value) (Kn0 : (Value × Value × Value × Value × Unit) → M) (Kn1 : (Value × Value × Unit) → M) (K : Value → M) : M :=
  Pv (binIV .lss x21 (Value.int .i64 3)) fun v57 =>
  Br v57
    (LoopM ((x2, (Value.int .i64 0), ()) : Value × Value × Unit) fun s Kn2 =>
    sh3_17 ω p4 x21 s.1 s.2.1 Kn1 Kn2 K)
    (sh3_5 ω x2 p8 p9 p10 Kn0 K)
def sh3_11 (ω : Om) (p2 : Value) (p4 : Value) (p8 : Value) (p9 : Value) (p10 : Value) (Kn0 : (Value × Value × Value × Value × Unit) → M) (K : Value → M) : M :=
  LoopM ((p2, (Value.int .i64 0), ()) : Value × Value × Unit) fun s Kn1 =>
  sh3_13 ω p4 p8 p9 p10 s.1 s.2.1 Kn0 Kn1 K
def sh3_8 (ω : Om) (p2 : Value) (p4 : Value) (p8 : Value) (p9 : Value) (p10 : Value) (p11 : Value) (p12 : Value) (p13 : Value) (Kn0 : (Value × Value × Value × Value × Unit) → M) (K : Value → M) : M :=
  Pv (fldV 0 p11) fun v16 =>
  Rv none (ld1R v16) fun v17 =>
  Pv (binIV .eql v17 (Value.int .i64 0)) fun v18 =>
  Br v18
    (Pv (binIV .neq p9 p12) fun v29 =>
    Br v29
      (Pv (binIV .add p8 (Value.int .i64 1)) fun v30 =>
      sh3_9 ω p2 p4 v30 p12 p10 p11 p12 Kn0 K)
      (sh3_9 ω p2 p4 p8 p9 p10 p11 p12 Kn0 K))
    (Draw fun S =>
      Pv (ixPV 1 3 p4 p12) fun v31 =>
      Rv (some S) (ld1R v31) fun v32 =>
      Pv (fldV 3 p11) fun v33 =>
      Rv (some S) (ld1R v33) fun v34 =>
      Cal Try.prog ω 15 #[v32, v34] <| gh fun v35 =>
      Pv (exV v35 0) fun v36 =>
      Pv (exV v35 1) fun v37 =>
      Pv (binIV .neq v37 (Value.int .i64 0)) fun v38 =>
      Gd v38 false
        (Pv (binIV .eql p12 p13) fun v39 =>
        Br v39
          (sh3_5 ω p2 p8 p9 p10 Kn0 K)
          (Draw fun S =>
            Pv (ixPV 1 3 p4 p13) fun v40 =>
            Rv (some S) (ld1R v40) fun v41 =>
            Pv (fldV 3 p11) fun v42 =>
            Rv (some S) (ld1R v42) fun v43 =>
            Pv (ixPV 1 3 p4 p12) fun v44 =>
            Rv (some S) (ld1R v44) fun v45 =>
            Pv (fldV 3 p11) fun v46 =>
            Rv (some S) (ld1R v46) fun v47 =>
            Pv (binIV .add v47 (Value.int .i64 1)) fun v48 =>
            Pv (fldV 4 p11) fun v49 =>
            Rv (some S) (ld1R v49) fun v50 =>
            Cal Try.prog ω 17 #[v45, v48, v50] <| gh <| Keep S fun v51 =>
            Cal Try.prog ω 16 #[v41, v43, v36, v51] <| gh fun v52 =>
            Pv (exV v52 0) fun v53 =>
            Pv (exV v52 1) fun v54 =>
            Pv (exV v52 2) fun v55 =>
            Pv (binIV .neq v55 (Value.int .i64 0)) fun v56 =>
            Br v56
              (K (Value.bool false))
              (Pv (binIV .eql p13 p9) fun v67 =>
              Br v67
                (sh3_11 ω p2 p4 p8 (Value.int .i64 (-1)) p10 Kn0 K)
                (sh3_11 ω p2 p4 p8 p9 p10 Kn0 K))))
        (sh3_5 ω p2 p8 p9 p10 Kn0 K))
def sh3_7 (ω : Om) (p2 : Value) (p4 : Value) (p8 : Value) (p9 : Value) (p10 : Value) (p11 : Value) (p12 : Value) (Kn0 : (Value × Value × Value × Value × Unit) → M) (K : Value → M) : M :=
  Pv (fldV 2 p11) fun v13 =>
  Rv none (ld1R v13) fun v14 =>
  Pv (binIV .and v14 (Value.int .i64 1)) fun v15 =>
  Pv (fldV 2 p11) fun v68 =>
  Rv none (ld1R v68) fun v69 =>
  Pv (binIV .and v69 (Value.int .i64 2)) fun v70 =>
  Pv (binIV .neq v70 (Value.int .i64 0)) fun v71 =>
  Br v71
    (sh3_8 ω p2 p4 p8 p9 p10 p11 p12 (Value.int .i64 2) Kn0 K)
    (sh3_8 ω p2 p4 p8 p9 p10 p11 p12 v15 Kn0 K)
def sh3_4 (ω : Om) (p0 : Value) (p3 : Value) (p4 : Value) (x2 : Value) (x8 : Value) (x9 : Value) (x10 : Value) (Kn0 : (Value × Value × Value × Value × Unit) → M) (K : Value → M) : M :=
  Pv (lenV p0) fun v3 =>
  Pv (binIV .lss x10 v3) fun v4 =>
  Gd v4 true
    (Pv (binIV .lss x10 (Value.int .i64 200)) fun v5 =>
    Br v5
      (Pv (ixV 5 p0 x10) fun v7 =>
      Rv none (ldNR 5 v7) fun v8 =>
      New (.cells #[(Value.int .i64 0), (Value.int .i64 0), (Value.int .i64 0), (Value.int .i64 0), (Value.int .i64 0)] 31 (0, 0)) <| gh fun m_9 =>
      Sto 5 m_9 v8 <| gh fun _ =>
      Pv (fldV 1 m_9) fun v10 =>
      Rv none (ld1R v10) fun v11 =>
      Pv (binIV .and v11 (Value.int .i64 1)) fun v12 =>
      Pv (fldV 1 m_9) fun v72 =>
      Rv none (ld1R v72) fun v73 =>
      Pv (binIV .and v73 (Value.int .i64 2)) fun v74 =>
      Pv (binIV .neq v74 (Value.int .i64 0)) fun v75 =>
      Br v75
        (sh3_7 ω x2 p4 x8 x9 x10 m_9 (Value.int .i64 2) Kn0 K)
        (sh3_7 ω x2 p4 x8 x9 x10 m_9 v12 Kn0 K))
      (K p3))
    (K p3)
def sh3_1 (ω : Om) (p0 : Value) (p2 : Value) (p3 : Value) (p4 : Value) (K : Value → M) : M :=
  LoopM ((p2, (Value.int .i64 0), (Value.int .i64 (-1)), (Value.int .i64 0), ()) : Value × Value × Value × Value × Unit) fun s Kn0 =>
  sh3_4 ω p0 p3 p4 s.1 s.2.1 s.2.2.1 s.2.2.2.1 Kn0 K
def sh3_21 (ω : Om) (p0 : Value) (p3 : Value) (p4 : Value) (x2 : Value) (x5 : Value) (Kn0 : (Value × Value × Unit) → M) (K : Value → M) : M :=
  Pv (binIV .lss x5 (Value.int .i64 3)) fun v76 =>
  Br v76
    (BldS 3 1 #[(Value.int .i64 0)] 3 [(0, (Value.int .i64 1)), (1, (Value.int .i64 2)), (2, (Value.int .i64 3))] <| gh fun v77 =>
    Cal Try.prog ω 13 #[v77] <| gh fun v78 =>
    Pv (exV v78 0) fun v79 =>
    Pv (exV v78 1) fun v80 =>
    Pv (binIV .neq v80 (Value.int .i64 0)) fun v81 =>
    Gd v81 false
      (Pv (binPV .eql v79 (Value.pointer none)) fun v82 =>
      Br v82
        (K (Value.bool false))
        (Pv (ixPV 1 3 p4 x5) fun v83 =>
        Sto 1 v83 v79 <| gh fun _ =>
        Pv (binIV .add x5 (Value.int .i64 1)) fun v84 =>
        Kn0 (x2, v84, ())))
      (K (Value.bool false)))
    (sh3_1 ω p0 x2 p3 p4 K)
def sh3 (ω : Om) (a0 : Value) (K : Value → M) : M :=
  Cal Try.prog ω 12 #[] <| gh fun v1 =>
  New (.cells #[(Value.pointer none), (Value.pointer none), (Value.pointer none)] 25 (0, 0)) <| gh fun l_2 =>
  LoopM (((Value.bool false), (Value.int .i64 0), ()) : Value × Value × Unit) fun s Kn0 =>
  sh3_21 ω a0 v1 l_2 s.1 s.2.1 Kn0 K
theorem sh3_eq (ω : Om) (a0 : Value) (K : Value → M) : vcF Try.prog ω Try.f3 [a0] K = sh3 ω a0 K := by kernel_rfl
theorem cal3 {ω : Om} {a0 : Value} {K : Value → M} {I : Imm} {L : LH} (h : sh3 ω a0 (fun v => Gh (K v)) I L) : Cal Try.prog ω 3 #[a0] K I L :=
  Cal.gh (cal_of_vc mixed Try.func3 (by rw [sh3_eq]; exact h))

def sh4 (ω : Om) (a0 : Value) (a1 : Value) (a2 : Value) (K : Value → M) : M :=
  New (.cells (Value.cells a2) 43 (0, 0)) <| gh fun x_1 =>
  Cal Try.prog ω 12 #[] <| gh fun v2 =>
  Pv (fldV 6 x_1) fun v3 =>
  Rv none (ld1R v3) fun v4 =>
  Pv (bldV #[(Value.int .i64 0), (Value.int .i64 0), (Value.slice none 0 0)] #[(0, 1), (1, 1), (2, 1)] [(0, a0), (1, a1), (2, v4)]) fun v5 =>
  Pv (fldV 5 x_1) fun v6 =>
  Rv none (ld1R v6) fun v7 =>
  Pv (fldV 1 x_1) fun v8 =>
  Rv none (ld1R v8) fun v9 =>
  Cal Try.prog ω 19 #[v5, v7, v9] <| gh fun v10 =>
  Pv (exV v10 0) fun v11 =>
  Pv (exV v10 1) fun v12 =>
  Pv (fldV 6 x_1) fun v13 =>
  Rv none (ld1R v13) fun v14 =>
  Pv (fldV 5 x_1) fun v15 =>
  Rv none (ld1R v15) fun v16 =>
  Pv (fldV 1 x_1) fun v17 =>
  Rv none (ld1R v17) fun v18 =>
  Cal Try.prog ω 20 #[a0, a1, v14, v16, v18] <| gh fun v19 =>
  Pv (exV v19 0) fun v20 =>
  Pv (exV v19 1) fun v21 =>
  Pv (binIV .neq v12 v21) fun v22 =>
  Gd v22 false
    (Pv (binPV .eql v11 (Value.pointer none)) fun v23 =>
    Pv (binPV .eql v20 (Value.pointer none)) fun v24 =>
    Pv (binBV .neq v23 v24) fun v25 =>
    Br v25
      (K (Value.bool false))
      (Pv (binPV .eql v11 (Value.pointer none)) fun v26 =>
      Br v26
        (K v2)
        (Cal Try.prog ω 21 #[v11, v20] <| gh fun v27 =>
        Cal Try.prog ω 22 #[v11] <| gh fun v28 =>
        Cal Try.prog ω 23 #[v11, v28] <| gh fun v29 =>
        Cal Try.prog ω 24 #[v11] <| gh fun v30 =>
        New (.cells #[(Value.int .i64 0), (Value.int .i64 0), (Value.slice none 0 0)] 46 (0, 0)) <| gh fun p_31 =>
        Sto 3 p_31 v30 <| gh fun _ =>
        Pv (fldV 0 p_31) fun v32 =>
        Rv none (ld1R v32) fun v33 =>
        Pv (binIV .add v33 (Value.int .i64 1)) fun v34 =>
        Pv (fldV 5 x_1) fun v35 =>
        Rv none (ld1R v35) fun v36 =>
        Pv (lenV v36) fun v37 =>
        Pv (binIV .add v37 (Value.int .i64 1)) fun v38 =>
        Cal Try.prog ω 17 #[v11, v34, v38] <| gh fun v39 =>
        Rv none (ldNR 3 p_31) fun v40 =>
        Cal Try.prog ω 19 #[v40, v39, v28] <| gh fun v41 =>
        Pv (exV v41 0) fun v42 =>
        Pv (exV v41 1) fun v43 =>
        Pv (binIV .neq v29 (Value.int .i64 0)) fun v44 =>
        Gd v44 false
          (Pv (binIV .neq v43 (Value.int .i64 0)) fun v45 =>
          Gd v45 false
            (Pv (binPV .eql v42 (Value.pointer none)) fun v46 =>
            Br v46
              (K (Value.bool false))
              (Cal Try.prog ω 25 #[v20, v28] <| gh fun v47 =>
              Cal Try.prog ω 21 #[v42, v20] <| gh fun v48 =>
              Gd v2 true
                (Gd v27 true
                  (Pv (binIV .eql v47 (Value.int .i64 0)) fun v49 =>
                  Gd v49 true
                    (K v48)
                    (K (Value.bool false)))
                  (K (Value.bool false)))
                (K (Value.bool false))))
            (K (Value.bool false)))
          (K (Value.bool false)))))
    (K (Value.bool false))
theorem sh4_eq (ω : Om) (a0 a1 a2 : Value) (K : Value → M) : vcF Try.prog ω Try.f4 [a0, a1, a2] K = sh4 ω a0 a1 a2 K := by kernel_rfl
theorem cal4 {ω : Om} {a0 a1 a2 : Value} {K : Value → M} {I : Imm} {L : LH} (h : sh4 ω a0 a1 a2 (fun v => Gh (K v)) I L) : Cal Try.prog ω 4 #[a0, a1, a2] K I L :=
  Cal.gh (cal_of_vc mixed Try.func4 (by rw [sh4_eq]; exact h))

def sh5_4 (ω : Om) (p4 : Value) (p9 : Value) (Kn0 : (Value × Value × Unit) → M) (K : Value → M) : M :=
  Pv (binIV .add p9 (Value.int .i64 1)) fun v11 =>
  Kn0 (p4, v11, ())
def sh5_10 (ω : Om) (p4 : Value) (p16 : Value) (Kn1 : (Value × Value × Unit) → M) (K : Value → M) : M :=
  Pv (binIV .add p16 (Value.int .i64 1)) fun v36 =>
  Kn1 (p4, v36, ())
def sh5_9 (ω : Om) (p6 : Value) (p9 : Value) (p12 : Value) (p15 : Value) (x4 : Value) (x16 : Value) (Kn0 : (Value × Value × Unit) → M) (Kn1 : (Value × Value × Unit) → M) (K : Value → M) : M :=
  Pv (lenV p12) fun v34 =>
  Pv (binIV .lss x16 v34) fun v35 =>
  Br v35
    (Draw fun S =>
      Pv (ixV 4 p12 x16) fun v37 =>
      Pv (fldV 0 v37) fun v38 =>
      Rv (some S) (ld1R v38) fun v39 =>
      Pv (fldV 0 p15) fun v40 =>
      Rv (some S) (ld1R v40) fun v41 =>
      Pv (binIV .leq v39 v41) fun v42 =>
      Br v42
        (sh5_10 ω x4 x16 Kn1 K)
        (Pv (ixV 4 p12 x16) fun v43 =>
        Pv (fldV 0 v43) fun v44 =>
        Rv none (ld1R v44) fun v45 =>
        Cal Try.prog ω 29 #[p6, v45] <| gh fun v46 =>
        Pv (exV v46 0) fun v47 =>
        Pv (exV v46 1) fun v48 =>
        New (.cells #[(Value.int .i64 0), (Value.int .i64 0), (Value.int .i64 0), (Value.slice none 0 0)] 59 (0, 0)) <| gh fun e_49 =>
        Sto 4 e_49 v47 <| gh fun _ =>
        Draw fun S =>
          Rv (some S) (ldNR 4 e_49) fun v50 =>
          BldS 59 4 #[(Value.int .i64 0), (Value.int .i64 0), (Value.int .i64 0), (Value.slice none 0 0)] 1 [(0, v50)] <| gh fun v51 =>
          Pv (binIV .add x16 (Value.int .i64 1)) fun v52 =>
          Pv (slcV 4 p12 (some x16) (some v52) none) fun v53 =>
          Cal Try.prog ω 30 #[v51, v53] <| gh fun v54 =>
          Pv (binIV .neq v48 (Value.int .i64 0)) fun v55 =>
          Gd v55 false
            (Pv (unV .not v54) fun v56 =>
            Br v56
              (K (Value.bool false))
              (sh5_10 ω x4 x16 Kn1 K))
            (K (Value.bool false))))
    (sh5_4 ω x4 p9 Kn0 K)
def sh5_6 (ω : Om) (p4 : Value) (p6 : Value) (p9 : Value) (p10 : Value) (p11 : Value) (p12 : Value) (Kn0 : (Value × Value × Unit) → M) (K : Value → M) : M :=
  Cal Try.prog ω 22 #[p6] <| gh fun v25 =>
  Cal Try.prog ω 24 #[p6] <| gh fun v26 =>
  New (.cells #[(Value.int .i64 0), (Value.int .i64 0), (Value.slice none 0 0)] 46 (0, 0)) <| gh fun q_27 =>
  Sto 3 q_27 v26 <| gh fun _ =>
  Pv (binIV .lss v25 p10) fun v28 =>
  Gd v28 false
    (Pv (fldV 0 q_27) fun v29 =>
    Rv none (ld1R v29) fun v30 =>
    Pv (fldV 0 p11) fun v31 =>
    Rv none (ld1R v31) fun v32 =>
    Pv (binIV .lss v30 v32) fun v33 =>
    Br v33
      (K (Value.bool false))
      (LoopM ((p4, (Value.int .i64 0), ()) : Value × Value × Unit) fun s Kn1 =>
      sh5_9 ω p6 p9 p12 q_27 s.1 s.2.1 Kn0 Kn1 K))
    (K (Value.bool false))
def sh5_14 (ω : Om) (p4 : Value) (p6 : Value) (p9 : Value) (p10 : Value) (p11 : Value) (p12 : Value) (p13 : Value) (Kn0 : (Value × Value × Unit) → M) (K : Value → M) : M :=
  Pv (fldV 2 p13) fun v60 =>
  Rv none (ld1R v60) fun v61 =>
  Pv (fldV 3 p13) fun v62 =>
  Rv none (ld1R v62) fun v63 =>
  Pv (fldV 4 p13) fun v64 =>
  Rv none (ld1R v64) fun v65 =>
  Cal Try.prog ω 14 #[p6, v61, v63, v65] <| gh fun v66 =>
  sh5_6 ω p4 p6 p9 p10 p11 p12 Kn0 K
def sh5_15 (ω : Om) (p4 : Value) (p6 : Value) (p9 : Value) (p10 : Value) (p11 : Value) (p12 : Value) (p13 : Value) (p61 : Value) (Kn0 : (Value × Value × Unit) → M) (K : Value → M) : M :=
  Pv (binIV .eql p61 (Value.int .i64 1)) fun v67 =>
  Br v67
    (Pv (fldV 1 p13) fun v68 =>
    Rv none (ld1R v68) fun v69 =>
    Pv (fldV 2 p13) fun v70 =>
    Rv none (ld1R v70) fun v71 =>
    Pv (fldV 5 p13) fun v72 =>
    Rv none (ld1R v72) fun v73 =>
    Cal Try.prog ω 16 #[p6, v69, v71, v73] <| gh fun v74 =>
    sh5_6 ω p4 p6 p9 p10 p11 p12 Kn0 K)
    (Pv (binIV .eql p61 (Value.int .i64 2)) fun v75 =>
    Br v75
      (Pv (fldV 1 p13) fun v76 =>
      Rv none (ld1R v76) fun v77 =>
      Cal Try.prog ω 27 #[p6, v77] <| gh fun v78 =>
      sh5_6 ω p4 p6 p9 p10 p11 p12 Kn0 K)
      (Pv (binIV .eql p61 (Value.int .i64 3)) fun v79 =>
      Br v79
        (Pv (fldV 1 p13) fun v80 =>
        Rv none (ld1R v80) fun v81 =>
        Cal Try.prog ω 23 #[p6, v81] <| gh fun v82 =>
        sh5_6 ω p4 p6 p9 p10 p11 p12 Kn0 K)
        (Pv (binIV .eql p61 (Value.int .i64 4)) fun v83 =>
        Br v83
          (Pv (fldV 1 p13) fun v84 =>
          Rv none (ld1R v84) fun v85 =>
          Pv (fldV 2 p13) fun v86 =>
          Rv none (ld1R v86) fun v87 =>
          Pv (fldV 6 p13) fun v88 =>
          Rv none (ld1R v88) fun v89 =>
          Pv (bldV #[(Value.int .i64 0), (Value.int .i64 0), (Value.slice none 0 0)] #[(0, 1), (1, 1), (2, 1)] [(0, v85), (1, v87), (2, v89)]) fun v90 =>
          Cal Try.prog ω 28 #[p6, v90] <| gh fun v91 =>
          sh5_6 ω p4 p6 p9 p10 p11 p12 Kn0 K)
          (sh5_6 ω p4 p6 p9 p10 p11 p12 Kn0 K))))
def sh5_3 (ω : Om) (p1 : Value) (p5 : Value) (p6 : Value) (x4 : Value) (x9 : Value) (Kn0 : (Value × Value × Unit) → M) (K : Value → M) : M :=
  Pv (lenV p1) fun v8 =>
  Pv (binIV .lss x9 v8) fun v9 =>
  Gd v9 true
    (Pv (binIV .lss x9 (Value.int .i64 400)) fun v10 =>
    Br v10
      (Cal Try.prog ω 22 #[p6] <| gh fun v12 =>
      Cal Try.prog ω 24 #[p6] <| gh fun v13 =>
      New (.cells #[(Value.int .i64 0), (Value.int .i64 0), (Value.slice none 0 0)] 46 (0, 0)) <| gh fun p_14 =>
      Sto 3 p_14 v13 <| gh fun _ =>
      Pv (fldV 0 p_14) fun v15 =>
      Rv none (ld1R v15) fun v16 =>
      Pv (binIV .add v16 (Value.int .i64 1)) fun v17 =>
      Pv (fldV 0 p_14) fun v18 =>
      Rv none (ld1R v18) fun v19 =>
      Pv (binIV .sub v12 v19) fun v20 =>
      Cal Try.prog ω 17 #[p6, v17, v20] <| gh fun v21 =>
      Pv (ixV 7 p1 x9) fun v22 =>
      Rv none (ldNR 7 v22) fun v23 =>
      New (.cells #[(Value.int .i64 0), (Value.int .i64 0), (Value.int .i64 0), (Value.int .i64 0), (Value.slice none 0 0), (Value.slice none 0 0), (Value.slice none 0 0)] 43 (0, 0)) <| gh fun x_24 =>
      Sto 7 x_24 v23 <| gh fun _ =>
      Pv (fldV 0 x_24) fun v57 =>
      Rv none (ld1R v57) fun v58 =>
      Pv (binIV .eql v58 (Value.int .i64 0)) fun v59 =>
      Br v59
        (sh5_14 ω x4 p6 x9 v12 p_14 v21 x_24 Kn0 K)
        (sh5_15 ω x4 p6 x9 v12 p_14 v21 x_24 v58 Kn0 K))
      (K p5))
    (K p5)
def sh5 (ω : Om) (a0 : Value) (a1 : Value) (K : Value → M) : M :=
  Cal Try.prog ω 12 #[] <| gh fun v1 =>
  Cal Try.prog ω 13 #[a0] <| gh fun v2 =>
  Pv (exV v2 0) fun v3 =>
  Pv (exV v2 1) fun v4 =>
  Cal Try.prog ω 26 #[a0] <| gh fun v5 =>
  Pv (unV .not v5) fun v6 =>
  Br v6
    (K v1)
    (Pv (binPV .eql v3 (Value.pointer none)) fun v7 =>
    Br v7
      (K (Value.bool false))
      (LoopM (((Value.bool false), (Value.int .i64 0), ()) : Value × Value × Unit) fun s Kn0 =>
      sh5_3 ω a1 v1 v3 s.1 s.2.1 Kn0 K))
theorem sh5_eq (ω : Om) (a0 a1 : Value) (K : Value → M) : vcF Try.prog ω Try.f5 [a0, a1] K = sh5 ω a0 a1 K := by kernel_rfl
theorem cal5 {ω : Om} {a0 a1 : Value} {K : Value → M} {I : Imm} {L : LH} (h : sh5 ω a0 a1 (fun v => Gh (K v)) I L) : Cal Try.prog ω 5 #[a0, a1] K I L :=
  Cal.gh (cal_of_vc mixed Try.func5 (by rw [sh5_eq]; exact h))

def sh6_5 (ω : Om) (p1 : Value) (p5 : Value) (p6 : Value) (p8 : Value) (x4 : Value) (x10 : Value) (Kn0 : (Value × Value × Unit) → M) (K : Value → M) : M :=
  Pv (lenV p1) fun v13 =>
  Pv (binIV .lss x10 v13) fun v14 =>
  Gd v14 true
    (Pv (binIV .lss x10 (Value.int .i64 400)) fun v15 =>
    Br v15
      (Pv (ixV 7 p1 x10) fun v16 =>
      Rv none (ldNR 7 v16) fun v17 =>
      Cal Try.prog ω 32 #[p6, p8, v17] <| gh fun v18 =>
      Pv (unV .not v18) fun v19 =>
      Br v19
        (K (Value.bool false))
        (Cal Try.prog ω 21 #[p6, p8] <| gh fun v20 =>
        Pv (unV .not v20) fun v21 =>
        Br v21
          (K (Value.bool false))
          (Pv (binIV .add x10 (Value.int .i64 1)) fun v22 =>
          Kn0 (x4, v22, ()))))
      (K p5))
    (K p5)
def sh6 (ω : Om) (a0 : Value) (a1 : Value) (K : Value → M) : M :=
  Cal Try.prog ω 12 #[] <| gh fun v1 =>
  Cal Try.prog ω 13 #[a0] <| gh fun v2 =>
  Pv (exV v2 0) fun v3 =>
  Pv (exV v2 1) fun v4 =>
  Cal Try.prog ω 31 #[a0] <| gh fun v5 =>
  Pv (exV v5 0) fun v6 =>
  Pv (exV v5 1) fun v7 =>
  Pv (binIV .neq v4 v7) fun v8 =>
  Gd v8 false
    (Pv (binPV .eql v3 (Value.pointer none)) fun v9 =>
    Pv (binPV .eql v6 (Value.pointer none)) fun v10 =>
    Pv (binBV .neq v9 v10) fun v11 =>
    Br v11
      (K (Value.bool false))
      (Pv (binPV .eql v3 (Value.pointer none)) fun v12 =>
      Br v12
        (K v1)
        (LoopM (((Value.bool false), (Value.int .i64 0), ()) : Value × Value × Unit) fun s Kn0 =>
        sh6_5 ω a1 v1 v3 v6 s.1 s.2.1 Kn0 K)))
    (K (Value.bool false))
theorem sh6_eq (ω : Om) (a0 a1 : Value) (K : Value → M) : vcF Try.prog ω Try.f6 [a0, a1] K = sh6 ω a0 a1 K := by kernel_rfl
theorem cal6 {ω : Om} {a0 a1 : Value} {K : Value → M} {I : Imm} {L : LH} (h : sh6 ω a0 a1 (fun v => Gh (K v)) I L) : Cal Try.prog ω 6 #[a0, a1] K I L :=
  Cal.gh (cal_of_vc mixed Try.func6 (by rw [sh6_eq]; exact h))

def sh7_2 (ω : Om) (p6 : Value) (p7 : Value) (p8 : Value) (p10 : Value) (p14 : Value) (p15 : Value) (K : Value → M) : M :=
  Cal Try.prog ω 21 #[p8, p10] <| gh fun v13 =>
  Cal Try.prog ω 21 #[p14, p15] <| gh fun v14 =>
  Gd p7 true
    (Gd v13 true
      (K v14)
      (K (Value.bool false)))
    (K (Value.bool false))
def sh7_4 (ω : Om) (p2 : Value) (p7 : Value) (p8 : Value) (p10 : Value) (p14 : Value) (p15 : Value) (x6 : Value) (x16 : Value) (Kn0 : (Value × Value × Unit) → M) (K : Value → M) : M :=
  Pv (lenV p2) fun v15 =>
  Pv (binIV .lss x16 v15) fun v16 =>
  Gd v16 true
    (Pv (binIV .lss x16 (Value.int .i64 100)) fun v17 =>
    Br v17
      (Pv (ixV 7 p2 x16) fun v18 =>
      Rv none (ldNR 7 v18) fun v19 =>
      Cal Try.prog ω 32 #[p14, p15, v19] <| gh fun v20 =>
      Pv (unV .not v20) fun v21 =>
      Br v21
        (K (Value.bool false))
        (Pv (binIV .add x16 (Value.int .i64 1)) fun v22 =>
        Kn0 (x6, v22, ())))
      (sh7_2 ω x6 p7 p8 p10 p14 p15 K))
    (sh7_2 ω x6 p7 p8 p10 p14 p15 K)
def sh7_1 (ω : Om) (p2 : Value) (p6 : Value) (p7 : Value) (p8 : Value) (p10 : Value) (K : Value → M) : M :=
  Cal Try.prog ω 33 #[p8] <| gh fun v10 =>
  Cal Try.prog ω 34 #[p10] <| gh fun v11 =>
  Pv (binPV .eql v10 (Value.pointer none)) fun v12 =>
  Br v12
    (K (Value.bool false))
    (LoopM ((p6, (Value.int .i64 0), ()) : Value × Value × Unit) fun s Kn0 =>
    sh7_4 ω p2 p7 p8 p10 v10 v11 s.1 s.2.1 Kn0 K)
def sh7_7 (ω : Om) (p1 : Value) (p2 : Value) (p7 : Value) (p8 : Value) (p10 : Value) (x6 : Value) (x12 : Value) (Kn0 : (Value × Value × Unit) → M) (K : Value → M) : M :=
  Pv (lenV p1) fun v23 =>
  Pv (binIV .lss x12 v23) fun v24 =>
  Gd v24 true
    (Pv (binIV .lss x12 (Value.int .i64 100)) fun v25 =>
    Br v25
      (Pv (ixV 7 p1 x12) fun v26 =>
      Rv none (ldNR 7 v26) fun v27 =>
      Cal Try.prog ω 32 #[p8, p10, v27] <| gh fun v28 =>
      Pv (unV .not v28) fun v29 =>
      Br v29
        (K (Value.bool false))
        (Pv (binIV .add x12 (Value.int .i64 1)) fun v30 =>
        Kn0 (x6, v30, ())))
      (sh7_1 ω p2 x6 p7 p8 p10 K))
    (sh7_1 ω p2 x6 p7 p8 p10 K)
def sh7 (ω : Om) (a0 : Value) (a1 : Value) (a2 : Value) (K : Value → M) : M :=
  Cal Try.prog ω 12 #[] <| gh fun v1 =>
  Cal Try.prog ω 13 #[a0] <| gh fun v2 =>
  Pv (exV v2 0) fun v3 =>
  Pv (exV v2 1) fun v4 =>
  Cal Try.prog ω 31 #[a0] <| gh fun v5 =>
  Pv (exV v5 0) fun v6 =>
  Pv (exV v5 1) fun v7 =>
  Pv (binIV .neq v7 (Value.int .i64 0)) fun v8 =>
  Br v8
    (K v1)
    (Pv (binPV .eql v3 (Value.pointer none)) fun v9 =>
    Br v9
      (K (Value.bool false))
      (LoopM (((Value.bool false), (Value.int .i64 0), ()) : Value × Value × Unit) fun s Kn0 =>
      sh7_7 ω a1 a2 v1 v3 v6 s.1 s.2.1 Kn0 K))
theorem sh7_eq (ω : Om) (a0 a1 a2 : Value) (K : Value → M) : vcF Try.prog ω Try.f7 [a0, a1, a2] K = sh7 ω a0 a1 a2 K := by kernel_rfl
theorem cal7 {ω : Om} {a0 a1 a2 : Value} {K : Value → M} {I : Imm} {L : LH} (h : sh7 ω a0 a1 a2 (fun v => Gh (K v)) I L) : Cal Try.prog ω 7 #[a0, a1, a2] K I L :=
  Cal.gh (cal_of_vc mixed Try.func7 (by rw [sh7_eq]; exact h))

def sh8_4 (ω : Om) (p4 : Value) (p6 : Value) (p9 : Value) (p11 : Value) (p12 : Value) (Kn0 : (Value × Value × Value × Unit) → M) (K : Value → M) : M :=
  Cal Try.prog ω 37 #[p6] <| gh fun v18 =>
  Cal Try.prog ω 38 #[p6] <| gh fun v19 =>
  Pv (binIV .lss v18 p11) fun v20 =>
  Gd v20 false
    (Pv (binIV .eql v18 p11) fun v21 =>
    Gd v21 true
      (Pv (binIV .neq p12 (Value.int .i64 0)) fun v22 =>
      Gd v22 true
        (Pv (binIV .neq v19 p12) fun v23 =>
        Br v23
          (K (Value.bool false))
          (Pv (binIV .add p9 (Value.int .i64 1)) fun v24 =>
          Kn0 (p4, p6, v24, ())))
        (Pv (binIV .add p9 (Value.int .i64 1)) fun v25 =>
        Kn0 (p4, p6, v25, ())))
      (Pv (binIV .add p9 (Value.int .i64 1)) fun v26 =>
      Kn0 (p4, p6, v26, ())))
    (K (Value.bool false))
def sh8_7 (ω : Om) (p4 : Value) (p6 : Value) (p9 : Value) (p10 : Value) (p11 : Value) (p12 : Value) (Kn0 : (Value × Value × Value × Unit) → M) (K : Value → M) : M :=
  Pv (fldV 1 p10) fun v30 =>
  Rv none (ld1R v30) fun v31 =>
  Cal Try.prog ω 39 #[p6, v31] <| gh fun v32 =>
  sh8_4 ω p4 p6 p9 p11 p12 Kn0 K
def sh8_8 (ω : Om) (p2 : Value) (p4 : Value) (p6 : Value) (p9 : Value) (p10 : Value) (p11 : Value) (p12 : Value) (p48 : Value) (Kn0 : (Value × Value × Value × Unit) → M) (K : Value → M) : M :=
  Pv (binIV .eql p48 (Value.int .i64 1)) fun v33 =>
  Br v33
    (Pv (fldV 2 p10) fun v34 =>
    Rv none (ldNR 12 v34) fun v35 =>
    Cal Try.prog ω 40 #[p6, v35] <| gh fun v36 =>
    sh8_4 ω p4 p6 p9 p11 p12 Kn0 K)
    (Pv (binIV .eql p48 (Value.int .i64 2)) fun v37 =>
    Br v37
      (Pv (fldV 14 p10) fun v38 =>
      Rv none (ld1R v38) fun v39 =>
      Cal Try.prog ω 41 #[p6, v39] <| gh fun v40 =>
      sh8_4 ω p4 p6 p9 p11 p12 Kn0 K)
      (Pv (binIV .eql p48 (Value.int .i64 3)) fun v41 =>
      Br v41
        (Pv (fldV 15 p10) fun v42 =>
        Rv none (ld1R v42) fun v43 =>
        Cal Try.prog ω 42 #[p6, v43] <| gh fun v44 =>
        sh8_4 ω p4 p6 p9 p11 p12 Kn0 K)
        (Pv (binIV .eql p48 (Value.int .i64 4)) fun v45 =>
        Br v45
          (Pv (fldV 1 p10) fun v46 =>
          Rv none (ld1R v46) fun v47 =>
          Pv (fldV 14 p10) fun v48 =>
          Rv none (ld1R v48) fun v49 =>
          Cal Try.prog ω 43 #[p6, v47, v49] <| gh fun v50 =>
          sh8_4 ω p4 p6 p9 p11 p12 Kn0 K)
          (Pv (binIV .eql p48 (Value.int .i64 5)) fun v51 =>
          Br v51
            (Draw fun S =>
              Pv (fldV 0 p2) fun v52 =>
              Rv (some S) (ld1R v52) fun v53 =>
              Pv (fldV 1 p2) fun v54 =>
              Rv (some S) (ld1R v54) fun v55 =>
              Cal Try.prog ω 45 #[p6] <| gh <| Keep S fun v56 =>
              Cal Try.prog ω 46 #[p6] <| gh <| Keep S fun v57 =>
              Cal Try.prog ω 44 #[v53, v55, p11, p12, v56, v57] <| gh fun v58 =>
              Pv (exV v58 0) fun v59 =>
              Pv (exV v58 1) fun v60 =>
              Pv (binIV .neq v60 (Value.int .i64 0)) fun v61 =>
              Gd v61 false
                (Pv (binPV .eql v59 (Value.pointer none)) fun v62 =>
                Br v62
                  (K (Value.bool false))
                  (sh8_4 ω p4 v59 p9 p11 p12 Kn0 K))
                (K (Value.bool false)))
            (sh8_4 ω p4 p6 p9 p11 p12 Kn0 K)))))
def sh8_3 (ω : Om) (p1 : Value) (p2 : Value) (p5 : Value) (x4 : Value) (x6 : Value) (x9 : Value) (Kn0 : (Value × Value × Value × Unit) → M) (K : Value → M) : M :=
  Pv (lenV p1) fun v10 =>
  Pv (binIV .lss x9 v10) fun v11 =>
  Gd v11 true
    (Pv (binIV .lss x9 (Value.int .i64 200)) fun v12 =>
    Br v12
      (Pv (ixV 16 p1 x9) fun v13 =>
      Rv none (ldNR 16 v13) fun v14 =>
      New (.cells #[(Value.int .i64 0), (Value.int .i64 0), (Value.int .i64 0), (Value.int .i64 0), (Value.int .i64 0), (Value.int .i64 0), (Value.int .i64 0), (Value.int .i64 0), (Value.int .i64 0), (Value.int .i64 0), (Value.bool false), (Value.slice none 0 0), (Value.slice none 0 0), (Value.slice none 0 0), (Value.slice none 0 0), (Value.slice none 0 0)] 79 (0, 0)) <| gh fun y_15 =>
      Sto 16 y_15 v14 <| gh fun _ =>
      Cal Try.prog ω 37 #[x6] <| gh fun v16 =>
      Cal Try.prog ω 38 #[x6] <| gh fun v17 =>
      Pv (fldV 0 y_15) fun v27 =>
      Rv none (ld1R v27) fun v28 =>
      Pv (binIV .eql v28 (Value.int .i64 0)) fun v29 =>
      Br v29
        (sh8_7 ω x4 x6 x9 y_15 v16 v17 Kn0 K)
        (sh8_8 ω p2 x4 x6 x9 y_15 v16 v17 v28 Kn0 K))
      (K p5))
    (K p5)
def sh8 (ω : Om) (a0 : Value) (a1 : Value) (K : Value → M) : M :=
  New (.cells (Value.cells a0) 70 (0, 0)) <| gh fun s_1 =>
  Cal Try.prog ω 35 #[] <| gh fun v2 =>
  Rv none (ldNR 10 s_1) fun v3 =>
  Cal Try.prog ω 36 #[v3] <| gh fun v4 =>
  Pv (exV v4 0) fun v5 =>
  Pv (exV v4 1) fun v6 =>
  Pv (exV v4 2) fun v7 =>
  Pv (unV .not v7) fun v8 =>
  Br v8
    (K (Value.bool false))
    (Pv (binPV .eql v5 (Value.pointer none)) fun v9 =>
    Br v9
      (K v2)
      (LoopM (((Value.bool false), v5, (Value.int .i64 0), ()) : Value × Value × Value × Unit) fun s Kn0 =>
      sh8_3 ω a1 s_1 v2 s.1 s.2.1 s.2.2.1 Kn0 K))
theorem sh8_eq (ω : Om) (a0 a1 : Value) (K : Value → M) : vcF Try.prog ω Try.f8 [a0, a1] K = sh8 ω a0 a1 K := by kernel_rfl
theorem cal8 {ω : Om} {a0 a1 : Value} {K : Value → M} {I : Imm} {L : LH} (h : sh8 ω a0 a1 (fun v => Gh (K v)) I L) : Cal Try.prog ω 8 #[a0, a1] K I L :=
  Cal.gh (cal_of_vc mixed Try.func8 (by rw [sh8_eq]; exact h))

def sh9_5 (ω : Om) (p2 : Value) (p5 : Value) (Kn0 : (Value × Value × Unit) → M) (K : Value → M) : M :=
  Pv (binIV .add p5 (Value.int .i64 1)) fun v8 =>
  Kn0 (p2, v8, ())
def sh9_4 (ω : Om) (p0 : Value) (p4 : Value) (x2 : Value) (x5 : Value) (Kn0 : (Value × Value × Unit) → M) (K : Value → M) : M :=
  Pv (lenV p0) fun v5 =>
  Pv (binIV .lss x5 v5) fun v6 =>
  Gd v6 true
    (Pv (binIV .lss x5 (Value.int .i64 500)) fun v7 =>
    Br v7
      (Pv (ixV 3 p0 x5) fun v9 =>
      Rv none (ldNR 3 v9) fun v10 =>
      Cal Try.prog ω 48 #[p4, v10] <| gh fun v11 =>
      Pv (binIV .eql v11 (Value.int .i64 0)) fun v12 =>
      Br v12
        (sh9_5 ω x2 x5 Kn0 K)
        (Cal Try.prog ω 49 #[p4, v11] <| gh fun v13 =>
        Pv (unV .not v13) fun v14 =>
        Br v14
          (K (Value.bool false))
          (sh9_5 ω x2 x5 Kn0 K)))
      (K (Value.bool true)))
    (K (Value.bool true))
def sh9 (ω : Om) (a0 : Value) (K : Value → M) : M :=
  Cal Try.prog ω 35 #[] <| gh fun v1 =>
  Cal Try.prog ω 47 #[] <| gh fun v2 =>
  Pv (unV .not v1) fun v3 =>
  Gd v3 false
    (Pv (binPV .eql v2 (Value.pointer none)) fun v4 =>
    Br v4
      (K (Value.bool false))
      (LoopM (((Value.bool false), (Value.int .i64 0), ()) : Value × Value × Unit) fun s Kn0 =>
      sh9_4 ω a0 v2 s.1 s.2.1 Kn0 K))
    (K (Value.bool false))
theorem sh9_eq (ω : Om) (a0 : Value) (K : Value → M) : vcF Try.prog ω Try.f9 [a0] K = sh9 ω a0 K := by kernel_rfl
theorem cal9 {ω : Om} {a0 : Value} {K : Value → M} {I : Imm} {L : LH} (h : sh9 ω a0 (fun v => Gh (K v)) I L) : Cal Try.prog ω 9 #[a0] K I L :=
  Cal.gh (cal_of_vc mixed Try.func9 (by rw [sh9_eq]; exact h))

def sh10_8 (ω : Om) (p4 : Value) (p16 : Value) (Kn0 : (Value × Value × Unit) → M) (K : Value → M) : M :=
  Pv (binIV .add p16 (Value.int .i64 1)) fun v28 =>
  Kn0 (p4, v28, ())
def sh10_11 (ω : Om) (p1 : Value) (p10 : Value) (p16 : Value) (p17 : Value) (x4 : Value) (x19 : Value) (Kn0 : (Value × Value × Unit) → M) (Kn1 : (Value × Value × Unit) → M) (K : Value → M) : M :=
  Pv (binIV .lss x19 p10) fun v38 =>
  Br v38
    (Pv (binIV .add x19 (Value.int .i64 2)) fun v39 =>
    Cal Try.prog ω 29 #[p17, v39] <| gh fun v40 =>
    Pv (exV v40 0) fun v41 =>
    Pv (exV v40 1) fun v42 =>
    New (.cells #[(Value.int .i64 0), (Value.int .i64 0), (Value.int .i64 0), (Value.slice none 0 0)] 59 (0, 0)) <| gh fun e_43 =>
    Sto 4 e_43 v41 <| gh fun _ =>
    Draw fun S =>
      Pv (binIV .neq v42 (Value.int .i64 0)) fun v44 =>
      Gd v44 false
        (Pv (fldV 2 e_43) fun v45 =>
        Rv (some S) (ld1R v45) fun v46 =>
        Pv (binIV .neq v46 (Value.int .i64 2)) fun v47 =>
        Gd v47 false
          (Pv (fldV 3 e_43) fun v48 =>
          Rv (some S) (ld1R v48) fun v49 =>
          Pv (lenV v49) fun v50 =>
          Pv (binIV .neq v50 (Value.int .i64 1)) fun v51 =>
          Gd v51 false
            (Pv (fldV 3 e_43) fun v52 =>
            Rv (some S) (ld1R v52) fun v53 =>
            Pv (ixV 1 v53 (Value.int .i64 0)) fun v54 =>
            Rv (some S) (ld1R v54) fun v55 =>
            Pv (ixV 1 p1 x19) fun v56 =>
            Rv (some S) (ld1R v56) fun v57 =>
            Pv (binIV .neq v55 v57) fun v58 =>
            Br v58
              (K (Value.bool false))
              (Pv (binIV .add x19 (Value.int .i64 1)) fun v59 =>
              Kn1 (x4, v59, ())))
            (K (Value.bool false)))
          (K (Value.bool false)))
        (K (Value.bool false)))
    (sh10_8 ω x4 p16 Kn0 K)
def sh10_7 (ω : Om) (p1 : Value) (p6 : Value) (p10 : Value) (x4 : Value) (x16 : Value) (Kn0 : (Value × Value × Unit) → M) (K : Value → M) : M :=
  Pv (binIV .leq x16 (Value.int .i64 3)) fun v27 =>
  Br v27
    (Pv (nilV p6) fun v29 =>
    Pv (fldV 0 v29) fun v30 =>
    Pv (ixPV 1 6 v30 x16) fun v31 =>
    Rv none (ld1R v31) fun v32 =>
    Cal Try.prog ω 45 #[v32] <| gh fun v33 =>
    Pv (binPV .eql v33 (Value.pointer none)) fun v34 =>
    Br v34
      (K (Value.bool false))
      (Cal Try.prog ω 22 #[v33] <| gh fun v35 =>
      Pv (binIV .add p10 (Value.int .i64 1)) fun v36 =>
      Pv (binIV .neq v35 v36) fun v37 =>
      Br v37
        (K (Value.bool false))
        (LoopM ((x4, (Value.int .i64 0), ()) : Value × Value × Unit) fun s Kn1 =>
        sh10_11 ω p1 p10 x16 v33 s.1 s.2.1 Kn0 Kn1 K)))
    (K (Value.bool true))
def sh10_4 (ω : Om) (p1 : Value) (p4 : Value) (p6 : Value) (p7 : Value) (p10 : Value) (K : Value → M) : M :=
  Pv (nilV p6) fun v18 =>
  Pv (fldV 6 v18) fun v19 =>
  Rv none (ld1R v19) fun v20 =>
  Pv (lenV v20) fun v21 =>
  Pv (binIV .sub p7 (Value.int .i64 1)) fun v22 =>
  Pv (bldV #[(Value.int .i64 0), (Value.int .i64 0), (Value.int .i64 0)] #[(0, 1), (1, 1), (2, 1)] [(0, (Value.int .i64 0)), (1, v22)]) fun v23 =>
  Cal Try.prog ω 48 #[p6, v23] <| gh fun v24 =>
  Cal Try.prog ω 50 #[p6, v21, (Value.int .i64 100)] <| gh fun v25 =>
  Pv (unV .not v25) fun v26 =>
  Br v26
    (K (Value.bool false))
    (LoopM ((p4, (Value.int .i64 1), ()) : Value × Value × Unit) fun s Kn0 =>
    sh10_7 ω p1 p6 p10 s.1 s.2.1 Kn0 K)
def sh10_14 (ω : Om) (p1 : Value) (p6 : Value) (p7 : Value) (x4 : Value) (x10 : Value) (x11 : Value) (Kn0 : (Value × Value × Value × Unit) → M) (K : Value → M) : M :=
  Pv (lenV p1) fun v60 =>
  Pv (binIV .lss x11 v60) fun v61 =>
  Gd v61 true
    (Pv (binIV .lss x11 (Value.int .i64 20)) fun v62 =>
    Br v62
      (Pv (nilV p6) fun v63 =>
      Pv (fldV 6 v63) fun v64 =>
      Rv none (ld1R v64) fun v65 =>
      Pv (lenV v65) fun v66 =>
      Pv (binIV .sub p7 (Value.int .i64 1)) fun v67 =>
      Pv (ixV 1 p1 x11) fun v68 =>
      Rv none (ld1R v68) fun v69 =>
      Pv (cvIV .i64 v69) fun v70 =>
      Pv (bldV #[(Value.int .i64 0), (Value.int .i64 0), (Value.int .i64 0)] #[(0, 1), (1, 1), (2, 1)] [(0, (Value.int .i64 2)), (1, v67), (2, v70)]) fun v71 =>
      Cal Try.prog ω 48 #[p6, v71] <| gh fun v72 =>
      Cal Try.prog ω 50 #[p6, v66, (Value.int .i64 100)] <| gh fun v73 =>
      Pv (unV .not v73) fun v74 =>
      Br v74
        (K (Value.bool false))
        (Pv (binIV .add x10 (Value.int .i64 1)) fun v75 =>
        Pv (binIV .add x11 (Value.int .i64 1)) fun v76 =>
        Kn0 (x4, v75, v76, ())))
      (sh10_4 ω p1 x4 p6 p7 x10 K))
    (sh10_4 ω p1 x4 p6 p7 x10 K)
def sh10_2 (ω : Om) (p1 : Value) (p4 : Value) (p6 : Value) (p7 : Value) (K : Value → M) : M :=
  Pv (binIV .sub p7 (Value.int .i64 1)) fun v7 =>
  Pv (bldV #[(Value.int .i64 0), (Value.int .i64 0), (Value.int .i64 0)] #[(0, 1), (1, 1), (2, 1)] [(0, (Value.int .i64 0)), (1, v7), (2, (Value.int .i64 1))]) fun v8 =>
  Cal Try.prog ω 48 #[p6, v8] <| gh fun v9 =>
  Cal Try.prog ω 50 #[p6, (Value.int .i64 0), (Value.int .i64 100)] <| gh fun v10 =>
  Pv (nilV p6) fun v11 =>
  Pv (fldV 0 v11) fun v12 =>
  Pv (ixPV 1 6 v12 p7) fun v13 =>
  Rv none (ld1R v13) fun v14 =>
  Cal Try.prog ω 51 #[v14] <| gh fun v15 =>
  Pv (unV .not v10) fun v16 =>
  Gd v16 false
    (Pv (binIV .neq v15 (Value.int .i64 3)) fun v17 =>
    Br v17
      (K (Value.bool false))
      (LoopM ((p4, (Value.int .i64 0), (Value.int .i64 0), ()) : Value × Value × Value × Unit) fun s Kn0 =>
      sh10_14 ω p1 p6 p7 s.1 s.2.1 s.2.2.1 Kn0 K))
    (K (Value.bool false))
def sh10 (ω : Om) (a0 : Value) (a1 : Value) (K : Value → M) : M :=
  Cal Try.prog ω 35 #[] <| gh fun v1 =>
  Cal Try.prog ω 47 #[] <| gh fun v2 =>
  Pv (unV .not v1) fun v3 =>
  Gd v3 false
    (Pv (binPV .eql v2 (Value.pointer none)) fun v4 =>
    Br v4
      (K (Value.bool false))
      (Pv (binIV .rem a0 (Value.int .i64 3)) fun v5 =>
      Pv (binIV .add (Value.int .i64 1) v5) fun v6 =>
      Pv (binIV .lss v6 (Value.int .i64 1)) fun v77 =>
      Br v77
        (sh10_2 ω a1 (Value.bool false) v2 (Value.int .i64 1) K)
        (sh10_2 ω a1 (Value.bool false) v2 v6 K)))
    (K (Value.bool false))
theorem sh10_eq (ω : Om) (a0 a1 : Value) (K : Value → M) : vcF Try.prog ω Try.f10 [a0, a1] K = sh10 ω a0 a1 K := by kernel_rfl
theorem cal10 {ω : Om} {a0 a1 : Value} {K : Value → M} {I : Imm} {L : LH} (h : sh10 ω a0 a1 (fun v => Gh (K v)) I L) : Cal Try.prog ω 10 #[a0, a1] K I L :=
  Cal.gh (cal_of_vc mixed Try.func10 (by rw [sh10_eq]; exact h))

def sh11_3 (ω : Om) (p2 : Value) (p4 : Value) (K : Value → M) : M :=
  Pv (nilV p4) fun v9 =>
  Pv (fldV 6 v9) fun v10 =>
  Rv none (ld1R v10) fun v11 =>
  Pv (lenV v11) fun v12 =>
  Pv (bldV #[(Value.int .i64 0), (Value.int .i64 0), (Value.int .i64 0)] #[(0, 1), (1, 1), (2, 1)] [(0, (Value.int .i64 4))]) fun v13 =>
  Cal Try.prog ω 48 #[p4, v13] <| gh fun v14 =>
  Pv (bldV #[(Value.int .i64 0), (Value.int .i64 0), (Value.int .i64 0)] #[(0, 1), (1, 1), (2, 1)] [(0, (Value.int .i64 3)), (2, (Value.int .i64 4))]) fun v15 =>
  Cal Try.prog ω 48 #[p4, v15] <| gh fun v16 =>
  Cal Try.prog ω 50 #[p4, v12, (Value.int .i64 200)] <| gh fun v17 =>
  Pv (nilV p4) fun v18 =>
  Pv (fldV 6 v18) fun v19 =>
  Rv none (ld1R v19) fun v20 =>
  Pv (lenV v20) fun v21 =>
  Pv (bldV #[(Value.int .i64 0), (Value.int .i64 0), (Value.int .i64 0)] #[(0, 1), (1, 1), (2, 1)] [(0, (Value.int .i64 0))]) fun v22 =>
  Cal Try.prog ω 48 #[p4, v22] <| gh fun v23 =>
  Cal Try.prog ω 50 #[p4, v21, (Value.int .i64 200)] <| gh fun v24 =>
  Pv (nilV p4) fun v25 =>
  Pv (fldV 0 v25) fun v26 =>
  Pv (ixPV 1 6 v26 (Value.int .i64 1)) fun v27 =>
  Rv none (ld1R v27) fun v28 =>
  Cal Try.prog ω 45 #[v28] <| gh fun v29 =>
  Pv (nilV p4) fun v30 =>
  Pv (fldV 0 v30) fun v31 =>
  Pv (ixPV 1 6 v31 (Value.int .i64 4)) fun v32 =>
  Rv none (ld1R v32) fun v33 =>
  Cal Try.prog ω 45 #[v33] <| gh fun v34 =>
  Pv (unV .not v17) fun v35 =>
  Gd v35 false
    (Pv (unV .not v24) fun v36 =>
    Gd v36 false
      (Pv (binPV .eql v29 (Value.pointer none)) fun v37 =>
      Gd v37 false
        (Pv (binPV .eql v34 (Value.pointer none)) fun v38 =>
        Br v38
          (K (Value.bool false))
          (Cal Try.prog ω 52 #[v34] <| gh fun v39 =>
          BldS 3 1 #[(Value.int .i64 0)] 4 [(0, (Value.int .i64 1)), (1, (Value.int .i64 2)), (2, (Value.int .i64 3)), (3, (Value.int .i64 4))] <| gh fun v40 =>
          Cal Try.prog ω 53 #[v39, v40] <| gh fun v41 =>
          Cal Try.prog ω 22 #[v29] <| gh fun v42 =>
          Cal Try.prog ω 22 #[v34] <| gh fun v43 =>
          Cal Try.prog ω 24 #[v29] <| gh fun v44 =>
          New (.cells #[(Value.int .i64 0), (Value.int .i64 0), (Value.slice none 0 0)] 46 (0, 0)) <| gh fun p_45 =>
          Sto 3 p_45 v44 <| gh fun _ =>
          Pv (nilV p4) fun v46 =>
          Pv (fldV 0 v46) fun v47 =>
          Pv (ixPV 1 6 v47 (Value.int .i64 4)) fun v48 =>
          Rv none (ld1R v48) fun v49 =>
          Cal Try.prog ω 46 #[v49] <| gh fun v50 =>
          Draw fun S =>
            Gd v41 true
              (Pv (binIV .eql v42 v43) fun v51 =>
              Gd v51 true
                (Pv (fldV 0 p_45) fun v52 =>
                Rv (some S) (ld1R v52) fun v53 =>
                Pv (binIV .add v53 (Value.int .i64 1)) fun v54 =>
                Pv (binIV .eql v42 v54) fun v55 =>
                Gd v55 true
                  (Pv (lenV v50) fun v56 =>
                  Pv (binIV .eql v56 (Value.int .i64 1)) fun v57 =>
                  Gd v57 true
                    (Pv (ixV 1 v50 (Value.int .i64 0)) fun v58 =>
                    Rv (some S) (ld1R v58) fun v59 =>
                    Pv (fldV 0 p_45) fun v60 =>
                    Rv (some S) (ld1R v60) fun v61 =>
                    Pv (cvIV .u8 v61) fun v62 =>
                    Pv (binIV .eql v59 v62) fun v63 =>
                    K v63)
                    (K (Value.bool false)))
                  (K (Value.bool false)))
                (K (Value.bool false)))
              (K (Value.bool false))))
        (K (Value.bool false)))
      (K (Value.bool false)))
    (K (Value.bool false))
def sh11_6 (ω : Om) (p0 : Value) (p4 : Value) (x2 : Value) (x6 : Value) (Kn0 : (Value × Value × Unit) → M) (K : Value → M) : M :=
  Pv (lenV p0) fun v64 =>
  Pv (binIV .lss x6 v64) fun v65 =>
  Gd v65 true
    (Pv (binIV .lss x6 (Value.int .i64 20)) fun v66 =>
    Br v66
      (Pv (nilV p4) fun v67 =>
      Pv (fldV 6 v67) fun v68 =>
      Rv none (ld1R v68) fun v69 =>
      Pv (lenV v69) fun v70 =>
      Pv (ixV 1 p0 x6) fun v71 =>
      Rv none (ld1R v71) fun v72 =>
      Pv (cvIV .i64 v72) fun v73 =>
      Pv (bldV #[(Value.int .i64 0), (Value.int .i64 0), (Value.int .i64 0)] #[(0, 1), (1, 1), (2, 1)] [(0, (Value.int .i64 2)), (2, v73)]) fun v74 =>
      Cal Try.prog ω 48 #[p4, v74] <| gh fun v75 =>
      Cal Try.prog ω 50 #[p4, v70, (Value.int .i64 100)] <| gh fun v76 =>
      Pv (unV .not v76) fun v77 =>
      Br v77
        (K (Value.bool false))
        (Pv (binIV .add x6 (Value.int .i64 1)) fun v78 =>
        Kn0 (x2, v78, ())))
      (sh11_3 ω x2 p4 K))
    (sh11_3 ω x2 p4 K)
def sh11 (ω : Om) (a0 : Value) (K : Value → M) : M :=
  Cal Try.prog ω 35 #[] <| gh fun v1 =>
  Cal Try.prog ω 47 #[] <| gh fun v2 =>
  Pv (unV .not v1) fun v3 =>
  Gd v3 false
    (Pv (binPV .eql v2 (Value.pointer none)) fun v4 =>
    Br v4
      (K (Value.bool false))
      (Pv (bldV #[(Value.int .i64 0), (Value.int .i64 0), (Value.int .i64 0)] #[(0, 1), (1, 1), (2, 1)] [(0, (Value.int .i64 0)), (2, (Value.int .i64 1))]) fun v5 =>
      Cal Try.prog ω 48 #[v2, v5] <| gh fun v6 =>
      Cal Try.prog ω 50 #[v2, (Value.int .i64 0), (Value.int .i64 100)] <| gh fun v7 =>
      Pv (unV .not v7) fun v8 =>
      Br v8
        (K (Value.bool false))
        (LoopM (((Value.bool false), (Value.int .i64 0), ()) : Value × Value × Unit) fun s Kn0 =>
        sh11_6 ω a0 v2 s.1 s.2.1 Kn0 K)))
    (K (Value.bool false))
theorem sh11_eq (ω : Om) (a0 : Value) (K : Value → M) : vcF Try.prog ω Try.f11 [a0] K = sh11 ω a0 K := by kernel_rfl
theorem cal11 {ω : Om} {a0 : Value} {K : Value → M} {I : Imm} {L : LH} (h : sh11 ω a0 (fun v => Gh (K v)) I L) : Cal Try.prog ω 11 #[a0] K I L :=
  Cal.gh (cal_of_vc mixed Try.func11 (by rw [sh11_eq]; exact h))

def sh12 (ω : Om) (K : Value → M) : M :=
  BldS 3 1 #[(Value.int .i64 0)] 1 [(0, (Value.int .i64 1))] <| gh fun v1 =>
  Cal Try.prog ω 13 #[v1] <| gh fun v2 =>
  Pv (exV v2 0) fun v3 =>
  Pv (exV v2 1) fun v4 =>
  Pv (binIV .neq v4 (Value.int .i64 0)) fun v5 =>
  Gd v5 false
    (Pv (binPV .eql v3 (Value.pointer none)) fun v6 =>
    Br v6
      (K (Value.bool false))
      (Cal Try.prog ω 14 #[v3, (Value.int .i64 1), (Value.int .i64 1), (Value.slice none 0 0)] <| gh fun v7 =>
      Pv (exV v7 0) fun v8 =>
      Pv (exV v7 1) fun v9 =>
      Cal Try.prog ω 54 #[v3] <| gh fun v10 =>
      Pv (exV v10 0) fun v11 =>
      Pv (exV v10 1) fun v12 =>
      Pv (binIV .eql v9 (Value.int .i64 0)) fun v13 =>
      Gd v13 true
        (Pv (binIV .eql v8 (Value.int .i64 1)) fun v14 =>
        Gd v14 true
          (Pv (binIV .eql v11 (Value.int .i64 1)) fun v15 =>
          Gd v15 true
            (Pv (binIV .eql v12 (Value.int .i64 1)) fun v16 =>
            K v16)
            (K (Value.bool false)))
          (K (Value.bool false)))
        (K (Value.bool false))))
    (K (Value.bool false))
theorem sh12_eq (ω : Om) (K : Value → M) : vcF Try.prog ω Try.f12 [] K = sh12 ω K := by kernel_rfl
theorem cal12 {ω : Om} {K : Value → M} {I : Imm} {L : LH} (h : sh12 ω (fun v => Gh (K v)) I L) : Cal Try.prog ω 12 #[] K I L :=
  Cal.gh (cal_of_vc mixed Try.func12 (by rw [sh12_eq]; exact h))

def sh13 (ω : Om) (a0 : Value) (K : Value → M) : M :=
  Cal Try.prog ω 55 #[a0] <| gh fun v1 =>
  Pv (unV .not v1) fun v2 =>
  Br v2
    (K (Value.tuple #[(Value.pointer none), (Value.int .i64 1)]))
    (Cal Try.prog ω 56 #[a0] <| gh fun v3 =>
    Pv (bldV #[(Value.int .i64 0), (Value.int .i64 0), (Value.slice none 0 0)] #[(0, 1), (1, 1), (2, 1)] [(2, v3)]) fun v4 =>
    Pv (bldV #[(Value.int .i64 0), (Value.int .i64 0), (Value.slice none 0 0), (Value.slice none 0 0), (Value.int .i64 0)] #[(0, 3), (3, 1), (4, 1)] [(0, v4)]) fun v5 =>
    New (.cells (Value.cells v5) 112 (0, 0)) <| gh fun v6 =>
    K (Value.tuple #[v6, (Value.int .i64 0)]))
theorem sh13_eq (ω : Om) (a0 : Value) (K : Value → M) : vcF Try.prog ω Try.f13 [a0] K = sh13 ω a0 K := by kernel_rfl
theorem cal13 {ω : Om} {a0 : Value} {K : Value → M} {I : Imm} {L : LH} (h : sh13 ω a0 (fun v => Gh (K v)) I L) : Cal Try.prog ω 13 #[a0] K I L :=
  Cal.gh (cal_of_vc mixed Try.func13 (by rw [sh13_eq]; exact h))

def sh14 (ω : Om) (a0 : Value) (a1 : Value) (a2 : Value) (a3 : Value) (K : Value → M) : M :=
  Cal Try.prog ω 54 #[a0] <| gh fun v1 =>
  Pv (exV v1 0) fun v2 =>
  Pv (exV v1 1) fun v3 =>
  Pv (binIV .add v2 (Value.int .i64 1)) fun v4 =>
  Pv (bldV #[(Value.int .i64 0), (Value.int .i64 0), (Value.int .i64 0), (Value.slice none 0 0)] #[(0, 1), (1, 1), (2, 1), (3, 1)] [(0, v4), (1, a1), (2, a2), (3, a3)]) fun v5 =>
  Cal Try.prog ω 57 #[v5] <| gh fun v6 =>
  New (.cells #[(Value.int .i64 0), (Value.int .i64 0), (Value.int .i64 0), (Value.slice none 0 0)] 59 (0, 0)) <| gh fun e_7 =>
  Sto 4 e_7 v6 <| gh fun _ =>
  Rv none (ldNR 4 e_7) fun v8 =>
  BldS 59 4 #[(Value.int .i64 0), (Value.int .i64 0), (Value.int .i64 0), (Value.slice none 0 0)] 1 [(0, v8)] <| gh fun v9 =>
  Cal Try.prog ω 58 #[v2, v3, v9] <| gh fun v10 =>
  Pv (unV .not v10) fun v11 =>
  Br v11
    (K (Value.tuple #[(Value.int .i64 0), (Value.int .i64 1)]))
    (Draw fun S =>
      Pv (nilV a0) fun v12 =>
      Pv (fldV 3 v12) fun v13 =>
      Rv (some S) (ld1R v13) fun v14 =>
      Rv (some S) (ldNR 4 e_7) fun v15 =>
      BldS 59 4 #[(Value.int .i64 0), (Value.int .i64 0), (Value.int .i64 0), (Value.slice none 0 0)] 1 [(0, v15)] <| gh <| Keep S fun v16 =>
      App 59 4 48 #[(Value.int .i64 0), (Value.int .i64 0), (Value.int .i64 0), (Value.slice none 0 0)] v14 v16 <| gh fun v17 =>
      Pv (nilV a0) fun v18 =>
      Pv (fldV 3 v18) fun v19 =>
      Sto 1 v19 v17 <| gh fun _ =>
      Pv (fldV 0 e_7) fun v20 =>
      Rv none (ld1R v20) fun v21 =>
      K (Value.tuple #[v21, (Value.int .i64 0)]))
theorem sh14_eq (ω : Om) (a0 a1 a2 a3 : Value) (K : Value → M) : vcF Try.prog ω Try.f14 [a0, a1, a2, a3] K = sh14 ω a0 a1 a2 a3 K := by kernel_rfl
theorem cal14 {ω : Om} {a0 a1 a2 a3 : Value} {K : Value → M} {I : Imm} {L : LH} (h : sh14 ω a0 a1 a2 a3 (fun v => Gh (K v)) I L) : Cal Try.prog ω 14 #[a0, a1, a2, a3] K I L :=
  Cal.gh (cal_of_vc mixed Try.func14 (by rw [sh14_eq]; exact h))

def sh15 (ω : Om) (a0 : Value) (a1 : Value) (K : Value → M) : M :=
  Pv (nilV a0) fun v1 =>
  Pv (fldV 0 v1) fun v2 =>
  Pv (fldV 0 v2) fun v3 =>
  Rv none (ld1R v3) fun v4 =>
  Pv (binIV .eql a1 v4) fun v5 =>
  Br v5
    (Pv (nilV a0) fun v6 =>
    Pv (fldV 0 v6) fun v7 =>
    Pv (fldV 1 v7) fun v8 =>
    Rv none (ld1R v8) fun v9 =>
    K (Value.tuple #[v9, (Value.int .i64 0)]))
    (Cal Try.prog ω 59 #[a0, a1] <| gh fun v10 =>
    Pv (exV v10 0) fun v11 =>
    Pv (exV v10 1) fun v12 =>
    New (.cells #[(Value.int .i64 0), (Value.int .i64 0), (Value.int .i64 0), (Value.slice none 0 0)] 59 (0, 0)) <| gh fun e_13 =>
    Sto 4 e_13 v11 <| gh fun _ =>
    Pv (unV .not v12) fun v14 =>
    Br v14
      (K (Value.tuple #[(Value.int .i64 0), (Value.int .i64 100)]))
      (Pv (fldV 1 e_13) fun v15 =>
      Rv none (ld1R v15) fun v16 =>
      K (Value.tuple #[v16, (Value.int .i64 0)])))
theorem sh15_eq (ω : Om) (a0 a1 : Value) (K : Value → M) : vcF Try.prog ω Try.f15 [a0, a1] K = sh15 ω a0 a1 K := by kernel_rfl
theorem cal15 {ω : Om} {a0 a1 : Value} {K : Value → M} {I : Imm} {L : LH} (h : sh15 ω a0 a1 (fun v => Gh (K v)) I L) : Cal Try.prog ω 15 #[a0, a1] K I L :=
  Cal.gh (cal_of_vc mixed Try.func15 (by rw [sh15_eq]; exact h))

def sh16_5 (ω : Om) (p0 : Value) (p3 : Value) (p15 : Value) (p105 : Value) (p106 : Value) (x8 : Value) (x9 : Value) (x10 : Value) (x107 : Value) (Kn0 : (Value × Value × Value × Value × Unit) → M) (K : Value → M) : M :=
  Pv (binIV .lss x107 p106) fun v10 =>
  Br v10
    (Pv (ixV 4 p105 x107) fun v11 =>
    Rv none (ldNR 4 v11) fun v12 =>
    New (.cells #[(Value.int .i64 0), (Value.int .i64 0), (Value.int .i64 0), (Value.slice none 0 0)] 59 (0, 0)) <| gh fun e_13 =>
    Sto 4 e_13 v12 <| gh fun _ =>
    Pv (fldV 0 e_13) fun v14 =>
    Rv none (ld1R v14) fun v15 =>
    Cal Try.prog ω 59 #[p0, v15] <| gh fun v16 =>
    Pv (exV v16 0) fun v17 =>
    Pv (exV v16 1) fun v18 =>
    New (.cells #[(Value.int .i64 0), (Value.int .i64 0), (Value.int .i64 0), (Value.slice none 0 0)] 59 (0, 0)) <| gh fun old_19 =>
    Sto 4 old_19 v17 <| gh fun _ =>
    Gd v18 true
      (Pv (fldV 1 old_19) fun v20 =>
      Rv none (ld1R v20) fun v21 =>
      Pv (fldV 1 e_13) fun v22 =>
      Rv none (ld1R v22) fun v23 =>
      Pv (binIV .eql v21 v23) fun v24 =>
      Br v24
        (Pv (binIV .add x107 (Value.int .i64 1)) fun v25 =>
        Kn0 (x8, x9, x10, v25, ()))
        (Draw fun S =>
          Gd v18 true
            (Pv (fldV 0 e_13) fun v26 =>
            Rv (some S) (ld1R v26) fun v27 =>
            Pv (nilV p0) fun v28 =>
            Pv (fldV 4 v28) fun v29 =>
            Rv (some S) (ld1R v29) fun v30 =>
            Pv (binIV .leq v27 v30) fun v31 =>
            Br v31
              (K (Value.tuple #[(Value.int .i64 0), (Value.bool false), (Value.int .i64 101)]))
              (Draw fun S =>
                Pv (nilV p0) fun v32 =>
                Pv (fldV 3 v32) fun v33 =>
                Rv (some S) (ld1R v33) fun v34 =>
                Pv (fldV 0 e_13) fun v35 =>
                Rv (some S) (ld1R v35) fun v36 =>
                Pv (nilV p0) fun v37 =>
                Pv (fldV 0 v37) fun v38 =>
                Pv (fldV 0 v38) fun v39 =>
                Rv (some S) (ld1R v39) fun v40 =>
                Pv (binIV .sub v36 v40) fun v41 =>
                Pv (binIV .sub v41 (Value.int .i64 1)) fun v42 =>
                Pv (fldV 0 e_13) fun v43 =>
                Rv (some S) (ld1R v43) fun v44 =>
                Pv (nilV p0) fun v45 =>
                Pv (fldV 0 v45) fun v46 =>
                Pv (fldV 0 v46) fun v47 =>
                Rv (some S) (ld1R v47) fun v48 =>
                Pv (binIV .sub v44 v48) fun v49 =>
                Pv (binIV .sub v49 (Value.int .i64 1)) fun v50 =>
                Pv (slcV 4 v34 none (some v42) (some v50)) fun v51 =>
                Pv (slcV 4 p3 (some x107) none none) fun v52 =>
                Cal Try.prog ω 61 #[v52] <| gh <| Keep S fun v53 =>
                App 59 4 48 #[(Value.int .i64 0), (Value.int .i64 0), (Value.int .i64 0), (Value.slice none 0 0)] v51 v53 <| gh fun v54 =>
                Pv (nilV p0) fun v55 =>
                Pv (fldV 3 v55) fun v56 =>
                Sto 1 v56 v54 <| gh fun _ =>
                K (Value.tuple #[p15, (Value.bool true), (Value.int .i64 0)])))
            (Draw fun S =>
              Pv (nilV p0) fun v57 =>
              Pv (fldV 3 v57) fun v58 =>
              Rv (some S) (ld1R v58) fun v59 =>
              Pv (fldV 0 e_13) fun v60 =>
              Rv (some S) (ld1R v60) fun v61 =>
              Pv (nilV p0) fun v62 =>
              Pv (fldV 0 v62) fun v63 =>
              Pv (fldV 0 v63) fun v64 =>
              Rv (some S) (ld1R v64) fun v65 =>
              Pv (binIV .sub v61 v65) fun v66 =>
              Pv (binIV .sub v66 (Value.int .i64 1)) fun v67 =>
              Pv (fldV 0 e_13) fun v68 =>
              Rv (some S) (ld1R v68) fun v69 =>
              Pv (nilV p0) fun v70 =>
              Pv (fldV 0 v70) fun v71 =>
              Pv (fldV 0 v71) fun v72 =>
              Rv (some S) (ld1R v72) fun v73 =>
              Pv (binIV .sub v69 v73) fun v74 =>
              Pv (binIV .sub v74 (Value.int .i64 1)) fun v75 =>
              Pv (slcV 4 v59 none (some v67) (some v75)) fun v76 =>
              Pv (slcV 4 p3 (some x107) none none) fun v77 =>
              Cal Try.prog ω 61 #[v77] <| gh <| Keep S fun v78 =>
              App 59 4 48 #[(Value.int .i64 0), (Value.int .i64 0), (Value.int .i64 0), (Value.slice none 0 0)] v76 v78 <| gh fun v79 =>
              Pv (nilV p0) fun v80 =>
              Pv (fldV 3 v80) fun v81 =>
              Sto 1 v81 v79 <| gh fun _ =>
              K (Value.tuple #[p15, (Value.bool true), (Value.int .i64 0)]))))
      (Draw fun S =>
        Gd v18 true
          (Pv (fldV 0 e_13) fun v82 =>
          Rv (some S) (ld1R v82) fun v83 =>
          Pv (nilV p0) fun v84 =>
          Pv (fldV 4 v84) fun v85 =>
          Rv (some S) (ld1R v85) fun v86 =>
          Pv (binIV .leq v83 v86) fun v87 =>
          Br v87
            (K (Value.tuple #[(Value.int .i64 0), (Value.bool false), (Value.int .i64 101)]))
            (Draw fun S =>
              Pv (nilV p0) fun v88 =>
              Pv (fldV 3 v88) fun v89 =>
              Rv (some S) (ld1R v89) fun v90 =>
              Pv (fldV 0 e_13) fun v91 =>
              Rv (some S) (ld1R v91) fun v92 =>
              Pv (nilV p0) fun v93 =>
              Pv (fldV 0 v93) fun v94 =>
              Pv (fldV 0 v94) fun v95 =>
              Rv (some S) (ld1R v95) fun v96 =>
              Pv (binIV .sub v92 v96) fun v97 =>
              Pv (binIV .sub v97 (Value.int .i64 1)) fun v98 =>
              Pv (fldV 0 e_13) fun v99 =>
              Rv (some S) (ld1R v99) fun v100 =>
              Pv (nilV p0) fun v101 =>
              Pv (fldV 0 v101) fun v102 =>
              Pv (fldV 0 v102) fun v103 =>
              Rv (some S) (ld1R v103) fun v104 =>
              Pv (binIV .sub v100 v104) fun v105 =>
              Pv (binIV .sub v105 (Value.int .i64 1)) fun v106 =>
              Pv (slcV 4 v90 none (some v98) (some v106)) fun v107 =>
              Pv (slcV 4 p3 (some x107) none none) fun v108 =>
              Cal Try.prog ω 61 #[v108] <| gh <| Keep S fun v109 =>
              App 59 4 48 #[(Value.int .i64 0), (Value.int .i64 0), (Value.int .i64 0), (Value.slice none 0 0)] v107 v109 <| gh fun v110 =>
              Pv (nilV p0) fun v111 =>
              Pv (fldV 3 v111) fun v112 =>
              Sto 1 v112 v110 <| gh fun _ =>
              K (Value.tuple #[p15, (Value.bool true), (Value.int .i64 0)])))
          (Draw fun S =>
            Pv (nilV p0) fun v113 =>
            Pv (fldV 3 v113) fun v114 =>
            Rv (some S) (ld1R v114) fun v115 =>
            Pv (fldV 0 e_13) fun v116 =>
            Rv (some S) (ld1R v116) fun v117 =>
            Pv (nilV p0) fun v118 =>
            Pv (fldV 0 v118) fun v119 =>
            Pv (fldV 0 v119) fun v120 =>
            Rv (some S) (ld1R v120) fun v121 =>
            Pv (binIV .sub v117 v121) fun v122 =>
            Pv (binIV .sub v122 (Value.int .i64 1)) fun v123 =>
            Pv (fldV 0 e_13) fun v124 =>
            Rv (some S) (ld1R v124) fun v125 =>
            Pv (nilV p0) fun v126 =>
            Pv (fldV 0 v126) fun v127 =>
            Pv (fldV 0 v127) fun v128 =>
            Rv (some S) (ld1R v128) fun v129 =>
            Pv (binIV .sub v125 v129) fun v130 =>
            Pv (binIV .sub v130 (Value.int .i64 1)) fun v131 =>
            Pv (slcV 4 v115 none (some v123) (some v131)) fun v132 =>
            Pv (slcV 4 p3 (some x107) none none) fun v133 =>
            Cal Try.prog ω 61 #[v133] <| gh <| Keep S fun v134 =>
            App 59 4 48 #[(Value.int .i64 0), (Value.int .i64 0), (Value.int .i64 0), (Value.slice none 0 0)] v132 v134 <| gh fun v135 =>
            Pv (nilV p0) fun v136 =>
            Pv (fldV 3 v136) fun v137 =>
            Sto 1 v137 v135 <| gh fun _ =>
            K (Value.tuple #[p15, (Value.bool true), (Value.int .i64 0)]))))
    (K (Value.tuple #[p15, (Value.bool true), (Value.int .i64 0)]))
def sh16_2 (ω : Om) (p0 : Value) (p1 : Value) (p3 : Value) (p8 : Value) (p9 : Value) (p10 : Value) (K : Value → M) : M :=
  Pv (lenV p3) fun v7 =>
  Pv (binIV .add p1 v7) fun v8 =>
  Pv (lenV p3) fun v9 =>
  LoopM ((p8, p9, p10, (Value.int .i64 0), ()) : Value × Value × Value × Value × Unit) fun s Kn0 =>
  sh16_5 ω p0 p3 v8 p3 v9 s.1 s.2.1 s.2.2.1 s.2.2.2.1 Kn0 K
def sh16_7 (ω : Om) (p0 : Value) (p1 : Value) (p3 : Value) (p8 : Value) (p9 : Value) (p10 : Value) (K : Value → M) : M :=
  Pv (nilV p0) fun v143 =>
  Pv (fldV 0 v143) fun v144 =>
  Pv (fldV 0 v144) fun v145 =>
  Rv none (ld1R v145) fun v146 =>
  Pv (binIV .sub v146 p1) fun v147 =>
  Pv (lenV p3) fun v148 =>
  Pv (minV v147 v148) fun v149 =>
  Pv (slcV 4 p3 (some v149) none none) fun v150 =>
  Pv (nilV p0) fun v151 =>
  Pv (fldV 0 v151) fun v152 =>
  Pv (fldV 0 v152) fun v153 =>
  Rv none (ld1R v153) fun v154 =>
  Draw fun S =>
    Pv (lenV v150) fun v155 =>
    Pv (binIV .gtr v155 (Value.int .i64 0)) fun v156 =>
    Gd v156 true
      (Pv (ixV 4 v150 (Value.int .i64 0)) fun v157 =>
      Pv (fldV 1 v157) fun v158 =>
      Rv (some S) (ld1R v158) fun v159 =>
      Pv (nilV p0) fun v160 =>
      Pv (fldV 0 v160) fun v161 =>
      Pv (fldV 1 v161) fun v162 =>
      Rv (some S) (ld1R v162) fun v163 =>
      Pv (binIV .lss v159 v163) fun v164 =>
      Br v164
        (K (Value.tuple #[(Value.int .i64 0), (Value.bool false), (Value.int .i64 101)]))
        (sh16_2 ω p0 v154 v150 p8 p9 p10 K))
      (sh16_2 ω p0 v154 v150 p8 p9 p10 K)
def sh16_10 (ω : Om) (p0 : Value) (p1 : Value) (p8 : Value) (p9 : Value) (p10 : Value) (K : Value → M) : M :=
  Cal Try.prog ω 54 #[p0] <| gh fun v170 =>
  Pv (exV v170 0) fun v171 =>
  Pv (exV v170 1) fun v172 =>
  Pv (nilV p0) fun v173 =>
  Pv (fldV 4 v173) fun v174 =>
  Rv none (ld1R v174) fun v175 =>
  Pv (binIV .sub p1 (Value.int .i64 1)) fun v176 =>
  Pv (minV v171 v176) fun v177 =>
  Pv (maxV v175 v177) fun v178 =>
  K (Value.tuple #[v178, (Value.bool false), (Value.int .i64 0)])
def sh16_9 (ω : Om) (p0 : Value) (p1 : Value) (p2 : Value) (p3 : Value) (p8 : Value) (p9 : Value) (p10 : Value) (K : Value → M) : M :=
  Cal Try.prog ω 15 #[p0, p1] <| gh fun v165 =>
  Pv (exV v165 0) fun v166 =>
  Pv (exV v165 1) fun v167 =>
  Pv (binIV .neq v167 (Value.int .i64 0)) fun v168 =>
  Gd v168 false
    (Pv (binIV .neq v166 p2) fun v169 =>
    Br v169
      (sh16_10 ω p0 p1 p8 p9 p10 K)
      (sh16_2 ω p0 p1 p3 p8 p9 p10 K))
    (sh16_10 ω p0 p1 p8 p9 p10 K)
def sh16 (ω : Om) (a0 : Value) (a1 : Value) (a2 : Value) (a3 : Value) (K : Value → M) : M :=
  Cal Try.prog ω 60 #[a1] <| gh fun v1 =>
  Pv (unV .not v1) fun v2 =>
  Gd v2 false
    (Cal Try.prog ω 60 #[a2] <| gh fun v3 =>
    Pv (unV .not v3) fun v4 =>
    Gd v4 false
      (Cal Try.prog ω 58 #[a1, a2, a3] <| gh fun v5 =>
      Pv (unV .not v5) fun v6 =>
      Br v6
        (K (Value.tuple #[(Value.int .i64 0), (Value.bool false), (Value.int .i64 1)]))
        (Pv (nilV a0) fun v138 =>
        Pv (fldV 0 v138) fun v139 =>
        Pv (fldV 0 v139) fun v140 =>
        Rv none (ld1R v140) fun v141 =>
        Pv (binIV .lss a1 v141) fun v142 =>
        Br v142
          (sh16_7 ω a0 a1 a3 (Value.int .i64 0) (Value.bool false) (Value.int .i64 0) K)
          (sh16_9 ω a0 a1 a2 a3 (Value.int .i64 0) (Value.bool false) (Value.int .i64 0) K)))
      (K (Value.tuple #[(Value.int .i64 0), (Value.bool false), (Value.int .i64 1)])))
    (K (Value.tuple #[(Value.int .i64 0), (Value.bool false), (Value.int .i64 1)]))
theorem sh16_eq (ω : Om) (a0 a1 a2 a3 : Value) (K : Value → M) : vcF Try.prog ω Try.f16 [a0, a1, a2, a3] K = sh16 ω a0 a1 a2 a3 K := by kernel_rfl
theorem cal16 {ω : Om} {a0 a1 a2 a3 : Value} {K : Value → M} {I : Imm} {L : LH} (h : sh16 ω a0 a1 a2 a3 (fun v => Gh (K v)) I L) : Cal Try.prog ω 16 #[a0, a1, a2, a3] K I L :=
  Cal.gh (cal_of_vc mixed Try.func16 (by rw [sh16_eq]; exact h))

def sh17 (ω : Om) (a0 : Value) (a1 : Value) (a2 : Value) (K : Value → M) : M :=
  Cal Try.prog ω 59 #[a0, a1] <| gh fun v1 =>
  Pv (exV v1 0) fun v2 =>
  Pv (exV v1 1) fun v3 =>
  New (.cells #[(Value.int .i64 0), (Value.int .i64 0), (Value.int .i64 0), (Value.slice none 0 0)] 59 (0, 0)) <| gh fun v4 =>
  Sto 4 v4 v2 <| gh fun _ =>
  Pv (unV .not v3) fun v5 =>
  Gd v5 false
    (Pv (binIV .lss a2 (Value.int .i64 1)) fun v6 =>
    Br v6
      (K (Value.slice none 0 0))
      (Draw fun S =>
        Pv (nilV a0) fun v7 =>
        Pv (fldV 3 v7) fun v8 =>
        Rv (some S) (ld1R v8) fun v9 =>
        Pv (nilV a0) fun v10 =>
        Pv (fldV 0 v10) fun v11 =>
        Pv (fldV 0 v11) fun v12 =>
        Rv (some S) (ld1R v12) fun v13 =>
        Pv (binIV .sub a1 v13) fun v14 =>
        Pv (binIV .sub v14 (Value.int .i64 1)) fun v15 =>
        Pv (slcV 4 v9 (some v15) none none) fun v16 =>
        Pv (lenV v16) fun v17 =>
        Pv (minV a2 v17) fun v18 =>
        Pv (slcV 4 v16 none (some v18) none) fun v19 =>
        Cal Try.prog ω 61 #[v19] <| gh fun v20 =>
        K v20))
    (K (Value.slice none 0 0))
theorem sh17_eq (ω : Om) (a0 a1 a2 : Value) (K : Value → M) : vcF Try.prog ω Try.f17 [a0, a1, a2] K = sh17 ω a0 a1 a2 K := by kernel_rfl
theorem cal17 {ω : Om} {a0 a1 a2 : Value} {K : Value → M} {I : Imm} {L : LH} (h : sh17 ω a0 a1 a2 (fun v => Gh (K v)) I L) : Cal Try.prog ω 17 #[a0, a1, a2] K I L :=
  Cal.gh (cal_of_vc mixed Try.func17 (by rw [sh17_eq]; exact h))

def sh18_3 (ω : Om) (p5 : Value) (p6 : Value) (x4 : Value) (x7 : Value) (Kn0 : (Value × Value × Unit) → M) (K : Value → M) : M :=
  Pv (binIV .geq x7 (Value.int .i64 0)) fun v7 =>
  Br v7
    (Draw fun S =>
      Pv (ixV 4 p5 x7) fun v8 =>
      Pv (fldV 1 v8) fun v9 =>
      Rv (some S) (ld1R v9) fun v10 =>
      Pv (ixV 4 p6 x7) fun v11 =>
      Pv (fldV 1 v11) fun v12 =>
      Rv (some S) (ld1R v12) fun v13 =>
      Pv (binIV .eql v10 v13) fun v14 =>
      Br v14
        (Draw fun S =>
          Pv (binIV .add x7 (Value.int .i64 1)) fun v15 =>
          Pv (slcV 4 p5 none (some v15) none) fun v16 =>
          Pv (binIV .add x7 (Value.int .i64 1)) fun v17 =>
          Pv (slcV 4 p6 none (some v17) none) fun v18 =>
          Cal Try.prog ω 30 #[v16, v18] <| gh fun v19 =>
          K v19)
        (Pv (binIV .sub x7 (Value.int .i64 1)) fun v20 =>
        Kn0 (x4, v20, ())))
    (K (Value.bool true))
def sh18 (ω : Om) (a0 : Value) (a1 : Value) (K : Value → M) : M :=
  Cal Try.prog ω 17 #[a0, (Value.int .i64 1), (Value.int .i64 1000)] <| gh fun v1 =>
  Cal Try.prog ω 17 #[a1, (Value.int .i64 1), (Value.int .i64 1000)] <| gh fun v2 =>
  Pv (lenV v1) fun v3 =>
  Pv (lenV v2) fun v4 =>
  Pv (minV v3 v4) fun v5 =>
  Pv (binIV .sub v5 (Value.int .i64 1)) fun v6 =>
  LoopM (((Value.bool false), v6, ()) : Value × Value × Unit) fun s Kn0 =>
  sh18_3 ω v1 v2 s.1 s.2.1 Kn0 K
theorem sh18_eq (ω : Om) (a0 a1 : Value) (K : Value → M) : vcF Try.prog ω Try.f18 [a0, a1] K = sh18 ω a0 a1 K := by kernel_rfl
theorem cal18 {ω : Om} {a0 a1 : Value} {K : Value → M} {I : Imm} {L : LH} (h : sh18 ω a0 a1 (fun v => Gh (K v)) I L) : Cal Try.prog ω 18 #[a0, a1] K I L :=
  Cal.gh (cal_of_vc mixed Try.func18 (by rw [sh18_eq]; exact h))

def sh19 (ω : Om) (a0 : Value) (a1 : Value) (a2 : Value) (K : Value → M) : M :=
  New (.cells (Value.cells a0) 46 (0, 0)) <| gh fun p_1 =>
  Rv none (ldNR 3 p_1) fun v2 =>
  Cal Try.prog ω 62 #[v2] <| gh fun v3 =>
  Pv (unV .not v3) fun v4 =>
  Gd v4 false
    (Pv (fldV 0 p_1) fun v5 =>
    Rv none (ld1R v5) fun v6 =>
    Pv (fldV 1 p_1) fun v7 =>
    Rv none (ld1R v7) fun v8 =>
    Cal Try.prog ω 58 #[v6, v8, a1] <| gh fun v9 =>
    Pv (unV .not v9) fun v10 =>
    Gd v10 false
      (Pv (fldV 0 p_1) fun v11 =>
      Rv none (ld1R v11) fun v12 =>
      Pv (binIV .lss a2 v12) fun v13 =>
      Gd v13 false
        (Pv (fldV 0 p_1) fun v14 =>
        Rv none (ld1R v14) fun v15 =>
        Pv (binIV .sub a2 v15) fun v16 =>
        Pv (lenV a1) fun v17 =>
        Pv (binIV .gtr v16 v17) fun v18 =>
        Br v18
          (K (Value.tuple #[(Value.pointer none), (Value.int .i64 102)]))
          (Rv none (ldNR 3 p_1) fun v19 =>
          Cal Try.prog ω 63 #[v19] <| gh fun v20 =>
          Cal Try.prog ω 61 #[a1] <| gh fun v21 =>
          Pv (bldV #[(Value.int .i64 0), (Value.int .i64 0), (Value.slice none 0 0), (Value.slice none 0 0), (Value.int .i64 0)] #[(0, 3), (3, 1), (4, 1)] [(0, v20), (1, v21), (2, a2)]) fun v22 =>
          New (.cells (Value.cells v22) 112 (0, 0)) <| gh fun v23 =>
          K (Value.tuple #[v23, (Value.int .i64 0)])))
        (K (Value.tuple #[(Value.pointer none), (Value.int .i64 102)])))
      (K (Value.tuple #[(Value.pointer none), (Value.int .i64 102)])))
    (K (Value.tuple #[(Value.pointer none), (Value.int .i64 102)]))
theorem sh19_eq (ω : Om) (a0 a1 a2 : Value) (K : Value → M) : vcF Try.prog ω Try.f19 [a0, a1, a2] K = sh19 ω a0 a1 a2 K := by kernel_rfl
theorem cal19 {ω : Om} {a0 a1 a2 : Value} {K : Value → M} {I : Imm} {L : LH} (h : sh19 ω a0 a1 a2 (fun v => Gh (K v)) I L) : Cal Try.prog ω 19 #[a0, a1, a2] K I L :=
  Cal.gh (cal_of_vc mixed Try.func19 (by rw [sh19_eq]; exact h))

def sh20 (ω : Om) (a0 : Value) (a1 : Value) (a2 : Value) (a3 : Value) (a4 : Value) (K : Value → M) : M :=
  Cal Try.prog ω 64 #[a0, a1, a2] <| gh fun v1 =>
  Pv (unV .not v1) fun v2 =>
  Br v2
    (K (Value.tuple #[(Value.pointer none), (Value.int .i64 102)]))
    (Cal Try.prog ω 65 #[a0, a1, a3] <| gh fun v3 =>
    Pv (unV .not v3) fun v4 =>
    Gd v4 false
      (Pv (binIV .lss a4 a0) fun v5 =>
      Gd v5 false
        (Pv (lenV a3) fun v6 =>
        Pv (binIV .add a0 v6) fun v7 =>
        Pv (binIV .gtr a4 v7) fun v8 =>
        Br v8
          (K (Value.tuple #[(Value.pointer none), (Value.int .i64 102)]))
          (Pv (bldV #[(Value.int .i64 0), (Value.int .i64 0), (Value.slice none 0 0), (Value.slice none 0 0), (Value.int .i64 0)] #[(0, 1), (1, 1), (2, 1), (3, 1), (4, 1)] [(0, a0), (1, a1), (2, a2), (3, a3), (4, a4)]) fun v9 =>
          New (.cells (Value.cells v9) 120 (0, 0)) <| gh fun v10 =>
          K (Value.tuple #[v10, (Value.int .i64 0)])))
        (K (Value.tuple #[(Value.pointer none), (Value.int .i64 102)])))
      (K (Value.tuple #[(Value.pointer none), (Value.int .i64 102)])))
theorem sh20_eq (ω : Om) (a0 a1 a2 a3 a4 : Value) (K : Value → M) : vcF Try.prog ω Try.f20 [a0, a1, a2, a3, a4] K = sh20 ω a0 a1 a2 a3 a4 K := by kernel_rfl
theorem cal20 {ω : Om} {a0 a1 a2 a3 a4 : Value} {K : Value → M} {I : Imm} {L : LH} (h : sh20 ω a0 a1 a2 a3 a4 (fun v => Gh (K v)) I L) : Cal Try.prog ω 20 #[a0, a1, a2, a3, a4] K I L :=
  Cal.gh (cal_of_vc mixed Try.func20 (by rw [sh20_eq]; exact h))

def sh21 (ω : Om) (a0 : Value) (a1 : Value) (K : Value → M) : M :=
  Cal Try.prog ω 24 #[a0] <| gh fun v1 =>
  New (.cells #[(Value.int .i64 0), (Value.int .i64 0), (Value.slice none 0 0)] 46 (0, 0)) <| gh fun p_2 =>
  Sto 3 p_2 v1 <| gh fun _ =>
  Draw fun S =>
    Pv (fldV 2 p_2) fun v3 =>
    Rv (some S) (ld1R v3) fun v4 =>
    Pv (nilV a1) fun v5 =>
    Pv (fldV 2 v5) fun v6 =>
    Rv (some S) (ld1R v6) fun v7 =>
    Cal Try.prog ω 53 #[v4, v7] <| gh fun v8 =>
    Cal Try.prog ω 54 #[a0] <| gh fun v9 =>
    Pv (exV v9 0) fun v10 =>
    Pv (exV v9 1) fun v11 =>
    Cal Try.prog ω 22 #[a0] <| gh fun v12 =>
    Cal Try.prog ω 66 #[a1] <| gh fun v13 =>
    Cal Try.prog ω 67 #[a1] <| gh fun v14 =>
    Draw fun S =>
      Pv (fldV 0 p_2) fun v15 =>
      Rv (some S) (ld1R v15) fun v16 =>
      Pv (nilV a1) fun v17 =>
      Pv (fldV 0 v17) fun v18 =>
      Rv (some S) (ld1R v18) fun v19 =>
      Pv (binIV .neq v16 v19) fun v20 =>
      Gd v20 false
        (Pv (fldV 1 p_2) fun v21 =>
        Rv (some S) (ld1R v21) fun v22 =>
        Pv (nilV a1) fun v23 =>
        Pv (fldV 1 v23) fun v24 =>
        Rv (some S) (ld1R v24) fun v25 =>
        Pv (binIV .neq v22 v25) fun v26 =>
        Gd v26 false
          (Pv (unV .not v8) fun v27 =>
          Gd v27 false
            (Pv (binIV .neq v10 v13) fun v28 =>
            Gd v28 false
              (Pv (binIV .neq v11 v14) fun v29 =>
              Gd v29 false
                (Pv (nilV a1) fun v30 =>
                Pv (fldV 4 v30) fun v31 =>
                Rv (some S) (ld1R v31) fun v32 =>
                Pv (binIV .neq v12 v32) fun v33 =>
                Br v33
                  (K (Value.bool false))
                  (Draw fun S =>
                    Pv (fldV 0 p_2) fun v34 =>
                    Rv (some S) (ld1R v34) fun v35 =>
                    Pv (binIV .add v35 (Value.int .i64 1)) fun v36 =>
                    Pv (nilV a1) fun v37 =>
                    Pv (fldV 3 v37) fun v38 =>
                    Rv (some S) (ld1R v38) fun v39 =>
                    Pv (lenV v39) fun v40 =>
                    Pv (binIV .add v40 (Value.int .i64 1)) fun v41 =>
                    Cal Try.prog ω 17 #[a0, v36, v41] <| gh fun v42 =>
                    Pv (nilV a1) fun v43 =>
                    Pv (fldV 3 v43) fun v44 =>
                    Rv none (ld1R v44) fun v45 =>
                    Cal Try.prog ω 30 #[v42, v45] <| gh fun v46 =>
                    Cal Try.prog ω 52 #[a0] <| gh fun v47 =>
                    Cal Try.prog ω 68 #[a1] <| gh fun v48 =>
                    Cal Try.prog ω 53 #[v47, v48] <| gh fun v49 =>
                    Cal Try.prog ω 69 #[a0] <| gh fun v50 =>
                    Cal Try.prog ω 70 #[a1] <| gh fun v51 =>
                    Gd v46 true
                      (Gd v49 true
                        (Pv (binBV .eql v50 v51) fun v52 =>
                        K v52)
                        (K (Value.bool false)))
                      (K (Value.bool false))))
                (K (Value.bool false)))
              (K (Value.bool false)))
            (K (Value.bool false)))
          (K (Value.bool false)))
        (K (Value.bool false))
theorem sh21_eq (ω : Om) (a0 a1 : Value) (K : Value → M) : vcF Try.prog ω Try.f21 [a0, a1] K = sh21 ω a0 a1 K := by kernel_rfl
theorem cal21 {ω : Om} {a0 a1 : Value} {K : Value → M} {I : Imm} {L : LH} (h : sh21 ω a0 a1 (fun v => Gh (K v)) I L) : Cal Try.prog ω 21 #[a0, a1] K I L :=
  Cal.gh (cal_of_vc mixed Try.func21 (by rw [sh21_eq]; exact h))

def sh22 (ω : Om) (a0 : Value) (K : Value → M) : M :=
  Pv (nilV a0) fun v1 =>
  Pv (fldV 4 v1) fun v2 =>
  Rv none (ld1R v2) fun v3 =>
  K v3
theorem sh22_eq (ω : Om) (a0 : Value) (K : Value → M) : vcF Try.prog ω Try.f22 [a0] K = sh22 ω a0 K := by kernel_rfl
theorem cal22 {ω : Om} {a0 : Value} {K : Value → M} {I : Imm} {L : LH} (h : sh22 ω a0 (fun v => Gh (K v)) I L) : Cal Try.prog ω 22 #[a0] K I L :=
  Cal.gh (cal_of_vc mixed Try.func22 (by rw [sh22_eq]; exact h))

def sh23 (ω : Om) (a0 : Value) (a1 : Value) (K : Value → M) : M :=
  Pv (nilV a0) fun v1 =>
  Pv (fldV 0 v1) fun v2 =>
  Pv (fldV 0 v2) fun v3 =>
  Rv none (ld1R v3) fun v4 =>
  Pv (binIV .lss a1 v4) fun v5 =>
  Gd v5 false
    (Pv (nilV a0) fun v6 =>
    Pv (fldV 4 v6) fun v7 =>
    Rv none (ld1R v7) fun v8 =>
    Pv (binIV .gtr a1 v8) fun v9 =>
    Br v9
      (K (Value.int .i64 100))
      (Cal Try.prog ω 15 #[a0, a1] <| gh fun v10 =>
      Pv (exV v10 0) fun v11 =>
      Pv (exV v10 1) fun v12 =>
      Cal Try.prog ω 71 #[a0, a1] <| gh fun v13 =>
      Pv (exV v13 0) fun v14 =>
      Pv (exV v13 1) fun v15 =>
      Draw fun S =>
        Pv (nilV a0) fun v16 =>
        Pv (fldV 3 v16) fun v17 =>
        Rv (some S) (ld1R v17) fun v18 =>
        Pv (nilV a0) fun v19 =>
        Pv (fldV 0 v19) fun v20 =>
        Pv (fldV 0 v20) fun v21 =>
        Rv (some S) (ld1R v21) fun v22 =>
        Pv (binIV .sub a1 v22) fun v23 =>
        Pv (slcV 4 v18 (some v23) none none) fun v24 =>
        Cal Try.prog ω 72 #[v24] <| gh fun v25 =>
        Pv (nilV a0) fun v26 =>
        Pv (fldV 3 v26) fun v27 =>
        Sto 1 v27 v25 <| gh fun _ =>
        Pv (bldV #[(Value.int .i64 0), (Value.int .i64 0), (Value.slice none 0 0)] #[(0, 1), (1, 1), (2, 1)] [(0, a1), (1, v11), (2, v14)]) fun v28 =>
        Pv (nilV a0) fun v29 =>
        Pv (fldV 0 v29) fun v30 =>
        Sto 3 v30 v28 <| gh fun _ =>
        K (Value.int .i64 0)))
    (K (Value.int .i64 100))
theorem sh23_eq (ω : Om) (a0 a1 : Value) (K : Value → M) : vcF Try.prog ω Try.f23 [a0, a1] K = sh23 ω a0 a1 K := by kernel_rfl
theorem cal23 {ω : Om} {a0 a1 : Value} {K : Value → M} {I : Imm} {L : LH} (h : sh23 ω a0 a1 (fun v => Gh (K v)) I L) : Cal Try.prog ω 23 #[a0, a1] K I L :=
  Cal.gh (cal_of_vc mixed Try.func23 (by rw [sh23_eq]; exact h))

def sh24 (ω : Om) (a0 : Value) (K : Value → M) : M :=
  New (.cells #[(Value.int .i64 0), (Value.int .i64 0), (Value.slice none 0 0)] 46 (0, 0)) <| gh fun v1 =>
  Pv (nilV a0) fun v2 =>
  Pv (fldV 0 v2) fun v3 =>
  Rv none (ldNR 3 v3) fun v4 =>
  Cal Try.prog ω 63 #[v4] <| gh fun v5 =>
  Sto 3 v1 v5 <| gh fun _ =>
  Rv none (ldNR 3 v1) fun v6 =>
  K v6
theorem sh24_eq (ω : Om) (a0 : Value) (K : Value → M) : vcF Try.prog ω Try.f24 [a0] K = sh24 ω a0 K := by kernel_rfl
theorem cal24 {ω : Om} {a0 : Value} {K : Value → M} {I : Imm} {L : LH} (h : sh24 ω a0 (fun v => Gh (K v)) I L) : Cal Try.prog ω 24 #[a0] K I L :=
  Cal.gh (cal_of_vc mixed Try.func24 (by rw [sh24_eq]; exact h))

def sh25 (ω : Om) (a0 : Value) (a1 : Value) (K : Value → M) : M :=
  Pv (nilV a0) fun v1 =>
  Pv (fldV 0 v1) fun v2 =>
  Rv none (ld1R v2) fun v3 =>
  Pv (binIV .lss a1 v3) fun v4 =>
  Gd v4 false
    (Pv (nilV a0) fun v5 =>
    Pv (fldV 4 v5) fun v6 =>
    Rv none (ld1R v6) fun v7 =>
    Pv (binIV .gtr a1 v7) fun v8 =>
    Br v8
      (K (Value.int .i64 100))
      (Cal Try.prog ω 73 #[a0, a1] <| gh fun v9 =>
      Pv (exV v9 0) fun v10 =>
      Pv (exV v9 1) fun v11 =>
      Cal Try.prog ω 74 #[a0, a1] <| gh fun v12 =>
      Pv (exV v12 0) fun v13 =>
      Pv (exV v12 1) fun v14 =>
      Draw fun S =>
        BldS 59 4 #[(Value.int .i64 0), (Value.int .i64 0), (Value.int .i64 0), (Value.slice none 0 0)] 0 [] <| gh <| Keep S fun v15 =>
        Pv (nilV a0) fun v16 =>
        Pv (fldV 3 v16) fun v17 =>
        Rv (some S) (ld1R v17) fun v18 =>
        Pv (nilV a0) fun v19 =>
        Pv (fldV 0 v19) fun v20 =>
        Rv (some S) (ld1R v20) fun v21 =>
        Pv (binIV .sub a1 v21) fun v22 =>
        Pv (slcV 4 v18 (some v22) none none) fun v23 =>
        App 59 4 48 #[(Value.int .i64 0), (Value.int .i64 0), (Value.int .i64 0), (Value.slice none 0 0)] v15 v23 <| gh fun v24 =>
        Pv (nilV a0) fun v25 =>
        Pv (fldV 3 v25) fun v26 =>
        Sto 1 v26 v24 <| gh fun _ =>
        Pv (nilV a0) fun v27 =>
        Pv (fldV 0 v27) fun v28 =>
        Sto 1 v28 a1 <| gh fun _ =>
        Pv (nilV a0) fun v29 =>
        Pv (fldV 1 v29) fun v30 =>
        Sto 1 v30 v10 <| gh fun _ =>
        Pv (nilV a0) fun v31 =>
        Pv (fldV 2 v31) fun v32 =>
        Sto 1 v32 v13 <| gh fun _ =>
        K (Value.int .i64 0)))
    (K (Value.int .i64 100))
theorem sh25_eq (ω : Om) (a0 a1 : Value) (K : Value → M) : vcF Try.prog ω Try.f25 [a0, a1] K = sh25 ω a0 a1 K := by kernel_rfl
theorem cal25 {ω : Om} {a0 a1 : Value} {K : Value → M} {I : Imm} {L : LH} (h : sh25 ω a0 a1 (fun v => Gh (K v)) I L) : Cal Try.prog ω 25 #[a0, a1] K I L :=
  Cal.gh (cal_of_vc mixed Try.func25 (by rw [sh25_eq]; exact h))

def sh26_4 (ω : Om) (p0 : Value) (x2 : Value) (x3 : Value) (Kn0 : (Value × Value × Unit) → M) (K : Value → M) : M :=
  Pv (lenV p0) fun v5 =>
  Pv (binIV .lss x3 v5) fun v6 =>
  Br v6
    (Pv (ixV 1 p0 x3) fun v7 =>
    Rv none (ld1R v7) fun v8 =>
    Cal Try.prog ω 75 #[v8] <| gh fun v9 =>
    Draw fun S =>
      Pv (unV .not v9) fun v10 =>
      Gd v10 false
        (Pv (binIV .gtr x3 (Value.int .i64 0)) fun v11 =>
        Gd v11 true
          (Pv (ixV 1 p0 x3) fun v12 =>
          Rv (some S) (ld1R v12) fun v13 =>
          Pv (binIV .sub x3 (Value.int .i64 1)) fun v14 =>
          Pv (ixV 1 p0 v14) fun v15 =>
          Rv (some S) (ld1R v15) fun v16 =>
          Pv (binIV .leq v13 v16) fun v17 =>
          Br v17
            (K (Value.bool false))
            (Pv (binIV .add x3 (Value.int .i64 1)) fun v18 =>
            Kn0 (x2, v18, ())))
          (Pv (binIV .add x3 (Value.int .i64 1)) fun v19 =>
          Kn0 (x2, v19, ())))
        (K (Value.bool false)))
    (K (Value.bool true))
def sh26 (ω : Om) (a0 : Value) (K : Value → M) : M :=
  Pv (lenV a0) fun v1 =>
  Pv (binIV .lss v1 (Value.int .i64 1)) fun v2 =>
  Gd v2 false
    (Pv (lenV a0) fun v3 =>
    Pv (binIV .gtr v3 (Value.int .i64 5)) fun v4 =>
    Br v4
      (K (Value.bool false))
      (LoopM (((Value.bool false), (Value.int .i64 0), ()) : Value × Value × Unit) fun s Kn0 =>
      sh26_4 ω a0 s.1 s.2.1 Kn0 K))
    (K (Value.bool false))
theorem sh26_eq (ω : Om) (a0 : Value) (K : Value → M) : vcF Try.prog ω Try.f26 [a0] K = sh26 ω a0 K := by kernel_rfl
theorem cal26 {ω : Om} {a0 : Value} {K : Value → M} {I : Imm} {L : LH} (h : sh26 ω a0 (fun v => Gh (K v)) I L) : Cal Try.prog ω 26 #[a0] K I L :=
  Cal.gh (cal_of_vc mixed Try.func26 (by rw [sh26_eq]; exact h))

def sh27 (ω : Om) (a0 : Value) (a1 : Value) (K : Value → M) : M :=
  Cal Try.prog ω 54 #[a0] <| gh fun v1 =>
  Pv (exV v1 0) fun v2 =>
  Pv (exV v1 1) fun v3 =>
  Pv (binIV .gtr a1 v2) fun v4 =>
  Br v4
    (K (Value.int .i64 100))
    (Pv (nilV a0) fun v5 =>
    Pv (fldV 4 v5) fun v6 =>
    Rv none (ld1R v6) fun v7 =>
    Pv (maxV v7 a1) fun v8 =>
    Pv (nilV a0) fun v9 =>
    Pv (fldV 4 v9) fun v10 =>
    Sto 1 v10 v8 <| gh fun _ =>
    K (Value.int .i64 0))
theorem sh27_eq (ω : Om) (a0 a1 : Value) (K : Value → M) : vcF Try.prog ω Try.f27 [a0, a1] K = sh27 ω a0 a1 K := by kernel_rfl
theorem cal27 {ω : Om} {a0 a1 : Value} {K : Value → M} {I : Imm} {L : LH} (h : sh27 ω a0 a1 (fun v => Gh (K v)) I L) : Cal Try.prog ω 27 #[a0, a1] K I L :=
  Cal.gh (cal_of_vc mixed Try.func27 (by rw [sh27_eq]; exact h))

def sh28_1 (ω : Om) (p0 : Value) (p3 : Value) (p4 : Value) (K : Value → M) : M :=
  DrawW [p0] fun S =>
    Rv (some S) (ldNR 3 p3) fun v11 =>
    Cal Try.prog ω 63 #[v11] <| gh <| Keep S fun v12 =>
    Pv (fldV 0 p3) fun v13 =>
    Rv (some S) (ld1R v13) fun v14 =>
    Pv (nilV p0) fun v15 =>
    Pv (fldV 0 v15) fun v16 =>
    Sto 3 v16 v12 <| gh <| Keep S fun _ =>
    Pv (nilV p0) fun v17 =>
    Pv (fldV 4 v17) fun v18 =>
    Sto 1 v18 v14 <| gh fun _ =>
    K (Value.int .i64 0)
def sh28_2 (ω : Om) (p0 : Value) (p3 : Value) (p4 : Value) (K : Value → M) : M :=
  Draw fun S =>
    Pv (nilV p0) fun v28 =>
    Pv (fldV 3 v28) fun v29 =>
    Rv (some S) (ld1R v29) fun v30 =>
    Pv (fldV 0 p3) fun v31 =>
    Rv (some S) (ld1R v31) fun v32 =>
    Pv (nilV p0) fun v33 =>
    Pv (fldV 0 v33) fun v34 =>
    Pv (fldV 0 v34) fun v35 =>
    Rv (some S) (ld1R v35) fun v36 =>
    Pv (binIV .sub v32 v36) fun v37 =>
    Pv (slcV 4 v30 (some v37) none none) fun v38 =>
    Cal Try.prog ω 72 #[v38] <| gh fun v39 =>
    Pv (nilV p0) fun v40 =>
    Pv (fldV 3 v40) fun v41 =>
    Sto 1 v41 v39 <| gh fun _ =>
    sh28_1 ω p0 p3 p4 K
def sh28_3 (ω : Om) (p0 : Value) (p3 : Value) (p4 : Value) (K : Value → M) : M :=
  Pv (nilV p0) fun v42 =>
  Pv (fldV 3 v42) fun v43 =>
  Sto 1 v43 (Value.slice none 0 0) <| gh fun _ =>
  sh28_1 ω p0 p3 p4 K
def sh28 (ω : Om) (a0 : Value) (a1 : Value) (K : Value → M) : M :=
  New (.cells (Value.cells a1) 46 (0, 0)) <| gh fun p_1 =>
  Rv none (ldNR 3 p_1) fun v2 =>
  Cal Try.prog ω 62 #[v2] <| gh fun v3 =>
  Pv (unV .not v3) fun v4 =>
  Br v4
    (K (Value.int .i64 102))
    (Draw fun S =>
      Pv (fldV 0 p_1) fun v5 =>
      Rv (some S) (ld1R v5) fun v6 =>
      Pv (nilV a0) fun v7 =>
      Pv (fldV 4 v7) fun v8 =>
      Rv (some S) (ld1R v8) fun v9 =>
      Pv (binIV .leq v6 v9) fun v10 =>
      Br v10
        (K (Value.int .i64 100))
        (Pv (fldV 0 p_1) fun v19 =>
        Rv none (ld1R v19) fun v20 =>
        Cal Try.prog ω 15 #[a0, v20] <| gh fun v21 =>
        Pv (exV v21 0) fun v22 =>
        Pv (exV v21 1) fun v23 =>
        Pv (binIV .eql v23 (Value.int .i64 0)) fun v24 =>
        Gd v24 true
          (Pv (fldV 1 p_1) fun v25 =>
          Rv none (ld1R v25) fun v26 =>
          Pv (binIV .eql v22 v26) fun v27 =>
          Br v27
            (sh28_2 ω a0 p_1 (Value.int .i64 0) K)
            (sh28_3 ω a0 p_1 (Value.int .i64 0) K))
          (sh28_3 ω a0 p_1 (Value.int .i64 0) K)))
theorem sh28_eq (ω : Om) (a0 a1 : Value) (K : Value → M) : vcF Try.prog ω Try.f28 [a0, a1] K = sh28 ω a0 a1 K := by kernel_rfl
theorem cal28 {ω : Om} {a0 a1 : Value} {K : Value → M} {I : Imm} {L : LH} (h : sh28 ω a0 a1 (fun v => Gh (K v)) I L) : Cal Try.prog ω 28 #[a0, a1] K I L :=
  Cal.gh (cal_of_vc mixed Try.func28 (by rw [sh28_eq]; exact h))

def sh29 (ω : Om) (a0 : Value) (a1 : Value) (K : Value → M) : M :=
  New (.cells #[(Value.int .i64 0), (Value.int .i64 0), (Value.int .i64 0), (Value.slice none 0 0)] 59 (0, 0)) <| gh fun v1 =>
  Cal Try.prog ω 59 #[a0, a1] <| gh fun v2 =>
  Pv (exV v2 0) fun v3 =>
  Pv (exV v2 1) fun v4 =>
  New (.cells #[(Value.int .i64 0), (Value.int .i64 0), (Value.int .i64 0), (Value.slice none 0 0)] 59 (0, 0)) <| gh fun e_5 =>
  Sto 4 e_5 v3 <| gh fun _ =>
  Pv (unV .not v4) fun v6 =>
  Br v6
    (Pv (bldV #[(Value.int .i64 0), (Value.int .i64 0), (Value.int .i64 0), (Value.slice none 0 0)] #[(0, 1), (1, 1), (2, 1), (3, 1)] []) fun v7 =>
    Sto 4 v1 v7 <| gh fun _ =>
    Rv none (ldNR 4 v1) fun v8 =>
    K (Value.tuple #[v8, (Value.int .i64 100)]))
    (Rv none (ldNR 4 e_5) fun v9 =>
    Cal Try.prog ω 57 #[v9] <| gh fun v10 =>
    Sto 4 v1 v10 <| gh fun _ =>
    Rv none (ldNR 4 v1) fun v11 =>
    K (Value.tuple #[v11, (Value.int .i64 0)]))
theorem sh29_eq (ω : Om) (a0 a1 : Value) (K : Value → M) : vcF Try.prog ω Try.f29 [a0, a1] K = sh29 ω a0 a1 K := by kernel_rfl
theorem cal29 {ω : Om} {a0 a1 : Value} {K : Value → M} {I : Imm} {L : LH} (h : sh29 ω a0 a1 (fun v => Gh (K v)) I L) : Cal Try.prog ω 29 #[a0, a1] K I L :=
  Cal.gh (cal_of_vc mixed Try.func29 (by rw [sh29_eq]; exact h))

def sh30_3 (ω : Om) (p0 : Value) (p1 : Value) (x4 : Value) (x5 : Value) (Kn0 : (Value × Value × Unit) → M) (K : Value → M) : M :=
  Pv (lenV p0) fun v4 =>
  Pv (binIV .lss x5 v4) fun v5 =>
  Br v5
    (Draw fun S =>
      Pv (ixV 4 p0 x5) fun v6 =>
      Pv (fldV 0 v6) fun v7 =>
      Rv (some S) (ld1R v7) fun v8 =>
      Pv (ixV 4 p1 x5) fun v9 =>
      Pv (fldV 0 v9) fun v10 =>
      Rv (some S) (ld1R v10) fun v11 =>
      Pv (binIV .neq v8 v11) fun v12 =>
      Gd v12 false
        (Pv (ixV 4 p0 x5) fun v13 =>
        Pv (fldV 1 v13) fun v14 =>
        Rv (some S) (ld1R v14) fun v15 =>
        Pv (ixV 4 p1 x5) fun v16 =>
        Pv (fldV 1 v16) fun v17 =>
        Rv (some S) (ld1R v17) fun v18 =>
        Pv (binIV .neq v15 v18) fun v19 =>
        Gd v19 false
          (Pv (ixV 4 p0 x5) fun v20 =>
          Pv (fldV 2 v20) fun v21 =>
          Rv (some S) (ld1R v21) fun v22 =>
          Pv (ixV 4 p1 x5) fun v23 =>
          Pv (fldV 2 v23) fun v24 =>
          Rv (some S) (ld1R v24) fun v25 =>
          Pv (binIV .neq v22 v25) fun v26 =>
          Gd v26 false
            (Pv (ixV 4 p0 x5) fun v27 =>
            Pv (fldV 3 v27) fun v28 =>
            Rv (some S) (ld1R v28) fun v29 =>
            Rv (some S) (bsR v29) fun v30 =>
            Pv (ixV 4 p1 x5) fun v31 =>
            Pv (fldV 3 v31) fun v32 =>
            Rv (some S) (ld1R v32) fun v33 =>
            Rv (some S) (bsR v33) fun v34 =>
            Pv (binSV .neq v30 v34) fun v35 =>
            Br v35
              (K (Value.bool false))
              (Pv (binIV .add x5 (Value.int .i64 1)) fun v36 =>
              Kn0 (x4, v36, ())))
            (K (Value.bool false)))
          (K (Value.bool false)))
        (K (Value.bool false)))
    (K (Value.bool true))
def sh30 (ω : Om) (a0 : Value) (a1 : Value) (K : Value → M) : M :=
  Pv (lenV a0) fun v1 =>
  Pv (lenV a1) fun v2 =>
  Pv (binIV .neq v1 v2) fun v3 =>
  Br v3
    (K (Value.bool false))
    (LoopM (((Value.bool false), (Value.int .i64 0), ()) : Value × Value × Unit) fun s Kn0 =>
    sh30_3 ω a0 a1 s.1 s.2.1 Kn0 K)
theorem sh30_eq (ω : Om) (a0 a1 : Value) (K : Value → M) : vcF Try.prog ω Try.f30 [a0, a1] K = sh30 ω a0 a1 K := by kernel_rfl
theorem cal30 {ω : Om} {a0 a1 : Value} {K : Value → M} {I : Imm} {L : LH} (h : sh30 ω a0 a1 (fun v => Gh (K v)) I L) : Cal Try.prog ω 30 #[a0, a1] K I L :=
  Cal.gh (cal_of_vc mixed Try.func30 (by rw [sh30_eq]; exact h))

def sh31 (ω : Om) (a0 : Value) (K : Value → M) : M :=
  Cal Try.prog ω 26 #[a0] <| gh fun v1 =>
  Pv (unV .not v1) fun v2 =>
  Br v2
    (K (Value.tuple #[(Value.pointer none), (Value.int .i64 1)]))
    (Pv (bldV #[(Value.int .i64 0), (Value.int .i64 0), (Value.slice none 0 0), (Value.slice none 0 0), (Value.int .i64 0)] #[(0, 1), (1, 1), (2, 1), (3, 1), (4, 1)] [(2, a0)]) fun v3 =>
    New (.cells (Value.cells v3) 120 (0, 0)) <| gh fun v4 =>
    K (Value.tuple #[v4, (Value.int .i64 0)]))
theorem sh31_eq (ω : Om) (a0 : Value) (K : Value → M) : vcF Try.prog ω Try.f31 [a0] K = sh31 ω a0 K := by kernel_rfl
theorem cal31 {ω : Om} {a0 : Value} {K : Value → M} {I : Imm} {L : LH} (h : sh31 ω a0 (fun v => Gh (K v)) I L) : Cal Try.prog ω 31 #[a0] K I L :=
  Cal.gh (cal_of_vc mixed Try.func31 (by rw [sh31_eq]; exact h))

def sh32 (ω : Om) (a0 : Value) (a1 : Value) (a2 : Value) (K : Value → M) : M :=
  New (.cells (Value.cells a2) 43 (0, 0)) <| gh fun x_1 =>
  Pv (fldV 0 x_1) fun v2 =>
  Rv none (ld1R v2) fun v3 =>
  Pv (binIV .eql v3 (Value.int .i64 0)) fun v4 =>
  Br v4
    (Pv (fldV 2 x_1) fun v5 =>
    Rv none (ld1R v5) fun v6 =>
    Pv (fldV 3 x_1) fun v7 =>
    Rv none (ld1R v7) fun v8 =>
    Pv (fldV 4 x_1) fun v9 =>
    Rv none (ld1R v9) fun v10 =>
    Cal Try.prog ω 14 #[a0, v6, v8, v10] <| gh fun v11 =>
    Pv (exV v11 0) fun v12 =>
    Pv (exV v11 1) fun v13 =>
    Pv (fldV 2 x_1) fun v14 =>
    Rv none (ld1R v14) fun v15 =>
    Pv (fldV 3 x_1) fun v16 =>
    Rv none (ld1R v16) fun v17 =>
    Pv (fldV 4 x_1) fun v18 =>
    Rv none (ld1R v18) fun v19 =>
    Cal Try.prog ω 76 #[a1, v15, v17, v19] <| gh fun v20 =>
    Pv (exV v20 0) fun v21 =>
    Pv (exV v20 1) fun v22 =>
    Pv (binIV .eql v12 v21) fun v23 =>
    Gd v23 true
      (Pv (binIV .eql v13 v22) fun v24 =>
      K v24)
      (K (Value.bool false)))
    (Pv (binIV .eql v3 (Value.int .i64 1)) fun v25 =>
    Br v25
      (Pv (fldV 1 x_1) fun v26 =>
      Rv none (ld1R v26) fun v27 =>
      Pv (fldV 2 x_1) fun v28 =>
      Rv none (ld1R v28) fun v29 =>
      Pv (fldV 5 x_1) fun v30 =>
      Rv none (ld1R v30) fun v31 =>
      Cal Try.prog ω 16 #[a0, v27, v29, v31] <| gh fun v32 =>
      Pv (exV v32 0) fun v33 =>
      Pv (exV v32 1) fun v34 =>
      Pv (exV v32 2) fun v35 =>
      Pv (fldV 1 x_1) fun v36 =>
      Rv none (ld1R v36) fun v37 =>
      Pv (fldV 2 x_1) fun v38 =>
      Rv none (ld1R v38) fun v39 =>
      Pv (fldV 5 x_1) fun v40 =>
      Rv none (ld1R v40) fun v41 =>
      Cal Try.prog ω 77 #[a1, v37, v39, v41] <| gh fun v42 =>
      Pv (exV v42 0) fun v43 =>
      Pv (exV v42 1) fun v44 =>
      Pv (exV v42 2) fun v45 =>
      Pv (binIV .eql v33 v43) fun v46 =>
      Gd v46 true
        (Pv (binBV .eql v34 v44) fun v47 =>
        Gd v47 true
          (Pv (binIV .eql v35 v45) fun v48 =>
          K v48)
          (K (Value.bool false)))
        (K (Value.bool false)))
      (Pv (binIV .eql v3 (Value.int .i64 2)) fun v49 =>
      Br v49
        (Pv (fldV 1 x_1) fun v50 =>
        Rv none (ld1R v50) fun v51 =>
        Cal Try.prog ω 27 #[a0, v51] <| gh fun v52 =>
        Pv (fldV 1 x_1) fun v53 =>
        Rv none (ld1R v53) fun v54 =>
        Cal Try.prog ω 78 #[a1, v54] <| gh fun v55 =>
        Pv (binIV .eql v52 v55) fun v56 =>
        K v56)
        (Pv (binIV .eql v3 (Value.int .i64 3)) fun v57 =>
        Br v57
          (Pv (fldV 1 x_1) fun v58 =>
          Rv none (ld1R v58) fun v59 =>
          Cal Try.prog ω 23 #[a0, v59] <| gh fun v60 =>
          Pv (fldV 1 x_1) fun v61 =>
          Rv none (ld1R v61) fun v62 =>
          Cal Try.prog ω 25 #[a1, v62] <| gh fun v63 =>
          Pv (binIV .eql v60 v63) fun v64 =>
          K v64)
          (Pv (binIV .eql v3 (Value.int .i64 4)) fun v65 =>
          Br v65
            (Pv (fldV 1 x_1) fun v66 =>
            Rv none (ld1R v66) fun v67 =>
            Pv (fldV 2 x_1) fun v68 =>
            Rv none (ld1R v68) fun v69 =>
            Pv (fldV 6 x_1) fun v70 =>
            Rv none (ld1R v70) fun v71 =>
            Pv (bldV #[(Value.int .i64 0), (Value.int .i64 0), (Value.slice none 0 0)] #[(0, 1), (1, 1), (2, 1)] [(0, v67), (1, v69), (2, v71)]) fun v72 =>
            Cal Try.prog ω 28 #[a0, v72] <| gh fun v73 =>
            Pv (fldV 1 x_1) fun v74 =>
            Rv none (ld1R v74) fun v75 =>
            Pv (fldV 2 x_1) fun v76 =>
            Rv none (ld1R v76) fun v77 =>
            Pv (fldV 6 x_1) fun v78 =>
            Rv none (ld1R v78) fun v79 =>
            Cal Try.prog ω 79 #[a1, v75, v77, v79] <| gh fun v80 =>
            Pv (binIV .eql v73 v80) fun v81 =>
            K v81)
            (Pv (binIV .eql v3 (Value.int .i64 5)) fun v82 =>
            Br v82
              (Pv (fldV 1 x_1) fun v83 =>
              Rv none (ld1R v83) fun v84 =>
              Cal Try.prog ω 15 #[a0, v84] <| gh fun v85 =>
              Pv (exV v85 0) fun v86 =>
              Pv (exV v85 1) fun v87 =>
              Pv (fldV 1 x_1) fun v88 =>
              Rv none (ld1R v88) fun v89 =>
              Cal Try.prog ω 73 #[a1, v89] <| gh fun v90 =>
              Pv (exV v90 0) fun v91 =>
              Pv (exV v90 1) fun v92 =>
              Pv (fldV 1 x_1) fun v93 =>
              Rv none (ld1R v93) fun v94 =>
              Cal Try.prog ω 29 #[a0, v94] <| gh fun v95 =>
              Pv (exV v95 0) fun v96 =>
              Pv (exV v95 1) fun v97 =>
              New (.cells #[(Value.int .i64 0), (Value.int .i64 0), (Value.int .i64 0), (Value.slice none 0 0)] 59 (0, 0)) <| gh fun at_98 =>
              Sto 4 at_98 v96 <| gh fun _ =>
              Pv (fldV 1 x_1) fun v99 =>
              Rv none (ld1R v99) fun v100 =>
              Cal Try.prog ω 80 #[a1, v100] <| gh fun v101 =>
              Pv (exV v101 0) fun v102 =>
              Pv (exV v101 1) fun v103 =>
              New (.cells #[(Value.int .i64 0), (Value.int .i64 0), (Value.int .i64 0), (Value.slice none 0 0)] 59 (0, 0)) <| gh fun entry_104 =>
              Sto 4 entry_104 v102 <| gh fun _ =>
              Pv (fldV 1 x_1) fun v105 =>
              Rv none (ld1R v105) fun v106 =>
              Cal Try.prog ω 71 #[a0, v106] <| gh fun v107 =>
              Pv (exV v107 0) fun v108 =>
              Pv (exV v107 1) fun v109 =>
              Pv (fldV 1 x_1) fun v110 =>
              Rv none (ld1R v110) fun v111 =>
              Cal Try.prog ω 74 #[a1, v111] <| gh fun v112 =>
              Pv (exV v112 0) fun v113 =>
              Pv (exV v112 1) fun v114 =>
              Rv none (ldNR 4 at_98) fun v115 =>
              BldS 59 4 #[(Value.int .i64 0), (Value.int .i64 0), (Value.int .i64 0), (Value.slice none 0 0)] 1 [(0, v115)] <| gh fun v116 =>
              Rv none (ldNR 4 entry_104) fun v117 =>
              BldS 59 4 #[(Value.int .i64 0), (Value.int .i64 0), (Value.int .i64 0), (Value.slice none 0 0)] 1 [(0, v117)] <| gh fun v118 =>
              Cal Try.prog ω 30 #[v116, v118] <| gh fun v119 =>
              Cal Try.prog ω 53 #[v108, v113] <| gh fun v120 =>
              Pv (binIV .eql v86 v91) fun v121 =>
              Gd v121 true
                (Pv (binIV .eql v87 v92) fun v122 =>
                Gd v122 true
                  (Pv (binIV .eql v97 v103) fun v123 =>
                  Gd v123 true
                    (Pv (binIV .eql v109 v114) fun v124 =>
                    Gd v124 true
                      (Gd v119 true
                        (K v120)
                        (K (Value.bool false)))
                      (K (Value.bool false)))
                    (K (Value.bool false)))
                  (K (Value.bool false)))
                (K (Value.bool false)))
              (Pv (binIV .eql v3 (Value.int .i64 6)) fun v125 =>
              Br v125
                (Pv (fldV 1 x_1) fun v126 =>
                Rv none (ld1R v126) fun v127 =>
                Pv (fldV 2 x_1) fun v128 =>
                Rv none (ld1R v128) fun v129 =>
                Cal Try.prog ω 17 #[a0, v127, v129] <| gh fun v130 =>
                Pv (fldV 1 x_1) fun v131 =>
                Rv none (ld1R v131) fun v132 =>
                Pv (fldV 2 x_1) fun v133 =>
                Rv none (ld1R v133) fun v134 =>
                Cal Try.prog ω 81 #[a1, v132, v134] <| gh fun v135 =>
                Cal Try.prog ω 30 #[v130, v135] <| gh fun v136 =>
                K v136)
                (Pv (binIV .eql v3 (Value.int .i64 7)) fun v137 =>
                Br v137
                  (Pv (fldV 1 x_1) fun v138 =>
                  Rv none (ld1R v138) fun v139 =>
                  Pv (fldV 2 x_1) fun v140 =>
                  Rv none (ld1R v140) fun v141 =>
                  Cal Try.prog ω 82 #[a0, v139, v141] <| gh fun v142 =>
                  Pv (fldV 1 x_1) fun v143 =>
                  Rv none (ld1R v143) fun v144 =>
                  Pv (fldV 2 x_1) fun v145 =>
                  Rv none (ld1R v145) fun v146 =>
                  Cal Try.prog ω 83 #[a1, v144, v146] <| gh fun v147 =>
                  Pv (binBV .eql v142 v147) fun v148 =>
                  K v148)
                  (K (Value.bool true)))))))))
theorem sh32_eq (ω : Om) (a0 a1 a2 : Value) (K : Value → M) : vcF Try.prog ω Try.f32 [a0, a1, a2] K = sh32 ω a0 a1 a2 K := by kernel_rfl
theorem cal32 {ω : Om} {a0 a1 a2 : Value} {K : Value → M} {I : Imm} {L : LH} (h : sh32 ω a0 a1 a2 (fun v => Gh (K v)) I L) : Cal Try.prog ω 32 #[a0, a1, a2] K I L :=
  Cal.gh (cal_of_vc mixed Try.func32 (by rw [sh32_eq]; exact h))

def sh33 (ω : Om) (a0 : Value) (K : Value → M) : M :=
  Draw fun S =>
    Pv (nilV a0) fun v1 =>
    Pv (fldV 0 v1) fun v2 =>
    Rv (some S) (ldNR 3 v2) fun v3 =>
    Cal Try.prog ω 63 #[v3] <| gh <| Keep S fun v4 =>
    Pv (nilV a0) fun v5 =>
    Pv (fldV 3 v5) fun v6 =>
    Rv (some S) (ld1R v6) fun v7 =>
    Cal Try.prog ω 84 #[v7] <| gh <| Keep S fun v8 =>
    Pv (nilV a0) fun v9 =>
    Pv (fldV 4 v9) fun v10 =>
    Rv (some S) (ld1R v10) fun v11 =>
    Pv (bldV #[(Value.int .i64 0), (Value.int .i64 0), (Value.slice none 0 0), (Value.slice none 0 0), (Value.int .i64 0)] #[(0, 3), (3, 1), (4, 1)] [(0, v4), (1, v8), (2, v11)]) fun v12 =>
    New (.cells (Value.cells v12) 112 (0, 0)) <| gh fun v13 =>
    K v13
theorem sh33_eq (ω : Om) (a0 : Value) (K : Value → M) : vcF Try.prog ω Try.f33 [a0] K = sh33 ω a0 K := by kernel_rfl
theorem cal33 {ω : Om} {a0 : Value} {K : Value → M} {I : Imm} {L : LH} (h : sh33 ω a0 (fun v => Gh (K v)) I L) : Cal Try.prog ω 33 #[a0] K I L :=
  Cal.gh (cal_of_vc mixed Try.func33 (by rw [sh33_eq]; exact h))

def sh34 (ω : Om) (a0 : Value) (K : Value → M) : M :=
  Pv (nilV a0) fun v1 =>
  Rv none (ldNR 5 v1) fun v2 =>
  New (.cells #[(Value.int .i64 0), (Value.int .i64 0), (Value.slice none 0 0), (Value.slice none 0 0), (Value.int .i64 0)] 120 (0, 0)) <| gh fun c_3 =>
  Sto 5 c_3 v2 <| gh fun _ =>
  BldS 59 4 #[(Value.int .i64 0), (Value.int .i64 0), (Value.int .i64 0), (Value.slice none 0 0)] 0 [] <| gh fun v4 =>
  Pv (nilV a0) fun v5 =>
  Pv (fldV 3 v5) fun v6 =>
  Rv none (ld1R v6) fun v7 =>
  App 59 4 48 #[(Value.int .i64 0), (Value.int .i64 0), (Value.int .i64 0), (Value.slice none 0 0)] v4 v7 <| gh fun v8 =>
  Pv (fldV 3 c_3) fun v9 =>
  Sto 1 v9 v8 <| gh fun _ =>
  K c_3
theorem sh34_eq (ω : Om) (a0 : Value) (K : Value → M) : vcF Try.prog ω Try.f34 [a0] K = sh34 ω a0 K := by kernel_rfl
theorem cal34 {ω : Om} {a0 : Value} {K : Value → M} {I : Imm} {L : LH} (h : sh34 ω a0 (fun v => Gh (K v)) I L) : Cal Try.prog ω 34 #[a0] K I L :=
  Cal.gh (cal_of_vc mixed Try.func34 (by rw [sh34_eq]; exact h))

def sh35 (ω : Om) (K : Value → M) : M :=
  BldS 3 1 #[(Value.int .i64 0)] 1 [(0, (Value.int .i64 1))] <| gh fun v1 =>
  Cal Try.prog ω 13 #[v1] <| gh fun v2 =>
  Pv (exV v2 0) fun v3 =>
  Pv (exV v2 1) fun v4 =>
  Pv (binIV .neq v4 (Value.int .i64 0)) fun v5 =>
  Gd v5 false
    (Pv (binPV .eql v3 (Value.pointer none)) fun v6 =>
    Br v6
      (K (Value.bool false))
      (Cal Try.prog ω 44 #[(Value.int .i64 1), (Value.int .i64 1), (Value.int .i64 0), (Value.int .i64 0), v3, (Value.slice none 0 0)] <| gh fun v7 =>
      Pv (exV v7 0) fun v8 =>
      Pv (exV v7 1) fun v9 =>
      Pv (binIV .neq v9 (Value.int .i64 0)) fun v10 =>
      Gd v10 false
        (Pv (binPV .eql v8 (Value.pointer none)) fun v11 =>
        Br v11
          (K (Value.bool false))
          (Cal Try.prog ω 39 #[v8, (Value.int .i64 1)] <| gh fun v12 =>
          Cal Try.prog ω 51 #[v8] <| gh fun v13 =>
          Pv (binIV .eql v13 (Value.int .i64 3)) fun v14 =>
          K v14))
        (K (Value.bool false))))
    (K (Value.bool false))
theorem sh35_eq (ω : Om) (K : Value → M) : vcF Try.prog ω Try.f35 [] K = sh35 ω K := by kernel_rfl
theorem cal35 {ω : Om} {K : Value → M} {I : Imm} {L : LH} (h : sh35 ω (fun v => Gh (K v)) I L) : Cal Try.prog ω 35 #[] K I L :=
  Cal.gh (cal_of_vc mixed Try.func35 (by rw [sh35_eq]; exact h))

def sh36 (ω : Om) (a0 : Value) (K : Value → M) : M :=
  New (.cells (Value.cells a0) 70 (0, 0)) <| gh fun s_1 =>
  Pv (fldV 4 s_1) fun v2 =>
  Rv none (ld1R v2) fun v3 =>
  Pv (fldV 5 s_1) fun v4 =>
  Rv none (ld1R v4) fun v5 =>
  Pv (fldV 7 s_1) fun v6 =>
  Rv none (ld1R v6) fun v7 =>
  Pv (bldV #[(Value.int .i64 0), (Value.int .i64 0), (Value.slice none 0 0)] #[(0, 1), (1, 1), (2, 1)] [(0, v3), (1, v5), (2, v7)]) fun v8 =>
  Pv (fldV 8 s_1) fun v9 =>
  Rv none (ld1R v9) fun v10 =>
  Pv (fldV 6 s_1) fun v11 =>
  Rv none (ld1R v11) fun v12 =>
  Cal Try.prog ω 19 #[v8, v10, v12] <| gh fun v13 =>
  Pv (exV v13 0) fun v14 =>
  Pv (exV v13 1) fun v15 =>
  Pv (fldV 4 s_1) fun v16 =>
  Rv none (ld1R v16) fun v17 =>
  Pv (fldV 5 s_1) fun v18 =>
  Rv none (ld1R v18) fun v19 =>
  Pv (fldV 7 s_1) fun v20 =>
  Rv none (ld1R v20) fun v21 =>
  Pv (fldV 8 s_1) fun v22 =>
  Rv none (ld1R v22) fun v23 =>
  Pv (fldV 6 s_1) fun v24 =>
  Rv none (ld1R v24) fun v25 =>
  Cal Try.prog ω 20 #[v17, v19, v21, v23, v25] <| gh fun v26 =>
  Pv (exV v26 0) fun v27 =>
  Pv (exV v26 1) fun v28 =>
  Pv (binIV .neq v28 (Value.int .i64 0)) fun v29 =>
  Br v29
    (K (Value.tuple #[(Value.pointer none), (Value.pointer none), (Value.bool true)]))
    (Pv (binIV .neq v15 (Value.int .i64 0)) fun v30 =>
    Gd v30 false
      (Pv (binPV .eql v14 (Value.pointer none)) fun v31 =>
      Br v31
        (K (Value.tuple #[(Value.pointer none), (Value.pointer none), (Value.bool false)]))
        (Pv (fldV 0 s_1) fun v32 =>
        Rv none (ld1R v32) fun v33 =>
        Pv (fldV 1 s_1) fun v34 =>
        Rv none (ld1R v34) fun v35 =>
        Pv (fldV 2 s_1) fun v36 =>
        Rv none (ld1R v36) fun v37 =>
        Pv (fldV 3 s_1) fun v38 =>
        Rv none (ld1R v38) fun v39 =>
        Pv (fldV 9 s_1) fun v40 =>
        Rv none (ld1R v40) fun v41 =>
        Cal Try.prog ω 44 #[v33, v35, v37, v39, v14, v41] <| gh fun v42 =>
        Pv (exV v42 0) fun v43 =>
        Pv (exV v42 1) fun v44 =>
        Pv (fldV 0 s_1) fun v45 =>
        Rv none (ld1R v45) fun v46 =>
        Pv (fldV 1 s_1) fun v47 =>
        Rv none (ld1R v47) fun v48 =>
        Pv (fldV 2 s_1) fun v49 =>
        Rv none (ld1R v49) fun v50 =>
        Pv (fldV 3 s_1) fun v51 =>
        Rv none (ld1R v51) fun v52 =>
        Pv (fldV 9 s_1) fun v53 =>
        Rv none (ld1R v53) fun v54 =>
        Cal Try.prog ω 85 #[v46, v48, v50, v52, v27, v54] <| gh fun v55 =>
        Pv (exV v55 0) fun v56 =>
        Pv (exV v55 1) fun v57 =>
        Pv (binIV .neq v44 v57) fun v58 =>
        Gd v58 false
          (Pv (binPV .eql v43 (Value.pointer none)) fun v59 =>
          Pv (binPV .eql v56 (Value.pointer none)) fun v60 =>
          Pv (binBV .neq v59 v60) fun v61 =>
          Br v61
            (K (Value.tuple #[(Value.pointer none), (Value.pointer none), (Value.bool false)]))
            (K (Value.tuple #[v43, v56, (Value.bool true)])))
          (K (Value.tuple #[(Value.pointer none), (Value.pointer none), (Value.bool false)]))))
      (K (Value.tuple #[(Value.pointer none), (Value.pointer none), (Value.bool false)])))
theorem sh36_eq (ω : Om) (a0 : Value) (K : Value → M) : vcF Try.prog ω Try.f36 [a0] K = sh36 ω a0 K := by kernel_rfl
theorem cal36 {ω : Om} {a0 : Value} {K : Value → M} {I : Imm} {L : LH} (h : sh36 ω a0 (fun v => Gh (K v)) I L) : Cal Try.prog ω 36 #[a0] K I L :=
  Cal.gh (cal_of_vc mixed Try.func36 (by rw [sh36_eq]; exact h))

def sh37 (ω : Om) (a0 : Value) (K : Value → M) : M :=
  Pv (nilV a0) fun v1 =>
  Pv (fldV 2 v1) fun v2 =>
  Rv none (ld1R v2) fun v3 =>
  K v3
theorem sh37_eq (ω : Om) (a0 : Value) (K : Value → M) : vcF Try.prog ω Try.f37 [a0] K = sh37 ω a0 K := by kernel_rfl
theorem cal37 {ω : Om} {a0 : Value} {K : Value → M} {I : Imm} {L : LH} (h : sh37 ω a0 (fun v => Gh (K v)) I L) : Cal Try.prog ω 37 #[a0] K I L :=
  Cal.gh (cal_of_vc mixed Try.func37 (by rw [sh37_eq]; exact h))

def sh38 (ω : Om) (a0 : Value) (K : Value → M) : M :=
  Pv (nilV a0) fun v1 =>
  Pv (fldV 3 v1) fun v2 =>
  Rv none (ld1R v2) fun v3 =>
  K v3
theorem sh38_eq (ω : Om) (a0 : Value) (K : Value → M) : vcF Try.prog ω Try.f38 [a0] K = sh38 ω a0 K := by kernel_rfl
theorem cal38 {ω : Om} {a0 : Value} {K : Value → M} {I : Imm} {L : LH} (h : sh38 ω a0 (fun v => Gh (K v)) I L) : Cal Try.prog ω 38 #[a0] K I L :=
  Cal.gh (cal_of_vc mixed Try.func38 (by rw [sh38_eq]; exact h))

def sh39_1 (ω : Om) (p0 : Value) (p4 : Value) (K : Value → M) : M :=
  Cal Try.prog ω 87 #[p0] <| gh fun v13 =>
  K v13
def sh39_2 (ω : Om) (p0 : Value) (p4 : Value) (K : Value → M) : M :=
  Cal Try.prog ω 89 #[p0] <| gh fun v26 =>
  sh39_1 ω p0 p4 K
def sh39 (ω : Om) (a0 : Value) (a1 : Value) (K : Value → M) : M :=
  Pv (nilV a0) fun v1 =>
  Pv (fldV 6 v1) fun v2 =>
  Rv none (ld1R v2) fun v3 =>
  Pv (binIV .eql v3 (Value.int .i64 3)) fun v4 =>
  Br v4
    (Cal Try.prog ω 86 #[a0] <| gh fun v5 =>
    Cal Try.prog ω 87 #[a0] <| gh fun v6 =>
    K v6)
    (Pv (nilV a0) fun v7 =>
    Pv (fldV 8 v7) fun v8 =>
    Rv none (ld1R v8) fun v9 =>
    Pv (binIV .add v9 (Value.int .i64 1)) fun v10 =>
    Pv (nilV a0) fun v11 =>
    Pv (fldV 8 v11) fun v12 =>
    Sto 1 v12 v10 <| gh fun _ =>
    Draw fun S =>
      Pv (nilV a0) fun v14 =>
      Pv (fldV 8 v14) fun v15 =>
      Rv (some S) (ld1R v15) fun v16 =>
      Pv (binIV .geq v16 a1) fun v17 =>
      Gd v17 true
        (Pv (nilV a0) fun v18 =>
        Pv (fldV 4 v18) fun v19 =>
        Rv (some S) (ld1R v19) fun v20 =>
        Cal Try.prog ω 52 #[v20] <| gh <| Keep S fun v21 =>
        Pv (nilV a0) fun v22 =>
        Pv (fldV 1 v22) fun v23 =>
        Rv (some S) (ld1R v23) fun v24 =>
        Cal Try.prog ω 88 #[v21, v24] <| gh fun v25 =>
        Br v25
          (sh39_2 ω a0 (Value.slice none 0 0) K)
          (sh39_1 ω a0 (Value.slice none 0 0) K))
        ((fun I L => S I L ∧ (sh39_1 ω a0 (Value.slice none 0 0) K) I L)))
theorem sh39_eq (ω : Om) (a0 a1 : Value) (K : Value → M) : vcF Try.prog ω Try.f39 [a0, a1] K = sh39 ω a0 a1 K := by kernel_rfl
theorem cal39 {ω : Om} {a0 a1 : Value} {K : Value → M} {I : Imm} {L : LH} (h : sh39 ω a0 a1 (fun v => Gh (K v)) I L) : Cal Try.prog ω 39 #[a0, a1] K I L :=
  Cal.gh (cal_of_vc mixed Try.func39 (by rw [sh39_eq]; exact h))

def sh40_3 (ω : Om) (p0 : Value) (p4 : Value) (p5 : Value) (K : Value → M) : M :=
  Cal Try.prog ω 87 #[p0] <| gh fun v28 =>
  K (Value.tuple #[v28, (Value.int .i64 0)])
def sh40_5 (ω : Om) (p0 : Value) (p3 : Value) (p4 : Value) (p5 : Value) (K : Value → M) : M :=
  Draw fun S =>
    Pv (fldV 2 p3) fun v41 =>
    Rv (some S) (ld1R v41) fun v42 =>
    Pv (nilV p0) fun v43 =>
    Pv (fldV 9 v43) fun v44 =>
    Pv (ixPV 1 6 v44 v42) fun v45 =>
    Sto 1 v45 (Value.bool true) <| gh fun _ =>
    Cal Try.prog ω 94 #[p0] <| gh fun v46 =>
    sh40_3 ω p0 p4 p5 K
def sh40_2 (ω : Om) (p0 : Value) (p3 : Value) (p4 : Value) (p5 : Value) (K : Value → M) : M :=
  Draw fun S =>
    Pv (fldV 4 p3) fun v19 =>
    Rv (some S) (ld1R v19) fun v20 =>
    Pv (nilV p0) fun v21 =>
    Pv (fldV 2 v21) fun v22 =>
    Rv (some S) (ld1R v22) fun v23 =>
    Pv (binIV .lss v20 v23) fun v24 =>
    Br v24
      (Rv none (ldNR 12 p3) fun v25 =>
      Cal Try.prog ω 92 #[p0, v25] <| gh fun v26 =>
      Cal Try.prog ω 87 #[p0] <| gh fun v27 =>
      K (Value.tuple #[v27, (Value.int .i64 0)]))
      (Pv (fldV 0 p3) fun v29 =>
      Rv none (ld1R v29) fun v30 =>
      Pv (binIV .eql v30 (Value.int .i64 1)) fun v31 =>
      Br v31
        (Rv none (ldNR 12 p3) fun v32 =>
        Cal Try.prog ω 93 #[p0, v32] <| gh fun v33 =>
        sh40_3 ω p0 p4 p5 K)
        (Pv (binIV .eql v30 (Value.int .i64 2)) fun v34 =>
        Br v34
          (Pv (fldV 8 p3) fun v35 =>
          Rv none (ld1R v35) fun v36 =>
          Gd v36 true
            (Pv (nilV p0) fun v37 =>
            Pv (fldV 6 v37) fun v38 =>
            Rv none (ld1R v38) fun v39 =>
            Pv (binIV .eql v39 (Value.int .i64 2)) fun v40 =>
            Br v40
              (sh40_5 ω p0 p3 p4 p5 K)
              (sh40_3 ω p0 p4 p5 K))
            (sh40_3 ω p0 p4 p5 K))
          (Pv (binIV .eql v30 (Value.int .i64 3)) fun v47 =>
          Br v47
            (Rv none (ldNR 12 p3) fun v48 =>
            Cal Try.prog ω 95 #[p0, v48] <| gh fun v49 =>
            sh40_3 ω p0 p4 p5 K)
            (Pv (binIV .eql v30 (Value.int .i64 5)) fun v50 =>
            Br v50
              (Rv none (ldNR 12 p3) fun v51 =>
              Cal Try.prog ω 96 #[p0, v51] <| gh fun v52 =>
              sh40_3 ω p0 p4 p5 K)
              (Pv (binIV .eql v30 (Value.int .i64 4)) fun v53 =>
              Br v53
                (Rv none (ldNR 12 p3) fun v54 =>
                Cal Try.prog ω 97 #[p0, v54] <| gh fun v55 =>
                sh40_3 ω p0 p4 p5 K)
                (sh40_3 ω p0 p4 p5 K))))))
def sh40_6 (ω : Om) (p0 : Value) (p3 : Value) (p4 : Value) (p5 : Value) (K : Value → M) : M :=
  Pv (fldV 4 p3) fun v62 =>
  Rv none (ld1R v62) fun v63 =>
  Cal Try.prog ω 91 #[p0, v63] <| gh fun v64 =>
  sh40_2 ω p0 p3 p4 p5 K
def sh40 (ω : Om) (a0 : Value) (a1 : Value) (K : Value → M) : M :=
  New (.cells (Value.cells a1) 77 (0, 0)) <| gh fun m_1 =>
  Rv none (ldNR 12 m_1) fun v2 =>
  Cal Try.prog ω 90 #[v2] <| gh fun v3 =>
  Pv (exV v3 0) fun v4 =>
  Pv (exV v3 1) fun v5 =>
  Draw fun S =>
    Pv (binIV .neq v5 (Value.int .i64 0)) fun v6 =>
    Gd v6 false
      (Pv (fldV 1 m_1) fun v7 =>
      Rv (some S) (ld1R v7) fun v8 =>
      Pv (nilV a0) fun v9 =>
      Pv (fldV 0 v9) fun v10 =>
      Rv (some S) (ld1R v10) fun v11 =>
      Pv (binIV .neq v8 v11) fun v12 =>
      Gd v12 false
        (Pv (fldV 3 m_1) fun v13 =>
        Rv (some S) (ld1R v13) fun v14 =>
        Pv (nilV a0) fun v15 =>
        Pv (fldV 1 v15) fun v16 =>
        Rv (some S) (ld1R v16) fun v17 =>
        Pv (binIV .neq v14 v17) fun v18 =>
        Br v18
          (K (Value.tuple #[(Value.slice none 0 0), (Value.int .i64 1)]))
          (Draw fun S =>
            Pv (fldV 4 m_1) fun v56 =>
            Rv (some S) (ld1R v56) fun v57 =>
            Pv (nilV a0) fun v58 =>
            Pv (fldV 2 v58) fun v59 =>
            Rv (some S) (ld1R v59) fun v60 =>
            Pv (binIV .gtr v57 v60) fun v61 =>
            Br v61
              (sh40_6 ω a0 m_1 (Value.slice none 0 0) (Value.int .i64 0) K)
              (sh40_2 ω a0 m_1 (Value.slice none 0 0) (Value.int .i64 0) K)))
        (K (Value.tuple #[(Value.slice none 0 0), (Value.int .i64 1)])))
      (K (Value.tuple #[(Value.slice none 0 0), (Value.int .i64 1)]))
theorem sh40_eq (ω : Om) (a0 a1 : Value) (K : Value → M) : vcF Try.prog ω Try.f40 [a0, a1] K = sh40 ω a0 a1 K := by kernel_rfl
theorem cal40 {ω : Om} {a0 a1 : Value} {K : Value → M} {I : Imm} {L : LH} (h : sh40 ω a0 a1 (fun v => Gh (K v)) I L) : Cal Try.prog ω 40 #[a0, a1] K I L :=
  Cal.gh (cal_of_vc mixed Try.func40 (by rw [sh40_eq]; exact h))

def sh41 (ω : Om) (a0 : Value) (a1 : Value) (K : Value → M) : M :=
  Pv (nilV a0) fun v1 =>
  Pv (fldV 6 v1) fun v2 =>
  Rv none (ld1R v2) fun v3 =>
  Pv (binIV .neq v3 (Value.int .i64 3)) fun v4 =>
  Br v4
    (K (Value.tuple #[(Value.int .i64 0), (Value.slice none 0 0), (Value.int .i64 110)]))
    (Cal Try.prog ω 98 #[a0, (Value.int .i64 2), a1] <| gh fun v5 =>
    Pv (exV v5 0) fun v6 =>
    Pv (exV v5 1) fun v7 =>
    Pv (exV v5 2) fun v8 =>
    K (Value.tuple #[v6, v7, v8]))
theorem sh41_eq (ω : Om) (a0 a1 : Value) (K : Value → M) : vcF Try.prog ω Try.f41 [a0, a1] K = sh41 ω a0 a1 K := by kernel_rfl
theorem cal41 {ω : Om} {a0 a1 : Value} {K : Value → M} {I : Imm} {L : LH} (h : sh41 ω a0 a1 (fun v => Gh (K v)) I L) : Cal Try.prog ω 41 #[a0, a1] K I L :=
  Cal.gh (cal_of_vc mixed Try.func41 (by rw [sh41_eq]; exact h))

def sh42_2 (ω : Om) (p0 : Value) (p4 : Value) (p5 : Value) (p6 : Value) (p9 : Value) (K : Value → M) : M :=
  Cal Try.prog ω 98 #[p0, (Value.int .i64 3), p9] <| gh fun v31 =>
  Pv (exV v31 0) fun v32 =>
  Pv (exV v31 1) fun v33 =>
  Pv (exV v31 2) fun v34 =>
  K (Value.tuple #[v32, v33, v34])
def sh42_4 (ω : Om) (p0 : Value) (p4 : Value) (p5 : Value) (p6 : Value) (p58 : Value) (p59 : Value) (x9 : Value) (x60 : Value) (Kn0 : (Value × Value × Unit) → M) (K : Value → M) : M :=
  Pv (binIV .lss x60 p59) fun v36 =>
  Br v36
    (Pv (ixV 1 p58 x60) fun v37 =>
    Rv none (ld1R v37) fun v38 =>
    Pv (cvIV .u8 v38) fun v39 =>
    BldS 5 1 #[(Value.int .u8 0)] 1 [(0, v39)] <| gh fun v40 =>
    App 5 1 1 #[(Value.int .u8 0)] x9 v40 <| gh fun v41 =>
    Pv (binIV .add x60 (Value.int .i64 1)) fun v42 =>
    Kn0 (v41, v42, ()))
    (sh42_2 ω p0 p4 p5 p6 x9 K)
def sh42 (ω : Om) (a0 : Value) (a1 : Value) (K : Value → M) : M :=
  Pv (nilV a0) fun v1 =>
  Pv (fldV 6 v1) fun v2 =>
  Rv none (ld1R v2) fun v3 =>
  Pv (binIV .neq v3 (Value.int .i64 3)) fun v4 =>
  Br v4
    (K (Value.tuple #[(Value.int .i64 0), (Value.slice none 0 0), (Value.int .i64 110)]))
    (Cal Try.prog ω 99 #[a1] <| gh fun v5 =>
    Pv (unV .not v5) fun v6 =>
    Br v6
      (K (Value.tuple #[(Value.int .i64 0), (Value.slice none 0 0), (Value.int .i64 1)]))
      (Draw fun S =>
        Pv (nilV a0) fun v7 =>
        Pv (fldV 4 v7) fun v8 =>
        Rv (some S) (ld1R v8) fun v9 =>
        Pv (nilV a0) fun v10 =>
        Pv (fldV 4 v10) fun v11 =>
        Rv (some S) (ld1R v11) fun v12 =>
        Cal Try.prog ω 22 #[v12] <| gh <| Keep S fun v13 =>
        Cal Try.prog ω 15 #[v9, v13] <| gh fun v14 =>
        Pv (exV v14 0) fun v15 =>
        Pv (exV v14 1) fun v16 =>
        Pv (nilV a0) fun v17 =>
        Pv (fldV 4 v17) fun v18 =>
        Rv none (ld1R v18) fun v19 =>
        Cal Try.prog ω 69 #[v19] <| gh fun v20 =>
        Gd v20 false
          (Pv (nilV a0) fun v21 =>
          Pv (fldV 2 v21) fun v22 =>
          Rv none (ld1R v22) fun v23 =>
          Pv (binIV .neq v15 v23) fun v24 =>
          Gd v24 false
            (Pv (nilV a0) fun v25 =>
            Pv (fldV 4 v25) fun v26 =>
            Rv none (ld1R v26) fun v27 =>
            Cal Try.prog ω 52 #[v27] <| gh fun v28 =>
            Cal Try.prog ω 100 #[a1, v28] <| gh fun v29 =>
            Pv (binIV .neq v29 (Value.int .i64 1)) fun v30 =>
            Br v30
              (K (Value.tuple #[(Value.int .i64 0), (Value.slice none 0 0), (Value.int .i64 111)]))
              (Pv (lenV a1) fun v35 =>
              LoopM (((Value.slice none 0 0), (Value.int .i64 0), ()) : Value × Value × Unit) fun s Kn0 =>
              sh42_4 ω a0 (Value.int .i64 0) (Value.slice none 0 0) (Value.int .i64 0) a1 v35 s.1 s.2.1 Kn0 K))
            (K (Value.tuple #[(Value.int .i64 0), (Value.slice none 0 0), (Value.int .i64 111)])))
          (K (Value.tuple #[(Value.int .i64 0), (Value.slice none 0 0), (Value.int .i64 111)]))))
theorem sh42_eq (ω : Om) (a0 a1 : Value) (K : Value → M) : vcF Try.prog ω Try.f42 [a0, a1] K = sh42 ω a0 a1 K := by kernel_rfl
theorem cal42 {ω : Om} {a0 a1 : Value} {K : Value → M} {I : Imm} {L : LH} (h : sh42 ω a0 a1 (fun v => Gh (K v)) I L) : Cal Try.prog ω 42 #[a0, a1] K I L :=
  Cal.gh (cal_of_vc mixed Try.func42 (by rw [sh42_eq]; exact h))

def sh43 (ω : Om) (a0 : Value) (a1 : Value) (a2 : Value) (K : Value → M) : M :=
  Pv (lenV a2) fun v1 =>
  Pv (binIV .gtr v1 (Value.int .i64 60000)) fun v2 =>
  Br v2
    (K (Value.int .i64 1))
    (Pv (nilV a0) fun v3 =>
    Pv (fldV 4 v3) fun v4 =>
    Rv none (ld1R v4) fun v5 =>
    Cal Try.prog ω 23 #[v5, a1] <| gh fun v6 =>
    Pv (binIV .neq v6 (Value.int .i64 0)) fun v7 =>
    Br v7
      (K v6)
      (Cal Try.prog ω 101 #[a2] <| gh fun v8 =>
      Pv (nilV a0) fun v9 =>
      Pv (fldV 5 v9) fun v10 =>
      Sto 1 v10 v8 <| gh fun _ =>
      K (Value.int .i64 0)))
theorem sh43_eq (ω : Om) (a0 a1 a2 : Value) (K : Value → M) : vcF Try.prog ω Try.f43 [a0, a1, a2] K = sh43 ω a0 a1 a2 K := by kernel_rfl
theorem cal43 {ω : Om} {a0 a1 a2 : Value} {K : Value → M} {I : Imm} {L : LH} (h : sh43 ω a0 a1 a2 (fun v => Gh (K v)) I L) : Cal Try.prog ω 43 #[a0, a1, a2] K I L :=
  Cal.gh (cal_of_vc mixed Try.func43 (by rw [sh43_eq]; exact h))

def sh44_1 (ω : Om) (p0 : Value) (p1 : Value) (p2 : Value) (p3 : Value) (p4 : Value) (p5 : Value) (p12 : Value) (p13 : Value) (p21 : Value) (K : Value → M) : M :=
  Br p21
    (K (Value.tuple #[(Value.pointer none), (Value.int .i64 1)]))
    (Cal Try.prog ω 33 #[p4] <| gh fun v4 =>
    Cal Try.prog ω 101 #[p5] <| gh fun v5 =>
    Pv (bldV #[(Value.int .i64 0), (Value.int .i64 0), (Value.int .i64 0), (Value.int .i64 0), (Value.pointer none), (Value.slice none 0 0), (Value.int .i64 0), (Value.int .i64 0), (Value.int .i64 0), (Value.bool false), (Value.bool false), (Value.bool false), (Value.bool false), (Value.bool false), (Value.bool false), (Value.int .i64 0), (Value.int .i64 0), (Value.int .i64 0), (Value.int .i64 0), (Value.int .i64 0), (Value.int .i64 0), (Value.int .i64 0), (Value.int .i64 0), (Value.int .i64 0), (Value.int .i64 0), (Value.int .i64 0), (Value.int .i64 0), (Value.slice none 0 0)] #[(0, 1), (1, 1), (2, 1), (3, 1), (4, 1), (5, 1), (6, 1), (7, 1), (8, 1), (9, 6), (15, 12), (27, 1)] [(0, p0), (1, p1), (2, p2), (3, p3), (4, v4), (5, v5), (6, (Value.int .i64 1))]) fun v6 =>
    New (.cells (Value.cells v6) 131 (0, 0)) <| gh fun v7 =>
    K (Value.tuple #[v7, (Value.int .i64 0)]))
def sh44_2 (ω : Om) (p0 : Value) (p1 : Value) (p2 : Value) (p3 : Value) (p4 : Value) (p5 : Value) (p12 : Value) (p13 : Value) (p15 : Value) (p21 : Value) (K : Value → M) : M :=
  Pv (binIV .gtr p15 p2) fun v17 =>
  Br v17
    (sh44_1 ω p0 p1 p2 p3 p4 p5 p12 p13 v17 K)
    (Pv (lenV p5) fun v18 =>
    Pv (binIV .gtr v18 (Value.int .i64 60000)) fun v19 =>
    sh44_1 ω p0 p1 p2 p3 p4 p5 p12 p13 v19 K)
def sh44 (ω : Om) (a0 : Value) (a1 : Value) (a2 : Value) (a3 : Value) (a4 : Value) (a5 : Value) (K : Value → M) : M :=
  Cal Try.prog ω 54 #[a4] <| gh fun v1 =>
  Pv (exV v1 0) fun v2 =>
  Pv (exV v1 1) fun v3 =>
  Pv (binIV .lss a0 (Value.int .i64 1)) fun v8 =>
  Br v8
    (sh44_1 ω a0 a1 a2 a3 a4 a5 (Value.pointer none) (Value.int .i64 0) v8 K)
    (Pv (binIV .gtr a0 (Value.int .i64 255)) fun v9 =>
    Br v9
      (sh44_1 ω a0 a1 a2 a3 a4 a5 (Value.pointer none) (Value.int .i64 0) v9 K)
      (Cal Try.prog ω 102 #[a1] <| gh fun v10 =>
      Pv (unV .not v10) fun v11 =>
      Br v11
        (sh44_1 ω a0 a1 a2 a3 a4 a5 (Value.pointer none) (Value.int .i64 0) v11 K)
        (Cal Try.prog ω 103 #[a2] <| gh fun v12 =>
        Pv (unV .not v12) fun v13 =>
        Br v13
          (sh44_1 ω a0 a1 a2 a3 a4 a5 (Value.pointer none) (Value.int .i64 0) v13 K)
          (Pv (binIV .neq a3 (Value.int .i64 0)) fun v14 =>
          Gd v14 true
            (Cal Try.prog ω 102 #[a3] <| gh fun v15 =>
            Pv (unV .not v15) fun v16 =>
            Br v16
              (sh44_1 ω a0 a1 a2 a3 a4 a5 (Value.pointer none) (Value.int .i64 0) v16 K)
              (sh44_2 ω a0 a1 a2 a3 a4 a5 (Value.pointer none) (Value.int .i64 0) v3 v16 K))
            (sh44_2 ω a0 a1 a2 a3 a4 a5 (Value.pointer none) (Value.int .i64 0) v3 (Value.bool false) K)))))
theorem sh44_eq (ω : Om) (a0 a1 a2 a3 a4 a5 : Value) (K : Value → M) : vcF Try.prog ω Try.f44 [a0, a1, a2, a3, a4, a5] K = sh44 ω a0 a1 a2 a3 a4 a5 K := by kernel_rfl
theorem cal44 {ω : Om} {a0 a1 a2 a3 a4 a5 : Value} {K : Value → M} {I : Imm} {L : LH} (h : sh44 ω a0 a1 a2 a3 a4 a5 (fun v => Gh (K v)) I L) : Cal Try.prog ω 44 #[a0, a1, a2, a3, a4, a5] K I L :=
  Cal.gh (cal_of_vc mixed Try.func44 (by rw [sh44_eq]; exact h))

def sh45 (ω : Om) (a0 : Value) (K : Value → M) : M :=
  Pv (nilV a0) fun v1 =>
  Pv (fldV 4 v1) fun v2 =>
  Rv none (ld1R v2) fun v3 =>
  Cal Try.prog ω 33 #[v3] <| gh fun v4 =>
  K v4
theorem sh45_eq (ω : Om) (a0 : Value) (K : Value → M) : vcF Try.prog ω Try.f45 [a0] K = sh45 ω a0 K := by kernel_rfl
theorem cal45 {ω : Om} {a0 : Value} {K : Value → M} {I : Imm} {L : LH} (h : sh45 ω a0 (fun v => Gh (K v)) I L) : Cal Try.prog ω 45 #[a0] K I L :=
  Cal.gh (cal_of_vc mixed Try.func45 (by rw [sh45_eq]; exact h))

def sh46 (ω : Om) (a0 : Value) (K : Value → M) : M :=
  Pv (nilV a0) fun v1 =>
  Pv (fldV 5 v1) fun v2 =>
  Rv none (ld1R v2) fun v3 =>
  Cal Try.prog ω 101 #[v3] <| gh fun v4 =>
  K v4
theorem sh46_eq (ω : Om) (a0 : Value) (K : Value → M) : vcF Try.prog ω Try.f46 [a0] K = sh46 ω a0 K := by kernel_rfl
theorem cal46 {ω : Om} {a0 : Value} {K : Value → M} {I : Imm} {L : LH} (h : sh46 ω a0 (fun v => Gh (K v)) I L) : Cal Try.prog ω 46 #[a0] K I L :=
  Cal.gh (cal_of_vc mixed Try.func46 (by rw [sh46_eq]; exact h))

def sh47_3 (ω : Om) (p1 : Value) (x0 : Value) (x2 : Value) (Kn0 : (Value × Value × Unit) → M) (K : Value → M) : M :=
  Pv (binIV .leq x2 (Value.int .i64 5)) fun v3 =>
  Br v3
    (BldS 3 1 #[(Value.int .i64 0)] 3 [(0, (Value.int .i64 1)), (1, (Value.int .i64 2)), (2, (Value.int .i64 3))] <| gh fun v4 =>
    Cal Try.prog ω 13 #[v4] <| gh fun v5 =>
    Pv (exV v5 0) fun v6 =>
    Pv (exV v5 1) fun v7 =>
    Pv (binIV .neq v7 (Value.int .i64 0)) fun v8 =>
    Gd v8 false
      (Pv (binPV .eql v6 (Value.pointer none)) fun v9 =>
      Br v9
        (K (Value.pointer none))
        (Cal Try.prog ω 44 #[(Value.int .i64 7), x2, (Value.int .i64 0), (Value.int .i64 0), v6, (Value.slice none 0 0)] <| gh fun v10 =>
        Pv (exV v10 0) fun v11 =>
        Pv (exV v10 1) fun v12 =>
        Pv (binIV .neq v12 (Value.int .i64 0)) fun v13 =>
        Gd v13 false
          (Pv (binPV .eql v11 (Value.pointer none)) fun v14 =>
          Br v14
            (K (Value.pointer none))
            (Pv (nilV p1) fun v15 =>
            Pv (fldV 0 v15) fun v16 =>
            Pv (ixPV 1 6 v16 x2) fun v17 =>
            Sto 1 v17 v11 <| gh fun _ =>
            Pv (binIV .add x2 (Value.int .i64 1)) fun v18 =>
            Kn0 (x0, v18, ())))
          (K (Value.pointer none))))
      (K (Value.pointer none)))
    (K p1)
def sh47 (ω : Om) (K : Value → M) : M :=
  Pv (bldV #[(Value.pointer none), (Value.pointer none), (Value.pointer none), (Value.pointer none), (Value.pointer none), (Value.pointer none), (Value.slice none 0 0), (Value.slice none 0 0), (Value.slice none 0 0)] #[(0, 6), (6, 1), (7, 1), (8, 1)] []) fun v1 =>
  New (.cells (Value.cells v1) 103 (0, 0)) <| gh fun v2 =>
  LoopM (((Value.pointer none), (Value.int .i64 1), ()) : Value × Value × Unit) fun s Kn0 =>
  sh47_3 ω v2 s.1 s.2.1 Kn0 K
theorem sh47_eq (ω : Om) (K : Value → M) : vcF Try.prog ω Try.f47 [] K = sh47 ω K := by kernel_rfl
theorem cal47 {ω : Om} {K : Value → M} {I : Imm} {L : LH} (h : sh47 ω (fun v => Gh (K v)) I L) : Cal Try.prog ω 47 #[] K I L :=
  Cal.gh (cal_of_vc mixed Try.func47 (by rw [sh47_eq]; exact h))

def sh48_2 (ω : Om) (p0 : Value) (p4 : Value) (p5 : Value) (p7 : Value) (K : Value → M) : M :=
  Pv (nilV p0) fun v10 =>
  Pv (fldV 6 v10) fun v11 =>
  Rv none (ld1R v11) fun v12 =>
  App 77 12 144 #[(Value.int .i64 0), (Value.int .i64 0), (Value.int .i64 0), (Value.int .i64 0), (Value.int .i64 0), (Value.int .i64 0), (Value.int .i64 0), (Value.int .i64 0), (Value.bool false), (Value.slice none 0 0), (Value.slice none 0 0), (Value.slice none 0 0)] v12 p7 <| gh fun v13 =>
  Pv (nilV p0) fun v14 =>
  Pv (fldV 6 v14) fun v15 =>
  Sto 1 v15 v13 <| gh fun _ =>
  K p5
def sh48_1 (ω : Om) (p0 : Value) (p3 : Value) (p4 : Value) (p5 : Value) (K : Value → M) : M :=
  Pv (nilV p0) fun v6 =>
  Pv (fldV 0 v6) fun v7 =>
  Pv (ixPV 1 6 v7 p5) fun v8 =>
  Rv none (ld1R v8) fun v9 =>
  Pv (fldV 0 p3) fun v16 =>
  Rv none (ld1R v16) fun v17 =>
  Pv (binIV .eql v17 (Value.int .i64 0)) fun v18 =>
  Br v18
    (Pv (fldV 2 p3) fun v19 =>
    Rv none (ld1R v19) fun v20 =>
    Cal Try.prog ω 39 #[v9, v20] <| gh fun v21 =>
    sh48_2 ω p0 p4 p5 v21 K)
    (Pv (binIV .eql v17 (Value.int .i64 1)) fun v22 =>
    Br v22
      (Draw fun S =>
        Pv (fldV 2 p3) fun v23 =>
        Rv (some S) (ld1R v23) fun v24 =>
        Pv (binIV .lss v24 (Value.int .i64 0)) fun v25 =>
        Gd v25 false
          (Pv (fldV 2 p3) fun v26 =>
          Rv (some S) (ld1R v26) fun v27 =>
          Pv (nilV p0) fun v28 =>
          Pv (fldV 6 v28) fun v29 =>
          Rv (some S) (ld1R v29) fun v30 =>
          Pv (lenV v30) fun v31 =>
          Pv (binIV .geq v27 v31) fun v32 =>
          Br v32
            (K (Value.int .i64 0))
            (Draw fun S =>
              Pv (nilV p0) fun v33 =>
              Pv (fldV 6 v33) fun v34 =>
              Rv (some S) (ld1R v34) fun v35 =>
              Pv (fldV 2 p3) fun v36 =>
              Rv (some S) (ld1R v36) fun v37 =>
              Pv (ixV 12 v35 v37) fun v38 =>
              Rv (some S) (ldNR 12 v38) fun v39 =>
              New (.cells #[(Value.int .i64 0), (Value.int .i64 0), (Value.int .i64 0), (Value.int .i64 0), (Value.int .i64 0), (Value.int .i64 0), (Value.int .i64 0), (Value.int .i64 0), (Value.bool false), (Value.slice none 0 0), (Value.slice none 0 0), (Value.slice none 0 0)] 77 (0, 0)) <| gh <| Keep S fun m_40 =>
              Sto 12 m_40 v39 <| gh fun _ =>
              Pv (fldV 3 m_40) fun v41 =>
              Rv none (ld1R v41) fun v42 =>
              Pv (binIV .lss v42 (Value.int .i64 1)) fun v43 =>
              Gd v43 false
                (Pv (fldV 3 m_40) fun v44 =>
                Rv none (ld1R v44) fun v45 =>
                Pv (binIV .gtr v45 (Value.int .i64 5)) fun v46 =>
                Br v46
                  (K (Value.int .i64 0))
                  (Pv (fldV 3 m_40) fun v47 =>
                  Rv none (ld1R v47) fun v48 =>
                  Draw fun S =>
                    Pv (nilV p0) fun v49 =>
                    Pv (fldV 0 v49) fun v50 =>
                    Pv (ixPV 1 6 v50 v48) fun v51 =>
                    Rv (some S) (ld1R v51) fun v52 =>
                    Rv (some S) (ldNR 12 m_40) fun v53 =>
                    Cal Try.prog ω 40 #[v52, v53] <| gh fun v54 =>
                    Pv (exV v54 0) fun v55 =>
                    Pv (exV v54 1) fun v56 =>
                    sh48_2 ω p0 p4 v48 v55 K))
                (K (Value.int .i64 0))))
          (K (Value.int .i64 0)))
      (Pv (binIV .eql v17 (Value.int .i64 2)) fun v57 =>
      Br v57
        (Pv (fldV 2 p3) fun v58 =>
        Rv none (ld1R v58) fun v59 =>
        Pv (cvIV .u8 v59) fun v60 =>
        BldS 5 1 #[(Value.int .u8 0)] 1 [(0, v60)] <| gh fun v61 =>
        Cal Try.prog ω 41 #[v9, v61] <| gh fun v62 =>
        Pv (exV v62 0) fun v63 =>
        Pv (exV v62 1) fun v64 =>
        Pv (exV v62 2) fun v65 =>
        sh48_2 ω p0 p4 p5 v64 K)
        (Pv (binIV .eql v17 (Value.int .i64 3)) fun v66 =>
        Br v66
          (Cal Try.prog ω 45 #[v9] <| gh fun v67 =>
          Pv (binPV .eql v67 (Value.pointer none)) fun v68 =>
          Br v68
            (K (Value.int .i64 0))
            (Draw fun S =>
              Cal Try.prog ω 52 #[v67] <| gh <| Keep S fun v69 =>
              Pv (fldV 2 p3) fun v70 =>
              Rv (some S) (ld1R v70) fun v71 =>
              Cal Try.prog ω 104 #[v69, v71] <| gh fun v72 =>
              Cal Try.prog ω 42 #[v9, v72] <| gh fun v73 =>
              Pv (exV v73 0) fun v74 =>
              Pv (exV v73 1) fun v75 =>
              Pv (exV v73 2) fun v76 =>
              sh48_2 ω p0 p4 p5 v75 K))
          (Pv (binIV .eql v17 (Value.int .i64 4)) fun v77 =>
          Br v77
            (Cal Try.prog ω 45 #[v9] <| gh fun v78 =>
            Pv (binPV .eql v78 (Value.pointer none)) fun v79 =>
            Br v79
              (K (Value.int .i64 0))
              (Cal Try.prog ω 22 #[v78] <| gh fun v80 =>
              Cal Try.prog ω 22 #[v78] <| gh fun v81 =>
              Pv (cvIV .u8 v81) fun v82 =>
              BldS 5 1 #[(Value.int .u8 0)] 1 [(0, v82)] <| gh fun v83 =>
              Cal Try.prog ω 43 #[v9, v80, v83] <| gh fun v84 =>
              sh48_2 ω p0 p4 p5 (Value.slice none 0 0) K))
            (Pv (binIV .eql v17 (Value.int .i64 5)) fun v85 =>
            Br v85
              (Cal Try.prog ω 45 #[v9] <| gh fun v86 =>
              Cal Try.prog ω 37 #[v9] <| gh fun v87 =>
              Cal Try.prog ω 38 #[v9] <| gh fun v88 =>
              Cal Try.prog ω 46 #[v9] <| gh fun v89 =>
              Cal Try.prog ω 44 #[(Value.int .i64 7), p5, v87, v88, v86, v89] <| gh fun v90 =>
              Pv (exV v90 0) fun v91 =>
              Pv (exV v90 1) fun v92 =>
              Pv (binIV .neq v92 (Value.int .i64 0)) fun v93 =>
              Gd v93 false
                (Pv (binPV .eql v91 (Value.pointer none)) fun v94 =>
                Br v94
                  (K (Value.int .i64 0))
                  (Pv (nilV p0) fun v95 =>
                  Pv (fldV 0 v95) fun v96 =>
                  Pv (ixPV 1 6 v96 p5) fun v97 =>
                  Sto 1 v97 v91 <| gh fun _ =>
                  sh48_2 ω p0 p4 p5 (Value.slice none 0 0) K))
                (K (Value.int .i64 0)))
              (K (Value.int .i64 0)))))))
def sh48 (ω : Om) (a0 : Value) (a1 : Value) (K : Value → M) : M :=
  New (.cells (Value.cells a1) 97 (0, 0)) <| gh fun x_1 =>
  Pv (fldV 1 x_1) fun v2 =>
  Rv none (ld1R v2) fun v3 =>
  Pv (binIV .and v3 (Value.int .i64 3)) fun v4 =>
  Pv (binIV .add (Value.int .i64 1) v4) fun v5 =>
  Pv (fldV 1 x_1) fun v98 =>
  Rv none (ld1R v98) fun v99 =>
  Pv (binIV .and v99 (Value.int .i64 4)) fun v100 =>
  Pv (binIV .neq v100 (Value.int .i64 0)) fun v101 =>
  Br v101
    (sh48_1 ω a0 x_1 (Value.int .i64 0) (Value.int .i64 5) K)
    (sh48_1 ω a0 x_1 (Value.int .i64 0) v5 K)
theorem sh48_eq (ω : Om) (a0 a1 : Value) (K : Value → M) : vcF Try.prog ω Try.f48 [a0, a1] K = sh48 ω a0 a1 K := by kernel_rfl
theorem cal48 {ω : Om} {a0 a1 : Value} {K : Value → M} {I : Imm} {L : LH} (h : sh48 ω a0 a1 (fun v => Gh (K v)) I L) : Cal Try.prog ω 48 #[a0, a1] K I L :=
  Cal.gh (cal_of_vc mixed Try.func48 (by rw [sh48_eq]; exact h))

def sh49_4 (ω : Om) (p0 : Value) (p1 : Value) (p4 : Value) (p14 : Value) (K : Value → M) : M :=
  Pv (nilV p0) fun v15 =>
  Pv (fldV 8 v15) fun v16 =>
  Rv none (ld1R v16) fun v17 =>
  Pv (ixV 1 v17 p14) fun v18 =>
  Rv none (ld1R v18) fun v19 =>
  Pv (binIV .eql v19 p1) fun v20 =>
  K v20
def sh49_3 (ω : Om) (p0 : Value) (p1 : Value) (p4 : Value) (p14 : Value) (K : Value → M) : M :=
  Pv (nilV p0) fun v21 =>
  Pv (fldV 8 v21) fun v22 =>
  Rv none (ld1R v22) fun v23 =>
  Pv (ixV 1 v23 p14) fun v24 =>
  Rv none (ld1R v24) fun v25 =>
  Pv (binIV .eql v25 (Value.int .i64 0)) fun v26 =>
  Br v26
    (Pv (nilV p0) fun v27 =>
    Pv (fldV 8 v27) fun v28 =>
    Rv none (ld1R v28) fun v29 =>
    Pv (ixV 1 v29 p14) fun v30 =>
    Sto 1 v30 p1 <| gh fun _ =>
    sh49_4 ω p0 p1 p4 p14 K)
    (sh49_4 ω p0 p1 p4 p14 K)
def sh49_6 (ω : Om) (p0 : Value) (p1 : Value) (p4 : Value) (p14 : Value) (Kn0 : (Unit) → M) (K : Value → M) : M :=
  Pv (nilV p0) fun v31 =>
  Pv (fldV 8 v31) fun v32 =>
  Rv none (ld1R v32) fun v33 =>
  Pv (lenV v33) fun v34 =>
  Pv (binIV .leq v34 p14) fun v35 =>
  Br v35
    (Pv (nilV p0) fun v36 =>
    Pv (fldV 8 v36) fun v37 =>
    Rv none (ld1R v37) fun v38 =>
    BldS 3 1 #[(Value.int .i64 0)] 1 [(0, (Value.int .i64 0))] <| gh fun v39 =>
    App 3 1 8 #[(Value.int .i64 0)] v38 v39 <| gh fun v40 =>
    Pv (nilV p0) fun v41 =>
    Pv (fldV 8 v41) fun v42 =>
    Sto 1 v42 v40 <| gh fun _ =>
    Kn0 (()))
    (sh49_3 ω p0 p1 p4 p14 K)
def sh49_1 (ω : Om) (p0 : Value) (p1 : Value) (p4 : Value) (p5 : Value) (K : Value → M) : M :=
  Cal Try.prog ω 51 #[p5] <| gh fun v10 =>
  Cal Try.prog ω 37 #[p5] <| gh fun v11 =>
  Pv (binIV .neq v10 (Value.int .i64 3)) fun v12 =>
  Br v12
    (K (Value.bool true))
    (Pv (binIV .lss v11 (Value.int .i64 1)) fun v13 =>
    Gd v13 false
      (Pv (binIV .gtr v11 (Value.int .i64 10000)) fun v14 =>
      Br v14
        (K (Value.bool false))
        (LoopM ((()) : Unit) fun s Kn0 =>
        sh49_6 ω p0 p1 p4 v11 Kn0 K))
      (K (Value.bool false)))
def sh49_10 (ω : Om) (p0 : Value) (p4 : Value) (p9 : Value) (p10 : Value) (Kn0 : (Value × Value × Unit) → M) (K : Value → M) : M :=
  Draw fun S =>
    Rv (some S) (ldNR 4 p10) fun v52 =>
    BldS 59 4 #[(Value.int .i64 0), (Value.int .i64 0), (Value.int .i64 0), (Value.slice none 0 0)] 1 [(0, v52)] <| gh <| Keep S fun v53 =>
    Pv (nilV p0) fun v54 =>
    Pv (fldV 7 v54) fun v55 =>
    Rv (some S) (ld1R v55) fun v56 =>
    Pv (binIV .sub p9 (Value.int .i64 1)) fun v57 =>
    Pv (slcV 4 v56 (some v57) (some p9) none) fun v58 =>
    Cal Try.prog ω 30 #[v53, v58] <| gh fun v59 =>
    Pv (unV .not v59) fun v60 =>
    Br v60
      (K (Value.bool false))
      (Pv (binIV .add p9 (Value.int .i64 1)) fun v61 =>
      Kn0 (p4, v61, ()))
def sh49_9 (ω : Om) (p0 : Value) (p4 : Value) (p9 : Value) (p10 : Value) (Kn0 : (Value × Value × Unit) → M) (K : Value → M) : M :=
  Pv (nilV p0) fun v62 =>
  Pv (fldV 7 v62) fun v63 =>
  Rv none (ld1R v63) fun v64 =>
  Pv (binIV .sub p9 (Value.int .i64 1)) fun v65 =>
  Pv (ixV 4 v64 v65) fun v66 =>
  Pv (fldV 1 v66) fun v67 =>
  Rv none (ld1R v67) fun v68 =>
  Pv (binIV .eql v68 (Value.int .i64 0)) fun v69 =>
  Br v69
    (Draw fun S =>
      Pv (nilV p0) fun v70 =>
      Pv (fldV 7 v70) fun v71 =>
      Rv (some S) (ld1R v71) fun v72 =>
      Pv (binIV .sub p9 (Value.int .i64 1)) fun v73 =>
      Rv (some S) (ldNR 4 p10) fun v74 =>
      Pv (ixV 4 v72 v73) fun v75 =>
      Sto 4 v75 v74 <| gh fun _ =>
      sh49_10 ω p0 p4 p9 p10 Kn0 K)
    (sh49_10 ω p0 p4 p9 p10 Kn0 K)
def sh49_12 (ω : Om) (p0 : Value) (p4 : Value) (p9 : Value) (p10 : Value) (Kn0 : (Value × Value × Unit) → M) (Kn1 : (Unit) → M) (K : Value → M) : M :=
  Pv (nilV p0) fun v76 =>
  Pv (fldV 7 v76) fun v77 =>
  Rv none (ld1R v77) fun v78 =>
  Pv (lenV v78) fun v79 =>
  Pv (binIV .lss v79 p9) fun v80 =>
  Br v80
    (Pv (nilV p0) fun v81 =>
    Pv (fldV 7 v81) fun v82 =>
    Rv none (ld1R v82) fun v83 =>
    Pv (bldV #[(Value.int .i64 0), (Value.int .i64 0), (Value.int .i64 0), (Value.slice none 0 0)] #[(0, 1), (1, 1), (2, 1), (3, 1)] []) fun v84 =>
    BldS 59 4 #[(Value.int .i64 0), (Value.int .i64 0), (Value.int .i64 0), (Value.slice none 0 0)] 1 [(0, v84)] <| gh fun v85 =>
    App 59 4 48 #[(Value.int .i64 0), (Value.int .i64 0), (Value.int .i64 0), (Value.slice none 0 0)] v83 v85 <| gh fun v86 =>
    Pv (nilV p0) fun v87 =>
    Pv (fldV 7 v87) fun v88 =>
    Sto 1 v88 v86 <| gh fun _ =>
    Kn1 (()))
    (sh49_9 ω p0 p4 p9 p10 Kn0 K)
def sh49_8 (ω : Om) (p0 : Value) (p1 : Value) (p5 : Value) (p6 : Value) (p7 : Value) (x4 : Value) (x9 : Value) (Kn0 : (Value × Value × Unit) → M) (K : Value → M) : M :=
  Pv (binIV .leq x9 p7) fun v46 =>
  Br v46
    (Cal Try.prog ω 29 #[p6, x9] <| gh fun v47 =>
    Pv (exV v47 0) fun v48 =>
    Pv (exV v47 1) fun v49 =>
    New (.cells #[(Value.int .i64 0), (Value.int .i64 0), (Value.int .i64 0), (Value.slice none 0 0)] 59 (0, 0)) <| gh fun e_50 =>
    Sto 4 e_50 v48 <| gh fun _ =>
    Pv (binIV .neq v49 (Value.int .i64 0)) fun v51 =>
    Br v51
      (K (Value.bool false))
      (LoopM ((()) : Unit) fun s Kn1 =>
      sh49_12 ω p0 x4 x9 e_50 Kn0 Kn1 K))
    (sh49_1 ω p0 p1 x4 p5 K)
def sh49 (ω : Om) (a0 : Value) (a1 : Value) (K : Value → M) : M :=
  Pv (nilV a0) fun v1 =>
  Pv (fldV 0 v1) fun v2 =>
  Pv (ixPV 1 6 v2 a1) fun v3 =>
  Rv none (ld1R v3) fun v4 =>
  Cal Try.prog ω 45 #[v4] <| gh fun v5 =>
  Pv (binPV .eql v5 (Value.pointer none)) fun v6 =>
  Br v6
    (K (Value.bool false))
    (Cal Try.prog ω 22 #[v5] <| gh fun v7 =>
    Cal Try.prog ω 24 #[v5] <| gh fun v8 =>
    New (.cells #[(Value.int .i64 0), (Value.int .i64 0), (Value.slice none 0 0)] 46 (0, 0)) <| gh fun p_9 =>
    Sto 3 p_9 v8 <| gh fun _ =>
    Pv (fldV 0 p_9) fun v43 =>
    Rv none (ld1R v43) fun v44 =>
    Pv (binIV .add v44 (Value.int .i64 1)) fun v45 =>
    LoopM (((Value.bool false), v45, ()) : Value × Value × Unit) fun s Kn0 =>
    sh49_8 ω a0 a1 v4 v5 v7 s.1 s.2.1 Kn0 K)
theorem sh49_eq (ω : Om) (a0 a1 : Value) (K : Value → M) : vcF Try.prog ω Try.f49 [a0, a1] K = sh49 ω a0 a1 K := by kernel_rfl
theorem cal49 {ω : Om} {a0 a1 : Value} {K : Value → M} {I : Imm} {L : LH} (h : sh49 ω a0 a1 (fun v => Gh (K v)) I L) : Cal Try.prog ω 49 #[a0, a1] K I L :=
  Cal.gh (cal_of_vc mixed Try.func49 (by rw [sh49_eq]; exact h))

def sh50_1 (ω : Om) (p0 : Value) (p1 : Value) (p2 : Value) (p6 : Value) (K : Value → M) : M :=
  Pv (nilV p0) fun v1 =>
  Pv (fldV 6 v1) fun v2 =>
  Rv none (ld1R v2) fun v3 =>
  Pv (lenV v3) fun v4 =>
  Pv (binIV .add p1 p2) fun v5 =>
  Pv (binIV .leq v4 v5) fun v6 =>
  K v6
def sh50_3 (ω : Om) (p0 : Value) (p1 : Value) (p2 : Value) (x6 : Value) (x7 : Value) (Kn0 : (Value × Value × Unit) → M) (K : Value → M) : M :=
  Pv (nilV p0) fun v7 =>
  Pv (fldV 6 v7) fun v8 =>
  Rv none (ld1R v8) fun v9 =>
  Pv (lenV v9) fun v10 =>
  Pv (binIV .lss x7 v10) fun v11 =>
  Gd v11 true
    (Pv (binIV .add p1 p2) fun v12 =>
    Pv (binIV .lss x7 v12) fun v13 =>
    Br v13
      (Pv (bldV #[(Value.int .i64 0), (Value.int .i64 0), (Value.int .i64 0)] #[(0, 1), (1, 1), (2, 1)] [(0, (Value.int .i64 1)), (2, x7)]) fun v14 =>
      Cal Try.prog ω 48 #[p0, v14] <| gh fun v15 =>
      Pv (binIV .eql v15 (Value.int .i64 0)) fun v16 =>
      Br v16
        (K (Value.bool false))
        (Cal Try.prog ω 49 #[p0, v15] <| gh fun v17 =>
        Pv (unV .not v17) fun v18 =>
        Br v18
          (K (Value.bool false))
          (Pv (binIV .add x7 (Value.int .i64 1)) fun v19 =>
          Kn0 (x6, v19, ()))))
      (sh50_1 ω p0 p1 p2 x6 K))
    (sh50_1 ω p0 p1 p2 x6 K)
def sh50 (ω : Om) (a0 : Value) (a1 : Value) (a2 : Value) (K : Value → M) : M :=
  LoopM (((Value.bool false), a1, ()) : Value × Value × Unit) fun s Kn0 =>
  sh50_3 ω a0 a1 a2 s.1 s.2.1 Kn0 K
theorem sh50_eq (ω : Om) (a0 a1 a2 : Value) (K : Value → M) : vcF Try.prog ω Try.f50 [a0, a1, a2] K = sh50 ω a0 a1 a2 K := by kernel_rfl
theorem cal50 {ω : Om} {a0 a1 a2 : Value} {K : Value → M} {I : Imm} {L : LH} (h : sh50 ω a0 a1 a2 (fun v => Gh (K v)) I L) : Cal Try.prog ω 50 #[a0, a1, a2] K I L :=
  Cal.gh (cal_of_vc mixed Try.func50 (by rw [sh50_eq]; exact h))

def sh51 (ω : Om) (a0 : Value) (K : Value → M) : M :=
  Pv (nilV a0) fun v1 =>
  Pv (fldV 6 v1) fun v2 =>
  Rv none (ld1R v2) fun v3 =>
  K v3
theorem sh51_eq (ω : Om) (a0 : Value) (K : Value → M) : vcF Try.prog ω Try.f51 [a0] K = sh51 ω a0 K := by kernel_rfl
theorem cal51 {ω : Om} {a0 : Value} {K : Value → M} {I : Imm} {L : LH} (h : sh51 ω a0 (fun v => Gh (K v)) I L) : Cal Try.prog ω 51 #[a0] K I L :=
  Cal.gh (cal_of_vc mixed Try.func51 (by rw [sh51_eq]; exact h))

def sh52 (ω : Om) (a0 : Value) (K : Value → M) : M :=
  Cal Try.prog ω 54 #[a0] <| gh fun v1 =>
  Pv (exV v1 0) fun v2 =>
  Pv (exV v1 1) fun v3 =>
  Cal Try.prog ω 71 #[a0, v2] <| gh fun v4 =>
  Pv (exV v4 0) fun v5 =>
  Pv (exV v4 1) fun v6 =>
  K v5
theorem sh52_eq (ω : Om) (a0 : Value) (K : Value → M) : vcF Try.prog ω Try.f52 [a0] K = sh52 ω a0 K := by kernel_rfl
theorem cal52 {ω : Om} {a0 : Value} {K : Value → M} {I : Imm} {L : LH} (h : sh52 ω a0 (fun v => Gh (K v)) I L) : Cal Try.prog ω 52 #[a0] K I L :=
  Cal.gh (cal_of_vc mixed Try.func52 (by rw [sh52_eq]; exact h))

def sh53_3 (ω : Om) (p0 : Value) (p1 : Value) (x4 : Value) (x5 : Value) (Kn0 : (Value × Value × Unit) → M) (K : Value → M) : M :=
  Pv (lenV p0) fun v4 =>
  Pv (binIV .lss x5 v4) fun v5 =>
  Br v5
    (Draw fun S =>
      Pv (ixV 1 p0 x5) fun v6 =>
      Rv (some S) (ld1R v6) fun v7 =>
      Pv (ixV 1 p1 x5) fun v8 =>
      Rv (some S) (ld1R v8) fun v9 =>
      Pv (binIV .neq v7 v9) fun v10 =>
      Br v10
        (K (Value.bool false))
        (Pv (binIV .add x5 (Value.int .i64 1)) fun v11 =>
        Kn0 (x4, v11, ())))
    (K (Value.bool true))
def sh53 (ω : Om) (a0 : Value) (a1 : Value) (K : Value → M) : M :=
  Pv (lenV a0) fun v1 =>
  Pv (lenV a1) fun v2 =>
  Pv (binIV .neq v1 v2) fun v3 =>
  Br v3
    (K (Value.bool false))
    (LoopM (((Value.bool false), (Value.int .i64 0), ()) : Value × Value × Unit) fun s Kn0 =>
    sh53_3 ω a0 a1 s.1 s.2.1 Kn0 K)
theorem sh53_eq (ω : Om) (a0 a1 : Value) (K : Value → M) : vcF Try.prog ω Try.f53 [a0, a1] K = sh53 ω a0 a1 K := by kernel_rfl
theorem cal53 {ω : Om} {a0 a1 : Value} {K : Value → M} {I : Imm} {L : LH} (h : sh53 ω a0 a1 (fun v => Gh (K v)) I L) : Cal Try.prog ω 53 #[a0, a1] K I L :=
  Cal.gh (cal_of_vc mixed Try.func53 (by rw [sh53_eq]; exact h))

def sh54 (ω : Om) (a0 : Value) (K : Value → M) : M :=
  Pv (nilV a0) fun v1 =>
  Pv (fldV 3 v1) fun v2 =>
  Rv none (ld1R v2) fun v3 =>
  Pv (lenV v3) fun v4 =>
  Pv (binIV .eql v4 (Value.int .i64 0)) fun v5 =>
  Br v5
    (Draw fun S =>
      Pv (nilV a0) fun v6 =>
      Pv (fldV 0 v6) fun v7 =>
      Pv (fldV 0 v7) fun v8 =>
      Rv (some S) (ld1R v8) fun v9 =>
      Pv (nilV a0) fun v10 =>
      Pv (fldV 0 v10) fun v11 =>
      Pv (fldV 1 v11) fun v12 =>
      Rv (some S) (ld1R v12) fun v13 =>
      K (Value.tuple #[v9, v13]))
    (Draw fun S =>
      Pv (nilV a0) fun v14 =>
      Pv (fldV 3 v14) fun v15 =>
      Rv (some S) (ld1R v15) fun v16 =>
      Pv (nilV a0) fun v17 =>
      Pv (fldV 3 v17) fun v18 =>
      Rv (some S) (ld1R v18) fun v19 =>
      Pv (lenV v19) fun v20 =>
      Pv (binIV .sub v20 (Value.int .i64 1)) fun v21 =>
      Pv (ixV 4 v16 v21) fun v22 =>
      Rv (some S) (ldNR 4 v22) fun v23 =>
      New (.cells #[(Value.int .i64 0), (Value.int .i64 0), (Value.int .i64 0), (Value.slice none 0 0)] 59 (0, 0)) <| gh <| Keep S fun e_24 =>
      Sto 4 e_24 v23 <| gh fun _ =>
      Draw fun S =>
        Pv (fldV 0 e_24) fun v25 =>
        Rv (some S) (ld1R v25) fun v26 =>
        Pv (fldV 1 e_24) fun v27 =>
        Rv (some S) (ld1R v27) fun v28 =>
        K (Value.tuple #[v26, v28]))
theorem sh54_eq (ω : Om) (a0 : Value) (K : Value → M) : vcF Try.prog ω Try.f54 [a0] K = sh54 ω a0 K := by kernel_rfl
theorem cal54 {ω : Om} {a0 : Value} {K : Value → M} {I : Imm} {L : LH} (h : sh54 ω a0 (fun v => Gh (K v)) I L) : Cal Try.prog ω 54 #[a0] K I L :=
  Cal.gh (cal_of_vc mixed Try.func54 (by rw [sh54_eq]; exact h))

def sh55_4 (ω : Om) (p14 : Value) (p15 : Value) (x2 : Value) (x3 : Value) (x16 : Value) (Kn0 : (Value × Value × Value × Unit) → M) (K : Value → M) : M :=
  Pv (binIV .lss x16 p15) fun v6 =>
  Br v6
    (Pv (ixV 1 p14 x16) fun v7 =>
    Rv none (ld1R v7) fun v8 =>
    Pv (binIV .leq v8 x3) fun v9 =>
    Gd v9 false
      (Pv (binIV .gtr v8 (Value.int .i64 5)) fun v10 =>
      Br v10
        (K (Value.bool false))
        (Pv (binIV .add x16 (Value.int .i64 1)) fun v11 =>
        Kn0 (x2, v8, v11, ())))
      (K (Value.bool false)))
    (K (Value.bool true))
def sh55 (ω : Om) (a0 : Value) (K : Value → M) : M :=
  Pv (lenV a0) fun v1 =>
  Pv (binIV .eql v1 (Value.int .i64 0)) fun v2 =>
  Gd v2 false
    (Pv (lenV a0) fun v3 =>
    Pv (binIV .gtr v3 (Value.int .i64 5)) fun v4 =>
    Br v4
      (K (Value.bool false))
      (Pv (lenV a0) fun v5 =>
      LoopM (((Value.bool false), (Value.int .i64 0), (Value.int .i64 0), ()) : Value × Value × Value × Unit) fun s Kn0 =>
      sh55_4 ω a0 v5 s.1 s.2.1 s.2.2.1 Kn0 K))
    (K (Value.bool false))
theorem sh55_eq (ω : Om) (a0 : Value) (K : Value → M) : vcF Try.prog ω Try.f55 [a0] K = sh55 ω a0 K := by kernel_rfl
theorem cal55 {ω : Om} {a0 : Value} {K : Value → M} {I : Imm} {L : LH} (h : sh55 ω a0 (fun v => Gh (K v)) I L) : Cal Try.prog ω 55 #[a0] K I L :=
  Cal.gh (cal_of_vc mixed Try.func55 (by rw [sh55_eq]; exact h))

def sh56 (ω : Om) (a0 : Value) (K : Value → M) : M :=
  Pv (binNV .eql a0 (Value.slice none 0 0)) fun v1 =>
  Br v1
    (K (Value.slice none 0 0))
    (BldS 3 1 #[(Value.int .i64 0)] 0 [] <| gh fun v2 =>
    App 3 1 8 #[(Value.int .i64 0)] v2 a0 <| gh fun v3 =>
    K v3)
theorem sh56_eq (ω : Om) (a0 : Value) (K : Value → M) : vcF Try.prog ω Try.f56 [a0] K = sh56 ω a0 K := by kernel_rfl
theorem cal56 {ω : Om} {a0 : Value} {K : Value → M} {I : Imm} {L : LH} (h : sh56 ω a0 (fun v => Gh (K v)) I L) : Cal Try.prog ω 56 #[a0] K I L :=
  Cal.gh (cal_of_vc mixed Try.func56 (by rw [sh56_eq]; exact h))

def sh57 (ω : Om) (a0 : Value) (K : Value → M) : M :=
  New (.cells (Value.cells a0) 59 (0, 0)) <| gh fun e_1 =>
  New (.cells #[(Value.int .i64 0), (Value.int .i64 0), (Value.int .i64 0), (Value.slice none 0 0)] 59 (0, 0)) <| gh fun v2 =>
  Draw fun S =>
    Pv (fldV 3 e_1) fun v3 =>
    Rv (some S) (ld1R v3) fun v4 =>
    Pv (lenV v4) fun v5 =>
    MkS 5 1 #[(Value.int .u8 0)] (Value.int .i64 0) v5 <| gh <| Keep S fun v6 =>
    Pv (fldV 3 e_1) fun v7 =>
    Rv (some S) (ld1R v7) fun v8 =>
    App 5 1 1 #[(Value.int .u8 0)] v6 v8 <| gh fun v9 =>
    Pv (fldV 3 e_1) fun v10 =>
    Sto 1 v10 v9 <| gh fun _ =>
    Rv none (ldNR 4 e_1) fun v11 =>
    Sto 4 v2 v11 <| gh fun _ =>
    Rv none (ldNR 4 v2) fun v12 =>
    K v12
theorem sh57_eq (ω : Om) (a0 : Value) (K : Value → M) : vcF Try.prog ω Try.f57 [a0] K = sh57 ω a0 K := by kernel_rfl
theorem cal57 {ω : Om} {a0 : Value} {K : Value → M} {I : Imm} {L : LH} (h : sh57 ω a0 (fun v => Gh (K v)) I L) : Cal Try.prog ω 57 #[a0] K I L :=
  Cal.gh (cal_of_vc mixed Try.func57 (by rw [sh57_eq]; exact h))

def sh58_3 (ω : Om) (p0 : Value) (p9 : Value) (p10 : Value) (x1 : Value) (x6 : Value) (x11 : Value) (Kn0 : (Value × Value × Value × Unit) → M) (K : Value → M) : M :=
  Pv (binIV .lss x11 p10) fun v2 =>
  Br v2
    (Pv (ixV 4 p9 x11) fun v3 =>
    Rv none (ldNR 4 v3) fun v4 =>
    New (.cells #[(Value.int .i64 0), (Value.int .i64 0), (Value.int .i64 0), (Value.slice none 0 0)] 59 (0, 0)) <| gh fun e_5 =>
    Sto 4 e_5 v4 <| gh fun _ =>
    Rv none (ldNR 4 e_5) fun v6 =>
    Cal Try.prog ω 105 #[v6] <| gh fun v7 =>
    Pv (unV .not v7) fun v8 =>
    Gd v8 false
      (Pv (fldV 0 e_5) fun v9 =>
      Rv none (ld1R v9) fun v10 =>
      Pv (binIV .add p0 (Value.int .i64 1)) fun v11 =>
      Pv (binIV .add v11 x11) fun v12 =>
      Pv (binIV .neq v10 v12) fun v13 =>
      Gd v13 false
        (Pv (fldV 1 e_5) fun v14 =>
        Rv none (ld1R v14) fun v15 =>
        Pv (binIV .lss v15 x1) fun v16 =>
        Br v16
          (K (Value.bool false))
          (Pv (fldV 1 e_5) fun v17 =>
          Rv none (ld1R v17) fun v18 =>
          Pv (binIV .add x11 (Value.int .i64 1)) fun v19 =>
          Kn0 (v18, x6, v19, ())))
        (K (Value.bool false)))
      (K (Value.bool false)))
    (K (Value.bool true))
def sh58 (ω : Om) (a0 : Value) (a1 : Value) (a2 : Value) (K : Value → M) : M :=
  Pv (lenV a2) fun v1 =>
  LoopM ((a1, (Value.bool false), (Value.int .i64 0), ()) : Value × Value × Value × Unit) fun s Kn0 =>
  sh58_3 ω a0 a2 v1 s.1 s.2.1 s.2.2.1 Kn0 K
theorem sh58_eq (ω : Om) (a0 a1 a2 : Value) (K : Value → M) : vcF Try.prog ω Try.f58 [a0, a1, a2] K = sh58 ω a0 a1 a2 K := by kernel_rfl
theorem cal58 {ω : Om} {a0 a1 a2 : Value} {K : Value → M} {I : Imm} {L : LH} (h : sh58 ω a0 a1 a2 (fun v => Gh (K v)) I L) : Cal Try.prog ω 58 #[a0, a1, a2] K I L :=
  Cal.gh (cal_of_vc mixed Try.func58 (by rw [sh58_eq]; exact h))

def sh59_1 (ω : Om) (p4 : Value) (p5 : Value) (K : Value → M) : M :=
  Pv (bldV #[(Value.int .i64 0), (Value.int .i64 0), (Value.int .i64 0), (Value.slice none 0 0)] #[(0, 1), (1, 1), (2, 1), (3, 1)] []) fun v17 =>
  Sto 4 p4 v17 <| gh fun _ =>
  Rv none (ldNR 4 p4) fun v18 =>
  K (Value.tuple #[v18, (Value.bool false)])
def sh59 (ω : Om) (a0 : Value) (a1 : Value) (K : Value → M) : M :=
  New (.cells #[(Value.int .i64 0), (Value.int .i64 0), (Value.int .i64 0), (Value.slice none 0 0)] 59 (0, 0)) <| gh fun v1 =>
  Draw fun S =>
    Pv (nilV a0) fun v2 =>
    Pv (fldV 0 v2) fun v3 =>
    Pv (fldV 0 v3) fun v4 =>
    Rv (some S) (ld1R v4) fun v5 =>
    Pv (binIV .leq a1 v5) fun v6 =>
    Gd v6 false
      (Pv (nilV a0) fun v7 =>
      Pv (fldV 0 v7) fun v8 =>
      Pv (fldV 0 v8) fun v9 =>
      Rv (some S) (ld1R v9) fun v10 =>
      Pv (binIV .sub a1 v10) fun v11 =>
      Pv (nilV a0) fun v12 =>
      Pv (fldV 3 v12) fun v13 =>
      Rv (some S) (ld1R v13) fun v14 =>
      Pv (lenV v14) fun v15 =>
      Pv (binIV .gtr v11 v15) fun v16 =>
      Br v16
        (sh59_1 ω v1 (Value.bool false) K)
        (Draw fun S =>
          Pv (nilV a0) fun v19 =>
          Pv (fldV 3 v19) fun v20 =>
          Rv (some S) (ld1R v20) fun v21 =>
          Pv (nilV a0) fun v22 =>
          Pv (fldV 0 v22) fun v23 =>
          Pv (fldV 0 v23) fun v24 =>
          Rv (some S) (ld1R v24) fun v25 =>
          Pv (binIV .sub a1 v25) fun v26 =>
          Pv (binIV .sub v26 (Value.int .i64 1)) fun v27 =>
          Pv (ixV 4 v21 v27) fun v28 =>
          Rv (some S) (ldNR 4 v28) fun v29 =>
          Sto 4 v1 v29 <| gh fun _ =>
          Rv none (ldNR 4 v1) fun v30 =>
          K (Value.tuple #[v30, (Value.bool true)])))
      (sh59_1 ω v1 (Value.bool false) K)
theorem sh59_eq (ω : Om) (a0 a1 : Value) (K : Value → M) : vcF Try.prog ω Try.f59 [a0, a1] K = sh59 ω a0 a1 K := by kernel_rfl
theorem cal59 {ω : Om} {a0 a1 : Value} {K : Value → M} {I : Imm} {L : LH} (h : sh59 ω a0 a1 (fun v => Gh (K v)) I L) : Cal Try.prog ω 59 #[a0, a1] K I L :=
  Cal.gh (cal_of_vc mixed Try.func59 (by rw [sh59_eq]; exact h))

def sh60 (ω : Om) (a0 : Value) (K : Value → M) : M :=
  Pv (binIV .geq a0 (Value.int .i64 0)) fun v1 =>
  Gd v1 true
    (Pv (binIV .leq a0 (Value.int .i64 9007199254740991)) fun v2 =>
    K v2)
    (K (Value.bool false))
theorem sh60_eq (ω : Om) (a0 : Value) (K : Value → M) : vcF Try.prog ω Try.f60 [a0] K = sh60 ω a0 K := by kernel_rfl
theorem cal60 {ω : Om} {a0 : Value} {K : Value → M} {I : Imm} {L : LH} (h : sh60 ω a0 (fun v => Gh (K v)) I L) : Cal Try.prog ω 60 #[a0] K I L :=
  Cal.gh (cal_of_vc mixed Try.func60 (by rw [sh60_eq]; exact h))

def sh61_3 (ω : Om) (p2 : Value) (p9 : Value) (p10 : Value) (x3 : Value) (x11 : Value) (Kn0 : (Value × Value × Unit) → M) (K : Value → M) : M :=
  Pv (binIV .lss x11 p10) fun v4 =>
  Br v4
    (Pv (ixV 4 p9 x11) fun v5 =>
    Rv none (ldNR 4 v5) fun v6 =>
    New (.cells #[(Value.int .i64 0), (Value.int .i64 0), (Value.int .i64 0), (Value.slice none 0 0)] 59 (0, 0)) <| gh fun e_7 =>
    Sto 4 e_7 v6 <| gh fun _ =>
    Rv none (ldNR 4 e_7) fun v8 =>
    Cal Try.prog ω 57 #[v8] <| gh fun v9 =>
    BldS 59 4 #[(Value.int .i64 0), (Value.int .i64 0), (Value.int .i64 0), (Value.slice none 0 0)] 1 [(0, v9)] <| gh fun v10 =>
    App 59 4 48 #[(Value.int .i64 0), (Value.int .i64 0), (Value.int .i64 0), (Value.slice none 0 0)] x3 v10 <| gh fun v11 =>
    Pv (binIV .add x11 (Value.int .i64 1)) fun v12 =>
    Kn0 (v11, v12, ()))
    (K x3)
def sh61 (ω : Om) (a0 : Value) (K : Value → M) : M :=
  Pv (lenV a0) fun v1 =>
  MkS 59 48 #[(Value.int .i64 0), (Value.int .i64 0), (Value.int .i64 0), (Value.slice none 0 0)] (Value.int .i64 0) v1 <| gh fun v2 =>
  Pv (lenV a0) fun v3 =>
  LoopM ((v2, (Value.int .i64 0), ()) : Value × Value × Unit) fun s Kn0 =>
  sh61_3 ω (Value.slice none 0 0) a0 v3 s.1 s.2.1 Kn0 K
theorem sh61_eq (ω : Om) (a0 : Value) (K : Value → M) : vcF Try.prog ω Try.f61 [a0] K = sh61 ω a0 K := by kernel_rfl
theorem cal61 {ω : Om} {a0 : Value} {K : Value → M} {I : Imm} {L : LH} (h : sh61 ω a0 (fun v => Gh (K v)) I L) : Cal Try.prog ω 61 #[a0] K I L :=
  Cal.gh (cal_of_vc mixed Try.func61 (by rw [sh61_eq]; exact h))

def sh62 (ω : Om) (a0 : Value) (K : Value → M) : M :=
  New (.cells (Value.cells a0) 46 (0, 0)) <| gh fun p_1 =>
  Pv (fldV 0 p_1) fun v2 =>
  Rv none (ld1R v2) fun v3 =>
  Cal Try.prog ω 60 #[v3] <| gh fun v4 =>
  Gd v4 true
    (Pv (fldV 1 p_1) fun v5 =>
    Rv none (ld1R v5) fun v6 =>
    Cal Try.prog ω 60 #[v6] <| gh fun v7 =>
    Gd v7 true
      (Pv (fldV 2 p_1) fun v8 =>
      Rv none (ld1R v8) fun v9 =>
      Cal Try.prog ω 55 #[v9] <| gh fun v10 =>
      Gd v10 true
        (Pv (fldV 0 p_1) fun v11 =>
        Rv none (ld1R v11) fun v12 =>
        Pv (binIV .eql v12 (Value.int .i64 0)) fun v13 =>
        Pv (fldV 1 p_1) fun v14 =>
        Rv none (ld1R v14) fun v15 =>
        Pv (binIV .eql v15 (Value.int .i64 0)) fun v16 =>
        Pv (binBV .eql v13 v16) fun v17 =>
        K v17)
        (K (Value.bool false)))
      (K (Value.bool false)))
    (K (Value.bool false))
theorem sh62_eq (ω : Om) (a0 : Value) (K : Value → M) : vcF Try.prog ω Try.f62 [a0] K = sh62 ω a0 K := by kernel_rfl
theorem cal62 {ω : Om} {a0 : Value} {K : Value → M} {I : Imm} {L : LH} (h : sh62 ω a0 (fun v => Gh (K v)) I L) : Cal Try.prog ω 62 #[a0] K I L :=
  Cal.gh (cal_of_vc mixed Try.func62 (by rw [sh62_eq]; exact h))

def sh63 (ω : Om) (a0 : Value) (K : Value → M) : M :=
  New (.cells (Value.cells a0) 46 (0, 0)) <| gh fun p_1 =>
  New (.cells #[(Value.int .i64 0), (Value.int .i64 0), (Value.slice none 0 0)] 46 (0, 0)) <| gh fun v2 =>
  Pv (fldV 2 p_1) fun v3 =>
  Rv none (ld1R v3) fun v4 =>
  Cal Try.prog ω 56 #[v4] <| gh fun v5 =>
  Pv (fldV 2 p_1) fun v6 =>
  Sto 1 v6 v5 <| gh fun _ =>
  Rv none (ldNR 3 p_1) fun v7 =>
  Sto 3 v2 v7 <| gh fun _ =>
  Rv none (ldNR 3 v2) fun v8 =>
  K v8
theorem sh63_eq (ω : Om) (a0 : Value) (K : Value → M) : vcF Try.prog ω Try.f63 [a0] K = sh63 ω a0 K := by kernel_rfl
theorem cal63 {ω : Om} {a0 : Value} {K : Value → M} {I : Imm} {L : LH} (h : sh63 ω a0 (fun v => Gh (K v)) I L) : Cal Try.prog ω 63 #[a0] K I L :=
  Cal.gh (cal_of_vc mixed Try.func63 (by rw [sh63_eq]; exact h))

def sh64 (ω : Om) (a0 : Value) (a1 : Value) (a2 : Value) (K : Value → M) : M :=
  Cal Try.prog ω 106 #[a0] <| gh fun v1 =>
  Cal Try.prog ω 106 #[a1] <| gh fun v2 =>
  Cal Try.prog ω 26 #[a2] <| gh fun v3 =>
  Gd v1 true
    (Gd v2 true
      (Gd v3 true
        (Pv (binIV .eql a0 (Value.int .i64 0)) fun v4 =>
        Pv (binIV .eql a1 (Value.int .i64 0)) fun v5 =>
        Pv (binBV .eql v4 v5) fun v6 =>
        K v6)
        (K (Value.bool false)))
      (K (Value.bool false)))
    (K (Value.bool false))
theorem sh64_eq (ω : Om) (a0 a1 a2 : Value) (K : Value → M) : vcF Try.prog ω Try.f64 [a0, a1, a2] K = sh64 ω a0 a1 a2 K := by kernel_rfl
theorem cal64 {ω : Om} {a0 a1 a2 : Value} {K : Value → M} {I : Imm} {L : LH} (h : sh64 ω a0 a1 a2 (fun v => Gh (K v)) I L) : Cal Try.prog ω 64 #[a0, a1, a2] K I L :=
  Cal.gh (cal_of_vc mixed Try.func64 (by rw [sh64_eq]; exact h))

def sh65_3 (ω : Om) (p0 : Value) (p2 : Value) (x1 : Value) (x6 : Value) (x7 : Value) (Kn0 : (Value × Value × Value × Unit) → M) (K : Value → M) : M :=
  Pv (lenV p2) fun v1 =>
  Pv (binIV .lss x7 v1) fun v2 =>
  Br v2
    (Pv (ixV 4 p2 x7) fun v3 =>
    Rv none (ldNR 4 v3) fun v4 =>
    Cal Try.prog ω 107 #[v4] <| gh fun v5 =>
    Pv (unV .not v5) fun v6 =>
    Gd v6 false
      (Pv (ixV 4 p2 x7) fun v7 =>
      Pv (fldV 0 v7) fun v8 =>
      Rv none (ld1R v8) fun v9 =>
      Pv (binIV .add p0 (Value.int .i64 1)) fun v10 =>
      Pv (binIV .add v10 x7) fun v11 =>
      Pv (binIV .neq v9 v11) fun v12 =>
      Gd v12 false
        (Pv (ixV 4 p2 x7) fun v13 =>
        Pv (fldV 1 v13) fun v14 =>
        Rv none (ld1R v14) fun v15 =>
        Pv (binIV .lss v15 x1) fun v16 =>
        Br v16
          (K (Value.bool false))
          (Pv (ixV 4 p2 x7) fun v17 =>
          Pv (fldV 1 v17) fun v18 =>
          Rv none (ld1R v18) fun v19 =>
          Pv (binIV .add x7 (Value.int .i64 1)) fun v20 =>
          Kn0 (v19, x6, v20, ())))
        (K (Value.bool false)))
      (K (Value.bool false)))
    (K (Value.bool true))
def sh65 (ω : Om) (a0 : Value) (a1 : Value) (a2 : Value) (K : Value → M) : M :=
  LoopM ((a1, (Value.bool false), (Value.int .i64 0), ()) : Value × Value × Value × Unit) fun s Kn0 =>
  sh65_3 ω a0 a2 s.1 s.2.1 s.2.2.1 Kn0 K
theorem sh65_eq (ω : Om) (a0 a1 a2 : Value) (K : Value → M) : vcF Try.prog ω Try.f65 [a0, a1, a2] K = sh65 ω a0 a1 a2 K := by kernel_rfl
theorem cal65 {ω : Om} {a0 a1 a2 : Value} {K : Value → M} {I : Imm} {L : LH} (h : sh65 ω a0 a1 a2 (fun v => Gh (K v)) I L) : Cal Try.prog ω 65 #[a0, a1, a2] K I L :=
  Cal.gh (cal_of_vc mixed Try.func65 (by rw [sh65_eq]; exact h))

def sh66 (ω : Om) (a0 : Value) (K : Value → M) : M :=
  Draw fun S =>
    Pv (nilV a0) fun v1 =>
    Pv (fldV 0 v1) fun v2 =>
    Rv (some S) (ld1R v2) fun v3 =>
    Pv (nilV a0) fun v4 =>
    Pv (fldV 3 v4) fun v5 =>
    Rv (some S) (ld1R v5) fun v6 =>
    Pv (lenV v6) fun v7 =>
    Pv (binIV .add v3 v7) fun v8 =>
    K v8
theorem sh66_eq (ω : Om) (a0 : Value) (K : Value → M) : vcF Try.prog ω Try.f66 [a0] K = sh66 ω a0 K := by kernel_rfl
theorem cal66 {ω : Om} {a0 : Value} {K : Value → M} {I : Imm} {L : LH} (h : sh66 ω a0 (fun v => Gh (K v)) I L) : Cal Try.prog ω 66 #[a0] K I L :=
  Cal.gh (cal_of_vc mixed Try.func66 (by rw [sh66_eq]; exact h))

def sh67 (ω : Om) (a0 : Value) (K : Value → M) : M :=
  Pv (nilV a0) fun v1 =>
  Pv (fldV 3 v1) fun v2 =>
  Rv none (ld1R v2) fun v3 =>
  Pv (lenV v3) fun v4 =>
  Pv (binIV .eql v4 (Value.int .i64 0)) fun v5 =>
  Br v5
    (Pv (nilV a0) fun v6 =>
    Pv (fldV 1 v6) fun v7 =>
    Rv none (ld1R v7) fun v8 =>
    K v8)
    (Draw fun S =>
      Pv (nilV a0) fun v9 =>
      Pv (fldV 3 v9) fun v10 =>
      Rv (some S) (ld1R v10) fun v11 =>
      Pv (nilV a0) fun v12 =>
      Pv (fldV 3 v12) fun v13 =>
      Rv (some S) (ld1R v13) fun v14 =>
      Pv (lenV v14) fun v15 =>
      Pv (binIV .sub v15 (Value.int .i64 1)) fun v16 =>
      Pv (ixV 4 v11 v16) fun v17 =>
      Pv (fldV 1 v17) fun v18 =>
      Rv (some S) (ld1R v18) fun v19 =>
      K v19)
theorem sh67_eq (ω : Om) (a0 : Value) (K : Value → M) : vcF Try.prog ω Try.f67 [a0] K = sh67 ω a0 K := by kernel_rfl
theorem cal67 {ω : Om} {a0 : Value} {K : Value → M} {I : Imm} {L : LH} (h : sh67 ω a0 (fun v => Gh (K v)) I L) : Cal Try.prog ω 67 #[a0] K I L :=
  Cal.gh (cal_of_vc mixed Try.func67 (by rw [sh67_eq]; exact h))

def sh68 (ω : Om) (a0 : Value) (K : Value → M) : M :=
  Cal Try.prog ω 66 #[a0] <| gh fun v1 =>
  Cal Try.prog ω 74 #[a0, v1] <| gh fun v2 =>
  Pv (exV v2 0) fun v3 =>
  Pv (exV v2 1) fun v4 =>
  K v3
theorem sh68_eq (ω : Om) (a0 : Value) (K : Value → M) : vcF Try.prog ω Try.f68 [a0] K = sh68 ω a0 K := by kernel_rfl
theorem cal68 {ω : Om} {a0 : Value} {K : Value → M} {I : Imm} {L : LH} (h : sh68 ω a0 (fun v => Gh (K v)) I L) : Cal Try.prog ω 68 #[a0] K I L :=
  Cal.gh (cal_of_vc mixed Try.func68 (by rw [sh68_eq]; exact h))

def sh69 (ω : Om) (a0 : Value) (K : Value → M) : M :=
  New (.cells (Value.cells a0) 24 (0, 0)) <| gh fun l_1 =>
  Rv none (ld1R l_1) fun v2 =>
  Pv (nilV v2) fun v3 =>
  Pv (fldV 3 v3) fun v4 =>
  Rv none (ld1R v4) fun v5 =>
  Cal Try.prog ω 108 #[v5, (Value.func (Fn.func 109) #[] #[l_1])] <| gh fun v6 =>
  K v6
theorem sh69_eq (ω : Om) (a0 : Value) (K : Value → M) : vcF Try.prog ω Try.f69 [a0] K = sh69 ω a0 K := by kernel_rfl
theorem cal69 {ω : Om} {a0 : Value} {K : Value → M} {I : Imm} {L : LH} (h : sh69 ω a0 (fun v => Gh (K v)) I L) : Cal Try.prog ω 69 #[a0] K I L :=
  Cal.gh (cal_of_vc mixed Try.func69 (by rw [sh69_eq]; exact h))

def sh70_3 (ω : Om) (p0 : Value) (x2 : Value) (x3 : Value) (Kn0 : (Value × Value × Unit) → M) (K : Value → M) : M :=
  Pv (nilV p0) fun v1 =>
  Pv (fldV 3 v1) fun v2 =>
  Rv none (ld1R v2) fun v3 =>
  Pv (lenV v3) fun v4 =>
  Pv (binIV .lss x3 v4) fun v5 =>
  Br v5
    (Draw fun S =>
      Pv (nilV p0) fun v6 =>
      Pv (fldV 3 v6) fun v7 =>
      Rv (some S) (ld1R v7) fun v8 =>
      Pv (ixV 4 v8 x3) fun v9 =>
      Pv (fldV 2 v9) fun v10 =>
      Rv (some S) (ld1R v10) fun v11 =>
      Pv (binIV .eql v11 (Value.int .i64 3)) fun v12 =>
      Gd v12 true
        (Pv (nilV p0) fun v13 =>
        Pv (fldV 3 v13) fun v14 =>
        Rv (some S) (ld1R v14) fun v15 =>
        Pv (ixV 4 v15 x3) fun v16 =>
        Pv (fldV 0 v16) fun v17 =>
        Rv (some S) (ld1R v17) fun v18 =>
        Pv (nilV p0) fun v19 =>
        Pv (fldV 4 v19) fun v20 =>
        Rv (some S) (ld1R v20) fun v21 =>
        Pv (binIV .gtr v18 v21) fun v22 =>
        Br v22
          (K (Value.bool true))
          (Pv (binIV .add x3 (Value.int .i64 1)) fun v23 =>
          Kn0 (x2, v23, ())))
        (Pv (binIV .add x3 (Value.int .i64 1)) fun v24 =>
        Kn0 (x2, v24, ())))
    (K (Value.bool false))
def sh70 (ω : Om) (a0 : Value) (K : Value → M) : M :=
  LoopM (((Value.bool false), (Value.int .i64 0), ()) : Value × Value × Unit) fun s Kn0 =>
  sh70_3 ω a0 s.1 s.2.1 Kn0 K
theorem sh70_eq (ω : Om) (a0 : Value) (K : Value → M) : vcF Try.prog ω Try.f70 [a0] K = sh70 ω a0 K := by kernel_rfl
theorem cal70 {ω : Om} {a0 : Value} {K : Value → M} {I : Imm} {L : LH} (h : sh70 ω a0 (fun v => Gh (K v)) I L) : Cal Try.prog ω 70 #[a0] K I L :=
  Cal.gh (cal_of_vc mixed Try.func70 (by rw [sh70_eq]; exact h))

def sh71_2 (ω : Om) (p0 : Value) (p4 : Value) (p5 : Value) (K : Value → M) : M :=
  Pv (nilV p0) fun v16 =>
  Pv (fldV 0 v16) fun v17 =>
  Pv (fldV 2 v17) fun v18 =>
  Rv none (ld1R v18) fun v19 =>
  Cal Try.prog ω 56 #[v19] <| gh fun v20 =>
  K (Value.tuple #[v20, (Value.int .i64 0)])
def sh71_5 (ω : Om) (p0 : Value) (p4 : Value) (p5 : Value) (p6 : Value) (K : Value → M) : M :=
  Pv (nilV p0) fun v35 =>
  Pv (fldV 3 v35) fun v36 =>
  Rv none (ld1R v36) fun v37 =>
  Pv (ixV 4 v37 p6) fun v38 =>
  Pv (fldV 3 v38) fun v39 =>
  Rv none (ld1R v39) fun v40 =>
  Cal Try.prog ω 110 #[v40] <| gh fun v41 =>
  K (Value.tuple #[v41, (Value.int .i64 0)])
def sh71_4 (ω : Om) (p0 : Value) (x4 : Value) (x5 : Value) (x6 : Value) (Kn0 : (Value × Value × Value × Unit) → M) (K : Value → M) : M :=
  Pv (binIV .geq x6 (Value.int .i64 0)) fun v27 =>
  Br v27
    (Pv (nilV p0) fun v28 =>
    Pv (fldV 3 v28) fun v29 =>
    Rv none (ld1R v29) fun v30 =>
    Pv (ixV 4 v30 x6) fun v31 =>
    Pv (fldV 2 v31) fun v32 =>
    Rv none (ld1R v32) fun v33 =>
    Pv (binIV .eql v33 (Value.int .i64 3)) fun v34 =>
    Br v34
      (sh71_5 ω p0 x4 x5 x6 K)
      (Pv (binIV .sub x6 (Value.int .i64 1)) fun v42 =>
      Kn0 (x4, x5, v42, ())))
    (sh71_2 ω p0 x4 x5 K)
def sh71 (ω : Om) (a0 : Value) (a1 : Value) (K : Value → M) : M :=
  Draw fun S =>
    Pv (nilV a0) fun v1 =>
    Pv (fldV 0 v1) fun v2 =>
    Pv (fldV 0 v2) fun v3 =>
    Rv (some S) (ld1R v3) fun v4 =>
    Pv (binIV .lss a1 v4) fun v5 =>
    Gd v5 false
      (Pv (nilV a0) fun v6 =>
      Pv (fldV 0 v6) fun v7 =>
      Pv (fldV 0 v7) fun v8 =>
      Rv (some S) (ld1R v8) fun v9 =>
      Pv (binIV .sub a1 v9) fun v10 =>
      Pv (nilV a0) fun v11 =>
      Pv (fldV 3 v11) fun v12 =>
      Rv (some S) (ld1R v12) fun v13 =>
      Pv (lenV v13) fun v14 =>
      Pv (binIV .gtr v10 v14) fun v15 =>
      Br v15
        (K (Value.tuple #[(Value.slice none 0 0), (Value.int .i64 100)]))
        (Pv (nilV a0) fun v21 =>
        Pv (fldV 0 v21) fun v22 =>
        Pv (fldV 0 v22) fun v23 =>
        Rv none (ld1R v23) fun v24 =>
        Pv (binIV .sub a1 v24) fun v25 =>
        Pv (binIV .sub v25 (Value.int .i64 1)) fun v26 =>
        LoopM (((Value.slice none 0 0), (Value.int .i64 0), v26, ()) : Value × Value × Value × Unit) fun s Kn0 =>
        sh71_4 ω a0 s.1 s.2.1 s.2.2.1 Kn0 K))
      (K (Value.tuple #[(Value.slice none 0 0), (Value.int .i64 100)]))
theorem sh71_eq (ω : Om) (a0 a1 : Value) (K : Value → M) : vcF Try.prog ω Try.f71 [a0, a1] K = sh71 ω a0 a1 K := by kernel_rfl
theorem cal71 {ω : Om} {a0 a1 : Value} {K : Value → M} {I : Imm} {L : LH} (h : sh71 ω a0 a1 (fun v => Gh (K v)) I L) : Cal Try.prog ω 71 #[a0, a1] K I L :=
  Cal.gh (cal_of_vc mixed Try.func71 (by rw [sh71_eq]; exact h))

def sh72 (ω : Om) (a0 : Value) (K : Value → M) : M :=
  Pv (binNV .eql a0 (Value.slice none 0 0)) fun v1 =>
  Br v1
    (K (Value.slice none 0 0))
    (BldS 59 4 #[(Value.int .i64 0), (Value.int .i64 0), (Value.int .i64 0), (Value.slice none 0 0)] 0 [] <| gh fun v2 =>
    App 59 4 48 #[(Value.int .i64 0), (Value.int .i64 0), (Value.int .i64 0), (Value.slice none 0 0)] v2 a0 <| gh fun v3 =>
    K v3)
theorem sh72_eq (ω : Om) (a0 : Value) (K : Value → M) : vcF Try.prog ω Try.f72 [a0] K = sh72 ω a0 K := by kernel_rfl
theorem cal72 {ω : Om} {a0 : Value} {K : Value → M} {I : Imm} {L : LH} (h : sh72 ω a0 (fun v => Gh (K v)) I L) : Cal Try.prog ω 72 #[a0] K I L :=
  Cal.gh (cal_of_vc mixed Try.func72 (by rw [sh72_eq]; exact h))

def sh73 (ω : Om) (a0 : Value) (a1 : Value) (K : Value → M) : M :=
  Pv (nilV a0) fun v1 =>
  Pv (fldV 0 v1) fun v2 =>
  Rv none (ld1R v2) fun v3 =>
  Pv (binIV .eql a1 v3) fun v4 =>
  Br v4
    (Pv (nilV a0) fun v5 =>
    Pv (fldV 1 v5) fun v6 =>
    Rv none (ld1R v6) fun v7 =>
    K (Value.tuple #[v7, (Value.int .i64 0)]))
    (Cal Try.prog ω 80 #[a0, a1] <| gh fun v8 =>
    Pv (exV v8 0) fun v9 =>
    Pv (exV v8 1) fun v10 =>
    New (.cells #[(Value.int .i64 0), (Value.int .i64 0), (Value.int .i64 0), (Value.slice none 0 0)] 59 (0, 0)) <| gh fun e_11 =>
    Sto 4 e_11 v9 <| gh fun _ =>
    Pv (fldV 1 e_11) fun v12 =>
    Rv none (ld1R v12) fun v13 =>
    K (Value.tuple #[v13, v10]))
theorem sh73_eq (ω : Om) (a0 a1 : Value) (K : Value → M) : vcF Try.prog ω Try.f73 [a0, a1] K = sh73 ω a0 a1 K := by kernel_rfl
theorem cal73 {ω : Om} {a0 a1 : Value} {K : Value → M} {I : Imm} {L : LH} (h : sh73 ω a0 a1 (fun v => Gh (K v)) I L) : Cal Try.prog ω 73 #[a0, a1] K I L :=
  Cal.gh (cal_of_vc mixed Try.func73 (by rw [sh73_eq]; exact h))

def sh74_5 (ω : Om) (p7 : Value) (p8 : Value) (Kn0 : (Value × Value × Unit) → M) (K : Value → M) : M :=
  Pv (binIV .add p8 (Value.int .i64 1)) fun v15 =>
  Kn0 (p7, v15, ())
def sh74_9 (ω : Om) (p0 : Value) (p8 : Value) (x7 : Value) (x9 : Value) (Kn0 : (Value × Value × Unit) → M) (Kn1 : (Value × Value × Unit) → M) (K : Value → M) : M :=
  Pv (nilV p0) fun v23 =>
  Pv (fldV 3 v23) fun v24 =>
  Rv none (ld1R v24) fun v25 =>
  Pv (ixV 4 v25 p8) fun v26 =>
  Pv (fldV 3 v26) fun v27 =>
  Rv none (ld1R v27) fun v28 =>
  Pv (lenV v28) fun v29 =>
  Pv (binIV .lss x9 v29) fun v30 =>
  Br v30
    (Pv (nilV p0) fun v31 =>
    Pv (fldV 3 v31) fun v32 =>
    Rv none (ld1R v32) fun v33 =>
    Pv (ixV 4 v33 p8) fun v34 =>
    Pv (fldV 3 v34) fun v35 =>
    Rv none (ld1R v35) fun v36 =>
    Pv (ixV 1 v36 x9) fun v37 =>
    Rv none (ld1R v37) fun v38 =>
    Pv (cvIV .i64 v38) fun v39 =>
    BldS 3 1 #[(Value.int .i64 0)] 1 [(0, v39)] <| gh fun v40 =>
    App 3 1 8 #[(Value.int .i64 0)] x7 v40 <| gh fun v41 =>
    Pv (binIV .add x9 (Value.int .i64 1)) fun v42 =>
    Kn1 (v41, v42, ()))
    (sh74_5 ω x7 p8 Kn0 K)
def sh74_7 (ω : Om) (p0 : Value) (p7 : Value) (p8 : Value) (Kn0 : (Value × Value × Unit) → M) (K : Value → M) : M :=
  LoopM (((Value.slice none 0 0), (Value.int .i64 0), ()) : Value × Value × Unit) fun s Kn1 =>
  sh74_9 ω p0 p8 s.1 s.2.1 Kn0 Kn1 K
def sh74_4 (ω : Om) (p0 : Value) (p1 : Value) (p4 : Value) (p5 : Value) (x7 : Value) (x8 : Value) (Kn0 : (Value × Value × Unit) → M) (K : Value → M) : M :=
  Pv (nilV p0) fun v10 =>
  Pv (fldV 0 v10) fun v11 =>
  Rv none (ld1R v11) fun v12 =>
  Pv (binIV .sub p1 v12) fun v13 =>
  Pv (binIV .lss x8 v13) fun v14 =>
  Br v14
    (Pv (nilV p0) fun v16 =>
    Pv (fldV 3 v16) fun v17 =>
    Rv none (ld1R v17) fun v18 =>
    Pv (ixV 4 v18 x8) fun v19 =>
    Pv (fldV 2 v19) fun v20 =>
    Rv none (ld1R v20) fun v21 =>
    Pv (binIV .eql v21 (Value.int .i64 3)) fun v22 =>
    Br v22
      (sh74_7 ω p0 x7 x8 Kn0 K)
      (sh74_5 ω x7 x8 Kn0 K))
    (K (Value.tuple #[x7, (Value.int .i64 0)]))
def sh74 (ω : Om) (a0 : Value) (a1 : Value) (K : Value → M) : M :=
  Cal Try.prog ω 66 #[a0] <| gh fun v1 =>
  Pv (nilV a0) fun v2 =>
  Pv (fldV 0 v2) fun v3 =>
  Rv none (ld1R v3) fun v4 =>
  Pv (binIV .lss a1 v4) fun v5 =>
  Gd v5 false
    (Pv (binIV .gtr a1 v1) fun v6 =>
    Br v6
      (K (Value.tuple #[(Value.slice none 0 0), (Value.int .i64 100)]))
      (Pv (nilV a0) fun v7 =>
      Pv (fldV 2 v7) fun v8 =>
      Rv none (ld1R v8) fun v9 =>
      LoopM ((v9, (Value.int .i64 0), ()) : Value × Value × Unit) fun s Kn0 =>
      sh74_4 ω a0 a1 (Value.slice none 0 0) (Value.int .i64 0) s.1 s.2.1 Kn0 K))
    (K (Value.tuple #[(Value.slice none 0 0), (Value.int .i64 100)]))
theorem sh74_eq (ω : Om) (a0 a1 : Value) (K : Value → M) : vcF Try.prog ω Try.f74 [a0, a1] K = sh74 ω a0 a1 K := by kernel_rfl
theorem cal74 {ω : Om} {a0 a1 : Value} {K : Value → M} {I : Imm} {L : LH} (h : sh74 ω a0 a1 (fun v => Gh (K v)) I L) : Cal Try.prog ω 74 #[a0, a1] K I L :=
  Cal.gh (cal_of_vc mixed Try.func74 (by rw [sh74_eq]; exact h))

def sh75 (ω : Om) (a0 : Value) (K : Value → M) : M :=
  Pv (binIV .geq a0 (Value.int .i64 1)) fun v1 =>
  Gd v1 true
    (Pv (binIV .leq a0 (Value.int .i64 5)) fun v2 =>
    K v2)
    (K (Value.bool false))
theorem sh75_eq (ω : Om) (a0 : Value) (K : Value → M) : vcF Try.prog ω Try.f75 [a0] K = sh75 ω a0 K := by kernel_rfl
theorem cal75 {ω : Om} {a0 : Value} {K : Value → M} {I : Imm} {L : LH} (h : sh75 ω a0 (fun v => Gh (K v)) I L) : Cal Try.prog ω 75 #[a0] K I L :=
  Cal.gh (cal_of_vc mixed Try.func75 (by rw [sh75_eq]; exact h))

def sh76_1 (ω : Om) (p8 : Value) (p9 : Value) (p10 : Value) (K : Value → M) : M :=
  Pv (binIV .add p10 (Value.int .i64 1)) fun v10 =>
  K (Value.tuple #[v10, (Value.int .i64 0)])
def sh76 (ω : Om) (a0 : Value) (a1 : Value) (a2 : Value) (a3 : Value) (K : Value → M) : M :=
  Cal Try.prog ω 66 #[a0] <| gh fun v1 =>
  Cal Try.prog ω 67 #[a0] <| gh fun v2 =>
  Pv (binIV .add v1 (Value.int .i64 1)) fun v3 =>
  Pv (bldV #[(Value.int .i64 0), (Value.int .i64 0), (Value.int .i64 0), (Value.slice none 0 0)] #[(0, 1), (1, 1), (2, 1), (3, 1)] [(0, v3), (1, a1), (2, a2), (3, a3)]) fun v4 =>
  New (.cells #[(Value.int .i64 0), (Value.int .i64 0), (Value.int .i64 0), (Value.slice none 0 0)] 59 (0, 0)) <| gh fun e_5 =>
  Sto 4 e_5 v4 <| gh fun _ =>
  Rv none (ldNR 4 e_5) fun v6 =>
  BldS 59 4 #[(Value.int .i64 0), (Value.int .i64 0), (Value.int .i64 0), (Value.slice none 0 0)] 1 [(0, v6)] <| gh fun v7 =>
  Cal Try.prog ω 65 #[v1, v2, v7] <| gh fun v8 =>
  Pv (unV .not v8) fun v9 =>
  Br v9
    (K (Value.tuple #[(Value.int .i64 0), (Value.int .i64 1)]))
    (Draw fun S =>
      Pv (nilV a0) fun v11 =>
      Pv (fldV 3 v11) fun v12 =>
      Rv (some S) (ld1R v12) fun v13 =>
      Rv (some S) (ldNR 4 e_5) fun v14 =>
      (fun I L => (BldS 59 4 #[(Value.int .i64 0), (Value.int .i64 0), (Value.int .i64 0), (Value.slice none 0 0)] 0 [] <| gh <| Keep S fun v15 =>
        (fun I L => (App 59 4 48 #[(Value.int .i64 0), (Value.int .i64 0), (Value.int .i64 0), (Value.slice none 0 0)] v15 v13 <| gh <| Keep S fun v16 =>
          BldS 59 4 #[(Value.int .i64 0), (Value.int .i64 0), (Value.int .i64 0), (Value.slice none 0 0)] 1 [(0, v14)] <| gh <| Keep S fun v17 =>
          App 59 4 48 #[(Value.int .i64 0), (Value.int .i64 0), (Value.int .i64 0), (Value.slice none 0 0)] v16 v17 <| gh fun v18 =>
          Pv (nilV a0) fun v19 =>
          Pv (fldV 3 v19) fun v20 =>
          Sto 1 v20 v18 <| gh fun _ =>
          sh76_1 ω (Value.int .i64 0) (Value.int .i64 0) v1 K) I L ∧ (BldS 59 4 #[(Value.int .i64 0), (Value.int .i64 0), (Value.int .i64 0), (Value.slice none 0 0)] 1 [(0, v14)] <| gh <| Keep S fun v21 =>
          App 59 4 48 #[(Value.int .i64 0), (Value.int .i64 0), (Value.int .i64 0), (Value.slice none 0 0)] v15 v13 <| gh <| Keep S fun v22 =>
          App 59 4 48 #[(Value.int .i64 0), (Value.int .i64 0), (Value.int .i64 0), (Value.slice none 0 0)] v22 v21 <| gh fun v23 =>
          Pv (nilV a0) fun v24 =>
          Pv (fldV 3 v24) fun v25 =>
          Sto 1 v25 v23 <| gh fun _ =>
          sh76_1 ω (Value.int .i64 0) (Value.int .i64 0) v1 K) I L)) I L ∧ (BldS 59 4 #[(Value.int .i64 0), (Value.int .i64 0), (Value.int .i64 0), (Value.slice none 0 0)] 1 [(0, v14)] <| gh <| Keep S fun v26 =>
        BldS 59 4 #[(Value.int .i64 0), (Value.int .i64 0), (Value.int .i64 0), (Value.slice none 0 0)] 0 [] <| gh <| Keep S fun v27 =>
        App 59 4 48 #[(Value.int .i64 0), (Value.int .i64 0), (Value.int .i64 0), (Value.slice none 0 0)] v27 v13 <| gh <| Keep S fun v28 =>
        App 59 4 48 #[(Value.int .i64 0), (Value.int .i64 0), (Value.int .i64 0), (Value.slice none 0 0)] v28 v26 <| gh fun v29 =>
        Pv (nilV a0) fun v30 =>
        Pv (fldV 3 v30) fun v31 =>
        Sto 1 v31 v29 <| gh fun _ =>
        sh76_1 ω (Value.int .i64 0) (Value.int .i64 0) v1 K) I L))
theorem sh76_eq (ω : Om) (a0 a1 a2 a3 : Value) (K : Value → M) : vcF Try.prog ω Try.f76 [a0, a1, a2, a3] K = sh76 ω a0 a1 a2 a3 K := by kernel_rfl
theorem cal76 {ω : Om} {a0 a1 a2 a3 : Value} {K : Value → M} {I : Imm} {L : LH} (h : sh76 ω a0 a1 a2 a3 (fun v => Gh (K v)) I L) : Cal Try.prog ω 76 #[a0, a1, a2, a3] K I L :=
  Cal.gh (cal_of_vc mixed Try.func76 (by rw [sh76_eq]; exact h))

def sh77_5 (ω : Om) (p1 : Value) (p8 : Value) (p9 : Value) (p10 : Value) (p14 : Value) (K : Value → M) : M :=
  Pv (lenV p14) fun v7 =>
  Pv (binIV .add p1 v7) fun v8 =>
  K (Value.tuple #[v8, (Value.bool true), (Value.int .i64 0)])
def sh77_8 (ω : Om) (p22 : Value) (Kn0 : (Value × Unit) → M) (K : Value → M) : M :=
  Pv (binIV .add p22 (Value.int .i64 1)) fun v11 =>
  Kn0 (v11, ())
def sh77_7 (ω : Om) (p0 : Value) (p1 : Value) (p8 : Value) (p9 : Value) (p10 : Value) (p14 : Value) (x22 : Value) (Kn0 : (Value × Unit) → M) (K : Value → M) : M :=
  Pv (lenV p14) fun v9 =>
  Pv (binIV .lss x22 v9) fun v10 =>
  Br v10
    (Draw fun S =>
      Pv (ixV 4 p14 x22) fun v12 =>
      Pv (fldV 0 v12) fun v13 =>
      Rv (some S) (ld1R v13) fun v14 =>
      Cal Try.prog ω 66 #[p0] <| gh <| Keep S fun v15 =>
      Pv (binIV .gtr v14 v15) fun v16 =>
      Br v16
        (Draw fun S =>
          Pv (nilV p0) fun v17 =>
          Pv (fldV 3 v17) fun v18 =>
          Rv (some S) (ld1R v18) fun v19 =>
          Pv (ixV 4 p14 x22) fun v20 =>
          Rv (some S) (ldNR 4 v20) fun v21 =>
          (fun I L => (BldS 59 4 #[(Value.int .i64 0), (Value.int .i64 0), (Value.int .i64 0), (Value.slice none 0 0)] 0 [] <| gh <| Keep S fun v22 =>
            (fun I L => (App 59 4 48 #[(Value.int .i64 0), (Value.int .i64 0), (Value.int .i64 0), (Value.slice none 0 0)] v22 v19 <| gh <| Keep S fun v23 =>
              BldS 59 4 #[(Value.int .i64 0), (Value.int .i64 0), (Value.int .i64 0), (Value.slice none 0 0)] 1 [(0, v21)] <| gh <| Keep S fun v24 =>
              App 59 4 48 #[(Value.int .i64 0), (Value.int .i64 0), (Value.int .i64 0), (Value.slice none 0 0)] v23 v24 <| gh fun v25 =>
              Pv (nilV p0) fun v26 =>
              Pv (fldV 3 v26) fun v27 =>
              Sto 1 v27 v25 <| gh fun _ =>
              sh77_8 ω x22 Kn0 K) I L ∧ (BldS 59 4 #[(Value.int .i64 0), (Value.int .i64 0), (Value.int .i64 0), (Value.slice none 0 0)] 1 [(0, v21)] <| gh <| Keep S fun v28 =>
              App 59 4 48 #[(Value.int .i64 0), (Value.int .i64 0), (Value.int .i64 0), (Value.slice none 0 0)] v22 v19 <| gh <| Keep S fun v29 =>
              App 59 4 48 #[(Value.int .i64 0), (Value.int .i64 0), (Value.int .i64 0), (Value.slice none 0 0)] v29 v28 <| gh fun v30 =>
              Pv (nilV p0) fun v31 =>
              Pv (fldV 3 v31) fun v32 =>
              Sto 1 v32 v30 <| gh fun _ =>
              sh77_8 ω x22 Kn0 K) I L)) I L ∧ (BldS 59 4 #[(Value.int .i64 0), (Value.int .i64 0), (Value.int .i64 0), (Value.slice none 0 0)] 1 [(0, v21)] <| gh <| Keep S fun v33 =>
            BldS 59 4 #[(Value.int .i64 0), (Value.int .i64 0), (Value.int .i64 0), (Value.slice none 0 0)] 0 [] <| gh <| Keep S fun v34 =>
            App 59 4 48 #[(Value.int .i64 0), (Value.int .i64 0), (Value.int .i64 0), (Value.slice none 0 0)] v34 v19 <| gh <| Keep S fun v35 =>
            App 59 4 48 #[(Value.int .i64 0), (Value.int .i64 0), (Value.int .i64 0), (Value.slice none 0 0)] v35 v33 <| gh fun v36 =>
            Pv (nilV p0) fun v37 =>
            Pv (fldV 3 v37) fun v38 =>
            Sto 1 v38 v36 <| gh fun _ =>
            sh77_8 ω x22 Kn0 K) I L))
        (sh77_8 ω x22 Kn0 K))
    (sh77_5 ω p1 p8 p9 p10 p14 K)
def sh77_4 (ω : Om) (p0 : Value) (p1 : Value) (p8 : Value) (p9 : Value) (p10 : Value) (p14 : Value) (K : Value → M) : M :=
  LoopM (((Value.int .i64 0), ()) : Value × Unit) fun s Kn0 =>
  sh77_7 ω p0 p1 p8 p9 p10 p14 s.1 Kn0 K
def sh77_13 (ω : Om) (p0 : Value) (p1 : Value) (p8 : Value) (p9 : Value) (p10 : Value) (p14 : Value) (p19 : Value) (K : Value → M) : M :=
  Draw fun S =>
    Pv (ixV 4 p14 p19) fun v55 =>
    Pv (fldV 0 v55) fun v56 =>
    Rv (some S) (ld1R v56) fun v57 =>
    Pv (nilV p0) fun v58 =>
    Pv (fldV 4 v58) fun v59 =>
    Rv (some S) (ld1R v59) fun v60 =>
    Pv (binIV .leq v57 v60) fun v61 =>
    Br v61
      (K (Value.tuple #[(Value.int .i64 0), (Value.bool false), (Value.int .i64 101)]))
      (Draw fun S =>
        BldS 59 4 #[(Value.int .i64 0), (Value.int .i64 0), (Value.int .i64 0), (Value.slice none 0 0)] 0 [] <| gh <| Keep S fun v62 =>
        Pv (nilV p0) fun v63 =>
        Pv (fldV 3 v63) fun v64 =>
        Rv (some S) (ld1R v64) fun v65 =>
        Pv (ixV 4 p14 p19) fun v66 =>
        Pv (fldV 0 v66) fun v67 =>
        Rv (some S) (ld1R v67) fun v68 =>
        Pv (nilV p0) fun v69 =>
        Pv (fldV 0 v69) fun v70 =>
        Rv (some S) (ld1R v70) fun v71 =>
        Pv (binIV .sub v68 v71) fun v72 =>
        Pv (binIV .sub v72 (Value.int .i64 1)) fun v73 =>
        Pv (slcV 4 v65 none (some v73) none) fun v74 =>
        App 59 4 48 #[(Value.int .i64 0), (Value.int .i64 0), (Value.int .i64 0), (Value.slice none 0 0)] v62 v74 <| gh fun v75 =>
        Pv (nilV p0) fun v76 =>
        Pv (fldV 3 v76) fun v77 =>
        Sto 1 v77 v75 <| gh fun _ =>
        sh77_4 ω p0 p1 p8 p9 p10 p14 K)
def sh77_12 (ω : Om) (p0 : Value) (p1 : Value) (p14 : Value) (x8 : Value) (x9 : Value) (x10 : Value) (x19 : Value) (Kn0 : (Value × Value × Value × Value × Unit) → M) (K : Value → M) : M :=
  Pv (lenV p14) fun v39 =>
  Pv (binIV .lss x19 v39) fun v40 =>
  Br v40
    (Pv (ixV 4 p14 x19) fun v41 =>
    Pv (fldV 0 v41) fun v42 =>
    Rv none (ld1R v42) fun v43 =>
    Cal Try.prog ω 80 #[p0, v43] <| gh fun v44 =>
    Pv (exV v44 0) fun v45 =>
    Pv (exV v44 1) fun v46 =>
    New (.cells #[(Value.int .i64 0), (Value.int .i64 0), (Value.int .i64 0), (Value.slice none 0 0)] 59 (0, 0)) <| gh fun old_47 =>
    Sto 4 old_47 v45 <| gh fun _ =>
    Draw fun S =>
      Pv (binIV .eql v46 (Value.int .i64 0)) fun v48 =>
      Gd v48 true
        (Pv (fldV 1 old_47) fun v49 =>
        Rv (some S) (ld1R v49) fun v50 =>
        Pv (ixV 4 p14 x19) fun v51 =>
        Pv (fldV 1 v51) fun v52 =>
        Rv (some S) (ld1R v52) fun v53 =>
        Pv (binIV .neq v50 v53) fun v54 =>
        Br v54
          (sh77_13 ω p0 p1 x8 x9 x10 p14 x19 K)
          (Pv (binIV .add x19 (Value.int .i64 1)) fun v78 =>
          Kn0 (x8, x9, x10, v78, ())))
        (Pv (binIV .add x19 (Value.int .i64 1)) fun v79 =>
        Kn0 (x8, x9, x10, v79, ())))
    (sh77_4 ω p0 p1 x8 x9 x10 p14 K)
def sh77_3 (ω : Om) (p0 : Value) (p1 : Value) (p8 : Value) (p9 : Value) (p10 : Value) (p14 : Value) (K : Value → M) : M :=
  LoopM ((p8, p9, p10, (Value.int .i64 0), ()) : Value × Value × Value × Value × Unit) fun s Kn0 =>
  sh77_12 ω p0 p1 p14 s.1 s.2.1 s.2.2.1 s.2.2.2.1 Kn0 K
def sh77_15 (ω : Om) (p0 : Value) (p1 : Value) (p8 : Value) (p9 : Value) (p10 : Value) (K : Value → M) : M :=
  Cal Try.prog ω 66 #[p0] <| gh fun v101 =>
  Pv (nilV p0) fun v102 =>
  Pv (fldV 4 v102) fun v103 =>
  Rv none (ld1R v103) fun v104 =>
  Pv (binIV .sub p1 (Value.int .i64 1)) fun v105 =>
  Pv (minV v101 v105) fun v106 =>
  Pv (maxV v104 v106) fun v107 =>
  K (Value.tuple #[v107, (Value.bool false), (Value.int .i64 0)])
def sh77_2 (ω : Om) (p0 : Value) (p1 : Value) (p2 : Value) (p8 : Value) (p9 : Value) (p10 : Value) (p14 : Value) (K : Value → M) : M :=
  Pv (nilV p0) fun v80 =>
  Pv (fldV 0 v80) fun v81 =>
  Rv none (ld1R v81) fun v82 =>
  Pv (binIV .lss p1 v82) fun v83 =>
  Br v83
    (Pv (nilV p0) fun v84 =>
    Pv (fldV 0 v84) fun v85 =>
    Rv none (ld1R v85) fun v86 =>
    Draw fun S =>
      Pv (lenV p14) fun v87 =>
      Pv (binIV .gtr v87 (Value.int .i64 0)) fun v88 =>
      Gd v88 true
        (Pv (ixV 4 p14 (Value.int .i64 0)) fun v89 =>
        Pv (fldV 1 v89) fun v90 =>
        Rv (some S) (ld1R v90) fun v91 =>
        Pv (nilV p0) fun v92 =>
        Pv (fldV 1 v92) fun v93 =>
        Rv (some S) (ld1R v93) fun v94 =>
        Pv (binIV .lss v91 v94) fun v95 =>
        Br v95
          (K (Value.tuple #[(Value.int .i64 0), (Value.bool false), (Value.int .i64 101)]))
          (sh77_3 ω p0 v86 p8 p9 p10 p14 K))
        (sh77_3 ω p0 v86 p8 p9 p10 p14 K))
    (Cal Try.prog ω 73 #[p0, p1] <| gh fun v96 =>
    Pv (exV v96 0) fun v97 =>
    Pv (exV v96 1) fun v98 =>
    Pv (binIV .neq v98 (Value.int .i64 0)) fun v99 =>
    Gd v99 false
      (Pv (binIV .neq v97 p2) fun v100 =>
      Br v100
        (sh77_15 ω p0 p1 p8 p9 p10 K)
        (sh77_3 ω p0 p1 p8 p9 p10 p14 K))
      (sh77_15 ω p0 p1 p8 p9 p10 K))
def sh77_18 (ω : Om) (p14 : Value) (p15 : Value) (Kn0 : (Value × Value × Unit) → M) (K : Value → M) : M :=
  Pv (binIV .add p15 (Value.int .i64 1)) fun v110 =>
  Kn0 (p14, v110, ())
def sh77_20 (ω : Om) (p3 : Value) (p14 : Value) (p15 : Value) (Kn0 : (Value × Value × Unit) → M) (K : Value → M) : M :=
  Pv (ixV 4 p3 p15) fun v118 =>
  Rv none (ldNR 4 v118) fun v119 =>
  BldS 59 4 #[(Value.int .i64 0), (Value.int .i64 0), (Value.int .i64 0), (Value.slice none 0 0)] 1 [(0, v119)] <| gh fun v120 =>
  App 59 4 48 #[(Value.int .i64 0), (Value.int .i64 0), (Value.int .i64 0), (Value.slice none 0 0)] p14 v120 <| gh fun v121 =>
  sh77_18 ω v121 p15 Kn0 K
def sh77_17 (ω : Om) (p0 : Value) (p1 : Value) (p2 : Value) (p3 : Value) (p8 : Value) (p9 : Value) (p10 : Value) (x14 : Value) (x15 : Value) (Kn0 : (Value × Value × Unit) → M) (K : Value → M) : M :=
  Pv (lenV p3) fun v108 =>
  Pv (binIV .lss x15 v108) fun v109 =>
  Br v109
    (Draw fun S =>
      Pv (ixV 4 p3 x15) fun v111 =>
      Pv (fldV 0 v111) fun v112 =>
      Rv (some S) (ld1R v112) fun v113 =>
      Pv (nilV p0) fun v114 =>
      Pv (fldV 0 v114) fun v115 =>
      Rv (some S) (ld1R v115) fun v116 =>
      Pv (binIV .gtr v113 v116) fun v117 =>
      Br v117
        (sh77_20 ω p3 x14 x15 Kn0 K)
        (sh77_18 ω x14 x15 Kn0 K))
    (sh77_2 ω p0 p1 p2 p8 p9 p10 x14 K)
def sh77 (ω : Om) (a0 : Value) (a1 : Value) (a2 : Value) (a3 : Value) (K : Value → M) : M :=
  Cal Try.prog ω 106 #[a1] <| gh fun v1 =>
  Cal Try.prog ω 106 #[a2] <| gh fun v2 =>
  Cal Try.prog ω 65 #[a1, a2, a3] <| gh fun v3 =>
  Pv (unV .not v1) fun v4 =>
  Gd v4 false
    (Pv (unV .not v2) fun v5 =>
    Gd v5 false
      (Pv (unV .not v3) fun v6 =>
      Br v6
        (K (Value.tuple #[(Value.int .i64 0), (Value.bool false), (Value.int .i64 1)]))
        (LoopM (((Value.slice none 0 0), (Value.int .i64 0), ()) : Value × Value × Unit) fun s Kn0 =>
        sh77_17 ω a0 a1 a2 a3 (Value.int .i64 0) (Value.bool false) (Value.int .i64 0) s.1 s.2.1 Kn0 K))
      (K (Value.tuple #[(Value.int .i64 0), (Value.bool false), (Value.int .i64 1)])))
    (K (Value.tuple #[(Value.int .i64 0), (Value.bool false), (Value.int .i64 1)]))
theorem sh77_eq (ω : Om) (a0 a1 a2 a3 : Value) (K : Value → M) : vcF Try.prog ω Try.f77 [a0, a1, a2, a3] K = sh77 ω a0 a1 a2 a3 K := by kernel_rfl
theorem cal77 {ω : Om} {a0 a1 a2 a3 : Value} {K : Value → M} {I : Imm} {L : LH} (h : sh77 ω a0 a1 a2 a3 (fun v => Gh (K v)) I L) : Cal Try.prog ω 77 #[a0, a1, a2, a3] K I L :=
  Cal.gh (cal_of_vc mixed Try.func77 (by rw [sh77_eq]; exact h))

def sh78 (ω : Om) (a0 : Value) (a1 : Value) (K : Value → M) : M :=
  Cal Try.prog ω 66 #[a0] <| gh fun v1 =>
  Pv (binIV .gtr a1 v1) fun v2 =>
  Br v2
    (K (Value.int .i64 100))
    (Pv (nilV a0) fun v3 =>
    Pv (fldV 4 v3) fun v4 =>
    Rv none (ld1R v4) fun v5 =>
    Pv (maxV v5 a1) fun v6 =>
    Pv (nilV a0) fun v7 =>
    Pv (fldV 4 v7) fun v8 =>
    Sto 1 v8 v6 <| gh fun _ =>
    K (Value.int .i64 0))
theorem sh78_eq (ω : Om) (a0 a1 : Value) (K : Value → M) : vcF Try.prog ω Try.f78 [a0, a1] K = sh78 ω a0 a1 K := by kernel_rfl
theorem cal78 {ω : Om} {a0 a1 : Value} {K : Value → M} {I : Imm} {L : LH} (h : sh78 ω a0 a1 (fun v => Gh (K v)) I L) : Cal Try.prog ω 78 #[a0, a1] K I L :=
  Cal.gh (cal_of_vc mixed Try.func78 (by rw [sh78_eq]; exact h))

def sh79_1 (ω : Om) (p0 : Value) (p1 : Value) (p2 : Value) (p3 : Value) (p8 : Value) (K : Value → M) : M :=
  Pv (nilV p0) fun v10 =>
  Pv (fldV 0 v10) fun v11 =>
  Sto 1 v11 p1 <| gh fun _ =>
  Pv (nilV p0) fun v12 =>
  Pv (fldV 1 v12) fun v13 =>
  Sto 1 v13 p2 <| gh fun _ =>
  Pv (nilV p0) fun v14 =>
  Pv (fldV 2 v14) fun v15 =>
  Sto 1 v15 p3 <| gh fun _ =>
  Pv (nilV p0) fun v16 =>
  Pv (fldV 4 v16) fun v17 =>
  Sto 1 v17 p1 <| gh fun _ =>
  K (Value.int .i64 0)
def sh79_2 (ω : Om) (p0 : Value) (p1 : Value) (p2 : Value) (p3 : Value) (p8 : Value) (K : Value → M) : M :=
  Draw fun S =>
    BldS 59 4 #[(Value.int .i64 0), (Value.int .i64 0), (Value.int .i64 0), (Value.slice none 0 0)] 0 [] <| gh <| Keep S fun v20 =>
    Pv (nilV p0) fun v21 =>
    Pv (fldV 3 v21) fun v22 =>
    Rv (some S) (ld1R v22) fun v23 =>
    Pv (nilV p0) fun v24 =>
    Pv (fldV 0 v24) fun v25 =>
    Rv (some S) (ld1R v25) fun v26 =>
    Pv (binIV .sub p1 v26) fun v27 =>
    Pv (slcV 4 v23 (some v27) none none) fun v28 =>
    App 59 4 48 #[(Value.int .i64 0), (Value.int .i64 0), (Value.int .i64 0), (Value.slice none 0 0)] v20 v28 <| gh fun v29 =>
    Pv (nilV p0) fun v30 =>
    Pv (fldV 3 v30) fun v31 =>
    Sto 1 v31 v29 <| gh fun _ =>
    sh79_1 ω p0 p1 p2 p3 p8 K
def sh79_3 (ω : Om) (p0 : Value) (p1 : Value) (p2 : Value) (p3 : Value) (p8 : Value) (K : Value → M) : M :=
  Pv (nilV p0) fun v32 =>
  Pv (fldV 3 v32) fun v33 =>
  Sto 1 v33 (Value.slice none 0 0) <| gh fun _ =>
  sh79_1 ω p0 p1 p2 p3 p8 K
def sh79 (ω : Om) (a0 : Value) (a1 : Value) (a2 : Value) (a3 : Value) (K : Value → M) : M :=
  Cal Try.prog ω 64 #[a1, a2, a3] <| gh fun v1 =>
  Pv (unV .not v1) fun v2 =>
  Br v2
    (K (Value.int .i64 102))
    (Pv (nilV a0) fun v3 =>
    Pv (fldV 4 v3) fun v4 =>
    Rv none (ld1R v4) fun v5 =>
    Pv (binIV .leq a1 v5) fun v6 =>
    Br v6
      (K (Value.int .i64 100))
      (Cal Try.prog ω 73 #[a0, a1] <| gh fun v7 =>
      Pv (exV v7 0) fun v8 =>
      Pv (exV v7 1) fun v9 =>
      Pv (binIV .eql v9 (Value.int .i64 0)) fun v18 =>
      Gd v18 true
        (Pv (binIV .eql v8 a2) fun v19 =>
        Br v19
          (sh79_2 ω a0 a1 a2 a3 (Value.int .i64 0) K)
          (sh79_3 ω a0 a1 a2 a3 (Value.int .i64 0) K))
        (sh79_3 ω a0 a1 a2 a3 (Value.int .i64 0) K)))
theorem sh79_eq (ω : Om) (a0 a1 a2 a3 : Value) (K : Value → M) : vcF Try.prog ω Try.f79 [a0, a1, a2, a3] K = sh79 ω a0 a1 a2 a3 K := by kernel_rfl
theorem cal79 {ω : Om} {a0 a1 a2 a3 : Value} {K : Value → M} {I : Imm} {L : LH} (h : sh79 ω a0 a1 a2 a3 (fun v => Gh (K v)) I L) : Cal Try.prog ω 79 #[a0, a1, a2, a3] K I L :=
  Cal.gh (cal_of_vc mixed Try.func79 (by rw [sh79_eq]; exact h))

def sh80_1 (ω : Om) (p4 : Value) (p5 : Value) (K : Value → M) : M :=
  Pv (bldV #[(Value.int .i64 0), (Value.int .i64 0), (Value.int .i64 0), (Value.slice none 0 0)] #[(0, 1), (1, 1), (2, 1), (3, 1)] []) fun v8 =>
  Sto 4 p4 v8 <| gh fun _ =>
  Rv none (ldNR 4 p4) fun v9 =>
  K (Value.tuple #[v9, (Value.int .i64 100)])
def sh80 (ω : Om) (a0 : Value) (a1 : Value) (K : Value → M) : M :=
  New (.cells #[(Value.int .i64 0), (Value.int .i64 0), (Value.int .i64 0), (Value.slice none 0 0)] 59 (0, 0)) <| gh fun v1 =>
  Pv (nilV a0) fun v2 =>
  Pv (fldV 0 v2) fun v3 =>
  Rv none (ld1R v3) fun v4 =>
  Pv (binIV .leq a1 v4) fun v5 =>
  Gd v5 false
    (Cal Try.prog ω 66 #[a0] <| gh fun v6 =>
    Pv (binIV .gtr a1 v6) fun v7 =>
    Br v7
      (sh80_1 ω v1 (Value.int .i64 0) K)
      (Draw fun S =>
        Pv (nilV a0) fun v10 =>
        Pv (fldV 3 v10) fun v11 =>
        Rv (some S) (ld1R v11) fun v12 =>
        Pv (nilV a0) fun v13 =>
        Pv (fldV 0 v13) fun v14 =>
        Rv (some S) (ld1R v14) fun v15 =>
        Pv (binIV .sub a1 v15) fun v16 =>
        Pv (binIV .sub v16 (Value.int .i64 1)) fun v17 =>
        Pv (ixV 4 v12 v17) fun v18 =>
        Rv (some S) (ldNR 4 v18) fun v19 =>
        Sto 4 v1 v19 <| gh fun _ =>
        Rv none (ldNR 4 v1) fun v20 =>
        K (Value.tuple #[v20, (Value.int .i64 0)])))
    (sh80_1 ω v1 (Value.int .i64 0) K)
theorem sh80_eq (ω : Om) (a0 a1 : Value) (K : Value → M) : vcF Try.prog ω Try.f80 [a0, a1] K = sh80 ω a0 a1 K := by kernel_rfl
theorem cal80 {ω : Om} {a0 a1 : Value} {K : Value → M} {I : Imm} {L : LH} (h : sh80 ω a0 a1 (fun v => Gh (K v)) I L) : Cal Try.prog ω 80 #[a0, a1] K I L :=
  Cal.gh (cal_of_vc mixed Try.func80 (by rw [sh80_eq]; exact h))

def sh81_3 (ω : Om) (p0 : Value) (p2 : Value) (p6 : Value) (p8 : Value) (x7 : Value) (x9 : Value) (Kn0 : (Value × Value × Unit) → M) (K : Value → M) : M :=
  Pv (binIV .leq x9 p8) fun v6 =>
  Gd v6 true
    (Pv (lenV x7) fun v7 =>
    Pv (binIV .lss v7 p2) fun v8 =>
    Br v8
      (Draw fun S =>
        Pv (nilV p0) fun v9 =>
        Pv (fldV 3 v9) fun v10 =>
        Rv (some S) (ld1R v10) fun v11 =>
        Pv (nilV p0) fun v12 =>
        Pv (fldV 0 v12) fun v13 =>
        Rv (some S) (ld1R v13) fun v14 =>
        Pv (binIV .sub x9 v14) fun v15 =>
        Pv (binIV .sub v15 (Value.int .i64 1)) fun v16 =>
        Pv (ixV 4 v11 v16) fun v17 =>
        Rv (some S) (ldNR 4 v17) fun v18 =>
        BldS 59 4 #[(Value.int .i64 0), (Value.int .i64 0), (Value.int .i64 0), (Value.slice none 0 0)] 1 [(0, v18)] <| gh fun v19 =>
        App 59 4 48 #[(Value.int .i64 0), (Value.int .i64 0), (Value.int .i64 0), (Value.slice none 0 0)] x7 v19 <| gh fun v20 =>
        Pv (binIV .add x9 (Value.int .i64 1)) fun v21 =>
        Kn0 (v20, v21, ()))
      (K x7))
    (K x7)
def sh81 (ω : Om) (a0 : Value) (a1 : Value) (a2 : Value) (K : Value → M) : M :=
  Pv (nilV a0) fun v1 =>
  Pv (fldV 0 v1) fun v2 =>
  Rv none (ld1R v2) fun v3 =>
  Pv (binIV .leq a1 v3) fun v4 =>
  Br v4
    (K (Value.slice none 0 0))
    (Cal Try.prog ω 66 #[a0] <| gh fun v5 =>
    LoopM (((Value.slice none 0 0), a1, ()) : Value × Value × Unit) fun s Kn0 =>
    sh81_3 ω a0 a2 (Value.slice none 0 0) v5 s.1 s.2.1 Kn0 K)
theorem sh81_eq (ω : Om) (a0 a1 a2 : Value) (K : Value → M) : vcF Try.prog ω Try.f81 [a0, a1, a2] K = sh81 ω a0 a1 a2 K := by kernel_rfl
theorem cal81 {ω : Om} {a0 a1 a2 : Value} {K : Value → M} {I : Imm} {L : LH} (h : sh81 ω a0 a1 a2 (fun v => Gh (K v)) I L) : Cal Try.prog ω 81 #[a0, a1, a2] K I L :=
  Cal.gh (cal_of_vc mixed Try.func81 (by rw [sh81_eq]; exact h))

def sh82 (ω : Om) (a0 : Value) (a1 : Value) (a2 : Value) (K : Value → M) : M :=
  Cal Try.prog ω 54 #[a0] <| gh fun v1 =>
  Pv (exV v1 0) fun v2 =>
  Pv (exV v1 1) fun v3 =>
  Pv (binIV .gtr a2 v3) fun v4 =>
  Gd v4 false
    (Pv (binIV .eql a2 v3) fun v5 =>
    Gd v5 true
      (Pv (binIV .geq a1 v2) fun v6 =>
      K v6)
      (K (Value.bool false)))
    (K (Value.bool true))
theorem sh82_eq (ω : Om) (a0 a1 a2 : Value) (K : Value → M) : vcF Try.prog ω Try.f82 [a0, a1, a2] K = sh82 ω a0 a1 a2 K := by kernel_rfl
theorem cal82 {ω : Om} {a0 a1 a2 : Value} {K : Value → M} {I : Imm} {L : LH} (h : sh82 ω a0 a1 a2 (fun v => Gh (K v)) I L) : Cal Try.prog ω 82 #[a0, a1, a2] K I L :=
  Cal.gh (cal_of_vc mixed Try.func82 (by rw [sh82_eq]; exact h))

def sh83 (ω : Om) (a0 : Value) (a1 : Value) (a2 : Value) (K : Value → M) : M :=
  Cal Try.prog ω 67 #[a0] <| gh fun v1 =>
  Cal Try.prog ω 66 #[a0] <| gh fun v2 =>
  Pv (binIV .gtr a2 v1) fun v3 =>
  Gd v3 false
    (Pv (binIV .eql a2 v1) fun v4 =>
    Gd v4 true
      (Pv (binIV .geq a1 v2) fun v5 =>
      K v5)
      (K (Value.bool false)))
    (K (Value.bool true))
theorem sh83_eq (ω : Om) (a0 a1 a2 : Value) (K : Value → M) : vcF Try.prog ω Try.f83 [a0, a1, a2] K = sh83 ω a0 a1 a2 K := by kernel_rfl
theorem cal83 {ω : Om} {a0 a1 a2 : Value} {K : Value → M} {I : Imm} {L : LH} (h : sh83 ω a0 a1 a2 (fun v => Gh (K v)) I L) : Cal Try.prog ω 83 #[a0, a1, a2] K I L :=
  Cal.gh (cal_of_vc mixed Try.func83 (by rw [sh83_eq]; exact h))

def sh84 (ω : Om) (a0 : Value) (K : Value → M) : M :=
  Pv (lenV a0) fun v1 =>
  Pv (lenV a0) fun v2 =>
  Pv (slcV 4 a0 none (some v1) (some v2)) fun v3 =>
  K v3
theorem sh84_eq (ω : Om) (a0 : Value) (K : Value → M) : vcF Try.prog ω Try.f84 [a0] K = sh84 ω a0 K := by kernel_rfl
theorem cal84 {ω : Om} {a0 : Value} {K : Value → M} {I : Imm} {L : LH} (h : sh84 ω a0 (fun v => Gh (K v)) I L) : Cal Try.prog ω 84 #[a0] K I L :=
  Cal.gh (cal_of_vc mixed Try.func84 (by rw [sh84_eq]; exact h))

def sh85 (ω : Om) (a0 : Value) (a1 : Value) (a2 : Value) (a3 : Value) (a4 : Value) (a5 : Value) (K : Value → M) : M :=
  Cal Try.prog ω 75 #[a1] <| gh fun v1 =>
  Cal Try.prog ω 106 #[a2] <| gh fun v2 =>
  Cal Try.prog ω 75 #[a3] <| gh fun v3 =>
  Cal Try.prog ω 67 #[a4] <| gh fun v4 =>
  Pv (binIV .lss a0 (Value.int .i64 1)) fun v5 =>
  Gd v5 false
    (Pv (binIV .gtr a0 (Value.int .i64 255)) fun v6 =>
    Gd v6 false
      (Pv (unV .not v1) fun v7 =>
      Gd v7 false
        (Pv (unV .not v2) fun v8 =>
        Gd v8 false
          (Pv (unV .not v3) fun v9 =>
          Gd v9 true
            (Pv (binIV .neq a3 (Value.int .i64 0)) fun v10 =>
            Gd v10 false
              (Pv (binIV .gtr v4 a2) fun v11 =>
              Gd v11 false
                (Pv (lenV a5) fun v12 =>
                Pv (binIV .gtr v12 (Value.int .i64 60000)) fun v13 =>
                Br v13
                  (K (Value.tuple #[(Value.pointer none), (Value.int .i64 1)]))
                  (Cal Try.prog ω 34 #[a4] <| gh fun v14 =>
                  BldS 5 1 #[(Value.int .u8 0)] 0 [] <| gh fun v15 =>
                  App 5 1 1 #[(Value.int .u8 0)] v15 a5 <| gh fun v16 =>
                  Pv (bldV #[(Value.int .i64 0), (Value.int .i64 0), (Value.int .i64 0), (Value.int .i64 0), (Value.pointer none), (Value.slice none 0 0), (Value.int .i64 0), (Value.int .i64 0), (Value.int .i64 0), (Value.bool false), (Value.bool false), (Value.bool false), (Value.bool false), (Value.bool false), (Value.bool false), (Value.int .i64 0), (Value.int .i64 0), (Value.int .i64 0), (Value.int .i64 0), (Value.int .i64 0), (Value.int .i64 0), (Value.int .i64 0), (Value.int .i64 0), (Value.int .i64 0), (Value.int .i64 0), (Value.int .i64 0), (Value.int .i64 0), (Value.slice none 0 0)] #[(0, 1), (1, 1), (2, 1), (3, 1), (4, 1), (5, 1), (6, 1), (7, 1), (8, 1), (9, 6), (15, 6), (21, 6), (27, 1)] [(0, a0), (1, a1), (2, a2), (3, a3), (4, v14), (5, v16), (6, (Value.int .i64 1))]) fun v17 =>
                  New (.cells (Value.cells v17) 147 (0, 0)) <| gh fun v18 =>
                  K (Value.tuple #[v18, (Value.int .i64 0)])))
                (K (Value.tuple #[(Value.pointer none), (Value.int .i64 1)])))
              (K (Value.tuple #[(Value.pointer none), (Value.int .i64 1)])))
            (Pv (binIV .gtr v4 a2) fun v19 =>
            Gd v19 false
              (Pv (lenV a5) fun v20 =>
              Pv (binIV .gtr v20 (Value.int .i64 60000)) fun v21 =>
              Br v21
                (K (Value.tuple #[(Value.pointer none), (Value.int .i64 1)]))
                (Cal Try.prog ω 34 #[a4] <| gh fun v22 =>
                BldS 5 1 #[(Value.int .u8 0)] 0 [] <| gh fun v23 =>
                App 5 1 1 #[(Value.int .u8 0)] v23 a5 <| gh fun v24 =>
                Pv (bldV #[(Value.int .i64 0), (Value.int .i64 0), (Value.int .i64 0), (Value.int .i64 0), (Value.pointer none), (Value.slice none 0 0), (Value.int .i64 0), (Value.int .i64 0), (Value.int .i64 0), (Value.bool false), (Value.bool false), (Value.bool false), (Value.bool false), (Value.bool false), (Value.bool false), (Value.int .i64 0), (Value.int .i64 0), (Value.int .i64 0), (Value.int .i64 0), (Value.int .i64 0), (Value.int .i64 0), (Value.int .i64 0), (Value.int .i64 0), (Value.int .i64 0), (Value.int .i64 0), (Value.int .i64 0), (Value.int .i64 0), (Value.slice none 0 0)] #[(0, 1), (1, 1), (2, 1), (3, 1), (4, 1), (5, 1), (6, 1), (7, 1), (8, 1), (9, 6), (15, 6), (21, 6), (27, 1)] [(0, a0), (1, a1), (2, a2), (3, a3), (4, v22), (5, v24), (6, (Value.int .i64 1))]) fun v25 =>
                New (.cells (Value.cells v25) 147 (0, 0)) <| gh fun v26 =>
                K (Value.tuple #[v26, (Value.int .i64 0)])))
              (K (Value.tuple #[(Value.pointer none), (Value.int .i64 1)]))))
          (K (Value.tuple #[(Value.pointer none), (Value.int .i64 1)])))
        (K (Value.tuple #[(Value.pointer none), (Value.int .i64 1)])))
      (K (Value.tuple #[(Value.pointer none), (Value.int .i64 1)])))
    (K (Value.tuple #[(Value.pointer none), (Value.int .i64 1)]))
theorem sh85_eq (ω : Om) (a0 a1 a2 a3 a4 a5 : Value) (K : Value → M) : vcF Try.prog ω Try.f85 [a0, a1, a2, a3, a4, a5] K = sh85 ω a0 a1 a2 a3 a4 a5 K := by kernel_rfl
theorem cal85 {ω : Om} {a0 a1 a2 a3 a4 a5 : Value} {K : Value → M} {I : Imm} {L : LH} (h : sh85 ω a0 a1 a2 a3 a4 a5 (fun v => Gh (K v)) I L) : Cal Try.prog ω 85 #[a0, a1, a2, a3, a4, a5] K I L :=
  Cal.gh (cal_of_vc mixed Try.func85 (by rw [sh85_eq]; exact h))

def sh86_3 (ω : Om) (p15 : Value) (Kn0 : (Value × Unit) → M) (K : Value → M) : M :=
  Pv (binIV .add p15 (Value.int .i64 1)) fun v11 =>
  Kn0 (v11, ())
def sh86_2 (ω : Om) (p0 : Value) (p13 : Value) (p14 : Value) (x15 : Value) (Kn0 : (Value × Unit) → M) (K : Value → M) : M :=
  Pv (binIV .lss x15 p14) fun v10 =>
  Br v10
    (Pv (ixV 1 p13 x15) fun v12 =>
    Rv none (ld1R v12) fun v13 =>
    Pv (nilV p0) fun v14 =>
    Pv (fldV 1 v14) fun v15 =>
    Rv none (ld1R v15) fun v16 =>
    Pv (binIV .neq v13 v16) fun v17 =>
    Br v17
      (Cal Try.prog ω 111 #[p0, v13] <| gh fun v18 =>
      sh86_3 ω x15 Kn0 K)
      (sh86_3 ω x15 Kn0 K))
    (K (Value.tuple #[]))
def sh86 (ω : Om) (a0 : Value) (K : Value → M) : M :=
  Pv (nilV a0) fun v1 =>
  Pv (fldV 6 v1) fun v2 =>
  Rv none (ld1R v2) fun v3 =>
  Pv (binIV .neq v3 (Value.int .i64 3)) fun v4 =>
  Br v4
    (K (Value.tuple #[]))
    (Pv (nilV a0) fun v5 =>
    Pv (fldV 4 v5) fun v6 =>
    Rv none (ld1R v6) fun v7 =>
    Cal Try.prog ω 52 #[v7] <| gh fun v8 =>
    Pv (lenV v8) fun v9 =>
    LoopM (((Value.int .i64 0), ()) : Value × Unit) fun s Kn0 =>
    sh86_2 ω a0 v8 v9 s.1 Kn0 K)
theorem sh86_eq (ω : Om) (a0 : Value) (K : Value → M) : vcF Try.prog ω Try.f86 [a0] K = sh86 ω a0 K := by kernel_rfl
theorem cal86 {ω : Om} {a0 : Value} {K : Value → M} {I : Imm} {L : LH} (h : sh86 ω a0 (fun v => Gh (K v)) I L) : Cal Try.prog ω 86 #[a0] K I L :=
  Cal.gh (cal_of_vc mixed Try.func86 (by rw [sh86_eq]; exact h))

def sh87 (ω : Om) (a0 : Value) (K : Value → M) : M :=
  Pv (nilV a0) fun v1 =>
  Pv (fldV 27 v1) fun v2 =>
  Rv none (ld1R v2) fun v3 =>
  Cal Try.prog ω 112 #[v3] <| gh fun v4 =>
  Pv (nilV a0) fun v5 =>
  Pv (fldV 27 v5) fun v6 =>
  Sto 1 v6 (Value.slice none 0 0) <| gh fun _ =>
  K v4
theorem sh87_eq (ω : Om) (a0 : Value) (K : Value → M) : vcF Try.prog ω Try.f87 [a0] K = sh87 ω a0 K := by kernel_rfl
theorem cal87 {ω : Om} {a0 : Value} {K : Value → M} {I : Imm} {L : LH} (h : sh87 ω a0 (fun v => Gh (K v)) I L) : Cal Try.prog ω 87 #[a0] K I L :=
  Cal.gh (cal_of_vc mixed Try.func87 (by rw [sh87_eq]; exact h))

def sh88 (ω : Om) (a0 : Value) (a1 : Value) (K : Value → M) : M :=
  Cal Try.prog ω 113 #[a0, a1] <| gh fun v1 =>
  Pv (binIV .geq v1 (Value.int .i64 0)) fun v2 =>
  K v2
theorem sh88_eq (ω : Om) (a0 a1 : Value) (K : Value → M) : vcF Try.prog ω Try.f88 [a0, a1] K = sh88 ω a0 a1 K := by kernel_rfl
theorem cal88 {ω : Om} {a0 a1 : Value} {K : Value → M} {I : Imm} {L : LH} (h : sh88 ω a0 a1 (fun v => Gh (K v)) I L) : Cal Try.prog ω 88 #[a0, a1] K I L :=
  Cal.gh (cal_of_vc mixed Try.func88 (by rw [sh88_eq]; exact h))

def sh89_3 (ω : Om) (p62 : Value) (Kn0 : (Value × Unit) → M) (K : Value → M) : M :=
  Pv (binIV .add p62 (Value.int .i64 1)) fun v44 =>
  Kn0 (v44, ())
def sh89_2 (ω : Om) (p0 : Value) (p2 : Value) (p3 : Value) (p60 : Value) (p61 : Value) (x62 : Value) (Kn0 : (Value × Unit) → M) (K : Value → M) : M :=
  Pv (binIV .lss x62 p61) fun v43 =>
  Br v43
    (Pv (ixV 1 p60 x62) fun v45 =>
    Rv none (ld1R v45) fun v46 =>
    Pv (nilV p0) fun v47 =>
    Pv (fldV 1 v47) fun v48 =>
    Rv none (ld1R v48) fun v49 =>
    Pv (binIV .neq v46 v49) fun v50 =>
    Br v50
      (Pv (bldV #[(Value.int .i64 0), (Value.int .i64 0), (Value.int .i64 0), (Value.int .i64 0), (Value.int .i64 0), (Value.int .i64 0), (Value.int .i64 0), (Value.int .i64 0), (Value.bool false), (Value.slice none 0 0), (Value.slice none 0 0), (Value.slice none 0 0)] #[(0, 1), (1, 1), (2, 1), (3, 1), (4, 1), (5, 1), (6, 1), (7, 1), (8, 1), (9, 1), (10, 1), (11, 1)] [(0, (Value.int .i64 1)), (3, v46), (5, p2), (6, p3)]) fun v51 =>
      Cal Try.prog ω 114 #[p0, v51] <| gh fun v52 =>
      sh89_3 ω x62 Kn0 K)
      (sh89_3 ω x62 Kn0 K))
    (K (Value.tuple #[]))
def sh89 (ω : Om) (a0 : Value) (K : Value → M) : M :=
  Pv (nilV a0) fun v1 =>
  Pv (fldV 2 v1) fun v2 =>
  Rv none (ld1R v2) fun v3 =>
  Pv (binIV .eql v3 (Value.int .i64 9007199254740991)) fun v4 =>
  Br v4
    (K (Value.tuple #[]))
    (Pv (nilV a0) fun v5 =>
    Pv (fldV 2 v5) fun v6 =>
    Rv none (ld1R v6) fun v7 =>
    Pv (binIV .add v7 (Value.int .i64 1)) fun v8 =>
    Pv (nilV a0) fun v9 =>
    Pv (fldV 2 v9) fun v10 =>
    Sto 1 v10 v8 <| gh fun _ =>
    Pv (nilV a0) fun v11 =>
    Pv (fldV 1 v11) fun v12 =>
    Rv none (ld1R v12) fun v13 =>
    Pv (nilV a0) fun v14 =>
    Pv (fldV 3 v14) fun v15 =>
    Sto 1 v15 v13 <| gh fun _ =>
    Pv (nilV a0) fun v16 =>
    Pv (fldV 6 v16) fun v17 =>
    Sto 1 v17 (Value.int .i64 2) <| gh fun _ =>
    Pv (nilV a0) fun v18 =>
    Pv (fldV 7 v18) fun v19 =>
    Sto 1 v19 (Value.int .i64 0) <| gh fun _ =>
    Pv (nilV a0) fun v20 =>
    Pv (fldV 8 v20) fun v21 =>
    Sto 1 v21 (Value.int .i64 0) <| gh fun _ =>
    Pv (bldAV 1 #[(Value.bool false), (Value.bool false), (Value.bool false), (Value.bool false), (Value.bool false), (Value.bool false)] []) fun v22 =>
    Pv (nilV a0) fun v23 =>
    Pv (fldV 9 v23) fun v24 =>
    Sto 6 v24 v22 <| gh fun _ =>
    Draw fun S =>
      Pv (nilV a0) fun v25 =>
      Pv (fldV 1 v25) fun v26 =>
      Rv (some S) (ld1R v26) fun v27 =>
      Pv (nilV a0) fun v28 =>
      Pv (fldV 9 v28) fun v29 =>
      Pv (ixPV 1 6 v29 v27) fun v30 =>
      Sto 1 v30 (Value.bool true) <| gh fun _ =>
      Cal Try.prog ω 94 #[a0] <| gh fun v31 =>
      Br v31
        (K (Value.tuple #[]))
        (Pv (nilV a0) fun v32 =>
        Pv (fldV 4 v32) fun v33 =>
        Rv none (ld1R v33) fun v34 =>
        Cal Try.prog ω 54 #[v34] <| gh fun v35 =>
        Pv (exV v35 0) fun v36 =>
        Pv (exV v35 1) fun v37 =>
        Pv (nilV a0) fun v38 =>
        Pv (fldV 4 v38) fun v39 =>
        Rv none (ld1R v39) fun v40 =>
        Cal Try.prog ω 52 #[v40] <| gh fun v41 =>
        Pv (lenV v41) fun v42 =>
        LoopM (((Value.int .i64 0), ()) : Value × Unit) fun s Kn0 =>
        sh89_2 ω a0 v36 v37 v41 v42 s.1 Kn0 K))
theorem sh89_eq (ω : Om) (a0 : Value) (K : Value → M) : vcF Try.prog ω Try.f89 [a0] K = sh89 ω a0 K := by kernel_rfl
theorem cal89 {ω : Om} {a0 : Value} {K : Value → M} {I : Imm} {L : LH} (h : sh89 ω a0 (fun v => Gh (K v)) I L) : Cal Try.prog ω 89 #[a0] K I L :=
  Cal.gh (cal_of_vc mixed Try.func89 (by rw [sh89_eq]; exact h))

def sh90_1 (ω : Om) (p2 : Value) (p3 : Value) (p4 : Value) (K : Value → M) : M :=
  Pv (nilV p4) fun v24 =>
  Pv (fldV 0 v24) fun v25 =>
  Rv none (ld1R v25) fun v26 =>
  Cal Try.prog ω 120 #[v26] <| gh fun v27 =>
  K (Value.tuple #[v27, (Value.int .i64 0)])
def sh90_4 (ω : Om) (p2 : Value) (p3 : Value) (p4 : Value) (p64 : Value) (p65 : Value) (x66 : Value) (Kn0 : (Value × Unit) → M) (K : Value → M) : M :=
  Pv (binIV .lss x66 p65) fun v56 =>
  Br v56
    (Pv (ixV 4 p64 x66) fun v57 =>
    Rv none (ldNR 4 v57) fun v58 =>
    New (.cells #[(Value.int .i64 0), (Value.int .i64 0), (Value.int .i64 0), (Value.slice none 0 0)] 59 (0, 0)) <| gh fun e_59 =>
    Sto 4 e_59 v58 <| gh fun _ =>
    Pv (fldV 1 e_59) fun v60 =>
    Rv none (ld1R v60) fun v61 =>
    BldS 3 1 #[(Value.int .i64 0)] 1 [(0, v61)] <| gh fun v62 =>
    Cal Try.prog ω 116 #[p4, v62] <| gh fun v63 =>
    Pv (fldV 2 e_59) fun v64 =>
    Rv none (ld1R v64) fun v65 =>
    Cal Try.prog ω 118 #[p4, v65] <| gh fun v66 =>
    Pv (fldV 3 e_59) fun v67 =>
    Rv none (ld1R v67) fun v68 =>
    Cal Try.prog ω 119 #[p4, v68] <| gh fun v69 =>
    Pv (binIV .add x66 (Value.int .i64 1)) fun v70 =>
    Kn0 (v70, ()))
    (sh90_1 ω p2 p3 p4 K)
def sh90_5 (ω : Om) (p1 : Value) (p2 : Value) (p3 : Value) (p4 : Value) (K : Value → M) : M :=
  Pv (fldV 11 p1) fun v89 =>
  Rv none (ld1R v89) fun v90 =>
  Cal Try.prog ω 119 #[p4, v90] <| gh fun v91 =>
  sh90_1 ω p2 p3 p4 K
def sh90_7 (ω : Om) (p1 : Value) (p2 : Value) (p3 : Value) (p4 : Value) (p108 : Value) (p109 : Value) (x110 : Value) (Kn0 : (Value × Unit) → M) (K : Value → M) : M :=
  Pv (binIV .lss x110 p109) fun v95 =>
  Br v95
    (Pv (ixV 1 p108 x110) fun v96 =>
    Rv none (ld1R v96) fun v97 =>
    Cal Try.prog ω 118 #[p4, v97] <| gh fun v98 =>
    Pv (binIV .add x110 (Value.int .i64 1)) fun v99 =>
    Kn0 (v99, ()))
    (sh90_5 ω p1 p2 p3 p4 K)
def sh90 (ω : Om) (a0 : Value) (K : Value → M) : M :=
  New (.cells (Value.cells a0) 77 (0, 0)) <| gh fun m_1 =>
  Rv none (ldNR 12 m_1) fun v2 =>
  Cal Try.prog ω 115 #[v2] <| gh fun v3 =>
  Pv (unV .not v3) fun v4 =>
  Br v4
    (K (Value.tuple #[(Value.slice none 0 0), (Value.int .i64 92)]))
    (Pv (fldV 0 m_1) fun v5 =>
    Rv none (ld1R v5) fun v6 =>
    Pv (cvIV .u8 v6) fun v7 =>
    Pv (fldV 1 m_1) fun v8 =>
    Rv none (ld1R v8) fun v9 =>
    Pv (cvIV .u8 v9) fun v10 =>
    Pv (fldV 2 m_1) fun v11 =>
    Rv none (ld1R v11) fun v12 =>
    Pv (cvIV .u8 v12) fun v13 =>
    Pv (fldV 3 m_1) fun v14 =>
    Rv none (ld1R v14) fun v15 =>
    Pv (cvIV .u8 v15) fun v16 =>
    BldS 5 1 #[(Value.int .u8 0)] 4 [(0, v7), (1, v10), (2, v13), (3, v16)] <| gh fun v17 =>
    Pv (bldV #[(Value.slice none 0 0)] #[(0, 1)] [(0, v17)]) fun v18 =>
    New (.cells (Value.cells v18) 153 (0, 0)) <| gh fun v19 =>
    Pv (fldV 4 m_1) fun v20 =>
    Rv none (ld1R v20) fun v21 =>
    BldS 3 1 #[(Value.int .i64 0)] 1 [(0, v21)] <| gh fun v22 =>
    Cal Try.prog ω 116 #[v19, v22] <| gh fun v23 =>
    Pv (fldV 0 m_1) fun v28 =>
    Rv none (ld1R v28) fun v29 =>
    Pv (binIV .eql v29 (Value.int .i64 1)) fun v30 =>
    Br v30
      (Pv (fldV 5 m_1) fun v31 =>
      Rv none (ld1R v31) fun v32 =>
      Pv (fldV 6 m_1) fun v33 =>
      Rv none (ld1R v33) fun v34 =>
      BldS 3 1 #[(Value.int .i64 0)] 2 [(0, v32), (1, v34)] <| gh fun v35 =>
      Cal Try.prog ω 116 #[v19, v35] <| gh fun v36 =>
      sh90_1 ω (Value.slice none 0 0) (Value.int .i64 0) v19 K)
      (Pv (binIV .eql v29 (Value.int .i64 2)) fun v37 =>
      Br v37
        (Pv (fldV 8 m_1) fun v38 =>
        Rv none (ld1R v38) fun v39 =>
        Cal Try.prog ω 117 #[v19, v39] <| gh fun v40 =>
        sh90_1 ω (Value.slice none 0 0) (Value.int .i64 0) v19 K)
        (Pv (binIV .eql v29 (Value.int .i64 3)) fun v41 =>
        Br v41
          (Pv (fldV 5 m_1) fun v42 =>
          Rv none (ld1R v42) fun v43 =>
          Pv (fldV 6 m_1) fun v44 =>
          Rv none (ld1R v44) fun v45 =>
          Pv (fldV 7 m_1) fun v46 =>
          Rv none (ld1R v46) fun v47 =>
          Pv (fldV 9 m_1) fun v48 =>
          Rv none (ld1R v48) fun v49 =>
          Pv (lenV v49) fun v50 =>
          BldS 3 1 #[(Value.int .i64 0)] 4 [(0, v43), (1, v45), (2, v47), (3, v50)] <| gh fun v51 =>
          Cal Try.prog ω 116 #[v19, v51] <| gh fun v52 =>
          Pv (fldV 9 m_1) fun v53 =>
          Rv none (ld1R v53) fun v54 =>
          Pv (lenV v54) fun v55 =>
          LoopM (((Value.int .i64 0), ()) : Value × Unit) fun s Kn0 =>
          sh90_4 ω (Value.slice none 0 0) (Value.int .i64 0) v19 v54 v55 s.1 Kn0 K)
          (Pv (binIV .eql v29 (Value.int .i64 4)) fun v71 =>
          Br v71
            (Pv (fldV 8 m_1) fun v72 =>
            Rv none (ld1R v72) fun v73 =>
            Cal Try.prog ω 117 #[v19, v73] <| gh fun v74 =>
            Pv (fldV 5 m_1) fun v75 =>
            Rv none (ld1R v75) fun v76 =>
            BldS 3 1 #[(Value.int .i64 0)] 1 [(0, v76)] <| gh fun v77 =>
            Cal Try.prog ω 116 #[v19, v77] <| gh fun v78 =>
            sh90_1 ω (Value.slice none 0 0) (Value.int .i64 0) v19 K)
            (Pv (binIV .eql v29 (Value.int .i64 5)) fun v79 =>
            Br v79
              (Pv (fldV 5 m_1) fun v80 =>
              Rv none (ld1R v80) fun v81 =>
              Pv (fldV 6 m_1) fun v82 =>
              Rv none (ld1R v82) fun v83 =>
              Pv (fldV 10 m_1) fun v84 =>
              Rv none (ld1R v84) fun v85 =>
              Pv (lenV v85) fun v86 =>
              BldS 3 1 #[(Value.int .i64 0)] 3 [(0, v81), (1, v83), (2, v86)] <| gh fun v87 =>
              Cal Try.prog ω 116 #[v19, v87] <| gh fun v88 =>
              Pv (fldV 10 m_1) fun v92 =>
              Rv none (ld1R v92) fun v93 =>
              Pv (lenV v93) fun v94 =>
              LoopM (((Value.int .i64 0), ()) : Value × Unit) fun s Kn0 =>
              sh90_7 ω m_1 (Value.slice none 0 0) (Value.int .i64 0) v19 v93 v94 s.1 Kn0 K)
              (sh90_1 ω (Value.slice none 0 0) (Value.int .i64 0) v19 K))))))
theorem sh90_eq (ω : Om) (a0 : Value) (K : Value → M) : vcF Try.prog ω Try.f90 [a0] K = sh90 ω a0 K := by kernel_rfl
theorem cal90 {ω : Om} {a0 : Value} {K : Value → M} {I : Imm} {L : LH} (h : sh90 ω a0 (fun v => Gh (K v)) I L) : Cal Try.prog ω 90 #[a0] K I L :=
  Cal.gh (cal_of_vc mixed Try.func90 (by rw [sh90_eq]; exact h))

def sh91_1 (ω : Om) (p0 : Value) (K : Value → M) : M :=
  Pv (nilV p0) fun v1 =>
  Pv (fldV 6 v1) fun v2 =>
  Sto 1 v2 (Value.int .i64 1) <| gh fun _ =>
  Pv (nilV p0) fun v3 =>
  Pv (fldV 7 v3) fun v4 =>
  Sto 1 v4 (Value.int .i64 0) <| gh fun _ =>
  K (Value.tuple #[])
def sh91 (ω : Om) (a0 : Value) (a1 : Value) (K : Value → M) : M :=
  Pv (nilV a0) fun v5 =>
  Pv (fldV 2 v5) fun v6 =>
  Rv none (ld1R v6) fun v7 =>
  Pv (binIV .gtr a1 v7) fun v8 =>
  Br v8
    (Pv (nilV a0) fun v9 =>
    Pv (fldV 2 v9) fun v10 =>
    Sto 1 v10 a1 <| gh fun _ =>
    Pv (nilV a0) fun v11 =>
    Pv (fldV 3 v11) fun v12 =>
    Sto 1 v12 (Value.int .i64 0) <| gh fun _ =>
    sh91_1 ω a0 K)
    (sh91_1 ω a0 K)
theorem sh91_eq (ω : Om) (a0 a1 : Value) (K : Value → M) : vcF Try.prog ω Try.f91 [a0, a1] K = sh91 ω a0 a1 K := by kernel_rfl
theorem cal91 {ω : Om} {a0 a1 : Value} {K : Value → M} {I : Imm} {L : LH} (h : sh91 ω a0 a1 (fun v => Gh (K v)) I L) : Cal Try.prog ω 91 #[a0, a1] K I L :=
  Cal.gh (cal_of_vc mixed Try.func91 (by rw [sh91_eq]; exact h))

def sh92_2 (ω : Om) (p0 : Value) (p3 : Value) (p13 : Value) (K : Value → M) : M :=
  Br p13
    (Pv (fldV 2 p3) fun v9 =>
    Rv none (ld1R v9) fun v10 =>
    Pv (bldV #[(Value.int .i64 0), (Value.int .i64 0), (Value.int .i64 0), (Value.int .i64 0), (Value.int .i64 0), (Value.int .i64 0), (Value.int .i64 0), (Value.int .i64 0), (Value.bool false), (Value.slice none 0 0), (Value.slice none 0 0), (Value.slice none 0 0)] #[(0, 1), (1, 1), (2, 1), (3, 1), (4, 1), (5, 1), (6, 1), (7, 1), (8, 1), (9, 1), (10, 1), (11, 1)] [(0, (Value.int .i64 4)), (3, v10)]) fun v11 =>
    Cal Try.prog ω 114 #[p0, v11] <| gh fun v12 =>
    K (Value.tuple #[]))
    (K (Value.tuple #[]))
def sh92 (ω : Om) (a0 : Value) (a1 : Value) (K : Value → M) : M :=
  New (.cells (Value.cells a1) 77 (0, 0)) <| gh fun m_1 =>
  Pv (fldV 0 m_1) fun v2 =>
  Rv none (ld1R v2) fun v3 =>
  Pv (binIV .eql v3 (Value.int .i64 1)) fun v4 =>
  Br v4
    (Pv (fldV 2 m_1) fun v5 =>
    Rv none (ld1R v5) fun v6 =>
    Pv (bldV #[(Value.int .i64 0), (Value.int .i64 0), (Value.int .i64 0), (Value.int .i64 0), (Value.int .i64 0), (Value.int .i64 0), (Value.int .i64 0), (Value.int .i64 0), (Value.bool false), (Value.slice none 0 0), (Value.slice none 0 0), (Value.slice none 0 0)] #[(0, 1), (1, 1), (2, 1), (3, 1), (4, 1), (5, 1), (6, 1), (7, 1), (8, 1), (9, 1), (10, 1), (11, 1)] [(0, (Value.int .i64 2)), (3, v6)]) fun v7 =>
    Cal Try.prog ω 114 #[a0, v7] <| gh fun v8 =>
    K (Value.tuple #[]))
    (Pv (binIV .eql v3 (Value.int .i64 3)) fun v13 =>
    Br v13
      (sh92_2 ω a0 m_1 v13 K)
      (Pv (binIV .eql v3 (Value.int .i64 5)) fun v14 =>
      sh92_2 ω a0 m_1 v14 K))
theorem sh92_eq (ω : Om) (a0 a1 : Value) (K : Value → M) : vcF Try.prog ω Try.f92 [a0, a1] K = sh92 ω a0 a1 K := by kernel_rfl
theorem cal92 {ω : Om} {a0 a1 : Value} {K : Value → M} {I : Imm} {L : LH} (h : sh92 ω a0 a1 (fun v => Gh (K v)) I L) : Cal Try.prog ω 92 #[a0, a1] K I L :=
  Cal.gh (cal_of_vc mixed Try.func92 (by rw [sh92_eq]; exact h))

def sh93_1 (ω : Om) (p0 : Value) (p3 : Value) (p4 : Value) (K : Value → M) : M :=
  Pv (fldV 2 p3) fun v20 =>
  Rv none (ld1R v20) fun v21 =>
  Pv (bldV #[(Value.int .i64 0), (Value.int .i64 0), (Value.int .i64 0), (Value.int .i64 0), (Value.int .i64 0), (Value.int .i64 0), (Value.int .i64 0), (Value.int .i64 0), (Value.bool false), (Value.slice none 0 0), (Value.slice none 0 0), (Value.slice none 0 0)] #[(0, 1), (1, 1), (2, 1), (3, 1), (4, 1), (5, 1), (6, 1), (7, 1), (8, 1), (9, 1), (10, 1), (11, 1)] [(0, (Value.int .i64 2)), (3, v21), (8, p4)]) fun v22 =>
  Cal Try.prog ω 114 #[p0, v22] <| gh fun v23 =>
  K (Value.tuple #[])
def sh93_2 (ω : Om) (p0 : Value) (p3 : Value) (p4 : Value) (K : Value → M) : M :=
  Pv (fldV 2 p3) fun v24 =>
  Rv none (ld1R v24) fun v25 =>
  Pv (nilV p0) fun v26 =>
  Pv (fldV 3 v26) fun v27 =>
  Sto 1 v27 v25 <| gh fun _ =>
  Pv (nilV p0) fun v28 =>
  Pv (fldV 8 v28) fun v29 =>
  Sto 1 v29 (Value.int .i64 0) <| gh fun _ =>
  sh93_1 ω p0 p3 p4 K
def sh93 (ω : Om) (a0 : Value) (a1 : Value) (K : Value → M) : M :=
  New (.cells (Value.cells a1) 77 (0, 0)) <| gh fun m_1 =>
  Draw fun S =>
    Pv (nilV a0) fun v2 =>
    Pv (fldV 3 v2) fun v3 =>
    Rv (some S) (ld1R v3) fun v4 =>
    Pv (binIV .eql v4 (Value.int .i64 0)) fun v5 =>
    Gd v5 false
      (Pv (nilV a0) fun v6 =>
      Pv (fldV 3 v6) fun v7 =>
      Rv (some S) (ld1R v7) fun v8 =>
      Pv (fldV 2 m_1) fun v9 =>
      Rv (some S) (ld1R v9) fun v10 =>
      Pv (binIV .eql v8 v10) fun v11 =>
      Gd v11 true
        (Pv (nilV a0) fun v12 =>
        Pv (fldV 4 v12) fun v13 =>
        Rv (some S) (ld1R v13) fun v14 =>
        Pv (fldV 5 m_1) fun v15 =>
        Rv (some S) (ld1R v15) fun v16 =>
        Pv (fldV 6 m_1) fun v17 =>
        Rv (some S) (ld1R v17) fun v18 =>
        Cal Try.prog ω 82 #[v14, v16, v18] <| gh fun v19 =>
        Br v19
          (sh93_2 ω a0 m_1 v19 K)
          (sh93_1 ω a0 m_1 v19 K))
        (sh93_1 ω a0 m_1 (Value.bool false) K))
      (Pv (nilV a0) fun v30 =>
      Pv (fldV 4 v30) fun v31 =>
      Rv (some S) (ld1R v31) fun v32 =>
      Pv (fldV 5 m_1) fun v33 =>
      Rv (some S) (ld1R v33) fun v34 =>
      Pv (fldV 6 m_1) fun v35 =>
      Rv (some S) (ld1R v35) fun v36 =>
      Cal Try.prog ω 82 #[v32, v34, v36] <| gh fun v37 =>
      Br v37
        (sh93_2 ω a0 m_1 v37 K)
        (sh93_1 ω a0 m_1 v37 K))
theorem sh93_eq (ω : Om) (a0 a1 : Value) (K : Value → M) : vcF Try.prog ω Try.f93 [a0, a1] K = sh93 ω a0 a1 K := by kernel_rfl
theorem cal93 {ω : Om} {a0 a1 : Value} {K : Value → M} {I : Imm} {L : LH} (h : sh93 ω a0 a1 (fun v => Gh (K v)) I L) : Cal Try.prog ω 93 #[a0, a1] K I L :=
  Cal.gh (cal_of_vc mixed Try.func93 (by rw [sh93_eq]; exact h))

def sh94_1 (ω : Om) (p1 : Value) (p2 : Value) (K : Value → M) : M :=
  Draw fun S =>
    Rv (some S) (ld1R p1) fun v22 =>
    Pv (nilV v22) fun v23 =>
    Pv (fldV 4 v23) fun v24 =>
    Rv (some S) (ld1R v24) fun v25 =>
    Rv (some S) (ld1R p1) fun v26 =>
    Pv (nilV v26) fun v27 =>
    Pv (fldV 2 v27) fun v28 =>
    Rv (some S) (ld1R v28) fun v29 =>
    Cal Try.prog ω 14 #[v25, v29, (Value.int .i64 1), (Value.slice none 0 0)] <| gh fun v30 =>
    Rv none (ld1R p1) fun v31 =>
    Cal Try.prog ω 123 #[v31] <| gh fun v32 =>
    Rv none (ld1R p1) fun v33 =>
    Cal Try.prog ω 86 #[v33] <| gh fun v34 =>
    K (Value.bool true)
def sh94_3 (ω : Om) (p1 : Value) (p2 : Value) (p3 : Value) (x28 : Value) (Kn0 : (Value × Unit) → M) (K : Value → M) : M :=
  Pv (binIV .lss x28 (Value.int .i64 6)) fun v35 =>
  Br v35
    (Rv none (ld1R p1) fun v36 =>
    Pv (binIV .add p3 (Value.int .i64 1)) fun v37 =>
    Pv (bldV #[(Value.int .i64 0), (Value.int .i64 0)] #[(0, 1), (1, 1)] [(0, v37)]) fun v38 =>
    Pv (nilV v36) fun v39 =>
    Pv (fldV 15 v39) fun v40 =>
    Pv (ixPV 2 6 v40 x28) fun v41 =>
    Sto 2 v41 v38 <| gh fun _ =>
    Pv (binIV .add x28 (Value.int .i64 1)) fun v42 =>
    Kn0 (v42, ()))
    (sh94_1 ω p1 p2 K)
def sh94 (ω : Om) (a0 : Value) (K : Value → M) : M :=
  New (.cells (Value.cells a0) 72 (0, 0)) <| gh fun r_1 =>
  Rv none (ld1R r_1) fun v2 =>
  Cal Try.prog ω 121 #[v2, (Value.func (Fn.func 122) #[] #[r_1])] <| gh fun v3 =>
  Pv (unV .not v3) fun v4 =>
  Br v4
    (K (Value.bool false))
    (Rv none (ld1R r_1) fun v5 =>
    Pv (nilV v5) fun v6 =>
    Pv (fldV 4 v6) fun v7 =>
    Rv none (ld1R v7) fun v8 =>
    Cal Try.prog ω 54 #[v8] <| gh fun v9 =>
    Pv (exV v9 0) fun v10 =>
    Pv (exV v9 1) fun v11 =>
    Draw fun S =>
      Rv (some S) (ld1R r_1) fun v12 =>
      Rv (some S) (ld1R r_1) fun v13 =>
      Rv (some S) (ld1R r_1) fun v14 =>
      Pv (nilV v14) fun v15 =>
      Pv (fldV 1 v15) fun v16 =>
      Rv (some S) (ld1R v16) fun v17 =>
      Pv (nilV v12) fun v18 =>
      Pv (fldV 6 v18) fun v19 =>
      Sto 1 v19 (Value.int .i64 3) <| gh <| Keep S fun _ =>
      Pv (nilV v13) fun v20 =>
      Pv (fldV 7 v20) fun v21 =>
      Sto 1 v21 v17 <| gh fun _ =>
      LoopM (((Value.int .i64 0), ()) : Value × Unit) fun s Kn0 =>
      sh94_3 ω r_1 (Value.bool false) v10 s.1 Kn0 K)
theorem sh94_eq (ω : Om) (a0 : Value) (K : Value → M) : vcF Try.prog ω Try.f94 [a0] K = sh94 ω a0 K := by kernel_rfl
theorem cal94 {ω : Om} {a0 : Value} {K : Value → M} {I : Imm} {L : LH} (h : sh94 ω a0 (fun v => Gh (K v)) I L) : Cal Try.prog ω 94 #[a0] K I L :=
  Cal.gh (cal_of_vc mixed Try.func94 (by rw [sh94_eq]; exact h))

def sh95_1 (ω : Om) (p0 : Value) (p3 : Value) (p4 : Value) (p5 : Value) (K : Value → M) : M :=
  Pv (fldV 2 p3) fun v20 =>
  Rv none (ld1R v20) fun v21 =>
  Pv (bldV #[(Value.int .i64 0), (Value.int .i64 0), (Value.int .i64 0), (Value.int .i64 0), (Value.int .i64 0), (Value.int .i64 0), (Value.int .i64 0), (Value.int .i64 0), (Value.bool false), (Value.slice none 0 0), (Value.slice none 0 0), (Value.slice none 0 0)] #[(0, 1), (1, 1), (2, 1), (3, 1), (4, 1), (5, 1), (6, 1), (7, 1), (8, 1), (9, 1), (10, 1), (11, 1)] [(0, (Value.int .i64 4)), (3, v21), (8, p5), (5, p4)]) fun v22 =>
  Cal Try.prog ω 114 #[p0, v22] <| gh fun v23 =>
  K (Value.tuple #[])
def sh95 (ω : Om) (a0 : Value) (a1 : Value) (K : Value → M) : M :=
  New (.cells (Value.cells a1) 77 (0, 0)) <| gh fun m_1 =>
  Pv (fldV 2 m_1) fun v2 =>
  Rv none (ld1R v2) fun v3 =>
  Cal Try.prog ω 124 #[a0, v3] <| gh fun v4 =>
  Pv (unV .not v4) fun v5 =>
  Br v5
    (K (Value.tuple #[]))
    (Draw fun S =>
      Pv (nilV a0) fun v6 =>
      Pv (fldV 4 v6) fun v7 =>
      Rv (some S) (ld1R v7) fun v8 =>
      Pv (fldV 5 m_1) fun v9 =>
      Rv (some S) (ld1R v9) fun v10 =>
      Pv (fldV 6 m_1) fun v11 =>
      Rv (some S) (ld1R v11) fun v12 =>
      Pv (fldV 9 m_1) fun v13 =>
      Rv (some S) (ld1R v13) fun v14 =>
      Cal Try.prog ω 16 #[v8, v10, v12, v14] <| gh fun v15 =>
      Pv (exV v15 0) fun v16 =>
      Pv (exV v15 1) fun v17 =>
      Pv (exV v15 2) fun v18 =>
      Pv (binIV .neq v18 (Value.int .i64 0)) fun v19 =>
      Br v19
        (K (Value.tuple #[]))
        (Br v17
          (Draw fun S =>
            Pv (nilV a0) fun v24 =>
            Pv (fldV 4 v24) fun v25 =>
            Rv (some S) (ld1R v25) fun v26 =>
            Pv (fldV 7 m_1) fun v27 =>
            Rv (some S) (ld1R v27) fun v28 =>
            Pv (minV v28 v16) fun v29 =>
            Cal Try.prog ω 27 #[v26, v29] <| gh fun v30 =>
            sh95_1 ω a0 m_1 v16 v17 K)
          (sh95_1 ω a0 m_1 v16 v17 K)))
theorem sh95_eq (ω : Om) (a0 a1 : Value) (K : Value → M) : vcF Try.prog ω Try.f95 [a0, a1] K = sh95 ω a0 a1 K := by kernel_rfl
theorem cal95 {ω : Om} {a0 a1 : Value} {K : Value → M} {I : Imm} {L : LH} (h : sh95 ω a0 a1 (fun v => Gh (K v)) I L) : Cal Try.prog ω 95 #[a0, a1] K I L :=
  Cal.gh (cal_of_vc mixed Try.func95 (by rw [sh95_eq]; exact h))

def sh96_1 (ω : Om) (p0 : Value) (p3 : Value) (p4 : Value) (K : Value → M) : M :=
  Pv (fldV 2 p3) fun v10 =>
  Rv none (ld1R v10) fun v11 =>
  Pv (bldV #[(Value.int .i64 0), (Value.int .i64 0), (Value.int .i64 0), (Value.int .i64 0), (Value.int .i64 0), (Value.int .i64 0), (Value.int .i64 0), (Value.int .i64 0), (Value.bool false), (Value.slice none 0 0), (Value.slice none 0 0), (Value.slice none 0 0)] #[(0, 1), (1, 1), (2, 1), (3, 1), (4, 1), (5, 1), (6, 1), (7, 1), (8, 1), (9, 1), (10, 1), (11, 1)] [(0, (Value.int .i64 4)), (3, v11), (8, (Value.bool true)), (5, p4)]) fun v12 =>
  Cal Try.prog ω 114 #[p0, v12] <| gh fun v13 =>
  K (Value.tuple #[])
def sh96 (ω : Om) (a0 : Value) (a1 : Value) (K : Value → M) : M :=
  New (.cells (Value.cells a1) 77 (0, 0)) <| gh fun m_1 =>
  Pv (fldV 2 m_1) fun v2 =>
  Rv none (ld1R v2) fun v3 =>
  Cal Try.prog ω 124 #[a0, v3] <| gh fun v4 =>
  Pv (unV .not v4) fun v5 =>
  Br v5
    (K (Value.tuple #[]))
    (Pv (nilV a0) fun v6 =>
    Pv (fldV 4 v6) fun v7 =>
    Rv none (ld1R v7) fun v8 =>
    Cal Try.prog ω 22 #[v8] <| gh fun v9 =>
    Pv (fldV 5 m_1) fun v14 =>
    Rv none (ld1R v14) fun v15 =>
    Pv (binIV .gtr v15 v9) fun v16 =>
    Br v16
      (Draw fun S =>
        Pv (nilV a0) fun v17 =>
        Pv (fldV 4 v17) fun v18 =>
        Rv (some S) (ld1R v18) fun v19 =>
        Pv (fldV 5 m_1) fun v20 =>
        Rv (some S) (ld1R v20) fun v21 =>
        Pv (fldV 6 m_1) fun v22 =>
        Rv (some S) (ld1R v22) fun v23 =>
        Pv (fldV 10 m_1) fun v24 =>
        Rv (some S) (ld1R v24) fun v25 =>
        Pv (bldV #[(Value.int .i64 0), (Value.int .i64 0), (Value.slice none 0 0)] #[(0, 1), (1, 1), (2, 1)] [(0, v21), (1, v23), (2, v25)]) fun v26 =>
        Cal Try.prog ω 28 #[v19, v26] <| gh fun v27 =>
        Pv (binIV .neq v27 (Value.int .i64 0)) fun v28 =>
        Br v28
          (K (Value.tuple #[]))
          (Pv (fldV 11 m_1) fun v29 =>
          Rv none (ld1R v29) fun v30 =>
          Cal Try.prog ω 101 #[v30] <| gh fun v31 =>
          Pv (nilV a0) fun v32 =>
          Pv (fldV 5 v32) fun v33 =>
          Sto 1 v33 v31 <| gh fun _ =>
          Pv (fldV 5 m_1) fun v34 =>
          Rv none (ld1R v34) fun v35 =>
          sh96_1 ω a0 m_1 v35 K))
      (sh96_1 ω a0 m_1 v9 K))
theorem sh96_eq (ω : Om) (a0 a1 : Value) (K : Value → M) : vcF Try.prog ω Try.f96 [a0, a1] K = sh96 ω a0 a1 K := by kernel_rfl
theorem cal96 {ω : Om} {a0 a1 : Value} {K : Value → M} {I : Imm} {L : LH} (h : sh96 ω a0 a1 (fun v => Gh (K v)) I L) : Cal Try.prog ω 96 #[a0, a1] K I L :=
  Cal.gh (cal_of_vc mixed Try.func96 (by rw [sh96_eq]; exact h))

def sh97_2 (ω : Om) (p0 : Value) (p3 : Value) (K : Value → M) : M :=
  Pv (fldV 2 p3) fun v66 =>
  Rv none (ld1R v66) fun v67 =>
  Cal Try.prog ω 111 #[p0, v67] <| gh fun v68 =>
  K (Value.tuple #[])
def sh97 (ω : Om) (a0 : Value) (a1 : Value) (K : Value → M) : M :=
  New (.cells (Value.cells a1) 77 (0, 0)) <| gh fun m_1 =>
  Pv (nilV a0) fun v2 =>
  Pv (fldV 4 v2) fun v3 =>
  Rv none (ld1R v3) fun v4 =>
  Cal Try.prog ω 54 #[v4] <| gh fun v5 =>
  Pv (exV v5 0) fun v6 =>
  Pv (exV v5 1) fun v7 =>
  Draw fun S =>
    Pv (fldV 2 m_1) fun v8 =>
    Rv (some S) (ld1R v8) fun v9 =>
    Pv (nilV a0) fun v10 =>
    Pv (fldV 15 v10) fun v11 =>
    Pv (ixPV 2 6 v11 v9) fun v12 =>
    Pv (nilV a0) fun v13 =>
    Pv (fldV 6 v13) fun v14 =>
    Rv none (ld1R v14) fun v15 =>
    Pv (binIV .neq v15 (Value.int .i64 3)) fun v16 =>
    Br v16
      (K (Value.tuple #[]))
      (Pv (fldV 8 m_1) fun v17 =>
      Rv none (ld1R v17) fun v18 =>
      Pv (unV .not v18) fun v19 =>
      Br v19
        (Draw fun S =>
          Pv (fldV 5 m_1) fun v20 =>
          Rv (some S) (ld1R v20) fun v21 =>
          Pv (binIV .add v21 (Value.int .i64 1)) fun v22 =>
          Pv (nilV v12) fun v23 =>
          Pv (fldV 0 v23) fun v24 =>
          Rv (some S) (ld1R v24) fun v25 =>
          Pv (binIV .lss v22 v25) fun v26 =>
          Br v26
            (Draw fun S =>
              Pv (fldV 5 m_1) fun v27 =>
              Rv (some S) (ld1R v27) fun v28 =>
              Pv (nilV v12) fun v29 =>
              Pv (fldV 1 v29) fun v30 =>
              Rv (some S) (ld1R v30) fun v31 =>
              Pv (maxV v28 v31) fun v32 =>
              Pv (binIV .add v32 (Value.int .i64 1)) fun v33 =>
              Pv (nilV v12) fun v34 =>
              Pv (fldV 0 v34) fun v35 =>
              Sto 1 v35 v33 <| gh fun _ =>
              Pv (fldV 2 m_1) fun v36 =>
              Rv none (ld1R v36) fun v37 =>
              Cal Try.prog ω 111 #[a0, v37] <| gh fun v38 =>
              K (Value.tuple #[]))
            (K (Value.tuple #[])))
        (Pv (fldV 5 m_1) fun v39 =>
        Rv none (ld1R v39) fun v40 =>
        Pv (binIV .leq v40 v6) fun v41 =>
        Br v41
          (Draw fun S =>
            Pv (nilV v12) fun v42 =>
            Pv (fldV 1 v42) fun v43 =>
            Rv (some S) (ld1R v43) fun v44 =>
            Pv (fldV 5 m_1) fun v45 =>
            Rv (some S) (ld1R v45) fun v46 =>
            Pv (maxV v44 v46) fun v47 =>
            Pv (nilV v12) fun v48 =>
            Pv (fldV 1 v48) fun v49 =>
            Sto 1 v49 v47 <| gh fun _ =>
            Pv (nilV v12) fun v50 =>
            Pv (fldV 1 v50) fun v51 =>
            Rv none (ld1R v51) fun v52 =>
            Pv (binIV .add v52 (Value.int .i64 1)) fun v53 =>
            Pv (nilV v12) fun v54 =>
            Pv (fldV 0 v54) fun v55 =>
            Sto 1 v55 v53 <| gh fun _ =>
            Cal Try.prog ω 123 #[a0] <| gh fun v56 =>
            Br v56
              (Cal Try.prog ω 86 #[a0] <| gh fun v57 =>
              K (Value.tuple #[]))
              (Pv (nilV a0) fun v58 =>
              Pv (fldV 6 v58) fun v59 =>
              Rv none (ld1R v59) fun v60 =>
              Pv (binIV .eql v60 (Value.int .i64 3)) fun v61 =>
              Gd v61 true
                (Pv (nilV v12) fun v62 =>
                Pv (fldV 0 v62) fun v63 =>
                Rv none (ld1R v63) fun v64 =>
                Pv (binIV .leq v64 v6) fun v65 =>
                Br v65
                  (sh97_2 ω a0 m_1 K)
                  (K (Value.tuple #[])))
                (K (Value.tuple #[]))))
          (K (Value.tuple #[]))))
theorem sh97_eq (ω : Om) (a0 a1 : Value) (K : Value → M) : vcF Try.prog ω Try.f97 [a0, a1] K = sh97 ω a0 a1 K := by kernel_rfl
theorem cal97 {ω : Om} {a0 a1 : Value} {K : Value → M} {I : Imm} {L : LH} (h : sh97 ω a0 a1 (fun v => Gh (K v)) I L) : Cal Try.prog ω 97 #[a0, a1] K I L :=
  Cal.gh (cal_of_vc mixed Try.func97 (by rw [sh97_eq]; exact h))

def sh98 (ω : Om) (a0 : Value) (a1 : Value) (a2 : Value) (K : Value → M) : M :=
  Draw fun S =>
    Pv (nilV a0) fun v1 =>
    Pv (fldV 4 v1) fun v2 =>
    Rv (some S) (ld1R v2) fun v3 =>
    Pv (nilV a0) fun v4 =>
    Pv (fldV 2 v4) fun v5 =>
    Rv (some S) (ld1R v5) fun v6 =>
    Cal Try.prog ω 14 #[v3, v6, a1, a2] <| gh fun v7 =>
    Pv (exV v7 0) fun v8 =>
    Pv (exV v7 1) fun v9 =>
    Pv (binIV .neq v9 (Value.int .i64 0)) fun v10 =>
    Br v10
      (K (Value.tuple #[(Value.int .i64 0), (Value.slice none 0 0), v9]))
      (Cal Try.prog ω 123 #[a0] <| gh fun v11 =>
      Cal Try.prog ω 86 #[a0] <| gh fun v12 =>
      Cal Try.prog ω 87 #[a0] <| gh fun v13 =>
      K (Value.tuple #[v8, v13, (Value.int .i64 0)]))
theorem sh98_eq (ω : Om) (a0 a1 a2 : Value) (K : Value → M) : vcF Try.prog ω Try.f98 [a0, a1, a2] K = sh98 ω a0 a1 a2 K := by kernel_rfl
theorem cal98 {ω : Om} {a0 a1 a2 : Value} {K : Value → M} {I : Imm} {L : LH} (h : sh98 ω a0 a1 a2 (fun v => Gh (K v)) I L) : Cal Try.prog ω 98 #[a0, a1, a2] K I L :=
  Cal.gh (cal_of_vc mixed Try.func98 (by rw [sh98_eq]; exact h))

def sh99_1 (ω : Om) (p0 : Value) (p2 : Value) (K : Value → M) : M :=
  Pv (lenV p0) fun v1 =>
  Pv (binIV .gtr v1 (Value.int .i64 0)) fun v2 =>
  K v2
def sh99_3 (ω : Om) (p0 : Value) (p5 : Value) (p6 : Value) (x2 : Value) (x7 : Value) (Kn0 : (Value × Value × Unit) → M) (K : Value → M) : M :=
  Pv (binIV .lss x7 p6) fun v4 =>
  Br v4
    (Pv (ixV 1 p5 x7) fun v5 =>
    Rv none (ld1R v5) fun v6 =>
    Cal Try.prog ω 102 #[v6] <| gh fun v7 =>
    Pv (unV .not v7) fun v8 =>
    Gd v8 false
      (Pv (binIV .gtr x7 (Value.int .i64 0)) fun v9 =>
      Gd v9 true
        (Pv (binIV .sub x7 (Value.int .i64 1)) fun v10 =>
        Pv (ixV 1 p0 v10) fun v11 =>
        Rv none (ld1R v11) fun v12 =>
        Pv (binIV .leq v6 v12) fun v13 =>
        Br v13
          (K (Value.bool false))
          (Pv (binIV .add x7 (Value.int .i64 1)) fun v14 =>
          Kn0 (x2, v14, ())))
        (Pv (binIV .add x7 (Value.int .i64 1)) fun v15 =>
        Kn0 (x2, v15, ())))
      (K (Value.bool false)))
    (sh99_1 ω p0 x2 K)
def sh99 (ω : Om) (a0 : Value) (K : Value → M) : M :=
  Pv (lenV a0) fun v3 =>
  LoopM (((Value.bool false), (Value.int .i64 0), ()) : Value × Value × Unit) fun s Kn0 =>
  sh99_3 ω a0 a0 v3 s.1 s.2.1 Kn0 K
theorem sh99_eq (ω : Om) (a0 : Value) (K : Value → M) : vcF Try.prog ω Try.f99 [a0] K = sh99 ω a0 K := by kernel_rfl
theorem cal99 {ω : Om} {a0 : Value} {K : Value → M} {I : Imm} {L : LH} (h : sh99 ω a0 (fun v => Gh (K v)) I L) : Cal Try.prog ω 99 #[a0] K I L :=
  Cal.gh (cal_of_vc mixed Try.func99 (by rw [sh99_eq]; exact h))

def sh100_4 (ω : Om) (p5 : Value) (p6 : Value) (Kn0 : (Value × Value × Unit) → M) (K : Value → M) : M :=
  Pv (binIV .add p6 (Value.int .i64 1)) fun v2 =>
  Kn0 (p5, v2, ())
def sh100_3 (ω : Om) (p0 : Value) (p1 : Value) (p4 : Value) (x5 : Value) (x6 : Value) (Kn0 : (Value × Value × Unit) → M) (K : Value → M) : M :=
  Pv (binIV .leq x6 (Value.int .i64 5)) fun v1 =>
  Br v1
    (Cal Try.prog ω 88 #[p0, x6] <| gh fun v3 =>
    Cal Try.prog ω 88 #[p1, x6] <| gh fun v4 =>
    Pv (binBV .neq v3 v4) fun v5 =>
    Br v5
      (Pv (binIV .add x5 (Value.int .i64 1)) fun v6 =>
      sh100_4 ω v6 x6 Kn0 K)
      (sh100_4 ω x5 x6 Kn0 K))
    (K x5)
def sh100 (ω : Om) (a0 : Value) (a1 : Value) (K : Value → M) : M :=
  LoopM (((Value.int .i64 0), (Value.int .i64 1), ()) : Value × Value × Unit) fun s Kn0 =>
  sh100_3 ω a0 a1 (Value.int .i64 0) s.1 s.2.1 Kn0 K
theorem sh100_eq (ω : Om) (a0 a1 : Value) (K : Value → M) : vcF Try.prog ω Try.f100 [a0, a1] K = sh100 ω a0 a1 K := by kernel_rfl
theorem cal100 {ω : Om} {a0 a1 : Value} {K : Value → M} {I : Imm} {L : LH} (h : sh100 ω a0 a1 (fun v => Gh (K v)) I L) : Cal Try.prog ω 100 #[a0, a1] K I L :=
  Cal.gh (cal_of_vc mixed Try.func100 (by rw [sh100_eq]; exact h))

def sh101 (ω : Om) (a0 : Value) (K : Value → M) : M :=
  Pv (binNV .eql a0 (Value.slice none 0 0)) fun v1 =>
  Br v1
    (K (Value.slice none 0 0))
    (BldS 5 1 #[(Value.int .u8 0)] 0 [] <| gh fun v2 =>
    App 5 1 1 #[(Value.int .u8 0)] v2 a0 <| gh fun v3 =>
    K v3)
theorem sh101_eq (ω : Om) (a0 : Value) (K : Value → M) : vcF Try.prog ω Try.f101 [a0] K = sh101 ω a0 K := by kernel_rfl
theorem cal101 {ω : Om} {a0 : Value} {K : Value → M} {I : Imm} {L : LH} (h : sh101 ω a0 (fun v => Gh (K v)) I L) : Cal Try.prog ω 101 #[a0] K I L :=
  Cal.gh (cal_of_vc mixed Try.func101 (by rw [sh101_eq]; exact h))

def sh102 (ω : Om) (a0 : Value) (K : Value → M) : M :=
  Pv (binIV .geq a0 (Value.int .i64 1)) fun v1 =>
  Gd v1 true
    (Pv (binIV .leq a0 (Value.int .i64 5)) fun v2 =>
    K v2)
    (K (Value.bool false))
theorem sh102_eq (ω : Om) (a0 : Value) (K : Value → M) : vcF Try.prog ω Try.f102 [a0] K = sh102 ω a0 K := by kernel_rfl
theorem cal102 {ω : Om} {a0 : Value} {K : Value → M} {I : Imm} {L : LH} (h : sh102 ω a0 (fun v => Gh (K v)) I L) : Cal Try.prog ω 102 #[a0] K I L :=
  Cal.gh (cal_of_vc mixed Try.func102 (by rw [sh102_eq]; exact h))

def sh103 (ω : Om) (a0 : Value) (K : Value → M) : M :=
  Pv (binIV .geq a0 (Value.int .i64 0)) fun v1 =>
  Gd v1 true
    (Pv (binIV .leq a0 (Value.int .i64 9007199254740991)) fun v2 =>
    K v2)
    (K (Value.bool false))
theorem sh103_eq (ω : Om) (a0 : Value) (K : Value → M) : vcF Try.prog ω Try.f103 [a0] K = sh103 ω a0 K := by kernel_rfl
theorem cal103 {ω : Om} {a0 : Value} {K : Value → M} {I : Imm} {L : LH} (h : sh103 ω a0 (fun v => Gh (K v)) I L) : Cal Try.prog ω 103 #[a0] K I L :=
  Cal.gh (cal_of_vc mixed Try.func103 (by rw [sh103_eq]; exact h))

def sh104_4 (ω : Om) (p5 : Value) (p6 : Value) (Kn0 : (Value × Value × Unit) → M) (K : Value → M) : M :=
  Pv (binIV .add p6 (Value.int .i64 1)) fun v2 =>
  Kn0 (p5, v2, ())
def sh104_6 (ω : Om) (p1 : Value) (p5 : Value) (p6 : Value) (p7 : Value) (Kn0 : (Value × Value × Unit) → M) (K : Value → M) : M :=
  Pv (binIV .eql p6 p1) fun v3 =>
  Pv (binBV .neq p7 v3) fun v4 =>
  Br v4
    (BldS 3 1 #[(Value.int .i64 0)] 1 [(0, p6)] <| gh fun v5 =>
    App 3 1 8 #[(Value.int .i64 0)] p5 v5 <| gh fun v6 =>
    sh104_4 ω v6 p6 Kn0 K)
    (sh104_4 ω p5 p6 Kn0 K)
def sh104_8 (ω : Om) (p0 : Value) (p1 : Value) (p5 : Value) (p6 : Value) (x7 : Value) (x8 : Value) (Kn0 : (Value × Value × Unit) → M) (Kn1 : (Value × Value × Unit) → M) (K : Value → M) : M :=
  Pv (lenV p0) fun v7 =>
  Pv (binIV .lss x8 v7) fun v8 =>
  Br v8
    (Gd x7 false
      (Pv (ixV 1 p0 x8) fun v9 =>
      Rv none (ld1R v9) fun v10 =>
      Pv (binIV .eql v10 p6) fun v11 =>
      Pv (binIV .add x8 (Value.int .i64 1)) fun v12 =>
      Kn1 (v11, v12, ()))
      (Pv (binIV .add x8 (Value.int .i64 1)) fun v13 =>
      Kn1 ((Value.bool true), v13, ())))
    (sh104_6 ω p1 p5 p6 x7 Kn0 K)
def sh104_3 (ω : Om) (p0 : Value) (p1 : Value) (p4 : Value) (x5 : Value) (x6 : Value) (Kn0 : (Value × Value × Unit) → M) (K : Value → M) : M :=
  Pv (binIV .leq x6 (Value.int .i64 5)) fun v1 =>
  Br v1
    (LoopM (((Value.bool false), (Value.int .i64 0), ()) : Value × Value × Unit) fun s Kn1 =>
    sh104_8 ω p0 p1 x5 x6 s.1 s.2.1 Kn0 Kn1 K)
    (K x5)
def sh104 (ω : Om) (a0 : Value) (a1 : Value) (K : Value → M) : M :=
  LoopM (((Value.slice none 0 0), (Value.int .i64 1), ()) : Value × Value × Unit) fun s Kn0 =>
  sh104_3 ω a0 a1 (Value.slice none 0 0) s.1 s.2.1 Kn0 K
theorem sh104_eq (ω : Om) (a0 a1 : Value) (K : Value → M) : vcF Try.prog ω Try.f104 [a0, a1] K = sh104 ω a0 a1 K := by kernel_rfl
theorem cal104 {ω : Om} {a0 a1 : Value} {K : Value → M} {I : Imm} {L : LH} (h : sh104 ω a0 a1 (fun v => Gh (K v)) I L) : Cal Try.prog ω 104 #[a0, a1] K I L :=
  Cal.gh (cal_of_vc mixed Try.func104 (by rw [sh104_eq]; exact h))

def sh105_2 (ω : Om) (p1 : Value) (p2 : Value) (K : Value → M) : M :=
  Pv (fldV 3 p1) fun v16 =>
  Rv none (ld1R v16) fun v17 =>
  Pv (lenV v17) fun v18 =>
  Pv (binIV .eql v18 (Value.int .i64 0)) fun v19 =>
  K v19
def sh105_3 (ω : Om) (p1 : Value) (p2 : Value) (p19 : Value) (K : Value → M) : M :=
  Pv (binIV .eql p19 (Value.int .i64 2)) fun v20 =>
  Br v20
    (Pv (fldV 3 p1) fun v21 =>
    Rv none (ld1R v21) fun v22 =>
    Pv (lenV v22) fun v23 =>
    Pv (binIV .leq v23 (Value.int .i64 12000)) fun v24 =>
    K v24)
    (Pv (binIV .eql p19 (Value.int .i64 3)) fun v25 =>
    Br v25
      (Pv (fldV 3 p1) fun v26 =>
      Rv none (ld1R v26) fun v27 =>
      Pv (lenV v27) fun v28 =>
      Pv (binIV .leq v28 (Value.int .i64 5)) fun v29 =>
      Gd v29 true
        (Pv (fldV 3 p1) fun v30 =>
        Rv none (ld1R v30) fun v31 =>
        Cal Try.prog ω 110 #[v31] <| gh fun v32 =>
        Cal Try.prog ω 55 #[v32] <| gh fun v33 =>
        K v33)
        (K (Value.bool false)))
      (K (Value.bool false)))
def sh105 (ω : Om) (a0 : Value) (K : Value → M) : M :=
  New (.cells (Value.cells a0) 59 (0, 0)) <| gh fun e_1 =>
  Pv (fldV 0 e_1) fun v2 =>
  Rv none (ld1R v2) fun v3 =>
  Cal Try.prog ω 60 #[v3] <| gh fun v4 =>
  Pv (unV .not v4) fun v5 =>
  Gd v5 false
    (Pv (fldV 1 e_1) fun v6 =>
    Rv none (ld1R v6) fun v7 =>
    Cal Try.prog ω 60 #[v7] <| gh fun v8 =>
    Pv (unV .not v8) fun v9 =>
    Gd v9 false
      (Pv (fldV 1 e_1) fun v10 =>
      Rv none (ld1R v10) fun v11 =>
      Pv (binIV .eql v11 (Value.int .i64 0)) fun v12 =>
      Br v12
        (K (Value.bool false))
        (Pv (fldV 2 e_1) fun v13 =>
        Rv none (ld1R v13) fun v14 =>
        Pv (binIV .eql v14 (Value.int .i64 1)) fun v15 =>
        Br v15
          (sh105_2 ω e_1 (Value.bool false) K)
          (sh105_3 ω e_1 (Value.bool false) v14 K)))
      (K (Value.bool false)))
    (K (Value.bool false))
theorem sh105_eq (ω : Om) (a0 : Value) (K : Value → M) : vcF Try.prog ω Try.f105 [a0] K = sh105 ω a0 K := by kernel_rfl
theorem cal105 {ω : Om} {a0 : Value} {K : Value → M} {I : Imm} {L : LH} (h : sh105 ω a0 (fun v => Gh (K v)) I L) : Cal Try.prog ω 105 #[a0] K I L :=
  Cal.gh (cal_of_vc mixed Try.func105 (by rw [sh105_eq]; exact h))

def sh106 (ω : Om) (a0 : Value) (K : Value → M) : M :=
  Pv (binIV .geq a0 (Value.int .i64 0)) fun v1 =>
  Gd v1 true
    (Pv (binIV .leq a0 (Value.int .i64 9007199254740991)) fun v2 =>
    K v2)
    (K (Value.bool false))
theorem sh106_eq (ω : Om) (a0 : Value) (K : Value → M) : vcF Try.prog ω Try.f106 [a0] K = sh106 ω a0 K := by kernel_rfl
theorem cal106 {ω : Om} {a0 : Value} {K : Value → M} {I : Imm} {L : LH} (h : sh106 ω a0 (fun v => Gh (K v)) I L) : Cal Try.prog ω 106 #[a0] K I L :=
  Cal.gh (cal_of_vc mixed Try.func106 (by rw [sh106_eq]; exact h))

def sh107_2 (ω : Om) (p1 : Value) (p2 : Value) (K : Value → M) : M :=
  Pv (fldV 3 p1) fun v16 =>
  Rv none (ld1R v16) fun v17 =>
  Pv (lenV v17) fun v18 =>
  Pv (binIV .eql v18 (Value.int .i64 0)) fun v19 =>
  K v19
def sh107_3 (ω : Om) (p1 : Value) (p2 : Value) (p23 : Value) (K : Value → M) : M :=
  Pv (binIV .eql p23 (Value.int .i64 2)) fun v20 =>
  Br v20
    (Pv (fldV 3 p1) fun v21 =>
    Rv none (ld1R v21) fun v22 =>
    Pv (lenV v22) fun v23 =>
    Pv (binIV .leq v23 (Value.int .i64 12000)) fun v24 =>
    K v24)
    (Pv (binIV .eql p23 (Value.int .i64 3)) fun v25 =>
    Br v25
      (Pv (fldV 3 p1) fun v26 =>
      Rv none (ld1R v26) fun v27 =>
      Cal Try.prog ω 125 #[v27] <| gh fun v28 =>
      K v28)
      (K (Value.bool false)))
def sh107 (ω : Om) (a0 : Value) (K : Value → M) : M :=
  New (.cells (Value.cells a0) 59 (0, 0)) <| gh fun e_1 =>
  Pv (fldV 0 e_1) fun v2 =>
  Rv none (ld1R v2) fun v3 =>
  Cal Try.prog ω 106 #[v3] <| gh fun v4 =>
  Pv (fldV 1 e_1) fun v5 =>
  Rv none (ld1R v5) fun v6 =>
  Cal Try.prog ω 106 #[v6] <| gh fun v7 =>
  Pv (unV .not v4) fun v8 =>
  Gd v8 false
    (Pv (unV .not v7) fun v9 =>
    Gd v9 false
      (Pv (fldV 1 e_1) fun v10 =>
      Rv none (ld1R v10) fun v11 =>
      Pv (binIV .lss v11 (Value.int .i64 1)) fun v12 =>
      Br v12
        (K (Value.bool false))
        (Pv (fldV 2 e_1) fun v13 =>
        Rv none (ld1R v13) fun v14 =>
        Pv (binIV .eql v14 (Value.int .i64 1)) fun v15 =>
        Br v15
          (sh107_2 ω e_1 (Value.bool false) K)
          (sh107_3 ω e_1 (Value.bool false) v14 K)))
      (K (Value.bool false)))
    (K (Value.bool false))
theorem sh107_eq (ω : Om) (a0 : Value) (K : Value → M) : vcF Try.prog ω Try.f107 [a0] K = sh107 ω a0 K := by kernel_rfl
theorem cal107 {ω : Om} {a0 : Value} {K : Value → M} {I : Imm} {L : LH} (h : sh107 ω a0 (fun v => Gh (K v)) I L) : Cal Try.prog ω 107 #[a0] K I L :=
  Cal.gh (cal_of_vc mixed Try.func107 (by rw [sh107_eq]; exact h))

def sh108 (ω : Om) (a0 : Value) (a1 : Value) (K : Value → M) : M :=
  Cal Try.prog ω 126 #[a0, a1] <| gh fun v1 =>
  Pv (binIV .geq v1 (Value.int .i64 0)) fun v2 =>
  K v2
theorem sh108_eq (ω : Om) (a0 a1 : Value) (K : Value → M) : vcF Try.prog ω Try.f108 [a0, a1] K = sh108 ω a0 a1 K := by kernel_rfl
theorem cal108 {ω : Om} {a0 a1 : Value} {K : Value → M} {I : Imm} {L : LH} (h : sh108 ω a0 a1 (fun v => Gh (K v)) I L) : Cal Try.prog ω 108 #[a0, a1] K I L :=
  Cal.gh (cal_of_vc mixed Try.func108 (by rw [sh108_eq]; exact h))

def sh109 (ω : Om) (a0 : Value) (a1 : Value) (K : Value → M) : M :=
  New (.cells (Value.cells a0) 59 (0, 0)) <| gh fun e_1 =>
  Draw fun S =>
    Pv (fldV 2 e_1) fun v2 =>
    Rv (some S) (ld1R v2) fun v3 =>
    Pv (binIV .eql v3 (Value.int .i64 3)) fun v4 =>
    Gd v4 true
      (Pv (fldV 0 e_1) fun v5 =>
      Rv (some S) (ld1R v5) fun v6 =>
      Rv (some S) (ld1R a1) fun v7 =>
      Pv (nilV v7) fun v8 =>
      Pv (fldV 4 v8) fun v9 =>
      Rv (some S) (ld1R v9) fun v10 =>
      Pv (binIV .gtr v6 v10) fun v11 =>
      K v11)
      (K (Value.bool false))
theorem sh109_eq (ω : Om) (a0 a1 : Value) (K : Value → M) : vcF Try.prog ω Try.f109 [a0, a1] K = sh109 ω a0 a1 K := by kernel_rfl
theorem cal109 {ω : Om} {a0 a1 : Value} {K : Value → M} {I : Imm} {L : LH} (h : sh109 ω a0 a1 (fun v => Gh (K v)) I L) : Cal Try.prog ω 109 #[a0, a1] K I L :=
  Cal.gh (cal_of_vc mixed Try.func109 (by rw [sh109_eq]; exact h))

def sh110_3 (ω : Om) (p2 : Value) (p3 : Value) (p9 : Value) (p10 : Value) (x11 : Value) (Kn0 : (Value × Unit) → M) (K : Value → M) : M :=
  Pv (binIV .lss x11 p10) fun v4 =>
  Br v4
    (Pv (ixV 1 p9 x11) fun v5 =>
    Rv none (ld1R v5) fun v6 =>
    Pv (cvIV .i64 v6) fun v7 =>
    Pv (ixV 1 p3 x11) fun v8 =>
    Sto 1 v8 v7 <| gh fun _ =>
    Pv (binIV .add x11 (Value.int .i64 1)) fun v9 =>
    Kn0 (v9, ()))
    (K p3)
def sh110 (ω : Om) (a0 : Value) (K : Value → M) : M :=
  Pv (lenV a0) fun v1 =>
  MkS 3 8 #[(Value.int .i64 0)] v1 v1 <| gh fun v2 =>
  Pv (lenV a0) fun v3 =>
  LoopM (((Value.int .i64 0), ()) : Value × Unit) fun s Kn0 =>
  sh110_3 ω (Value.slice none 0 0) v2 a0 v3 s.1 Kn0 K
theorem sh110_eq (ω : Om) (a0 : Value) (K : Value → M) : vcF Try.prog ω Try.f110 [a0] K = sh110 ω a0 K := by kernel_rfl
theorem cal110 {ω : Om} {a0 : Value} {K : Value → M} {I : Imm} {L : LH} (h : sh110 ω a0 (fun v => Gh (K v)) I L) : Cal Try.prog ω 110 #[a0] K I L :=
  Cal.gh (cal_of_vc mixed Try.func110 (by rw [sh110_eq]; exact h))

def sh111 (ω : Om) (a0 : Value) (a1 : Value) (K : Value → M) : M :=
  Pv (nilV a0) fun v1 =>
  Pv (fldV 15 v1) fun v2 =>
  Pv (ixPV 2 6 v2 a1) fun v3 =>
  Pv (fldV 0 v3) fun v4 =>
  Rv none (ld1R v4) fun v5 =>
  Pv (binIV .sub v5 (Value.int .i64 1)) fun v6 =>
  Pv (nilV a0) fun v7 =>
  Pv (fldV 4 v7) fun v8 =>
  Rv none (ld1R v8) fun v9 =>
  Cal Try.prog ω 24 #[v9] <| gh fun v10 =>
  New (.cells #[(Value.int .i64 0), (Value.int .i64 0), (Value.slice none 0 0)] 46 (0, 0)) <| gh fun at_11 =>
  Sto 3 at_11 v10 <| gh fun _ =>
  Pv (fldV 0 at_11) fun v12 =>
  Rv none (ld1R v12) fun v13 =>
  Pv (binIV .lss v6 v13) fun v14 =>
  Br v14
    (Draw fun S =>
      Pv (fldV 0 at_11) fun v15 =>
      Rv (some S) (ld1R v15) fun v16 =>
      Pv (fldV 1 at_11) fun v17 =>
      Rv (some S) (ld1R v17) fun v18 =>
      Pv (fldV 2 at_11) fun v19 =>
      Rv (some S) (ld1R v19) fun v20 =>
      Pv (nilV a0) fun v21 =>
      Pv (fldV 5 v21) fun v22 =>
      Rv (some S) (ld1R v22) fun v23 =>
      Cal Try.prog ω 101 #[v23] <| gh <| Keep S fun v24 =>
      Pv (bldV #[(Value.int .i64 0), (Value.int .i64 0), (Value.int .i64 0), (Value.int .i64 0), (Value.int .i64 0), (Value.int .i64 0), (Value.int .i64 0), (Value.int .i64 0), (Value.bool false), (Value.slice none 0 0), (Value.slice none 0 0), (Value.slice none 0 0)] #[(0, 1), (1, 1), (2, 1), (3, 1), (4, 1), (5, 1), (6, 1), (7, 1), (8, 1), (9, 1), (10, 1), (11, 1)] [(0, (Value.int .i64 5)), (3, a1), (5, v16), (6, v18), (10, v20), (11, v24)]) fun v25 =>
      Cal Try.prog ω 114 #[a0, v25] <| gh fun v26 =>
      K (Value.tuple #[]))
    (Pv (nilV a0) fun v27 =>
    Pv (fldV 4 v27) fun v28 =>
    Rv none (ld1R v28) fun v29 =>
    Cal Try.prog ω 15 #[v29, v6] <| gh fun v30 =>
    Pv (exV v30 0) fun v31 =>
    Pv (exV v30 1) fun v32 =>
    Draw fun S =>
      Pv (nilV a0) fun v33 =>
      Pv (fldV 4 v33) fun v34 =>
      Rv (some S) (ld1R v34) fun v35 =>
      Cal Try.prog ω 22 #[v35] <| gh <| Keep S fun v36 =>
      Pv (nilV a0) fun v37 =>
      Pv (fldV 4 v37) fun v38 =>
      Rv (some S) (ld1R v38) fun v39 =>
      Pv (binIV .add v6 (Value.int .i64 1)) fun v40 =>
      Cal Try.prog ω 17 #[v39, v40, (Value.int .i64 64)] <| gh fun v41 =>
      Pv (bldV #[(Value.int .i64 0), (Value.int .i64 0), (Value.int .i64 0), (Value.int .i64 0), (Value.int .i64 0), (Value.int .i64 0), (Value.int .i64 0), (Value.int .i64 0), (Value.bool false), (Value.slice none 0 0), (Value.slice none 0 0), (Value.slice none 0 0)] #[(0, 1), (1, 1), (2, 1), (3, 1), (4, 1), (5, 1), (6, 1), (7, 1), (8, 1), (9, 1), (10, 1), (11, 1)] [(0, (Value.int .i64 3)), (3, a1), (5, v6), (6, v31), (7, v36), (9, v41)]) fun v42 =>
      Cal Try.prog ω 114 #[a0, v42] <| gh fun v43 =>
      K (Value.tuple #[]))
theorem sh111_eq (ω : Om) (a0 a1 : Value) (K : Value → M) : vcF Try.prog ω Try.f111 [a0, a1] K = sh111 ω a0 a1 K := by kernel_rfl
theorem cal111 {ω : Om} {a0 a1 : Value} {K : Value → M} {I : Imm} {L : LH} (h : sh111 ω a0 a1 (fun v => Gh (K v)) I L) : Cal Try.prog ω 111 #[a0, a1] K I L :=
  Cal.gh (cal_of_vc mixed Try.func111 (by rw [sh111_eq]; exact h))

def sh112 (ω : Om) (a0 : Value) (K : Value → M) : M :=
  Pv (lenV a0) fun v1 =>
  Pv (lenV a0) fun v2 =>
  Pv (slcV 12 a0 none (some v1) (some v2)) fun v3 =>
  K v3
theorem sh112_eq (ω : Om) (a0 : Value) (K : Value → M) : vcF Try.prog ω Try.f112 [a0] K = sh112 ω a0 K := by kernel_rfl
theorem cal112 {ω : Om} {a0 : Value} {K : Value → M} {I : Imm} {L : LH} (h : sh112 ω a0 (fun v => Gh (K v)) I L) : Cal Try.prog ω 112 #[a0] K I L :=
  Cal.gh (cal_of_vc mixed Try.func112 (by rw [sh112_eq]; exact h))

def sh113_3 (ω : Om) (p0 : Value) (p1 : Value) (p7 : Value) (x4 : Value) (x8 : Value) (Kn0 : (Value × Value × Unit) → M) (K : Value → M) : M :=
  Pv (binIV .lss x8 p7) fun v2 =>
  Br v2
    (Pv (ixV 1 p0 x8) fun v3 =>
    Rv none (ld1R v3) fun v4 =>
    Pv (binIV .eql p1 v4) fun v5 =>
    Br v5
      (K x8)
      (Pv (binIV .add x8 (Value.int .i64 1)) fun v6 =>
      Kn0 (x4, v6, ())))
    (K (Value.int .i64 (-1)))
def sh113 (ω : Om) (a0 : Value) (a1 : Value) (K : Value → M) : M :=
  Pv (lenV a0) fun v1 =>
  LoopM (((Value.int .i64 0), (Value.int .i64 0), ()) : Value × Value × Unit) fun s Kn0 =>
  sh113_3 ω a0 a1 v1 s.1 s.2.1 Kn0 K
theorem sh113_eq (ω : Om) (a0 a1 : Value) (K : Value → M) : vcF Try.prog ω Try.f113 [a0, a1] K = sh113 ω a0 a1 K := by kernel_rfl
theorem cal113 {ω : Om} {a0 a1 : Value} {K : Value → M} {I : Imm} {L : LH} (h : sh113 ω a0 a1 (fun v => Gh (K v)) I L) : Cal Try.prog ω 113 #[a0, a1] K I L :=
  Cal.gh (cal_of_vc mixed Try.func113 (by rw [sh113_eq]; exact h))

def sh114 (ω : Om) (a0 : Value) (a1 : Value) (K : Value → M) : M :=
  New (.cells (Value.cells a1) 77 (0, 0)) <| gh fun m_1 =>
  DrawW [m_1] fun S =>
    Pv (nilV a0) fun v2 =>
    Pv (fldV 0 v2) fun v3 =>
    Rv (some S) (ld1R v3) fun v4 =>
    Pv (nilV a0) fun v5 =>
    Pv (fldV 1 v5) fun v6 =>
    Rv (some S) (ld1R v6) fun v7 =>
    Pv (nilV a0) fun v8 =>
    Pv (fldV 2 v8) fun v9 =>
    Rv (some S) (ld1R v9) fun v10 =>
    Pv (fldV 1 m_1) fun v11 =>
    Sto 1 v11 v4 <| gh <| Keep S fun _ =>
    Pv (fldV 2 m_1) fun v12 =>
    Sto 1 v12 v7 <| gh <| Keep S fun _ =>
    Pv (fldV 4 m_1) fun v13 =>
    Sto 1 v13 v10 <| gh fun _ =>
    Draw fun S =>
      Pv (nilV a0) fun v14 =>
      Pv (fldV 27 v14) fun v15 =>
      Rv (some S) (ld1R v15) fun v16 =>
      Rv (some S) (ldNR 12 m_1) fun v17 =>
      BldS 77 12 #[(Value.int .i64 0), (Value.int .i64 0), (Value.int .i64 0), (Value.int .i64 0), (Value.int .i64 0), (Value.int .i64 0), (Value.int .i64 0), (Value.int .i64 0), (Value.bool false), (Value.slice none 0 0), (Value.slice none 0 0), (Value.slice none 0 0)] 1 [(0, v17)] <| gh <| Keep S fun v18 =>
      App 77 12 144 #[(Value.int .i64 0), (Value.int .i64 0), (Value.int .i64 0), (Value.int .i64 0), (Value.int .i64 0), (Value.int .i64 0), (Value.int .i64 0), (Value.int .i64 0), (Value.bool false), (Value.slice none 0 0), (Value.slice none 0 0), (Value.slice none 0 0)] v16 v18 <| gh fun v19 =>
      Pv (nilV a0) fun v20 =>
      Pv (fldV 27 v20) fun v21 =>
      Sto 1 v21 v19 <| gh fun _ =>
      K (Value.tuple #[])
theorem sh114_eq (ω : Om) (a0 a1 : Value) (K : Value → M) : vcF Try.prog ω Try.f114 [a0, a1] K = sh114 ω a0 a1 K := by kernel_rfl
theorem cal114 {ω : Om} {a0 a1 : Value} {K : Value → M} {I : Imm} {L : LH} (h : sh114 ω a0 a1 (fun v => Gh (K v)) I L) : Cal Try.prog ω 114 #[a0, a1] K I L :=
  Cal.gh (cal_of_vc mixed Try.func114 (by rw [sh114_eq]; exact h))

def sh115_3 (ω : Om) (p1 : Value) (p2 : Value) (p6 : Value) (K : Value → M) : M :=
  Gd p6 true
    (Pv (fldV 8 p1) fun v43 =>
    Rv none (ld1R v43) fun v44 =>
    Pv (unV .not v44) fun v45 =>
    K v45)
    (K (Value.bool false))
def sh115_4 (ω : Om) (p1 : Value) (p2 : Value) (p5 : Value) (p6 : Value) (p78 : Value) (K : Value → M) : M :=
  Pv (binIV .eql p78 (Value.int .i64 2)) fun v46 =>
  Br v46
    (Gd p6 true
      (K p5)
      (K (Value.bool false)))
    (Pv (binIV .eql p78 (Value.int .i64 3)) fun v47 =>
    Br v47
      (Pv (fldV 8 p1) fun v48 =>
      Rv none (ld1R v48) fun v49 =>
      Pv (unV .not v49) fun v50 =>
      Gd v50 true
        (Pv (fldV 10 p1) fun v51 =>
        Rv none (ld1R v51) fun v52 =>
        Pv (lenV v52) fun v53 =>
        Pv (binIV .eql v53 (Value.int .i64 0)) fun v54 =>
        Gd v54 true
          (Pv (fldV 11 p1) fun v55 =>
          Rv none (ld1R v55) fun v56 =>
          Pv (lenV v56) fun v57 =>
          Pv (binIV .eql v57 (Value.int .i64 0)) fun v58 =>
          Gd v58 true
            (Pv (fldV 6 p1) fun v59 =>
            Rv none (ld1R v59) fun v60 =>
            Pv (fldV 4 p1) fun v61 =>
            Rv none (ld1R v61) fun v62 =>
            Pv (binIV .leq v60 v62) fun v63 =>
            Gd v63 true
              (Rv none (ldNR 12 p1) fun v64 =>
              Cal Try.prog ω 129 #[v64] <| gh fun v65 =>
              K v65)
              (K (Value.bool false)))
            (K (Value.bool false)))
          (K (Value.bool false)))
        (K (Value.bool false)))
      (Pv (binIV .eql p78 (Value.int .i64 4)) fun v66 =>
      Br v66
        (Gd p6 true
          (Pv (fldV 6 p1) fun v67 =>
          Rv none (ld1R v67) fun v68 =>
          Pv (binIV .eql v68 (Value.int .i64 0)) fun v69 =>
          K v69)
          (K (Value.bool false)))
        (Pv (binIV .eql p78 (Value.int .i64 5)) fun v70 =>
        Br v70
          (Pv (fldV 8 p1) fun v71 =>
          Rv none (ld1R v71) fun v72 =>
          Pv (unV .not v72) fun v73 =>
          Gd v73 true
            (Pv (fldV 7 p1) fun v74 =>
            Rv none (ld1R v74) fun v75 =>
            Pv (binIV .eql v75 (Value.int .i64 0)) fun v76 =>
            Gd v76 true
              (Pv (fldV 6 p1) fun v77 =>
              Rv none (ld1R v77) fun v78 =>
              Pv (fldV 4 p1) fun v79 =>
              Rv none (ld1R v79) fun v80 =>
              Pv (binIV .leq v78 v80) fun v81 =>
              Gd v81 true
                (Pv (fldV 9 p1) fun v82 =>
                Rv none (ld1R v82) fun v83 =>
                Pv (lenV v83) fun v84 =>
                Pv (binIV .eql v84 (Value.int .i64 0)) fun v85 =>
                Gd v85 true
                  (Pv (fldV 10 p1) fun v86 =>
                  Rv none (ld1R v86) fun v87 =>
                  Cal Try.prog ω 130 #[v87] <| gh fun v88 =>
                  Gd v88 true
                    (Pv (fldV 11 p1) fun v89 =>
                    Rv none (ld1R v89) fun v90 =>
                    Pv (lenV v90) fun v91 =>
                    Pv (binIV .leq v91 (Value.int .i64 60000)) fun v92 =>
                    K v92)
                    (K (Value.bool false)))
                  (K (Value.bool false)))
                (K (Value.bool false)))
              (K (Value.bool false)))
            (K (Value.bool false)))
          (K (Value.bool false)))))
def sh115_1 (ω : Om) (p1 : Value) (p2 : Value) (K : Value → M) : M :=
  Pv (fldV 2 p1) fun v2 =>
  Rv none (ld1R v2) fun v3 =>
  Cal Try.prog ω 128 #[v3] <| gh fun v4 =>
  Pv (unV .not v4) fun v5 =>
  Gd v5 false
    (Pv (fldV 3 p1) fun v6 =>
    Rv none (ld1R v6) fun v7 =>
    Cal Try.prog ω 128 #[v7] <| gh fun v8 =>
    Pv (unV .not v8) fun v9 =>
    Gd v9 false
      (Pv (fldV 4 p1) fun v10 =>
      Rv none (ld1R v10) fun v11 =>
      Pv (binIV .lss v11 (Value.int .i64 1)) fun v12 =>
      Gd v12 false
        (Pv (fldV 1 p1) fun v13 =>
        Rv none (ld1R v13) fun v14 =>
        Pv (binIV .lss v14 (Value.int .i64 1)) fun v15 =>
        Gd v15 false
          (Pv (fldV 1 p1) fun v16 =>
          Rv none (ld1R v16) fun v17 =>
          Pv (binIV .gtr v17 (Value.int .i64 255)) fun v18 =>
          Br v18
            (K (Value.bool false))
            (Pv (fldV 5 p1) fun v19 =>
            Rv none (ld1R v19) fun v20 =>
            Pv (binIV .eql v20 (Value.int .i64 0)) fun v21 =>
            Gd v21 true
              (Pv (fldV 6 p1) fun v22 =>
              Rv none (ld1R v22) fun v23 =>
              Pv (binIV .eql v23 (Value.int .i64 0)) fun v24 =>
              Pv (fldV 9 p1) fun v25 =>
              Rv none (ld1R v25) fun v26 =>
              Pv (lenV v26) fun v27 =>
              Pv (binIV .eql v27 (Value.int .i64 0)) fun v28 =>
              Gd v28 true
                (Pv (fldV 10 p1) fun v29 =>
                Rv none (ld1R v29) fun v30 =>
                Pv (lenV v30) fun v31 =>
                Pv (binIV .eql v31 (Value.int .i64 0)) fun v32 =>
                Gd v32 true
                  (Pv (fldV 11 p1) fun v33 =>
                  Rv none (ld1R v33) fun v34 =>
                  Pv (lenV v34) fun v35 =>
                  Pv (binIV .eql v35 (Value.int .i64 0)) fun v36 =>
                  Gd v36 true
                    (Pv (fldV 7 p1) fun v37 =>
                    Rv none (ld1R v37) fun v38 =>
                    Pv (binIV .eql v38 (Value.int .i64 0)) fun v39 =>
                    Pv (fldV 0 p1) fun v40 =>
                    Rv none (ld1R v40) fun v41 =>
                    Pv (binIV .eql v41 (Value.int .i64 1)) fun v42 =>
                    Br v42
                      (sh115_3 ω p1 p2 v39 K)
                      (sh115_4 ω p1 p2 v24 v39 v41 K))
                    (Pv (fldV 0 p1) fun v93 =>
                    Rv none (ld1R v93) fun v94 =>
                    Pv (binIV .eql v94 (Value.int .i64 1)) fun v95 =>
                    Br v95
                      (sh115_3 ω p1 p2 (Value.bool false) K)
                      (sh115_4 ω p1 p2 v24 (Value.bool false) v94 K)))
                  (Pv (fldV 0 p1) fun v96 =>
                  Rv none (ld1R v96) fun v97 =>
                  Pv (binIV .eql v97 (Value.int .i64 1)) fun v98 =>
                  Br v98
                    (sh115_3 ω p1 p2 (Value.bool false) K)
                    (sh115_4 ω p1 p2 v24 (Value.bool false) v97 K)))
                (Pv (fldV 0 p1) fun v99 =>
                Rv none (ld1R v99) fun v100 =>
                Pv (binIV .eql v100 (Value.int .i64 1)) fun v101 =>
                Br v101
                  (sh115_3 ω p1 p2 (Value.bool false) K)
                  (sh115_4 ω p1 p2 v24 (Value.bool false) v100 K)))
              (Pv (fldV 9 p1) fun v102 =>
              Rv none (ld1R v102) fun v103 =>
              Pv (lenV v103) fun v104 =>
              Pv (binIV .eql v104 (Value.int .i64 0)) fun v105 =>
              Gd v105 true
                (Pv (fldV 10 p1) fun v106 =>
                Rv none (ld1R v106) fun v107 =>
                Pv (lenV v107) fun v108 =>
                Pv (binIV .eql v108 (Value.int .i64 0)) fun v109 =>
                Gd v109 true
                  (Pv (fldV 11 p1) fun v110 =>
                  Rv none (ld1R v110) fun v111 =>
                  Pv (lenV v111) fun v112 =>
                  Pv (binIV .eql v112 (Value.int .i64 0)) fun v113 =>
                  Gd v113 true
                    (Pv (fldV 7 p1) fun v114 =>
                    Rv none (ld1R v114) fun v115 =>
                    Pv (binIV .eql v115 (Value.int .i64 0)) fun v116 =>
                    Pv (fldV 0 p1) fun v117 =>
                    Rv none (ld1R v117) fun v118 =>
                    Pv (binIV .eql v118 (Value.int .i64 1)) fun v119 =>
                    Br v119
                      (sh115_3 ω p1 p2 v116 K)
                      (sh115_4 ω p1 p2 (Value.bool false) v116 v118 K))
                    (Pv (fldV 0 p1) fun v120 =>
                    Rv none (ld1R v120) fun v121 =>
                    Pv (binIV .eql v121 (Value.int .i64 1)) fun v122 =>
                    Br v122
                      (sh115_3 ω p1 p2 (Value.bool false) K)
                      (sh115_4 ω p1 p2 (Value.bool false) (Value.bool false) v121 K)))
                  (Pv (fldV 0 p1) fun v123 =>
                  Rv none (ld1R v123) fun v124 =>
                  Pv (binIV .eql v124 (Value.int .i64 1)) fun v125 =>
                  Br v125
                    (sh115_3 ω p1 p2 (Value.bool false) K)
                    (sh115_4 ω p1 p2 (Value.bool false) (Value.bool false) v124 K)))
                (Pv (fldV 0 p1) fun v126 =>
                Rv none (ld1R v126) fun v127 =>
                Pv (binIV .eql v127 (Value.int .i64 1)) fun v128 =>
                Br v128
                  (sh115_3 ω p1 p2 (Value.bool false) K)
                  (sh115_4 ω p1 p2 (Value.bool false) (Value.bool false) v127 K)))))
          (K (Value.bool false)))
        (K (Value.bool false)))
      (K (Value.bool false)))
    (K (Value.bool false))
def sh115_6 (ω : Om) (p1 : Value) (p15 : Value) (x2 : Value) (x16 : Value) (Kn0 : (Value × Value × Unit) → M) (K : Value → M) : M :=
  Pv (binIV .lss x16 (Value.int .i64 4)) fun v138 =>
  Br v138
    (Pv (ixAV false 1 4 p15 x16) fun v139 =>
    Cal Try.prog ω 127 #[v139] <| gh fun v140 =>
    Pv (unV .not v140) fun v141 =>
    Br v141
      (K (Value.bool false))
      (Pv (binIV .add x16 (Value.int .i64 1)) fun v142 =>
      Kn0 (x2, v142, ())))
    (sh115_1 ω p1 x2 K)
def sh115 (ω : Om) (a0 : Value) (K : Value → M) : M :=
  New (.cells (Value.cells a0) 77 (0, 0)) <| gh fun m_1 =>
  Pv (fldV 5 m_1) fun v129 =>
  Rv none (ld1R v129) fun v130 =>
  Pv (fldV 6 m_1) fun v131 =>
  Rv none (ld1R v131) fun v132 =>
  Pv (fldV 7 m_1) fun v133 =>
  Rv none (ld1R v133) fun v134 =>
  Pv (fldV 4 m_1) fun v135 =>
  Rv none (ld1R v135) fun v136 =>
  Pv (bldAV 1 #[(Value.int .i64 0), (Value.int .i64 0), (Value.int .i64 0), (Value.int .i64 0)] [(0, v130), (1, v132), (2, v134), (3, v136)]) fun v137 =>
  LoopM (((Value.bool false), (Value.int .i64 0), ()) : Value × Value × Unit) fun s Kn0 =>
  sh115_6 ω m_1 v137 s.1 s.2.1 Kn0 K
theorem sh115_eq (ω : Om) (a0 : Value) (K : Value → M) : vcF Try.prog ω Try.f115 [a0] K = sh115 ω a0 K := by kernel_rfl
theorem cal115 {ω : Om} {a0 : Value} {K : Value → M} {I : Imm} {L : LH} (h : sh115 ω a0 (fun v => Gh (K v)) I L) : Cal Try.prog ω 115 #[a0] K I L :=
  Cal.gh (cal_of_vc mixed Try.func115 (by rw [sh115_eq]; exact h))

def sh116_3 (ω : Om) (p0 : Value) (p5 : Value) (p8 : Value) (Kn0 : (Value × Unit) → M) (K : Value → M) : M :=
  Cal Try.prog ω 118 #[p0, p5] <| gh fun v5 =>
  Pv (binIV .add p8 (Value.int .i64 1)) fun v6 =>
  Kn0 (v6, ())
def sh116_5 (ω : Om) (p0 : Value) (p8 : Value) (x5 : Value) (Kn0 : (Value × Unit) → M) (Kn1 : (Value × Unit) → M) (K : Value → M) : M :=
  Pv (binIV .geq x5 (Value.int .i64 128)) fun v7 =>
  Br v7
    (Pv (binIV .and x5 (Value.int .i64 127)) fun v8 =>
    Pv (binIV .or v8 (Value.int .i64 128)) fun v9 =>
    Cal Try.prog ω 118 #[p0, v9] <| gh fun v10 =>
    Pv (binIV .shr x5 (Value.int .u64 7)) fun v11 =>
    Kn1 (v11, ()))
    (sh116_3 ω p0 x5 p8 Kn0 K)
def sh116_2 (ω : Om) (p0 : Value) (p6 : Value) (p7 : Value) (x8 : Value) (Kn0 : (Value × Unit) → M) (K : Value → M) : M :=
  Pv (binIV .lss x8 p7) fun v2 =>
  Br v2
    (Pv (ixV 1 p6 x8) fun v3 =>
    Rv none (ld1R v3) fun v4 =>
    LoopM ((v4, ()) : Value × Unit) fun s Kn1 =>
    sh116_5 ω p0 x8 s.1 Kn0 Kn1 K)
    (K (Value.tuple #[]))
def sh116 (ω : Om) (a0 : Value) (a1 : Value) (K : Value → M) : M :=
  Pv (lenV a1) fun v1 =>
  LoopM (((Value.int .i64 0), ()) : Value × Unit) fun s Kn0 =>
  sh116_2 ω a0 a1 v1 s.1 Kn0 K
theorem sh116_eq (ω : Om) (a0 a1 : Value) (K : Value → M) : vcF Try.prog ω Try.f116 [a0, a1] K = sh116 ω a0 a1 K := by kernel_rfl
theorem cal116 {ω : Om} {a0 a1 : Value} {K : Value → M} {I : Imm} {L : LH} (h : sh116 ω a0 a1 (fun v => Gh (K v)) I L) : Cal Try.prog ω 116 #[a0, a1] K I L :=
  Cal.gh (cal_of_vc mixed Try.func116 (by rw [sh116_eq]; exact h))

def sh117 (ω : Om) (a0 : Value) (a1 : Value) (K : Value → M) : M :=
  Br a1
    (Cal Try.prog ω 118 #[a0, (Value.int .i64 1)] <| gh fun v1 =>
    K (Value.tuple #[]))
    (Cal Try.prog ω 118 #[a0, (Value.int .i64 0)] <| gh fun v2 =>
    K (Value.tuple #[]))
theorem sh117_eq (ω : Om) (a0 a1 : Value) (K : Value → M) : vcF Try.prog ω Try.f117 [a0, a1] K = sh117 ω a0 a1 K := by kernel_rfl
theorem cal117 {ω : Om} {a0 a1 : Value} {K : Value → M} {I : Imm} {L : LH} (h : sh117 ω a0 a1 (fun v => Gh (K v)) I L) : Cal Try.prog ω 117 #[a0, a1] K I L :=
  Cal.gh (cal_of_vc mixed Try.func117 (by rw [sh117_eq]; exact h))

def sh118 (ω : Om) (a0 : Value) (a1 : Value) (K : Value → M) : M :=
  Pv (nilV a0) fun v1 =>
  Pv (fldV 0 v1) fun v2 =>
  Rv none (ld1R v2) fun v3 =>
  Pv (cvIV .u8 a1) fun v4 =>
  BldS 5 1 #[(Value.int .u8 0)] 1 [(0, v4)] <| gh fun v5 =>
  App 5 1 1 #[(Value.int .u8 0)] v3 v5 <| gh fun v6 =>
  Pv (nilV a0) fun v7 =>
  Pv (fldV 0 v7) fun v8 =>
  Sto 1 v8 v6 <| gh fun _ =>
  K (Value.tuple #[])
theorem sh118_eq (ω : Om) (a0 a1 : Value) (K : Value → M) : vcF Try.prog ω Try.f118 [a0, a1] K = sh118 ω a0 a1 K := by kernel_rfl
theorem cal118 {ω : Om} {a0 a1 : Value} {K : Value → M} {I : Imm} {L : LH} (h : sh118 ω a0 a1 (fun v => Gh (K v)) I L) : Cal Try.prog ω 118 #[a0, a1] K I L :=
  Cal.gh (cal_of_vc mixed Try.func118 (by rw [sh118_eq]; exact h))

def sh119 (ω : Om) (a0 : Value) (a1 : Value) (K : Value → M) : M :=
  Pv (lenV a1) fun v1 =>
  BldS 3 1 #[(Value.int .i64 0)] 1 [(0, v1)] <| gh fun v2 =>
  Cal Try.prog ω 116 #[a0, v2] <| gh fun v3 =>
  Pv (nilV a0) fun v4 =>
  Pv (fldV 0 v4) fun v5 =>
  Rv none (ld1R v5) fun v6 =>
  App 5 1 1 #[(Value.int .u8 0)] v6 a1 <| gh fun v7 =>
  Pv (nilV a0) fun v8 =>
  Pv (fldV 0 v8) fun v9 =>
  Sto 1 v9 v7 <| gh fun _ =>
  K (Value.tuple #[])
theorem sh119_eq (ω : Om) (a0 a1 : Value) (K : Value → M) : vcF Try.prog ω Try.f119 [a0, a1] K = sh119 ω a0 a1 K := by kernel_rfl
theorem cal119 {ω : Om} {a0 a1 : Value} {K : Value → M} {I : Imm} {L : LH} (h : sh119 ω a0 a1 (fun v => Gh (K v)) I L) : Cal Try.prog ω 119 #[a0, a1] K I L :=
  Cal.gh (cal_of_vc mixed Try.func119 (by rw [sh119_eq]; exact h))

def sh120 (ω : Om) (a0 : Value) (K : Value → M) : M :=
  Pv (lenV a0) fun v1 =>
  Pv (lenV a0) fun v2 =>
  Pv (slcV 1 a0 none (some v1) (some v2)) fun v3 =>
  K v3
theorem sh120_eq (ω : Om) (a0 : Value) (K : Value → M) : vcF Try.prog ω Try.f120 [a0] K = sh120 ω a0 K := by kernel_rfl
theorem cal120 {ω : Om} {a0 : Value} {K : Value → M} {I : Imm} {L : LH} (h : sh120 ω a0 (fun v => Gh (K v)) I L) : Cal Try.prog ω 120 #[a0] K I L :=
  Cal.gh (cal_of_vc mixed Try.func120 (by rw [sh120_eq]; exact h))

def sh121_1 (ω : Om) (p4 : Value) (p5 : Value) (p6 : Value) (K : Value → M) : M :=
  Pv (binIV .mul (Value.int .i64 2) p6) fun v5 =>
  Pv (lenV p5) fun v6 =>
  Pv (binIV .gtr v5 v6) fun v7 =>
  K v7
def sh121_4 (ω : Om) (p6 : Value) (p16 : Value) (Kn0 : (Value × Value × Unit) → M) (K : Value → M) : M :=
  Pv (binIV .add p16 (Value.int .i64 1)) fun v10 =>
  Kn0 (p6, v10, ())
def sh121_3 (ω : Om) (p1 : Value) (p4 : Value) (p5 : Value) (p14 : Value) (p15 : Value) (x6 : Value) (x16 : Value) (Kn0 : (Value × Value × Unit) → M) (K : Value → M) : M :=
  Pv (binIV .lss x16 p15) fun v9 =>
  Br v9
    (Pv (ixV 1 p14 x16) fun v11 =>
    Rv none (ld1R v11) fun v12 =>
    CalV Try.prog ω p1 #[v12] <| gh fun v13 =>
    Br v13
      (Pv (binIV .add x6 (Value.int .i64 1)) fun v14 =>
      sh121_4 ω v14 x16 Kn0 K)
      (sh121_4 ω x6 x16 Kn0 K))
    (sh121_1 ω p4 p5 x6 K)
def sh121 (ω : Om) (a0 : Value) (a1 : Value) (K : Value → M) : M :=
  Pv (nilV a0) fun v1 =>
  Pv (fldV 4 v1) fun v2 =>
  Rv none (ld1R v2) fun v3 =>
  Cal Try.prog ω 52 #[v3] <| gh fun v4 =>
  Pv (lenV v4) fun v8 =>
  LoopM (((Value.int .i64 0), (Value.int .i64 0), ()) : Value × Value × Unit) fun s Kn0 =>
  sh121_3 ω a1 (Value.bool false) v4 v4 v8 s.1 s.2.1 Kn0 K
theorem sh121_eq (ω : Om) (a0 a1 : Value) (K : Value → M) : vcF Try.prog ω Try.f121 [a0, a1] K = sh121 ω a0 a1 K := by kernel_rfl
theorem cal121 {ω : Om} {a0 a1 : Value} {K : Value → M} {I : Imm} {L : LH} (h : sh121 ω a0 a1 (fun v => Gh (K v)) I L) : Cal Try.prog ω 121 #[a0, a1] K I L :=
  Cal.gh (cal_of_vc mixed Try.func121 (by rw [sh121_eq]; exact h))

def sh122 (ω : Om) (a0 : Value) (a1 : Value) (K : Value → M) : M :=
  Rv none (ld1R a1) fun v1 =>
  Pv (nilV v1) fun v2 =>
  Pv (fldV 9 v2) fun v3 =>
  Pv (ixPV 1 6 v3 a0) fun v4 =>
  Rv none (ld1R v4) fun v5 =>
  K v5
theorem sh122_eq (ω : Om) (a0 a1 : Value) (K : Value → M) : vcF Try.prog ω Try.f122 [a0, a1] K = sh122 ω a0 a1 K := by kernel_rfl
theorem cal122 {ω : Om} {a0 a1 : Value} {K : Value → M} {I : Imm} {L : LH} (h : sh122 ω a0 a1 (fun v => Gh (K v)) I L) : Cal Try.prog ω 122 #[a0, a1] K I L :=
  Cal.gh (cal_of_vc mixed Try.func122 (by rw [sh122_eq]; exact h))

def sh123_3 (ω : Om) (p1 : Value) (p2 : Value) (p5 : Value) (K : Value → M) : M :=
  Draw fun S =>
    Rv (some S) (ld1R p1) fun v35 =>
    Rv (some S) (ld1R p1) fun v36 =>
    Pv (nilV v35) fun v37 =>
    Pv (fldV 6 v37) fun v38 =>
    Sto 1 v38 (Value.int .i64 1) <| gh <| Keep S fun _ =>
    Pv (nilV v36) fun v39 =>
    Pv (fldV 7 v39) fun v40 =>
    Sto 1 v40 (Value.int .i64 0) <| gh fun _ =>
    K p5
def sh123_1 (ω : Om) (p1 : Value) (p2 : Value) (p5 : Value) (K : Value → M) : M :=
  Draw fun S =>
    Rv (some S) (ld1R p1) fun v18 =>
    Pv (nilV v18) fun v19 =>
    Pv (fldV 4 v19) fun v20 =>
    Rv (some S) (ld1R v20) fun v21 =>
    Cal Try.prog ω 69 #[v21] <| gh <| Keep S fun v22 =>
    Pv (unV .not v22) fun v23 =>
    Gd v23 true
      (Rv (some S) (ld1R p1) fun v24 =>
      Pv (nilV v24) fun v25 =>
      Pv (fldV 4 v25) fun v26 =>
      Rv (some S) (ld1R v26) fun v27 =>
      Cal Try.prog ω 52 #[v27] <| gh <| Keep S fun v28 =>
      Rv (some S) (ld1R p1) fun v29 =>
      Pv (nilV v29) fun v30 =>
      Pv (fldV 1 v30) fun v31 =>
      Rv (some S) (ld1R v31) fun v32 =>
      Cal Try.prog ω 88 #[v28, v32] <| gh fun v33 =>
      Pv (unV .not v33) fun v34 =>
      Br v34
        (sh123_3 ω p1 p2 p5 K)
        (K p5))
      ((fun I L => S I L ∧ (K p5) I L))
def sh123_6 (ω : Om) (p5 : Value) (p6 : Value) (Kn0 : (Value × Value × Unit) → M) (K : Value → M) : M :=
  Rv none (ld1R p6) fun v49 =>
  New (.cells #[(Value.int .i64 0)] 3 (0, 0)) <| gh fun n_50 =>
  Sto 1 n_50 v49 <| gh fun _ =>
  Rv none (ld1R n_50) fun v51 =>
  Pv (binIV .sub v51 (Value.int .i64 1)) fun v52 =>
  Sto 1 n_50 v52 <| gh fun _ =>
  Kn0 (p5, n_50, ())
def sh123_8 (ω : Om) (p1 : Value) (p5 : Value) (p6 : Value) (Kn0 : (Value × Value × Unit) → M) (K : Value → M) : M :=
  Draw fun S =>
    Rv (some S) (ld1R p1) fun v68 =>
    Pv (nilV v68) fun v69 =>
    Pv (fldV 4 v69) fun v70 =>
    Rv (some S) (ld1R v70) fun v71 =>
    Rv (some S) (ld1R p6) fun v72 =>
    Cal Try.prog ω 27 #[v71, v72] <| gh fun v73 =>
    sh123_6 ω (Value.bool true) p6 Kn0 K
def sh123_5 (ω : Om) (p1 : Value) (p2 : Value) (x5 : Value) (x6 : Value) (Kn0 : (Value × Value × Unit) → M) (K : Value → M) : M :=
  Draw fun S =>
    Rv (some S) (ld1R x6) fun v42 =>
    Rv (some S) (ld1R p1) fun v43 =>
    Pv (nilV v43) fun v44 =>
    Pv (fldV 4 v44) fun v45 =>
    Rv (some S) (ld1R v45) fun v46 =>
    Cal Try.prog ω 22 #[v46] <| gh <| Keep S fun v47 =>
    Pv (binIV .gtr v42 v47) fun v48 =>
    Br v48
      (Draw fun S =>
        Rv (some S) (ld1R p1) fun v53 =>
        Pv (nilV v53) fun v54 =>
        Pv (fldV 4 v54) fun v55 =>
        Rv (some S) (ld1R v55) fun v56 =>
        Rv (some S) (ld1R x6) fun v57 =>
        Cal Try.prog ω 15 #[v56, v57] <| gh fun v58 =>
        Pv (exV v58 0) fun v59 =>
        Pv (exV v58 1) fun v60 =>
        Rv none (ld1R p1) fun v61 =>
        Pv (nilV v61) fun v62 =>
        Pv (fldV 2 v62) fun v63 =>
        Rv none (ld1R v63) fun v64 =>
        Pv (binIV .eql v59 v64) fun v65 =>
        Gd v65 true
          (Rv none (ld1R p1) fun v66 =>
          Cal Try.prog ω 121 #[v66, (Value.func (Fn.func 131) #[] #[p1, x6])] <| gh fun v67 =>
          Br v67
            (sh123_8 ω p1 x5 x6 Kn0 K)
            (sh123_6 ω x5 x6 Kn0 K))
          (sh123_6 ω x5 x6 Kn0 K))
      (sh123_1 ω p1 p2 x5 K)
def sh123 (ω : Om) (a0 : Value) (K : Value → M) : M :=
  New (.cells (Value.cells a0) 72 (0, 0)) <| gh fun r_1 =>
  Rv none (ld1R r_1) fun v2 =>
  Pv (nilV v2) fun v3 =>
  Pv (fldV 4 v3) fun v4 =>
  Rv none (ld1R v4) fun v5 =>
  Cal Try.prog ω 54 #[v5] <| gh fun v6 =>
  Pv (exV v6 0) fun v7 =>
  Pv (exV v6 1) fun v8 =>
  Draw fun S =>
    Rv (some S) (ld1R r_1) fun v9 =>
    Rv (some S) (ld1R r_1) fun v10 =>
    Pv (nilV v10) fun v11 =>
    Pv (fldV 1 v11) fun v12 =>
    Rv (some S) (ld1R v12) fun v13 =>
    Pv (nilV v9) fun v14 =>
    Pv (fldV 15 v14) fun v15 =>
    Pv (ixPV 2 6 v15 v13) fun v16 =>
    Pv (fldV 1 v16) fun v17 =>
    Sto 1 v17 v7 <| gh fun _ =>
    New (.cells #[(Value.int .i64 0)] 3 (0, 0)) <| gh fun n_41 =>
    Sto 1 n_41 v7 <| gh fun _ =>
    LoopM (((Value.bool false), n_41, ()) : Value × Value × Unit) fun s Kn0 =>
    sh123_5 ω r_1 (Value.bool false) s.1 s.2.1 Kn0 K
theorem sh123_eq (ω : Om) (a0 : Value) (K : Value → M) : vcF Try.prog ω Try.f123 [a0] K = sh123 ω a0 K := by kernel_rfl
theorem cal123 {ω : Om} {a0 : Value} {K : Value → M} {I : Imm} {L : LH} (h : sh123 ω a0 (fun v => Gh (K v)) I L) : Cal Try.prog ω 123 #[a0] K I L :=
  Cal.gh (cal_of_vc mixed Try.func123 (by rw [sh123_eq]; exact h))

def sh124 (ω : Om) (a0 : Value) (a1 : Value) (K : Value → M) : M :=
  Pv (nilV a0) fun v1 =>
  Pv (fldV 6 v1) fun v2 =>
  Rv none (ld1R v2) fun v3 =>
  Pv (binIV .eql v3 (Value.int .i64 3)) fun v4 =>
  Br v4
    (K (Value.bool false))
    (Pv (nilV a0) fun v5 =>
    Pv (fldV 6 v5) fun v6 =>
    Sto 1 v6 (Value.int .i64 1) <| gh fun _ =>
    Pv (nilV a0) fun v7 =>
    Pv (fldV 7 v7) fun v8 =>
    Sto 1 v8 a1 <| gh fun _ =>
    Pv (nilV a0) fun v9 =>
    Pv (fldV 8 v9) fun v10 =>
    Sto 1 v10 (Value.int .i64 0) <| gh fun _ =>
    K (Value.bool true))
theorem sh124_eq (ω : Om) (a0 a1 : Value) (K : Value → M) : vcF Try.prog ω Try.f124 [a0, a1] K = sh124 ω a0 a1 K := by kernel_rfl
theorem cal124 {ω : Om} {a0 a1 : Value} {K : Value → M} {I : Imm} {L : LH} (h : sh124 ω a0 a1 (fun v => Gh (K v)) I L) : Cal Try.prog ω 124 #[a0, a1] K I L :=
  Cal.gh (cal_of_vc mixed Try.func124 (by rw [sh124_eq]; exact h))

def sh125_1 (ω : Om) (p2 : Value) (p3 : Value) (K : Value → M) : M :=
  Cal Try.prog ω 26 #[p3] <| gh fun v3 =>
  K v3
def sh125_3 (ω : Om) (p0 : Value) (p2 : Value) (x3 : Value) (x4 : Value) (Kn0 : (Value × Value × Unit) → M) (K : Value → M) : M :=
  Pv (lenV p0) fun v4 =>
  Pv (binIV .lss x4 v4) fun v5 =>
  Br v5
    (Pv (ixV 1 p0 x4) fun v6 =>
    Rv none (ld1R v6) fun v7 =>
    Pv (cvIV .i64 v7) fun v8 =>
    BldS 3 1 #[(Value.int .i64 0)] 1 [(0, v8)] <| gh fun v9 =>
    App 3 1 8 #[(Value.int .i64 0)] x3 v9 <| gh fun v10 =>
    Pv (binIV .add x4 (Value.int .i64 1)) fun v11 =>
    Kn0 (v10, v11, ()))
    (sh125_1 ω p2 x3 K)
def sh125 (ω : Om) (a0 : Value) (K : Value → M) : M :=
  Pv (lenV a0) fun v1 =>
  Pv (binIV .gtr v1 (Value.int .i64 5)) fun v2 =>
  Br v2
    (K (Value.bool false))
    (LoopM (((Value.slice none 0 0), (Value.int .i64 0), ()) : Value × Value × Unit) fun s Kn0 =>
    sh125_3 ω a0 (Value.bool false) s.1 s.2.1 Kn0 K)
theorem sh125_eq (ω : Om) (a0 : Value) (K : Value → M) : vcF Try.prog ω Try.f125 [a0] K = sh125 ω a0 K := by kernel_rfl
theorem cal125 {ω : Om} {a0 : Value} {K : Value → M} {I : Imm} {L : LH} (h : sh125 ω a0 (fun v => Gh (K v)) I L) : Cal Try.prog ω 125 #[a0] K I L :=
  Cal.gh (cal_of_vc mixed Try.func125 (by rw [sh125_eq]; exact h))

def sh126_3 (ω : Om) (p0 : Value) (p1 : Value) (p7 : Value) (x4 : Value) (x8 : Value) (Kn0 : (Value × Value × Unit) → M) (K : Value → M) : M :=
  Pv (binIV .lss x8 p7) fun v2 =>
  Br v2
    (Pv (ixV 4 p0 x8) fun v3 =>
    Rv none (ldNR 4 v3) fun v4 =>
    CalV Try.prog ω p1 #[v4] <| gh fun v5 =>
    Br v5
      (K x8)
      (Pv (binIV .add x8 (Value.int .i64 1)) fun v6 =>
      Kn0 (x4, v6, ())))
    (K (Value.int .i64 (-1)))
def sh126 (ω : Om) (a0 : Value) (a1 : Value) (K : Value → M) : M :=
  Pv (lenV a0) fun v1 =>
  LoopM (((Value.int .i64 0), (Value.int .i64 0), ()) : Value × Value × Unit) fun s Kn0 =>
  sh126_3 ω a0 a1 v1 s.1 s.2.1 Kn0 K
theorem sh126_eq (ω : Om) (a0 a1 : Value) (K : Value → M) : vcF Try.prog ω Try.f126 [a0, a1] K = sh126 ω a0 a1 K := by kernel_rfl
theorem cal126 {ω : Om} {a0 a1 : Value} {K : Value → M} {I : Imm} {L : LH} (h : sh126 ω a0 a1 (fun v => Gh (K v)) I L) : Cal Try.prog ω 126 #[a0, a1] K I L :=
  Cal.gh (cal_of_vc mixed Try.func126 (by rw [sh126_eq]; exact h))

def sh127 (ω : Om) (a0 : Value) (K : Value → M) : M :=
  Pv (binIV .geq a0 (Value.int .i64 0)) fun v1 =>
  Gd v1 true
    (Pv (binIV .leq a0 (Value.int .i64 9007199254740991)) fun v2 =>
    K v2)
    (K (Value.bool false))
theorem sh127_eq (ω : Om) (a0 : Value) (K : Value → M) : vcF Try.prog ω Try.f127 [a0] K = sh127 ω a0 K := by kernel_rfl
theorem cal127 {ω : Om} {a0 : Value} {K : Value → M} {I : Imm} {L : LH} (h : sh127 ω a0 (fun v => Gh (K v)) I L) : Cal Try.prog ω 127 #[a0] K I L :=
  Cal.gh (cal_of_vc mixed Try.func127 (by rw [sh127_eq]; exact h))

def sh128 (ω : Om) (a0 : Value) (K : Value → M) : M :=
  Pv (binIV .geq a0 (Value.int .i64 1)) fun v1 =>
  Gd v1 true
    (Pv (binIV .leq a0 (Value.int .i64 5)) fun v2 =>
    K v2)
    (K (Value.bool false))
theorem sh128_eq (ω : Om) (a0 : Value) (K : Value → M) : vcF Try.prog ω Try.f128 [a0] K = sh128 ω a0 K := by kernel_rfl
theorem cal128 {ω : Om} {a0 : Value} {K : Value → M} {I : Imm} {L : LH} (h : sh128 ω a0 (fun v => Gh (K v)) I L) : Cal Try.prog ω 128 #[a0] K I L :=
  Cal.gh (cal_of_vc mixed Try.func128 (by rw [sh128_eq]; exact h))

def sh129_3 (ω : Om) (p1 : Value) (p10 : Value) (p11 : Value) (x2 : Value) (x12 : Value) (Kn0 : (Value × Value × Unit) → M) (K : Value → M) : M :=
  Pv (binIV .lss x12 p11) fun v9 =>
  Br v9
    (Pv (ixV 4 p10 x12) fun v10 =>
    Rv none (ldNR 4 v10) fun v11 =>
    New (.cells #[(Value.int .i64 0), (Value.int .i64 0), (Value.int .i64 0), (Value.slice none 0 0)] 59 (0, 0)) <| gh fun e_12 =>
    Sto 4 e_12 v11 <| gh fun _ =>
    Rv none (ldNR 4 e_12) fun v13 =>
    Cal Try.prog ω 132 #[v13] <| gh fun v14 =>
    Pv (unV .not v14) fun v15 =>
    Gd v15 false
      (Pv (fldV 0 e_12) fun v16 =>
      Rv none (ld1R v16) fun v17 =>
      Pv (fldV 5 p1) fun v18 =>
      Rv none (ld1R v18) fun v19 =>
      Pv (binIV .add v19 (Value.int .i64 1)) fun v20 =>
      Pv (binIV .add v20 x12) fun v21 =>
      Pv (binIV .neq v17 v21) fun v22 =>
      Gd v22 false
        (Pv (fldV 1 e_12) fun v23 =>
        Rv none (ld1R v23) fun v24 =>
        Pv (fldV 4 p1) fun v25 =>
        Rv none (ld1R v25) fun v26 =>
        Pv (binIV .gtr v24 v26) fun v27 =>
        Br v27
          (K (Value.bool false))
          (Pv (binIV .add x12 (Value.int .i64 1)) fun v28 =>
          Kn0 (x2, v28, ())))
        (K (Value.bool false)))
      (K (Value.bool false)))
    (K (Value.bool true))
def sh129 (ω : Om) (a0 : Value) (K : Value → M) : M :=
  New (.cells (Value.cells a0) 77 (0, 0)) <| gh fun m_1 =>
  Pv (fldV 9 m_1) fun v2 =>
  Rv none (ld1R v2) fun v3 =>
  Pv (lenV v3) fun v4 =>
  Pv (binIV .gtr v4 (Value.int .i64 64)) fun v5 =>
  Br v5
    (K (Value.bool false))
    (Pv (fldV 9 m_1) fun v6 =>
    Rv none (ld1R v6) fun v7 =>
    Pv (lenV v7) fun v8 =>
    LoopM (((Value.bool false), (Value.int .i64 0), ()) : Value × Value × Unit) fun s Kn0 =>
    sh129_3 ω m_1 v7 v8 s.1 s.2.1 Kn0 K)
theorem sh129_eq (ω : Om) (a0 : Value) (K : Value → M) : vcF Try.prog ω Try.f129 [a0] K = sh129 ω a0 K := by kernel_rfl
theorem cal129 {ω : Om} {a0 : Value} {K : Value → M} {I : Imm} {L : LH} (h : sh129 ω a0 (fun v => Gh (K v)) I L) : Cal Try.prog ω 129 #[a0] K I L :=
  Cal.gh (cal_of_vc mixed Try.func129 (by rw [sh129_eq]; exact h))

def sh130_1 (ω : Om) (p0 : Value) (p2 : Value) (K : Value → M) : M :=
  Pv (lenV p0) fun v1 =>
  Pv (binIV .gtr v1 (Value.int .i64 0)) fun v2 =>
  K v2
def sh130_3 (ω : Om) (p0 : Value) (p5 : Value) (p6 : Value) (x2 : Value) (x7 : Value) (Kn0 : (Value × Value × Unit) → M) (K : Value → M) : M :=
  Pv (binIV .lss x7 p6) fun v4 =>
  Br v4
    (Pv (ixV 1 p5 x7) fun v5 =>
    Rv none (ld1R v5) fun v6 =>
    Cal Try.prog ω 128 #[v6] <| gh fun v7 =>
    Pv (unV .not v7) fun v8 =>
    Gd v8 false
      (Pv (binIV .gtr x7 (Value.int .i64 0)) fun v9 =>
      Gd v9 true
        (Pv (binIV .sub x7 (Value.int .i64 1)) fun v10 =>
        Pv (ixV 1 p0 v10) fun v11 =>
        Rv none (ld1R v11) fun v12 =>
        Pv (binIV .leq v6 v12) fun v13 =>
        Br v13
          (K (Value.bool false))
          (Pv (binIV .add x7 (Value.int .i64 1)) fun v14 =>
          Kn0 (x2, v14, ())))
        (Pv (binIV .add x7 (Value.int .i64 1)) fun v15 =>
        Kn0 (x2, v15, ())))
      (K (Value.bool false)))
    (sh130_1 ω p0 x2 K)
def sh130 (ω : Om) (a0 : Value) (K : Value → M) : M :=
  Pv (lenV a0) fun v3 =>
  LoopM (((Value.bool false), (Value.int .i64 0), ()) : Value × Value × Unit) fun s Kn0 =>
  sh130_3 ω a0 a0 v3 s.1 s.2.1 Kn0 K
theorem sh130_eq (ω : Om) (a0 : Value) (K : Value → M) : vcF Try.prog ω Try.f130 [a0] K = sh130 ω a0 K := by kernel_rfl
theorem cal130 {ω : Om} {a0 : Value} {K : Value → M} {I : Imm} {L : LH} (h : sh130 ω a0 (fun v => Gh (K v)) I L) : Cal Try.prog ω 130 #[a0] K I L :=
  Cal.gh (cal_of_vc mixed Try.func130 (by rw [sh130_eq]; exact h))

def sh131 (ω : Om) (a0 : Value) (a1 : Value) (a2 : Value) (K : Value → M) : M :=
  Draw fun S =>
    Rv (some S) (ld1R a1) fun v1 =>
    Pv (nilV v1) fun v2 =>
    Pv (fldV 15 v2) fun v3 =>
    Pv (ixPV 2 6 v3 a0) fun v4 =>
    Pv (fldV 1 v4) fun v5 =>
    Rv (some S) (ld1R v5) fun v6 =>
    Rv (some S) (ld1R a2) fun v7 =>
    Pv (binIV .geq v6 v7) fun v8 =>
    K v8
theorem sh131_eq (ω : Om) (a0 a1 a2 : Value) (K : Value → M) : vcF Try.prog ω Try.f131 [a0, a1, a2] K = sh131 ω a0 a1 a2 K := by kernel_rfl
theorem cal131 {ω : Om} {a0 a1 a2 : Value} {K : Value → M} {I : Imm} {L : LH} (h : sh131 ω a0 a1 a2 (fun v => Gh (K v)) I L) : Cal Try.prog ω 131 #[a0, a1, a2] K I L :=
  Cal.gh (cal_of_vc mixed Try.func131 (by rw [sh131_eq]; exact h))

def sh132_2 (ω : Om) (p1 : Value) (p2 : Value) (K : Value → M) : M :=
  Pv (fldV 3 p1) fun v16 =>
  Rv none (ld1R v16) fun v17 =>
  Pv (lenV v17) fun v18 =>
  Pv (binIV .eql v18 (Value.int .i64 0)) fun v19 =>
  K v19
def sh132_3 (ω : Om) (p1 : Value) (p2 : Value) (p19 : Value) (K : Value → M) : M :=
  Pv (binIV .eql p19 (Value.int .i64 2)) fun v20 =>
  Br v20
    (Pv (fldV 3 p1) fun v21 =>
    Rv none (ld1R v21) fun v22 =>
    Pv (lenV v22) fun v23 =>
    Pv (binIV .leq v23 (Value.int .i64 12000)) fun v24 =>
    K v24)
    (Pv (binIV .eql p19 (Value.int .i64 3)) fun v25 =>
    Br v25
      (Pv (fldV 3 p1) fun v26 =>
      Rv none (ld1R v26) fun v27 =>
      Pv (lenV v27) fun v28 =>
      Pv (binIV .leq v28 (Value.int .i64 5)) fun v29 =>
      Gd v29 true
        (Pv (fldV 3 p1) fun v30 =>
        Rv none (ld1R v30) fun v31 =>
        Cal Try.prog ω 133 #[v31] <| gh fun v32 =>
        Cal Try.prog ω 130 #[v32] <| gh fun v33 =>
        K v33)
        (K (Value.bool false)))
      (K (Value.bool false)))
def sh132 (ω : Om) (a0 : Value) (K : Value → M) : M :=
  New (.cells (Value.cells a0) 59 (0, 0)) <| gh fun e_1 =>
  Pv (fldV 0 e_1) fun v2 =>
  Rv none (ld1R v2) fun v3 =>
  Cal Try.prog ω 127 #[v3] <| gh fun v4 =>
  Pv (unV .not v4) fun v5 =>
  Gd v5 false
    (Pv (fldV 1 e_1) fun v6 =>
    Rv none (ld1R v6) fun v7 =>
    Cal Try.prog ω 127 #[v7] <| gh fun v8 =>
    Pv (unV .not v8) fun v9 =>
    Gd v9 false
      (Pv (fldV 1 e_1) fun v10 =>
      Rv none (ld1R v10) fun v11 =>
      Pv (binIV .lss v11 (Value.int .i64 1)) fun v12 =>
      Br v12
        (K (Value.bool false))
        (Pv (fldV 2 e_1) fun v13 =>
        Rv none (ld1R v13) fun v14 =>
        Pv (binIV .eql v14 (Value.int .i64 1)) fun v15 =>
        Br v15
          (sh132_2 ω e_1 (Value.bool false) K)
          (sh132_3 ω e_1 (Value.bool false) v14 K)))
      (K (Value.bool false)))
    (K (Value.bool false))
theorem sh132_eq (ω : Om) (a0 : Value) (K : Value → M) : vcF Try.prog ω Try.f132 [a0] K = sh132 ω a0 K := by kernel_rfl
theorem cal132 {ω : Om} {a0 : Value} {K : Value → M} {I : Imm} {L : LH} (h : sh132 ω a0 (fun v => Gh (K v)) I L) : Cal Try.prog ω 132 #[a0] K I L :=
  Cal.gh (cal_of_vc mixed Try.func132 (by rw [sh132_eq]; exact h))

def sh133_3 (ω : Om) (p2 : Value) (p6 : Value) (p7 : Value) (x3 : Value) (x8 : Value) (Kn0 : (Value × Value × Unit) → M) (K : Value → M) : M :=
  Pv (binIV .lss x8 p7) fun v2 =>
  Br v2
    (Pv (ixV 1 p6 x8) fun v3 =>
    Rv none (ld1R v3) fun v4 =>
    Pv (cvIV .i64 v4) fun v5 =>
    BldS 3 1 #[(Value.int .i64 0)] 1 [(0, v5)] <| gh fun v6 =>
    App 3 1 8 #[(Value.int .i64 0)] x3 v6 <| gh fun v7 =>
    Pv (binIV .add x8 (Value.int .i64 1)) fun v8 =>
    Kn0 (v7, v8, ()))
    (K x3)
def sh133 (ω : Om) (a0 : Value) (K : Value → M) : M :=
  Pv (lenV a0) fun v1 =>
  LoopM (((Value.slice none 0 0), (Value.int .i64 0), ()) : Value × Value × Unit) fun s Kn0 =>
  sh133_3 ω (Value.slice none 0 0) a0 v1 s.1 s.2.1 Kn0 K
theorem sh133_eq (ω : Om) (a0 : Value) (K : Value → M) : vcF Try.prog ω Try.f133 [a0] K = sh133 ω a0 K := by kernel_rfl
theorem cal133 {ω : Om} {a0 : Value} {K : Value → M} {I : Imm} {L : LH} (h : sh133 ω a0 (fun v => Gh (K v)) I L) : Cal Try.prog ω 133 #[a0] K I L :=
  Cal.gh (cal_of_vc mixed Try.func133 (by rw [sh133_eq]; exact h))

theorem bld_1 (x0 : Int) (x1 : Int) (x2 : Option Addr) (x3 : Nat) (x4 : Nat) : bldV #[(Value.int .i64 0), (Value.int .i64 0), (Value.slice none 0 0)] #[(0, 1), (1, 1), (2, 1)] [(0, .int .i64 x0), (1, .int .i64 x1), (2, .slice x2 x3 x4)] = some (.agg #[.int .i64 x0, .int .i64 x1, .slice x2 x3 x4]) := by kernel_rfl
theorem bld_2 (x0 : Int) (x1 : Int) (x2 : Int) : bldV #[(Value.int .i64 0), (Value.int .i64 0), (Value.int .i64 0)] #[(0, 1), (1, 1), (2, 1)] [(0, .int .i64 x0), (1, .int .i64 x1), (2, .int .i64 x2)] = some (.agg #[.int .i64 x0, .int .i64 x1, .int .i64 x2]) := by kernel_rfl
theorem bld_3 (x0 : Int) (x1 : Int) : bldV #[(Value.int .i64 0), (Value.int .i64 0), (Value.int .i64 0)] #[(0, 1), (1, 1), (2, 1)] [(0, .int .i64 x0), (1, .int .i64 x1)] = some (.agg #[.int .i64 x0, .int .i64 x1, (Value.int .i64 0)]) := by kernel_rfl
theorem bld_4 (x0 : Int) (x1 : Int) : bldV #[(Value.int .i64 0), (Value.int .i64 0), (Value.int .i64 0)] #[(0, 1), (1, 1), (2, 1)] [(0, .int .i64 x0), (2, .int .i64 x1)] = some (.agg #[.int .i64 x0, (Value.int .i64 0), .int .i64 x1]) := by kernel_rfl
theorem bld_5 (x0 : Int) : bldV #[(Value.int .i64 0), (Value.int .i64 0), (Value.int .i64 0)] #[(0, 1), (1, 1), (2, 1)] [(0, .int .i64 x0)] = some (.agg #[.int .i64 x0, (Value.int .i64 0), (Value.int .i64 0)]) := by kernel_rfl
theorem bld_6 (x0 : Option Addr) (x1 : Nat) (x2 : Nat) : bldV #[(Value.int .i64 0), (Value.int .i64 0), (Value.slice none 0 0)] #[(0, 1), (1, 1), (2, 1)] [(2, .slice x0 x1 x2)] = some (.agg #[(Value.int .i64 0), (Value.int .i64 0), .slice x0 x1 x2]) := by kernel_rfl
theorem bld_7 (x0 : Int) (x1 : Int) (x2 : Option Addr) (x3 : Nat) (x4 : Nat) : bldV #[(Value.int .i64 0), (Value.int .i64 0), (Value.slice none 0 0), (Value.slice none 0 0), (Value.int .i64 0)] #[(0, 3), (3, 1), (4, 1)] [(0, .agg #[.int .i64 x0, .int .i64 x1, .slice x2 x3 x4])] = some (.agg #[.int .i64 x0, .int .i64 x1, .slice x2 x3 x4, (Value.slice none 0 0), (Value.int .i64 0)]) := by kernel_rfl
theorem bld_8 (x0 : Int) (x1 : Int) (x2 : Int) (x3 : Option Addr) (x4 : Nat) (x5 : Nat) : bldV #[(Value.int .i64 0), (Value.int .i64 0), (Value.int .i64 0), (Value.slice none 0 0)] #[(0, 1), (1, 1), (2, 1), (3, 1)] [(0, .int .i64 x0), (1, .int .i64 x1), (2, .int .i64 x2), (3, .slice x3 x4 x5)] = some (.agg #[.int .i64 x0, .int .i64 x1, .int .i64 x2, .slice x3 x4 x5]) := by kernel_rfl
theorem bld_9 (x0 : Int) (x1 : Int) (x2 : Option Addr) (x3 : Nat) (x4 : Nat) (x5 : Option Addr) (x6 : Nat) (x7 : Nat) (x8 : Int) : bldV #[(Value.int .i64 0), (Value.int .i64 0), (Value.slice none 0 0), (Value.slice none 0 0), (Value.int .i64 0)] #[(0, 3), (3, 1), (4, 1)] [(0, .agg #[.int .i64 x0, .int .i64 x1, .slice x2 x3 x4]), (1, .slice x5 x6 x7), (2, .int .i64 x8)] = some (.agg #[.int .i64 x0, .int .i64 x1, .slice x2 x3 x4, .slice x5 x6 x7, .int .i64 x8]) := by kernel_rfl
theorem bld_10 (x0 : Int) (x1 : Int) (x2 : Option Addr) (x3 : Nat) (x4 : Nat) (x5 : Option Addr) (x6 : Nat) (x7 : Nat) (x8 : Int) : bldV #[(Value.int .i64 0), (Value.int .i64 0), (Value.slice none 0 0), (Value.slice none 0 0), (Value.int .i64 0)] #[(0, 1), (1, 1), (2, 1), (3, 1), (4, 1)] [(0, .int .i64 x0), (1, .int .i64 x1), (2, .slice x2 x3 x4), (3, .slice x5 x6 x7), (4, .int .i64 x8)] = some (.agg #[.int .i64 x0, .int .i64 x1, .slice x2 x3 x4, .slice x5 x6 x7, .int .i64 x8]) := by kernel_rfl
theorem bld_11  : bldV #[(Value.int .i64 0), (Value.int .i64 0), (Value.int .i64 0), (Value.slice none 0 0)] #[(0, 1), (1, 1), (2, 1), (3, 1)] [] = some (.agg #[(Value.int .i64 0), (Value.int .i64 0), (Value.int .i64 0), (Value.slice none 0 0)]) := by kernel_rfl
theorem bld_12 (x0 : Option Addr) (x1 : Nat) (x2 : Nat) : bldV #[(Value.int .i64 0), (Value.int .i64 0), (Value.slice none 0 0), (Value.slice none 0 0), (Value.int .i64 0)] #[(0, 1), (1, 1), (2, 1), (3, 1), (4, 1)] [(2, .slice x0 x1 x2)] = some (.agg #[(Value.int .i64 0), (Value.int .i64 0), .slice x0 x1 x2, (Value.slice none 0 0), (Value.int .i64 0)]) := by kernel_rfl
theorem bld_13 (x0 : Int) (x1 : Int) (x2 : Int) (x3 : Int) (x4 : Option Addr) (x5 : Option Addr) (x6 : Nat) (x7 : Nat) (x8 : Int) : bldV #[(Value.int .i64 0), (Value.int .i64 0), (Value.int .i64 0), (Value.int .i64 0), (Value.pointer none), (Value.slice none 0 0), (Value.int .i64 0), (Value.int .i64 0), (Value.int .i64 0), (Value.bool false), (Value.bool false), (Value.bool false), (Value.bool false), (Value.bool false), (Value.bool false), (Value.int .i64 0), (Value.int .i64 0), (Value.int .i64 0), (Value.int .i64 0), (Value.int .i64 0), (Value.int .i64 0), (Value.int .i64 0), (Value.int .i64 0), (Value.int .i64 0), (Value.int .i64 0), (Value.int .i64 0), (Value.int .i64 0), (Value.slice none 0 0)] #[(0, 1), (1, 1), (2, 1), (3, 1), (4, 1), (5, 1), (6, 1), (7, 1), (8, 1), (9, 6), (15, 12), (27, 1)] [(0, .int .i64 x0), (1, .int .i64 x1), (2, .int .i64 x2), (3, .int .i64 x3), (4, .pointer x4), (5, .slice x5 x6 x7), (6, .int .i64 x8)] = some (.agg #[.int .i64 x0, .int .i64 x1, .int .i64 x2, .int .i64 x3, .pointer x4, .slice x5 x6 x7, .int .i64 x8, (Value.int .i64 0), (Value.int .i64 0), (Value.bool false), (Value.bool false), (Value.bool false), (Value.bool false), (Value.bool false), (Value.bool false), (Value.int .i64 0), (Value.int .i64 0), (Value.int .i64 0), (Value.int .i64 0), (Value.int .i64 0), (Value.int .i64 0), (Value.int .i64 0), (Value.int .i64 0), (Value.int .i64 0), (Value.int .i64 0), (Value.int .i64 0), (Value.int .i64 0), (Value.slice none 0 0)]) := by kernel_rfl
theorem bld_14  : bldV #[(Value.pointer none), (Value.pointer none), (Value.pointer none), (Value.pointer none), (Value.pointer none), (Value.pointer none), (Value.slice none 0 0), (Value.slice none 0 0), (Value.slice none 0 0)] #[(0, 6), (6, 1), (7, 1), (8, 1)] [] = some (.agg #[(Value.pointer none), (Value.pointer none), (Value.pointer none), (Value.pointer none), (Value.pointer none), (Value.pointer none), (Value.slice none 0 0), (Value.slice none 0 0), (Value.slice none 0 0)]) := by kernel_rfl
theorem bld_15 (x0 : Int) (x1 : Int) (x2 : Int) (x3 : Int) (x4 : Option Addr) (x5 : Option Addr) (x6 : Nat) (x7 : Nat) (x8 : Int) : bldV #[(Value.int .i64 0), (Value.int .i64 0), (Value.int .i64 0), (Value.int .i64 0), (Value.pointer none), (Value.slice none 0 0), (Value.int .i64 0), (Value.int .i64 0), (Value.int .i64 0), (Value.bool false), (Value.bool false), (Value.bool false), (Value.bool false), (Value.bool false), (Value.bool false), (Value.int .i64 0), (Value.int .i64 0), (Value.int .i64 0), (Value.int .i64 0), (Value.int .i64 0), (Value.int .i64 0), (Value.int .i64 0), (Value.int .i64 0), (Value.int .i64 0), (Value.int .i64 0), (Value.int .i64 0), (Value.int .i64 0), (Value.slice none 0 0)] #[(0, 1), (1, 1), (2, 1), (3, 1), (4, 1), (5, 1), (6, 1), (7, 1), (8, 1), (9, 6), (15, 6), (21, 6), (27, 1)] [(0, .int .i64 x0), (1, .int .i64 x1), (2, .int .i64 x2), (3, .int .i64 x3), (4, .pointer x4), (5, .slice x5 x6 x7), (6, .int .i64 x8)] = some (.agg #[.int .i64 x0, .int .i64 x1, .int .i64 x2, .int .i64 x3, .pointer x4, .slice x5 x6 x7, .int .i64 x8, (Value.int .i64 0), (Value.int .i64 0), (Value.bool false), (Value.bool false), (Value.bool false), (Value.bool false), (Value.bool false), (Value.bool false), (Value.int .i64 0), (Value.int .i64 0), (Value.int .i64 0), (Value.int .i64 0), (Value.int .i64 0), (Value.int .i64 0), (Value.int .i64 0), (Value.int .i64 0), (Value.int .i64 0), (Value.int .i64 0), (Value.int .i64 0), (Value.int .i64 0), (Value.slice none 0 0)]) := by kernel_rfl
theorem bld_16 (x0 : Int) (x1 : Int) (x2 : Int) (x3 : Int) : bldV #[(Value.int .i64 0), (Value.int .i64 0), (Value.int .i64 0), (Value.int .i64 0), (Value.int .i64 0), (Value.int .i64 0), (Value.int .i64 0), (Value.int .i64 0), (Value.bool false), (Value.slice none 0 0), (Value.slice none 0 0), (Value.slice none 0 0)] #[(0, 1), (1, 1), (2, 1), (3, 1), (4, 1), (5, 1), (6, 1), (7, 1), (8, 1), (9, 1), (10, 1), (11, 1)] [(0, .int .i64 x0), (3, .int .i64 x1), (5, .int .i64 x2), (6, .int .i64 x3)] = some (.agg #[.int .i64 x0, (Value.int .i64 0), (Value.int .i64 0), .int .i64 x1, (Value.int .i64 0), .int .i64 x2, .int .i64 x3, (Value.int .i64 0), (Value.bool false), (Value.slice none 0 0), (Value.slice none 0 0), (Value.slice none 0 0)]) := by kernel_rfl
theorem bld_17 (x0 : Option Addr) (x1 : Nat) (x2 : Nat) : bldV #[(Value.slice none 0 0)] #[(0, 1)] [(0, .slice x0 x1 x2)] = some (.agg #[.slice x0 x1 x2]) := by kernel_rfl
theorem bld_18 (x0 : Int) (x1 : Int) : bldV #[(Value.int .i64 0), (Value.int .i64 0), (Value.int .i64 0), (Value.int .i64 0), (Value.int .i64 0), (Value.int .i64 0), (Value.int .i64 0), (Value.int .i64 0), (Value.bool false), (Value.slice none 0 0), (Value.slice none 0 0), (Value.slice none 0 0)] #[(0, 1), (1, 1), (2, 1), (3, 1), (4, 1), (5, 1), (6, 1), (7, 1), (8, 1), (9, 1), (10, 1), (11, 1)] [(0, .int .i64 x0), (3, .int .i64 x1)] = some (.agg #[.int .i64 x0, (Value.int .i64 0), (Value.int .i64 0), .int .i64 x1, (Value.int .i64 0), (Value.int .i64 0), (Value.int .i64 0), (Value.int .i64 0), (Value.bool false), (Value.slice none 0 0), (Value.slice none 0 0), (Value.slice none 0 0)]) := by kernel_rfl
theorem bld_19 (x0 : Int) (x1 : Int) (x2 : Bool) : bldV #[(Value.int .i64 0), (Value.int .i64 0), (Value.int .i64 0), (Value.int .i64 0), (Value.int .i64 0), (Value.int .i64 0), (Value.int .i64 0), (Value.int .i64 0), (Value.bool false), (Value.slice none 0 0), (Value.slice none 0 0), (Value.slice none 0 0)] #[(0, 1), (1, 1), (2, 1), (3, 1), (4, 1), (5, 1), (6, 1), (7, 1), (8, 1), (9, 1), (10, 1), (11, 1)] [(0, .int .i64 x0), (3, .int .i64 x1), (8, .bool x2)] = some (.agg #[.int .i64 x0, (Value.int .i64 0), (Value.int .i64 0), .int .i64 x1, (Value.int .i64 0), (Value.int .i64 0), (Value.int .i64 0), (Value.int .i64 0), .bool x2, (Value.slice none 0 0), (Value.slice none 0 0), (Value.slice none 0 0)]) := by kernel_rfl
theorem bld_20 (x0 : Int) : bldV #[(Value.int .i64 0), (Value.int .i64 0)] #[(0, 1), (1, 1)] [(0, .int .i64 x0)] = some (.agg #[.int .i64 x0, (Value.int .i64 0)]) := by kernel_rfl
theorem bld_21 (x0 : Int) (x1 : Int) (x2 : Bool) (x3 : Int) : bldV #[(Value.int .i64 0), (Value.int .i64 0), (Value.int .i64 0), (Value.int .i64 0), (Value.int .i64 0), (Value.int .i64 0), (Value.int .i64 0), (Value.int .i64 0), (Value.bool false), (Value.slice none 0 0), (Value.slice none 0 0), (Value.slice none 0 0)] #[(0, 1), (1, 1), (2, 1), (3, 1), (4, 1), (5, 1), (6, 1), (7, 1), (8, 1), (9, 1), (10, 1), (11, 1)] [(0, .int .i64 x0), (3, .int .i64 x1), (8, .bool x2), (5, .int .i64 x3)] = some (.agg #[.int .i64 x0, (Value.int .i64 0), (Value.int .i64 0), .int .i64 x1, (Value.int .i64 0), .int .i64 x3, (Value.int .i64 0), (Value.int .i64 0), .bool x2, (Value.slice none 0 0), (Value.slice none 0 0), (Value.slice none 0 0)]) := by kernel_rfl
theorem bld_22 (x0 : Int) (x1 : Int) (x2 : Int) (x3 : Int) (x4 : Option Addr) (x5 : Nat) (x6 : Nat) (x7 : Option Addr) (x8 : Nat) (x9 : Nat) : bldV #[(Value.int .i64 0), (Value.int .i64 0), (Value.int .i64 0), (Value.int .i64 0), (Value.int .i64 0), (Value.int .i64 0), (Value.int .i64 0), (Value.int .i64 0), (Value.bool false), (Value.slice none 0 0), (Value.slice none 0 0), (Value.slice none 0 0)] #[(0, 1), (1, 1), (2, 1), (3, 1), (4, 1), (5, 1), (6, 1), (7, 1), (8, 1), (9, 1), (10, 1), (11, 1)] [(0, .int .i64 x0), (3, .int .i64 x1), (5, .int .i64 x2), (6, .int .i64 x3), (10, .slice x4 x5 x6), (11, .slice x7 x8 x9)] = some (.agg #[.int .i64 x0, (Value.int .i64 0), (Value.int .i64 0), .int .i64 x1, (Value.int .i64 0), .int .i64 x2, .int .i64 x3, (Value.int .i64 0), (Value.bool false), (Value.slice none 0 0), .slice x4 x5 x6, .slice x7 x8 x9]) := by kernel_rfl
theorem bld_23 (x0 : Int) (x1 : Int) (x2 : Int) (x3 : Int) (x4 : Int) (x5 : Option Addr) (x6 : Nat) (x7 : Nat) : bldV #[(Value.int .i64 0), (Value.int .i64 0), (Value.int .i64 0), (Value.int .i64 0), (Value.int .i64 0), (Value.int .i64 0), (Value.int .i64 0), (Value.int .i64 0), (Value.bool false), (Value.slice none 0 0), (Value.slice none 0 0), (Value.slice none 0 0)] #[(0, 1), (1, 1), (2, 1), (3, 1), (4, 1), (5, 1), (6, 1), (7, 1), (8, 1), (9, 1), (10, 1), (11, 1)] [(0, .int .i64 x0), (3, .int .i64 x1), (5, .int .i64 x2), (6, .int .i64 x3), (7, .int .i64 x4), (9, .slice x5 x6 x7)] = some (.agg #[.int .i64 x0, (Value.int .i64 0), (Value.int .i64 0), .int .i64 x1, (Value.int .i64 0), .int .i64 x2, .int .i64 x3, .int .i64 x4, (Value.bool false), .slice x5 x6 x7, (Value.slice none 0 0), (Value.slice none 0 0)]) := by kernel_rfl
end Go.Proofs.Ytdcpeboecmkmlaa
