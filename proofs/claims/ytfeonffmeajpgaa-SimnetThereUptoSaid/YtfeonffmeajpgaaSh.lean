/- The shallow forms of the functions, printed by a program (goshallow.py). -/
import Derived.Test.YtfeonffmeajpgaaChecked
import Derived.Test.YtfeonffmeajpgaaSlRules
set_option maxRecDepth 100000
set_option linter.unusedVariables false
namespace Go.Proofs.Ytfeonffmeajpgaa
open Go.SL

theorem mixed : Try.prog.follows .mixedOrders = true := by kernel_rfl

def sh3_1 (ω : Om) (p2 : Value) (p3 : Value) (K : Value → M) : M :=
  K p3
def sh3_2 (ω : Om) (p2 : Value) (p3 : Value) (K : Value → M) : M :=
  sh3_1 ω p2 p3 K
def sh3_4 (ω : Om) (p2 : Value) (p5 : Value) (p6 : Value) (p7 : Value) (Kn0 : (Value × Value × Value × Value × Unit) → M) (K : Value → M) : M :=
  Pv (binIV .add p7 (Value.int .i64 1)) fun v7 =>
  Kn0 (p2, p5, p6, v7, ())
def sh3_5 (ω : Om) (p2 : Value) (p5 : Value) (p6 : Value) (p7 : Value) (Kn0 : (Value × Value × Value × Value × Unit) → M) (K : Value → M) : M :=
  sh3_4 ω p2 p5 p6 p7 Kn0 K
def sh3_6 (ω : Om) (p2 : Value) (p5 : Value) (p6 : Value) (p7 : Value) (Kn0 : (Value × Value × Value × Value × Unit) → M) (K : Value → M) : M :=
  sh3_5 ω p2 p5 p6 p7 Kn0 K
def sh3_7 (ω : Om) (p2 : Value) (p4 : Value) (p5 : Value) (p6 : Value) (p7 : Value) (p8 : Value) (Kn0 : (Value × Value × Value × Value × Unit) → M) (K : Value → M) : M :=
  Pv (fldV 2 p8) fun v14 =>
  Rv none (ldNR 5 v14) fun v15 =>
  Cal Try.prog ω 11 #[p4, v15] <| gh fun v16 =>
  Pv (exV v16 0) fun v17 =>
  Pv (exV v16 1) fun v18 =>
  Pv (binIV .eql v18 (Value.int .i64 0)) fun v19 =>
  Br v19
    (Pv (fldV 2 p8) fun v20 =>
    Rv none (ldNR 5 v20) fun v21 =>
    New (.cells #[(Value.int .i64 0), (Value.int .i64 0), (Value.int .i64 0), (Value.int .i64 0), (Value.slice none 0 0)] 30 (0, 0)) <| gh fun y_22 =>
    Sto 5 y_22 v21 <| gh fun _ =>
    Pv (fldV 0 y_22) fun v23 =>
    Sto 1 v23 v17 <| gh fun _ =>
    Rv none (ldNR 5 y_22) fun v24 =>
    BldS 30 5 #[(Value.int .i64 0), (Value.int .i64 0), (Value.int .i64 0), (Value.int .i64 0), (Value.slice none 0 0)] 1 [(0, v24)] <| gh fun v25 =>
    App 30 5 56 #[(Value.int .i64 0), (Value.int .i64 0), (Value.int .i64 0), (Value.int .i64 0), (Value.slice none 0 0)] p5 v25 <| gh fun v26 =>
    sh3_6 ω p2 v26 p6 p7 Kn0 K)
    (sh3_6 ω p2 p5 p6 p7 Kn0 K)
def sh3_9 (ω : Om) (p2 : Value) (p5 : Value) (p6 : Value) (p7 : Value) (Kn0 : (Value × Value × Value × Value × Unit) → M) (K : Value → M) : M :=
  sh3_6 ω p2 p5 p6 p7 Kn0 K
def sh3_11 (ω : Om) (p2 : Value) (p5 : Value) (p6 : Value) (p7 : Value) (p12 : Value) (p14 : Value) (Kn0 : (Value × Value × Value × Value × Unit) → M) (K : Value → M) : M :=
  Pv (ixV 5 p5 p14) fun v42 =>
  Rv none (ldNR 5 v42) fun v43 =>
  New (.cells #[(Value.int .i64 0), (Value.int .i64 0), (Value.int .i64 0), (Value.int .i64 0), (Value.slice none 0 0)] 30 (0, 0)) <| gh fun y_44 =>
  Sto 5 y_44 v43 <| gh fun _ =>
  Pv (fldV 0 y_44) fun v45 =>
  Sto 1 v45 p12 <| gh fun _ =>
  Rv none (ldNR 5 y_44) fun v46 =>
  BldS 30 5 #[(Value.int .i64 0), (Value.int .i64 0), (Value.int .i64 0), (Value.int .i64 0), (Value.slice none 0 0)] 1 [(0, v46)] <| gh fun v47 =>
  App 30 5 56 #[(Value.int .i64 0), (Value.int .i64 0), (Value.int .i64 0), (Value.int .i64 0), (Value.slice none 0 0)] p5 v47 <| gh fun v48 =>
  sh3_9 ω p2 v48 p6 p7 Kn0 K
def sh3_10 (ω : Om) (p2 : Value) (p6 : Value) (p7 : Value) (p8 : Value) (p12 : Value) (p13 : Value) (x5 : Value) (x14 : Value) (Kn0 : (Value × Value × Value × Value × Unit) → M) (Kn1 : (Value × Value × Unit) → M) (K : Value → M) : M :=
  Pv (lenV x5) fun v33 =>
  Pv (binIV .lss x14 v33) fun v34 =>
  Gd v34 true
    (Pv (binIV .eql p13 (Value.int .i64 0)) fun v35 =>
    Br v35
      (Draw fun S =>
        Pv (ixV 5 x5 x14) fun v36 =>
        Pv (fldV 0 v36) fun v37 =>
        Rv (some S) (ld1R v37) fun v38 =>
        Pv (fldV 1 p8) fun v39 =>
        Rv (some S) (ld1R v39) fun v40 =>
        Pv (binIV .eql v38 v40) fun v41 =>
        Br v41
          (sh3_11 ω p2 x5 p6 p7 p12 x14 Kn0 K)
          (Pv (binIV .add x14 (Value.int .i64 1)) fun v49 =>
          Kn1 (x5, v49, ())))
      (sh3_9 ω p2 x5 p6 p7 Kn0 K))
    (sh3_9 ω p2 x5 p6 p7 Kn0 K)
def sh3_14 (ω : Om) (p2 : Value) (K : Value → M) : M :=
  K (Value.bool false)
def sh3_13 (ω : Om) (p2 : Value) (p5 : Value) (p6 : Value) (p7 : Value) (p8 : Value) (p16 : Value) (p19 : Value) (Kn0 : (Value × Value × Value × Value × Unit) → M) (K : Value → M) : M :=
  Pv (unV .not p19) fun v62 =>
  Gd v62 false
    (Pv (fldV 0 p16) fun v63 =>
    Rv none (ld1R v63) fun v64 =>
    Pv (fldV 1 p8) fun v65 =>
    Rv none (ld1R v65) fun v66 =>
    Pv (binIV .neq v64 v66) fun v67 =>
    Br v67
      (sh3_14 ω p2 K)
      (sh3_6 ω p2 p5 p6 p7 Kn0 K))
    (sh3_14 ω p2 K)
def sh3_15 (ω : Om) (p2 : Value) (p5 : Value) (p6 : Value) (p7 : Value) (p8 : Value) (p16 : Value) (p19 : Value) (Kn0 : (Value × Value × Value × Value × Unit) → M) (K : Value → M) : M :=
  sh3_13 ω p2 p5 p6 p7 p8 p16 p19 Kn0 K
def sh3_17 (ω : Om) (p19 : Value) (p20 : Value) (Kn1 : (Value × Value × Unit) → M) (K : Value → M) : M :=
  Pv (binIV .add p20 (Value.int .i64 1)) fun v70 =>
  Kn1 (p19, v70, ())
def sh3_18 (ω : Om) (p19 : Value) (p20 : Value) (Kn1 : (Value × Value × Unit) → M) (K : Value → M) : M :=
  sh3_17 ω p19 p20 Kn1 K
def sh3_16 (ω : Om) (p2 : Value) (p5 : Value) (p6 : Value) (p7 : Value) (p8 : Value) (p16 : Value) (x19 : Value) (x20 : Value) (Kn0 : (Value × Value × Value × Value × Unit) → M) (Kn1 : (Value × Value × Unit) → M) (K : Value → M) : M :=
  Pv (lenV p5) fun v68 =>
  Pv (binIV .lss x20 v68) fun v69 =>
  Br v69
    (Draw fun S =>
      Pv (ixV 5 p5 x20) fun v71 =>
      Rv (some S) (ldNR 5 v71) fun v72 =>
      Rv (some S) (ldNR 5 p16) fun v73 =>
      Cal Try.prog ω 14 #[v72, v73] <| gh fun v74 =>
      Br v74
        (sh3_18 ω (Value.bool true) x20 Kn1 K)
        (sh3_18 ω x19 x20 Kn1 K))
    (sh3_15 ω p2 p5 p6 p7 p8 p16 x19 Kn0 K)
def sh3_12 (ω : Om) (p2 : Value) (p5 : Value) (p6 : Value) (p7 : Value) (p8 : Value) (p16 : Value) (Kn0 : (Value × Value × Value × Value × Unit) → M) (K : Value → M) : M :=
  Pv (fldV 0 p16) fun v58 =>
  Rv none (ld1R v58) fun v59 =>
  BldS 3 1 #[(Value.int .i64 0)] 1 [(0, v59)] <| gh fun v60 =>
  App 3 1 8 #[(Value.int .i64 0)] p6 v60 <| gh fun v61 =>
  LoopM (((Value.bool false), (Value.int .i64 0), ()) : Value × Value × Unit) fun s Kn1 =>
  sh3_16 ω p2 p5 v61 p7 p8 p16 s.1 s.2.1 Kn0 Kn1 K
def sh3_19 (ω : Om) (p2 : Value) (p5 : Value) (p6 : Value) (p7 : Value) (p8 : Value) (p16 : Value) (Kn0 : (Value × Value × Value × Value × Unit) → M) (K : Value → M) : M :=
  sh3_12 ω p2 p5 p6 p7 p8 p16 Kn0 K
def sh3_20 (ω : Om) (p5 : Value) (p6 : Value) (p7 : Value) (p8 : Value) (p16 : Value) (x2 : Value) (x18 : Value) (Kn0 : (Value × Value × Value × Value × Unit) → M) (Kn1 : (Value × Value × Unit) → M) (K : Value → M) : M :=
  Pv (lenV p6) fun v75 =>
  Pv (binIV .lss x18 v75) fun v76 =>
  Br v76
    (Draw fun S =>
      Pv (ixV 1 p6 x18) fun v77 =>
      Rv (some S) (ld1R v77) fun v78 =>
      Pv (fldV 0 p16) fun v79 =>
      Rv (some S) (ld1R v79) fun v80 =>
      Pv (binIV .eql v78 v80) fun v81 =>
      Br v81
        (K (Value.bool false))
        (Pv (binIV .add x18 (Value.int .i64 1)) fun v82 =>
        Kn1 (x2, v82, ())))
    (sh3_19 ω x2 p5 p6 p7 p8 p16 Kn0 K)
def sh3_8 (ω : Om) (p2 : Value) (p4 : Value) (p5 : Value) (p6 : Value) (p7 : Value) (p8 : Value) (p41 : Value) (Kn0 : (Value × Value × Value × Value × Unit) → M) (K : Value → M) : M :=
  Pv (binIV .eql p41 (Value.int .i64 3)) fun v27 =>
  Br v27
    (Pv (fldV 1 p8) fun v28 =>
    Rv none (ld1R v28) fun v29 =>
    Cal Try.prog ω 12 #[p4, v29] <| gh fun v30 =>
    Pv (exV v30 0) fun v31 =>
    Pv (exV v30 1) fun v32 =>
    LoopM ((p5, (Value.int .i64 0), ()) : Value × Value × Unit) fun s Kn1 =>
    sh3_10 ω p2 p6 p7 p8 v31 v32 s.1 s.2.1 Kn0 Kn1 K)
    (Pv (binIV .eql p41 (Value.int .i64 1)) fun v50 =>
    Br v50
      (Pv (fldV 1 p8) fun v51 =>
      Rv none (ld1R v51) fun v52 =>
      Cal Try.prog ω 13 #[p4, v52] <| gh fun v53 =>
      Pv (exV v53 0) fun v54 =>
      Pv (exV v53 1) fun v55 =>
      New (.cells #[(Value.int .i64 0), (Value.int .i64 0), (Value.int .i64 0), (Value.int .i64 0), (Value.slice none 0 0)] 30 (0, 0)) <| gh fun m_56 =>
      Sto 5 m_56 v54 <| gh fun _ =>
      Pv (binIV .neq v55 (Value.int .i64 0)) fun v57 =>
      Br v57
        (sh3_5 ω p2 p5 p6 p7 Kn0 K)
        (LoopM ((p2, (Value.int .i64 0), ()) : Value × Value × Unit) fun s Kn1 =>
        sh3_20 ω p5 p6 p7 p8 m_56 s.1 s.2.1 Kn0 Kn1 K))
      (sh3_6 ω p2 p5 p6 p7 Kn0 K))
def sh3_3 (ω : Om) (p0 : Value) (p3 : Value) (p4 : Value) (x2 : Value) (x5 : Value) (x6 : Value) (x7 : Value) (Kn0 : (Value × Value × Value × Value × Unit) → M) (K : Value → M) : M :=
  Pv (lenV p0) fun v4 =>
  Pv (binIV .lss x7 v4) fun v5 =>
  Gd v5 true
    (Pv (binIV .lss x7 (Value.int .i64 300)) fun v6 =>
    Br v6
      (Pv (ixV 7 p0 x7) fun v8 =>
      Rv none (ldNR 7 v8) fun v9 =>
      New (.cells #[(Value.int .i64 0), (Value.int .i64 0), (Value.int .i64 0), (Value.int .i64 0), (Value.int .i64 0), (Value.int .i64 0), (Value.slice none 0 0)] 32 (0, 0)) <| gh fun x_10 =>
      Sto 7 x_10 v9 <| gh fun _ =>
      Pv (fldV 0 x_10) fun v11 =>
      Rv none (ld1R v11) fun v12 =>
      Pv (binIV .eql v12 (Value.int .i64 0)) fun v13 =>
      Br v13
        (sh3_7 ω x2 p4 x5 x6 x7 x_10 Kn0 K)
        (sh3_8 ω x2 p4 x5 x6 x7 x_10 v12 Kn0 K))
      (sh3_2 ω x2 p3 K))
    (sh3_2 ω x2 p3 K)
def sh3 (ω : Om) (a0 : Value) (K : Value → M) : M :=
  Cal Try.prog ω 9 #[] <| gh fun v1 =>
  Cal Try.prog ω 10 #[] <| gh fun v2 =>
  Pv (binPV .eql v2 (Value.pointer none)) fun v3 =>
  Br v3
    (K (Value.bool false))
    (LoopM (((Value.bool false), (Value.slice none 0 0), (Value.slice none 0 0), (Value.int .i64 0), ()) : Value × Value × Value × Value × Unit) fun s Kn0 =>
    sh3_3 ω a0 v1 v2 s.1 s.2.1 s.2.2.1 s.2.2.2.1 Kn0 K)
theorem sh3_eq (ω : Om) (a0 : Value) (K : Value → M) : vcF Try.prog ω Try.f3 [a0] K = sh3 ω a0 K := by kernel_rfl
theorem cal3 {ω : Om} {a0 : Value} {K : Value → M} {I : Imm} {L : LH} (h : sh3 ω a0 (fun v => Gh (K v)) I L) : Cal Try.prog ω 3 #[a0] K I L :=
  Cal.gh (cal_of_vc mixed Try.func3 (by rw [sh3_eq]; exact h))

def sh4_2 (ω : Om) (p2 : Value) (p3 : Value) (p4 : Value) (p9 : Value) (p11 : Value) (p12 : Value) (K : Value → M) : M :=
  Cal Try.prog ω 12 #[p4, p12] <| gh fun v13 =>
  Pv (exV v13 0) fun v14 =>
  Pv (exV v13 1) fun v15 =>
  Cal Try.prog ω 15 #[p4, p12] <| gh fun v16 =>
  Pv (bldV #[(Value.int .i64 0), (Value.int .i64 0), (Value.int .i64 0), (Value.int .i64 0), (Value.slice none 0 0)] #[(0, 1), (1, 1), (2, 1), (3, 1), (4, 1)] [(1, (Value.int .i64 1)), (2, (Value.int .i64 1)), (3, (Value.int .i64 1))]) fun v17 =>
  Cal Try.prog ω 11 #[p4, v17] <| gh fun v18 =>
  Pv (exV v18 0) fun v19 =>
  Pv (exV v18 1) fun v20 =>
  Gd p3 true
    (Pv (binIV .eql p9 (Value.int .i64 90)) fun v21 =>
    Gd v21 true
      (Pv (binIV .eql p11 (Value.int .i64 91)) fun v22 =>
      Gd v22 true
        (Pv (binIV .eql v15 (Value.int .i64 90)) fun v23 =>
        Gd v23 true
          (Pv (binIV .eql v16 (Value.int .i64 0)) fun v24 =>
          Gd v24 true
            (Pv (binIV .eql v20 (Value.int .i64 0)) fun v25 =>
            Gd v25 true
              (Pv (binIV .eql v19 (Value.int .i64 1001)) fun v26 =>
              K v26)
              (K (Value.bool false)))
            (K (Value.bool false)))
          (K (Value.bool false)))
        (K (Value.bool false)))
      (K (Value.bool false)))
    (K (Value.bool false))
def sh4_1 (ω : Om) (p0 : Value) (p2 : Value) (p3 : Value) (p4 : Value) (K : Value → M) : M :=
  Pv (bldV #[(Value.int .i64 0), (Value.int .i64 0), (Value.int .i64 0), (Value.int .i64 0), (Value.slice none 0 0)] #[(0, 1), (1, 1), (2, 1), (3, 1), (4, 1)] [(1, (Value.int .i64 1)), (2, (Value.int .i64 1)), (3, (Value.int .i64 1))]) fun v4 =>
  Cal Try.prog ω 11 #[p4, v4] <| gh fun v5 =>
  Pv (exV v5 0) fun v6 =>
  Pv (exV v5 1) fun v7 =>
  Cal Try.prog ω 12 #[p4, (Value.int .i64 0)] <| gh fun v8 =>
  Pv (exV v8 0) fun v9 =>
  Pv (exV v8 1) fun v10 =>
  Pv (binIV .rem p0 (Value.int .i64 1000)) fun v11 =>
  Pv (binIV .add (Value.int .i64 1) v11) fun v12 =>
  Pv (binIV .lss v12 (Value.int .i64 1)) fun v27 =>
  Br v27
    (sh4_2 ω p2 p3 p4 v7 v10 (Value.int .i64 1) K)
    (sh4_2 ω p2 p3 p4 v7 v10 v12 K)
def sh4_3 (ω : Om) (p0 : Value) (p2 : Value) (p3 : Value) (p4 : Value) (K : Value → M) : M :=
  sh4_1 ω p0 p2 p3 p4 K
def sh4_5 (ω : Om) (p2 : Value) (K : Value → M) : M :=
  K (Value.bool false)
def sh4_4 (ω : Om) (p0 : Value) (p3 : Value) (p4 : Value) (x2 : Value) (x5 : Value) (Kn0 : (Value × Value × Unit) → M) (K : Value → M) : M :=
  Pv (binIV .lss x5 (Value.int .i64 1000)) fun v28 =>
  Br v28
    (Pv (bldV #[(Value.int .i64 0), (Value.int .i64 0), (Value.int .i64 0), (Value.int .i64 0), (Value.slice none 0 0)] #[(0, 1), (1, 1), (2, 1), (3, 1), (4, 1)] [(1, (Value.int .i64 1)), (2, (Value.int .i64 1)), (3, (Value.int .i64 1))]) fun v29 =>
    Cal Try.prog ω 11 #[p4, v29] <| gh fun v30 =>
    Pv (exV v30 0) fun v31 =>
    Pv (exV v30 1) fun v32 =>
    Pv (binIV .neq v32 (Value.int .i64 0)) fun v33 =>
    Gd v33 false
      (Pv (binIV .add x5 (Value.int .i64 1)) fun v34 =>
      Pv (binIV .neq v31 v34) fun v35 =>
      Br v35
        (sh4_5 ω x2 K)
        (Pv (binIV .add x5 (Value.int .i64 1)) fun v36 =>
        Kn0 (x2, v36, ())))
      (sh4_5 ω x2 K))
    (sh4_3 ω p0 x2 p3 p4 K)
def sh4 (ω : Om) (a0 : Value) (K : Value → M) : M :=
  Cal Try.prog ω 9 #[] <| gh fun v1 =>
  Cal Try.prog ω 10 #[] <| gh fun v2 =>
  Pv (binPV .eql v2 (Value.pointer none)) fun v3 =>
  Br v3
    (K (Value.bool false))
    (LoopM (((Value.bool false), (Value.int .i64 0), ()) : Value × Value × Unit) fun s Kn0 =>
    sh4_4 ω a0 v1 v2 s.1 s.2.1 Kn0 K)
theorem sh4_eq (ω : Om) (a0 : Value) (K : Value → M) : vcF Try.prog ω Try.f4 [a0] K = sh4 ω a0 K := by kernel_rfl
theorem cal4 {ω : Om} {a0 : Value} {K : Value → M} {I : Imm} {L : LH} (h : sh4 ω a0 (fun v => Gh (K v)) I L) : Cal Try.prog ω 4 #[a0] K I L :=
  Cal.gh (cal_of_vc mixed Try.func4 (by rw [sh4_eq]; exact h))

def sh5_1 (ω : Om) (p2 : Value) (p3 : Value) (p4 : Value) (p5 : Value) (K : Value → M) : M :=
  Cal Try.prog ω 23 #[p4, p5] <| gh fun v6 =>
  Gd p3 true
    (K v6)
    (K (Value.bool false))
def sh5_2 (ω : Om) (p2 : Value) (p3 : Value) (p4 : Value) (p5 : Value) (K : Value → M) : M :=
  sh5_1 ω p2 p3 p4 p5 K
def sh5_4 (ω : Om) (p2 : Value) (p6 : Value) (Kn0 : (Value × Value × Unit) → M) (K : Value → M) : M :=
  Pv (binIV .add p6 (Value.int .i64 1)) fun v9 =>
  Kn0 (p2, v9, ())
def sh5_5 (ω : Om) (p2 : Value) (p6 : Value) (Kn0 : (Value × Value × Unit) → M) (K : Value → M) : M :=
  sh5_4 ω p2 p6 Kn0 K
def sh5_6 (ω : Om) (p2 : Value) (p6 : Value) (Kn0 : (Value × Value × Unit) → M) (K : Value → M) : M :=
  sh5_5 ω p2 p6 Kn0 K
def sh5_7 (ω : Om) (p2 : Value) (K : Value → M) : M :=
  K (Value.bool false)
def sh5_8 (ω : Om) (p2 : Value) (K : Value → M) : M :=
  K (Value.bool false)
def sh5_9 (ω : Om) (p2 : Value) (K : Value → M) : M :=
  K (Value.bool false)
def sh5_3 (ω : Om) (p0 : Value) (p3 : Value) (p4 : Value) (p5 : Value) (x2 : Value) (x6 : Value) (Kn0 : (Value × Value × Unit) → M) (K : Value → M) : M :=
  Pv (lenV p0) fun v7 =>
  Pv (binIV .lss x6 v7) fun v8 =>
  Br v8
    (Pv (ixV 7 p0 x6) fun v10 =>
    Rv none (ldNR 7 v10) fun v11 =>
    New (.cells #[(Value.int .i64 0), (Value.int .i64 0), (Value.int .i64 0), (Value.int .i64 0), (Value.int .i64 0), (Value.int .i64 0), (Value.slice none 0 0)] 32 (0, 0)) <| gh fun x_12 =>
    Sto 7 x_12 v11 <| gh fun _ =>
    Pv (fldV 0 x_12) fun v13 =>
    Rv none (ld1R v13) fun v14 =>
    Pv (binIV .eql v14 (Value.int .i64 0)) fun v15 =>
    Br v15
      (Pv (fldV 2 x_12) fun v16 =>
      Rv none (ldNR 5 v16) fun v17 =>
      Cal Try.prog ω 11 #[p4, v17] <| gh fun v18 =>
      Pv (exV v18 0) fun v19 =>
      Pv (exV v18 1) fun v20 =>
      Pv (fldV 2 x_12) fun v21 =>
      Rv none (ldNR 5 v21) fun v22 =>
      Cal Try.prog ω 16 #[p5, v22] <| gh fun v23 =>
      Pv (exV v23 0) fun v24 =>
      Pv (exV v23 1) fun v25 =>
      Pv (binIV .neq v19 v24) fun v26 =>
      Gd v26 false
        (Pv (binIV .neq v20 v25) fun v27 =>
        Br v27
          (sh5_7 ω x2 K)
          (sh5_6 ω x2 x6 Kn0 K))
        (sh5_7 ω x2 K))
      (Pv (binIV .eql v14 (Value.int .i64 1)) fun v28 =>
      Br v28
        (Pv (fldV 1 x_12) fun v29 =>
        Rv none (ld1R v29) fun v30 =>
        Cal Try.prog ω 13 #[p4, v30] <| gh fun v31 =>
        Pv (exV v31 0) fun v32 =>
        Pv (exV v31 1) fun v33 =>
        New (.cells #[(Value.int .i64 0), (Value.int .i64 0), (Value.int .i64 0), (Value.int .i64 0), (Value.slice none 0 0)] 30 (0, 0)) <| gh fun m_34 =>
        Sto 5 m_34 v32 <| gh fun _ =>
        Pv (fldV 1 x_12) fun v35 =>
        Rv none (ld1R v35) fun v36 =>
        Cal Try.prog ω 17 #[p5, v36] <| gh fun v37 =>
        Pv (exV v37 0) fun v38 =>
        Pv (exV v37 1) fun v39 =>
        New (.cells #[(Value.int .i64 0), (Value.int .i64 0), (Value.int .i64 0), (Value.int .i64 0), (Value.slice none 0 0)] 30 (0, 0)) <| gh fun want_40 =>
        Sto 5 want_40 v38 <| gh fun _ =>
        Rv none (ldNR 5 m_34) fun v41 =>
        Rv none (ldNR 5 want_40) fun v42 =>
        Cal Try.prog ω 14 #[v41, v42] <| gh fun v43 =>
        Pv (unV .not v43) fun v44 =>
        Gd v44 false
          (Pv (binIV .neq v33 v39) fun v45 =>
          Br v45
            (sh5_8 ω x2 K)
            (sh5_6 ω x2 x6 Kn0 K))
          (sh5_8 ω x2 K))
        (Pv (binIV .eql v14 (Value.int .i64 2)) fun v46 =>
        Br v46
          (Pv (fldV 1 x_12) fun v47 =>
          Rv none (ld1R v47) fun v48 =>
          Cal Try.prog ω 15 #[p4, v48] <| gh fun v49 =>
          Pv (fldV 1 x_12) fun v50 =>
          Rv none (ld1R v50) fun v51 =>
          Cal Try.prog ω 18 #[p5, v51] <| gh fun v52 =>
          Pv (binIV .neq v49 v52) fun v53 =>
          Br v53
            (K (Value.bool false))
            (sh5_6 ω x2 x6 Kn0 K))
          (Pv (binIV .eql v14 (Value.int .i64 3)) fun v54 =>
          Br v54
            (Pv (fldV 1 x_12) fun v55 =>
            Rv none (ld1R v55) fun v56 =>
            Cal Try.prog ω 12 #[p4, v56] <| gh fun v57 =>
            Pv (exV v57 0) fun v58 =>
            Pv (exV v57 1) fun v59 =>
            Pv (fldV 1 x_12) fun v60 =>
            Rv none (ld1R v60) fun v61 =>
            Cal Try.prog ω 19 #[p5, v61] <| gh fun v62 =>
            Pv (exV v62 0) fun v63 =>
            Pv (exV v62 1) fun v64 =>
            Pv (binIV .neq v58 v63) fun v65 =>
            Gd v65 false
              (Pv (binIV .neq v59 v64) fun v66 =>
              Br v66
                (sh5_9 ω x2 K)
                (sh5_6 ω x2 x6 Kn0 K))
              (sh5_9 ω x2 K))
            (Pv (binIV .eql v14 (Value.int .i64 4)) fun v67 =>
            Br v67
              (Pv (fldV 1 x_12) fun v68 =>
              Rv none (ld1R v68) fun v69 =>
              Cal Try.prog ω 20 #[p4, v69] <| gh fun v70 =>
              Pv (fldV 1 x_12) fun v71 =>
              Rv none (ld1R v71) fun v72 =>
              Cal Try.prog ω 21 #[p5, v72] <| gh fun v73 =>
              Cal Try.prog ω 22 #[v70, v73] <| gh fun v74 =>
              Pv (unV .not v74) fun v75 =>
              Br v75
                (K (Value.bool false))
                (sh5_6 ω x2 x6 Kn0 K))
              (sh5_6 ω x2 x6 Kn0 K))))))
    (sh5_2 ω x2 p3 p4 p5 K)
def sh5 (ω : Om) (a0 : Value) (K : Value → M) : M :=
  Cal Try.prog ω 9 #[] <| gh fun v1 =>
  Cal Try.prog ω 10 #[] <| gh fun v2 =>
  Pv (binPV .eql v2 (Value.pointer none)) fun v3 =>
  Br v3
    (K (Value.bool false))
    (Pv (bldV #[(Value.slice none 0 0), (Value.int .i64 0)] #[(0, 1), (1, 1)] []) fun v4 =>
    New (.cells (Value.cells v4) 45 (0, 0)) <| gh fun v5 =>
    LoopM (((Value.bool false), (Value.int .i64 0), ()) : Value × Value × Unit) fun s Kn0 =>
    sh5_3 ω a0 v1 v2 v5 s.1 s.2.1 Kn0 K)
theorem sh5_eq (ω : Om) (a0 : Value) (K : Value → M) : vcF Try.prog ω Try.f5 [a0] K = sh5 ω a0 K := by kernel_rfl
theorem cal5 {ω : Om} {a0 : Value} {K : Value → M} {I : Imm} {L : LH} (h : sh5 ω a0 (fun v => Gh (K v)) I L) : Cal Try.prog ω 5 #[a0] K I L :=
  Cal.gh (cal_of_vc mixed Try.func5 (by rw [sh5_eq]; exact h))

def sh6 (ω : Om) (a0 : Value) (K : Value → M) : M :=
  New (.cells (Value.cells a0) 51 (0, 0)) <| gh fun m_1 =>
  Cal Try.prog ω 24 #[] <| gh fun v2 =>
  Rv none (ldNR 12 m_1) fun v3 =>
  Cal Try.prog ω 25 #[v3] <| gh fun v4 =>
  Pv (exV v4 0) fun v5 =>
  Pv (exV v4 1) fun v6 =>
  Rv none (ldNR 12 m_1) fun v7 =>
  Cal Try.prog ω 26 #[v7] <| gh fun v8 =>
  Pv (exV v8 0) fun v9 =>
  Pv (exV v8 1) fun v10 =>
  Gd v2 true
    (Rv none (bsR v5) fun v11 =>
    Rv none (bsR v9) fun v12 =>
    Pv (binSV .eql v11 v12) fun v13 =>
    Gd v13 true
      (Pv (binIV .eql v6 v10) fun v14 =>
      K v14)
      (K (Value.bool false)))
    (K (Value.bool false))
theorem sh6_eq (ω : Om) (a0 : Value) (K : Value → M) : vcF Try.prog ω Try.f6 [a0] K = sh6 ω a0 K := by kernel_rfl
theorem cal6 {ω : Om} {a0 : Value} {K : Value → M} {I : Imm} {L : LH} (h : sh6 ω a0 (fun v => Gh (K v)) I L) : Cal Try.prog ω 6 #[a0] K I L :=
  Cal.gh (cal_of_vc mixed Try.func6 (by rw [sh6_eq]; exact h))

def sh7 (ω : Om) (a0 : Value) (K : Value → M) : M :=
  Cal Try.prog ω 24 #[] <| gh fun v1 =>
  Cal Try.prog ω 27 #[a0] <| gh fun v2 =>
  Pv (exV v2 0) fun v3 =>
  Pv (exV v2 1) fun v4 =>
  New (.cells #[(Value.int .i64 0), (Value.int .i64 0), (Value.int .i64 0), (Value.int .i64 0), (Value.int .i64 0), (Value.int .i64 0), (Value.int .i64 0), (Value.int .i64 0), (Value.bool false), (Value.slice none 0 0), (Value.slice none 0 0), (Value.slice none 0 0)] 51 (0, 0)) <| gh fun got_5 =>
  Sto 12 got_5 v3 <| gh fun _ =>
  Cal Try.prog ω 28 #[a0] <| gh fun v6 =>
  Pv (exV v6 0) fun v7 =>
  Pv (exV v6 1) fun v8 =>
  New (.cells #[(Value.int .i64 0), (Value.int .i64 0), (Value.int .i64 0), (Value.int .i64 0), (Value.int .i64 0), (Value.int .i64 0), (Value.int .i64 0), (Value.int .i64 0), (Value.bool false), (Value.slice none 0 0), (Value.slice none 0 0), (Value.slice none 0 0)] 51 (0, 0)) <| gh fun want_9 =>
  Sto 12 want_9 v7 <| gh fun _ =>
  Rv none (ldNR 12 got_5) fun v10 =>
  Rv none (ldNR 12 want_9) fun v11 =>
  Cal Try.prog ω 29 #[v10, v11] <| gh fun v12 =>
  Gd v1 true
    (Gd v12 true
      (Pv (binIV .eql v4 v8) fun v13 =>
      K v13)
      (K (Value.bool false)))
    (K (Value.bool false))
theorem sh7_eq (ω : Om) (a0 : Value) (K : Value → M) : vcF Try.prog ω Try.f7 [a0] K = sh7 ω a0 K := by kernel_rfl
theorem cal7 {ω : Om} {a0 : Value} {K : Value → M} {I : Imm} {L : LH} (h : sh7 ω a0 (fun v => Gh (K v)) I L) : Cal Try.prog ω 7 #[a0] K I L :=
  Cal.gh (cal_of_vc mixed Try.func7 (by rw [sh7_eq]; exact h))

def sh8_1 (ω : Om) (p6 : Value) (K : Value → M) : M :=
  K (Value.bool false)
def sh8_3 (ω : Om) (p6 : Value) (p7 : Value) (K : Value → M) : M :=
  K p7
def sh8_4 (ω : Om) (p2 : Value) (p6 : Value) (p7 : Value) (p9 : Value) (K : Value → M) : M :=
  Pv (slcV 1 p9 none (some p2) none) fun v24 =>
  Cal Try.prog ω 27 #[v24] <| gh fun v25 =>
  Pv (exV v25 0) fun v26 =>
  Pv (exV v25 1) fun v27 =>
  New (.cells #[(Value.int .i64 0), (Value.int .i64 0), (Value.int .i64 0), (Value.int .i64 0), (Value.int .i64 0), (Value.int .i64 0), (Value.int .i64 0), (Value.int .i64 0), (Value.bool false), (Value.slice none 0 0), (Value.slice none 0 0), (Value.slice none 0 0)] 51 (0, 0)) <| gh fun v28 =>
  Sto 12 v28 v26 <| gh fun _ =>
  Pv (binIV .neq v27 (Value.int .i64 92)) fun v29 =>
  Br v29
    (K (Value.bool false))
    (sh8_3 ω p6 p7 K)
def sh8_2 (ω : Om) (p2 : Value) (p6 : Value) (p7 : Value) (p9 : Value) (K : Value → M) : M :=
  Pv (binIV .geq p2 (Value.int .i64 0)) fun v21 =>
  Gd v21 true
    (Pv (lenV p9) fun v22 =>
    Pv (binIV .lss p2 v22) fun v23 =>
    Br v23
      (sh8_4 ω p2 p6 p7 p9 K)
      (sh8_3 ω p6 p7 K))
    (sh8_3 ω p6 p7 K)
def sh8_5 (ω : Om) (p1 : Value) (p2 : Value) (p6 : Value) (p7 : Value) (p9 : Value) (K : Value → M) : M :=
  BldS 5 1 #[(Value.int .u8 0)] 0 [] <| gh fun v32 =>
  App 5 1 1 #[(Value.int .u8 0)] v32 p9 <| gh fun v33 =>
  App 5 1 1 #[(Value.int .u8 0)] v33 p1 <| gh fun v34 =>
  Cal Try.prog ω 27 #[v34] <| gh fun v35 =>
  Pv (exV v35 0) fun v36 =>
  Pv (exV v35 1) fun v37 =>
  New (.cells #[(Value.int .i64 0), (Value.int .i64 0), (Value.int .i64 0), (Value.int .i64 0), (Value.int .i64 0), (Value.int .i64 0), (Value.int .i64 0), (Value.int .i64 0), (Value.bool false), (Value.slice none 0 0), (Value.slice none 0 0), (Value.slice none 0 0)] 51 (0, 0)) <| gh fun v38 =>
  Sto 12 v38 v36 <| gh fun _ =>
  Pv (binIV .neq v37 (Value.int .i64 92)) fun v39 =>
  Br v39
    (K (Value.bool false))
    (sh8_2 ω p2 p6 p7 p9 K)
def sh8 (ω : Om) (a0 : Value) (a1 : Value) (a2 : Value) (K : Value → M) : M :=
  New (.cells (Value.cells a0) 51 (0, 0)) <| gh fun m_1 =>
  Cal Try.prog ω 24 #[] <| gh fun v2 =>
  Rv none (ldNR 12 m_1) fun v3 =>
  Cal Try.prog ω 30 #[v3] <| gh fun v4 =>
  Rv none (ldNR 12 m_1) fun v5 =>
  Cal Try.prog ω 25 #[v5] <| gh fun v6 =>
  Pv (exV v6 0) fun v7 =>
  Pv (exV v6 1) fun v8 =>
  Pv (unV .not v4) fun v9 =>
  Br v9
    (Gd v2 true
      (Pv (binIV .eql v8 (Value.int .i64 92)) fun v10 =>
      K v10)
      (K (Value.bool false)))
    (Cal Try.prog ω 27 #[v7] <| gh fun v11 =>
    Pv (exV v11 0) fun v12 =>
    Pv (exV v11 1) fun v13 =>
    New (.cells #[(Value.int .i64 0), (Value.int .i64 0), (Value.int .i64 0), (Value.int .i64 0), (Value.int .i64 0), (Value.int .i64 0), (Value.int .i64 0), (Value.int .i64 0), (Value.bool false), (Value.slice none 0 0), (Value.slice none 0 0), (Value.slice none 0 0)] 51 (0, 0)) <| gh fun got_14 =>
    Sto 12 got_14 v12 <| gh fun _ =>
    Rv none (ldNR 12 got_14) fun v15 =>
    Rv none (ldNR 12 m_1) fun v16 =>
    Cal Try.prog ω 29 #[v15, v16] <| gh fun v17 =>
    Pv (binIV .neq v8 (Value.int .i64 0)) fun v18 =>
    Gd v18 false
      (Pv (binIV .neq v13 (Value.int .i64 0)) fun v19 =>
      Gd v19 false
        (Pv (unV .not v17) fun v20 =>
        Br v20
          (sh8_1 ω (Value.bool false) K)
          (Pv (lenV a1) fun v30 =>
          Pv (binIV .gtr v30 (Value.int .i64 0)) fun v31 =>
          Br v31
            (sh8_5 ω a1 a2 (Value.bool false) v2 v7 K)
            (sh8_2 ω a2 (Value.bool false) v2 v7 K)))
        (sh8_1 ω (Value.bool false) K))
      (sh8_1 ω (Value.bool false) K))
theorem sh8_eq (ω : Om) (a0 a1 a2 : Value) (K : Value → M) : vcF Try.prog ω Try.f8 [a0, a1, a2] K = sh8 ω a0 a1 a2 K := by kernel_rfl
theorem cal8 {ω : Om} {a0 a1 a2 : Value} {K : Value → M} {I : Imm} {L : LH} (h : sh8 ω a0 a1 a2 (fun v => Gh (K v)) I L) : Cal Try.prog ω 8 #[a0, a1, a2] K I L :=
  Cal.gh (cal_of_vc mixed Try.func8 (by rw [sh8_eq]; exact h))

def sh9 (ω : Om) (K : Value → M) : M :=
  Cal Try.prog ω 10 #[] <| gh fun v1 =>
  Pv (binPV .eql v1 (Value.pointer none)) fun v2 =>
  Br v2
    (K (Value.bool false))
    (BldS 5 1 #[(Value.int .u8 0)] 1 [(0, (Value.int .u8 120))] <| gh fun v3 =>
    MrkS v3 <| gh fun v4 =>
    Pv (bldV #[(Value.int .i64 0), (Value.int .i64 0), (Value.int .i64 0), (Value.int .i64 0), (Value.slice none 0 0)] #[(0, 1), (1, 1), (2, 1), (3, 1), (4, 1)] [(1, (Value.int .i64 1)), (2, (Value.int .i64 2)), (3, (Value.int .i64 3)), (4, v4)]) fun v5 =>
    Cal Try.prog ω 11 #[v1, v5] <| gh fun v6 =>
    Pv (exV v6 0) fun v7 =>
    Pv (exV v6 1) fun v8 =>
    Cal Try.prog ω 13 #[v1, (Value.int .i64 1)] <| gh fun v9 =>
    Pv (exV v9 0) fun v10 =>
    Pv (exV v9 1) fun v11 =>
    New (.cells #[(Value.int .i64 0), (Value.int .i64 0), (Value.int .i64 0), (Value.int .i64 0), (Value.slice none 0 0)] 30 (0, 0)) <| gh fun m_12 =>
    Sto 5 m_12 v10 <| gh fun _ =>
    Pv (binIV .eql v7 (Value.int .i64 1)) fun v13 =>
    Gd v13 true
      (Pv (binIV .eql v8 (Value.int .i64 0)) fun v14 =>
      Gd v14 true
        (Pv (binIV .eql v11 (Value.int .i64 0)) fun v15 =>
        Gd v15 true
          (Pv (fldV 4 m_12) fun v16 =>
          Rv none (ld1R v16) fun v17 =>
          Rv none (bsR v17) fun v18 =>
          Pv (binSV .eql v18 (Value.string (ByteArray.mk #[120]))) fun v19 =>
          K v19)
          (K (Value.bool false)))
        (K (Value.bool false)))
      (K (Value.bool false)))
theorem sh9_eq (ω : Om) (K : Value → M) : vcF Try.prog ω Try.f9 [] K = sh9 ω K := by kernel_rfl
theorem cal9 {ω : Om} {K : Value → M} {I : Imm} {L : LH} (h : sh9 ω (fun v => Gh (K v)) I L) : Cal Try.prog ω 9 #[] K I L :=
  Cal.gh (cal_of_vc mixed Try.func9 (by rw [sh9_eq]; exact h))

def sh10 (ω : Om) (K : Value → M) : M :=
  Pv (bldV #[(Value.slice none 0 0), (Value.int .i64 0)] #[(0, 1), (1, 1)] []) fun v1 =>
  New (.cells (Value.cells v1) 61 (0, 0)) <| gh fun v2 =>
  K v2
theorem sh10_eq (ω : Om) (K : Value → M) : vcF Try.prog ω Try.f10 [] K = sh10 ω K := by kernel_rfl
theorem cal10 {ω : Om} {K : Value → M} {I : Imm} {L : LH} (h : sh10 ω (fun v => Gh (K v)) I L) : Cal Try.prog ω 10 #[] K I L :=
  Cal.gh (cal_of_vc mixed Try.func10 (by rw [sh10_eq]; exact h))

def sh11_1 (ω : Om) (p0 : Value) (p3 : Value) (p4 : Value) (p5 : Value) (p6 : Value) (K : Value → M) : M :=
  Br p6
    (K (Value.tuple #[(Value.int .i64 0), (Value.int .i64 1)]))
    (Pv (nilV p0) fun v2 =>
    Pv (fldV 0 v2) fun v3 =>
    Rv none (ld1R v3) fun v4 =>
    Pv (lenV v4) fun v5 =>
    Pv (binIV .geq v5 (Value.int .i64 1000)) fun v6 =>
    Br v6
      (K (Value.tuple #[(Value.int .i64 0), (Value.int .i64 90)]))
      (Pv (nilV p0) fun v7 =>
      Pv (fldV 1 v7) fun v8 =>
      Rv none (ld1R v8) fun v9 =>
      Pv (binIV .add v9 (Value.int .i64 1)) fun v10 =>
      Pv (nilV p0) fun v11 =>
      Pv (fldV 1 v11) fun v12 =>
      Sto 1 v12 v10 <| gh fun _ =>
      Pv (nilV p0) fun v13 =>
      Pv (fldV 1 v13) fun v14 =>
      Rv none (ld1R v14) fun v15 =>
      Pv (fldV 0 p3) fun v16 =>
      Sto 1 v16 v15 <| gh fun _ =>
      Draw fun S =>
        Pv (nilV p0) fun v17 =>
        Pv (fldV 0 v17) fun v18 =>
        Rv (some S) (ld1R v18) fun v19 =>
        Rv (some S) (ldNR 5 p3) fun v20 =>
        Cal Try.prog ω 32 #[v20] <| gh <| Keep S fun v21 =>
        BldS 30 5 #[(Value.int .i64 0), (Value.int .i64 0), (Value.int .i64 0), (Value.int .i64 0), (Value.slice none 0 0)] 1 [(0, v21)] <| gh <| Keep S fun v22 =>
        App 30 5 56 #[(Value.int .i64 0), (Value.int .i64 0), (Value.int .i64 0), (Value.int .i64 0), (Value.slice none 0 0)] v19 v22 <| gh fun v23 =>
        Pv (nilV p0) fun v24 =>
        Pv (fldV 0 v24) fun v25 =>
        Sto 1 v25 v23 <| gh fun _ =>
        Pv (fldV 0 p3) fun v26 =>
        Rv none (ld1R v26) fun v27 =>
        K (Value.tuple #[v27, (Value.int .i64 0)])))
def sh11 (ω : Om) (a0 : Value) (a1 : Value) (K : Value → M) : M :=
  New (.cells (Value.cells a1) 30 (0, 0)) <| gh fun e_1 =>
  Pv (fldV 1 e_1) fun v28 =>
  Rv none (ld1R v28) fun v29 =>
  Cal Try.prog ω 31 #[v29] <| gh fun v30 =>
  Pv (unV .not v30) fun v31 =>
  Br v31
    (sh11_1 ω a0 e_1 (Value.int .i64 0) (Value.int .i64 0) v31 K)
    (Pv (fldV 2 e_1) fun v32 =>
    Rv none (ld1R v32) fun v33 =>
    Cal Try.prog ω 31 #[v33] <| gh fun v34 =>
    Pv (unV .not v34) fun v35 =>
    Br v35
      (sh11_1 ω a0 e_1 (Value.int .i64 0) (Value.int .i64 0) v35 K)
      (Pv (fldV 3 e_1) fun v36 =>
      Rv none (ld1R v36) fun v37 =>
      Pv (binIV .lss v37 (Value.int .i64 1)) fun v38 =>
      Br v38
        (sh11_1 ω a0 e_1 (Value.int .i64 0) (Value.int .i64 0) v38 K)
        (Pv (fldV 3 e_1) fun v39 =>
        Rv none (ld1R v39) fun v40 =>
        Pv (binIV .gtr v40 (Value.int .i64 255)) fun v41 =>
        Br v41
          (sh11_1 ω a0 e_1 (Value.int .i64 0) (Value.int .i64 0) v41 K)
          (Pv (fldV 4 e_1) fun v42 =>
          Rv none (ld1R v42) fun v43 =>
          Pv (lenV v43) fun v44 =>
          Pv (binIV .gtr v44 (Value.int .i64 1048576)) fun v45 =>
          sh11_1 ω a0 e_1 (Value.int .i64 0) (Value.int .i64 0) v45 K))))
theorem sh11_eq (ω : Om) (a0 a1 : Value) (K : Value → M) : vcF Try.prog ω Try.f11 [a0, a1] K = sh11 ω a0 a1 K := by kernel_rfl
theorem cal11 {ω : Om} {a0 a1 : Value} {K : Value → M} {I : Imm} {L : LH} (h : sh11 ω a0 a1 (fun v => Gh (K v)) I L) : Cal Try.prog ω 11 #[a0, a1] K I L :=
  Cal.gh (cal_of_vc mixed Try.func11 (by rw [sh11_eq]; exact h))

def sh12 (ω : Om) (a0 : Value) (a1 : Value) (K : Value → M) : M :=
  Cal Try.prog ω 33 #[a0, a1] <| gh fun v1 =>
  Pv (exV v1 0) fun v2 =>
  Pv (exV v1 1) fun v3 =>
  Pv (unV .not v3) fun v4 =>
  Br v4
    (K (Value.tuple #[(Value.int .i64 0), (Value.int .i64 91)]))
    (Pv (nilV a0) fun v5 =>
    Pv (fldV 0 v5) fun v6 =>
    Rv none (ld1R v6) fun v7 =>
    Pv (ixV 5 v7 v2) fun v8 =>
    Rv none (ldNR 5 v8) fun v9 =>
    Cal Try.prog ω 11 #[a0, v9] <| gh fun v10 =>
    Pv (exV v10 0) fun v11 =>
    Pv (exV v10 1) fun v12 =>
    K (Value.tuple #[v11, v12]))
theorem sh12_eq (ω : Om) (a0 a1 : Value) (K : Value → M) : vcF Try.prog ω Try.f12 [a0, a1] K = sh12 ω a0 a1 K := by kernel_rfl
theorem cal12 {ω : Om} {a0 a1 : Value} {K : Value → M} {I : Imm} {L : LH} (h : sh12 ω a0 a1 (fun v => Gh (K v)) I L) : Cal Try.prog ω 12 #[a0, a1] K I L :=
  Cal.gh (cal_of_vc mixed Try.func12 (by rw [sh12_eq]; exact h))

def sh13 (ω : Om) (a0 : Value) (a1 : Value) (K : Value → M) : M :=
  New (.cells #[(Value.int .i64 0), (Value.int .i64 0), (Value.int .i64 0), (Value.int .i64 0), (Value.slice none 0 0)] 30 (0, 0)) <| gh fun v1 =>
  Cal Try.prog ω 33 #[a0, a1] <| gh fun v2 =>
  Pv (exV v2 0) fun v3 =>
  Pv (exV v2 1) fun v4 =>
  Pv (unV .not v4) fun v5 =>
  Br v5
    (Pv (bldV #[(Value.int .i64 0), (Value.int .i64 0), (Value.int .i64 0), (Value.int .i64 0), (Value.slice none 0 0)] #[(0, 1), (1, 1), (2, 1), (3, 1), (4, 1)] []) fun v6 =>
    Sto 5 v1 v6 <| gh fun _ =>
    Rv none (ldNR 5 v1) fun v7 =>
    K (Value.tuple #[v7, (Value.int .i64 91)]))
    (Pv (nilV a0) fun v8 =>
    Pv (fldV 0 v8) fun v9 =>
    Rv none (ld1R v9) fun v10 =>
    Pv (ixV 5 v10 v3) fun v11 =>
    Rv none (ldNR 5 v11) fun v12 =>
    New (.cells #[(Value.int .i64 0), (Value.int .i64 0), (Value.int .i64 0), (Value.int .i64 0), (Value.slice none 0 0)] 30 (0, 0)) <| gh fun e_13 =>
    Sto 5 e_13 v12 <| gh fun _ =>
    Pv (nilV a0) fun v14 =>
    Pv (fldV 0 v14) fun v15 =>
    Rv none (ld1R v15) fun v16 =>
    Pv (binIV .add v3 (Value.int .i64 1)) fun v17 =>
    Cal Try.prog ω 34 #[v16, v3, v17] <| gh fun v18 =>
    Pv (nilV a0) fun v19 =>
    Pv (fldV 0 v19) fun v20 =>
    Sto 1 v20 v18 <| gh fun _ =>
    Rv none (ldNR 5 e_13) fun v21 =>
    Sto 5 v1 v21 <| gh fun _ =>
    Rv none (ldNR 5 v1) fun v22 =>
    K (Value.tuple #[v22, (Value.int .i64 0)]))
theorem sh13_eq (ω : Om) (a0 a1 : Value) (K : Value → M) : vcF Try.prog ω Try.f13 [a0, a1] K = sh13 ω a0 a1 K := by kernel_rfl
theorem cal13 {ω : Om} {a0 a1 : Value} {K : Value → M} {I : Imm} {L : LH} (h : sh13 ω a0 a1 (fun v => Gh (K v)) I L) : Cal Try.prog ω 13 #[a0, a1] K I L :=
  Cal.gh (cal_of_vc mixed Try.func13 (by rw [sh13_eq]; exact h))

def sh14 (ω : Om) (a0 : Value) (a1 : Value) (K : Value → M) : M :=
  New (.cells (Value.cells a0) 30 (0, 0)) <| gh fun a_1 =>
  New (.cells (Value.cells a1) 30 (0, 0)) <| gh fun b_2 =>
  Pv (fldV 0 a_1) fun v3 =>
  Rv none (ld1R v3) fun v4 =>
  Pv (fldV 0 b_2) fun v5 =>
  Rv none (ld1R v5) fun v6 =>
  Pv (binIV .eql v4 v6) fun v7 =>
  Gd v7 true
    (Pv (fldV 1 a_1) fun v8 =>
    Rv none (ld1R v8) fun v9 =>
    Pv (fldV 1 b_2) fun v10 =>
    Rv none (ld1R v10) fun v11 =>
    Pv (binIV .eql v9 v11) fun v12 =>
    Gd v12 true
      (Pv (fldV 2 a_1) fun v13 =>
      Rv none (ld1R v13) fun v14 =>
      Pv (fldV 2 b_2) fun v15 =>
      Rv none (ld1R v15) fun v16 =>
      Pv (binIV .eql v14 v16) fun v17 =>
      Gd v17 true
        (Pv (fldV 3 a_1) fun v18 =>
        Rv none (ld1R v18) fun v19 =>
        Pv (fldV 3 b_2) fun v20 =>
        Rv none (ld1R v20) fun v21 =>
        Pv (binIV .eql v19 v21) fun v22 =>
        Gd v22 true
          (Pv (fldV 4 a_1) fun v23 =>
          Rv none (ld1R v23) fun v24 =>
          Rv none (bsR v24) fun v25 =>
          Pv (fldV 4 b_2) fun v26 =>
          Rv none (ld1R v26) fun v27 =>
          Rv none (bsR v27) fun v28 =>
          Pv (binSV .eql v25 v28) fun v29 =>
          K v29)
          (K (Value.bool false)))
        (K (Value.bool false)))
      (K (Value.bool false)))
    (K (Value.bool false))
theorem sh14_eq (ω : Om) (a0 a1 : Value) (K : Value → M) : vcF Try.prog ω Try.f14 [a0, a1] K = sh14 ω a0 a1 K := by kernel_rfl
theorem cal14 {ω : Om} {a0 a1 : Value} {K : Value → M} {I : Imm} {L : LH} (h : sh14 ω a0 a1 (fun v => Gh (K v)) I L) : Cal Try.prog ω 14 #[a0, a1] K I L :=
  Cal.gh (cal_of_vc mixed Try.func14 (by rw [sh14_eq]; exact h))

def sh15 (ω : Om) (a0 : Value) (a1 : Value) (K : Value → M) : M :=
  Cal Try.prog ω 13 #[a0, a1] <| gh fun v1 =>
  Pv (exV v1 0) fun v2 =>
  Pv (exV v1 1) fun v3 =>
  New (.cells #[(Value.int .i64 0), (Value.int .i64 0), (Value.int .i64 0), (Value.int .i64 0), (Value.slice none 0 0)] 30 (0, 0)) <| gh fun v4 =>
  Sto 5 v4 v2 <| gh fun _ =>
  K v3
theorem sh15_eq (ω : Om) (a0 a1 : Value) (K : Value → M) : vcF Try.prog ω Try.f15 [a0, a1] K = sh15 ω a0 a1 K := by kernel_rfl
theorem cal15 {ω : Om} {a0 a1 : Value} {K : Value → M} {I : Imm} {L : LH} (h : sh15 ω a0 a1 (fun v => Gh (K v)) I L) : Cal Try.prog ω 15 #[a0, a1] K I L :=
  Cal.gh (cal_of_vc mixed Try.func15 (by rw [sh15_eq]; exact h))

def sh16_1 (ω : Om) (p4 : Value) (p5 : Value) (K : Value → M) : M :=
  K (Value.tuple #[(Value.int .i64 0), (Value.int .i64 1)])
def sh16_2 (ω : Om) (p4 : Value) (p5 : Value) (K : Value → M) : M :=
  K (Value.tuple #[(Value.int .i64 0), (Value.int .i64 90)])
def sh16 (ω : Om) (a0 : Value) (a1 : Value) (K : Value → M) : M :=
  New (.cells (Value.cells a1) 30 (0, 0)) <| gh fun e_1 =>
  Pv (fldV 1 e_1) fun v2 =>
  Rv none (ld1R v2) fun v3 =>
  Cal Try.prog ω 35 #[v3] <| gh fun v4 =>
  Pv (fldV 2 e_1) fun v5 =>
  Rv none (ld1R v5) fun v6 =>
  Cal Try.prog ω 35 #[v6] <| gh fun v7 =>
  Pv (unV .not v4) fun v8 =>
  Gd v8 false
    (Pv (unV .not v7) fun v9 =>
    Gd v9 false
      (Pv (fldV 3 e_1) fun v10 =>
      Rv none (ld1R v10) fun v11 =>
      Pv (binIV .lss v11 (Value.int .i64 1)) fun v12 =>
      Gd v12 false
        (Pv (fldV 3 e_1) fun v13 =>
        Rv none (ld1R v13) fun v14 =>
        Pv (binIV .gtr v14 (Value.int .i64 255)) fun v15 =>
        Gd v15 false
          (Pv (fldV 4 e_1) fun v16 =>
          Rv none (ld1R v16) fun v17 =>
          Pv (lenV v17) fun v18 =>
          Pv (binIV .gtr v18 (Value.int .i64 1048576)) fun v19 =>
          Br v19
            (sh16_1 ω (Value.int .i64 0) (Value.int .i64 0) K)
            (Pv (nilV a0) fun v20 =>
            Pv (fldV 0 v20) fun v21 =>
            Rv none (ld1R v21) fun v22 =>
            Pv (lenV v22) fun v23 =>
            Pv (binIV .geq v23 (Value.int .i64 1000)) fun v24 =>
            Br v24
              (sh16_2 ω (Value.int .i64 0) (Value.int .i64 0) K)
              (Pv (nilV a0) fun v25 =>
              Pv (fldV 1 v25) fun v26 =>
              Rv none (ld1R v26) fun v27 =>
              Pv (binIV .add v27 (Value.int .i64 1)) fun v28 =>
              Pv (nilV a0) fun v29 =>
              Pv (fldV 1 v29) fun v30 =>
              Sto 1 v30 v28 <| gh fun _ =>
              Pv (nilV a0) fun v31 =>
              Pv (fldV 1 v31) fun v32 =>
              Rv none (ld1R v32) fun v33 =>
              Pv (fldV 0 e_1) fun v34 =>
              Sto 1 v34 v33 <| gh fun _ =>
              BldS 5 1 #[(Value.int .u8 0)] 0 [] <| gh fun v35 =>
              Pv (fldV 4 e_1) fun v36 =>
              Rv none (ld1R v36) fun v37 =>
              App 5 1 1 #[(Value.int .u8 0)] v35 v37 <| gh fun v38 =>
              Pv (fldV 4 e_1) fun v39 =>
              Sto 1 v39 v38 <| gh fun _ =>
              Draw fun S =>
                Pv (nilV a0) fun v40 =>
                Pv (fldV 0 v40) fun v41 =>
                Rv (some S) (ld1R v41) fun v42 =>
                Rv (some S) (ldNR 5 e_1) fun v43 =>
                BldS 30 5 #[(Value.int .i64 0), (Value.int .i64 0), (Value.int .i64 0), (Value.int .i64 0), (Value.slice none 0 0)] 1 [(0, v43)] <| gh <| Keep S fun v44 =>
                App 30 5 56 #[(Value.int .i64 0), (Value.int .i64 0), (Value.int .i64 0), (Value.int .i64 0), (Value.slice none 0 0)] v42 v44 <| gh fun v45 =>
                Pv (nilV a0) fun v46 =>
                Pv (fldV 0 v46) fun v47 =>
                Sto 1 v47 v45 <| gh fun _ =>
                Pv (fldV 0 e_1) fun v48 =>
                Rv none (ld1R v48) fun v49 =>
                K (Value.tuple #[v49, (Value.int .i64 0)]))))
          (sh16_1 ω (Value.int .i64 0) (Value.int .i64 0) K))
        (sh16_1 ω (Value.int .i64 0) (Value.int .i64 0) K))
      (sh16_1 ω (Value.int .i64 0) (Value.int .i64 0) K))
    (sh16_1 ω (Value.int .i64 0) (Value.int .i64 0) K)
theorem sh16_eq (ω : Om) (a0 a1 : Value) (K : Value → M) : vcF Try.prog ω Try.f16 [a0, a1] K = sh16 ω a0 a1 K := by kernel_rfl
theorem cal16 {ω : Om} {a0 a1 : Value} {K : Value → M} {I : Imm} {L : LH} (h : sh16 ω a0 a1 (fun v => Gh (K v)) I L) : Cal Try.prog ω 16 #[a0, a1] K I L :=
  Cal.gh (cal_of_vc mixed Try.func16 (by rw [sh16_eq]; exact h))

def sh17 (ω : Om) (a0 : Value) (a1 : Value) (K : Value → M) : M :=
  New (.cells #[(Value.int .i64 0), (Value.int .i64 0), (Value.int .i64 0), (Value.int .i64 0), (Value.slice none 0 0)] 30 (0, 0)) <| gh fun v1 =>
  Cal Try.prog ω 36 #[a0, a1] <| gh fun v2 =>
  Pv (binIV .lss v2 (Value.int .i64 0)) fun v3 =>
  Br v3
    (Pv (bldV #[(Value.int .i64 0), (Value.int .i64 0), (Value.int .i64 0), (Value.int .i64 0), (Value.slice none 0 0)] #[(0, 1), (1, 1), (2, 1), (3, 1), (4, 1)] []) fun v4 =>
    Sto 5 v1 v4 <| gh fun _ =>
    Rv none (ldNR 5 v1) fun v5 =>
    K (Value.tuple #[v5, (Value.int .i64 91)]))
    (Pv (nilV a0) fun v6 =>
    Pv (fldV 0 v6) fun v7 =>
    Rv none (ld1R v7) fun v8 =>
    Pv (ixV 5 v8 v2) fun v9 =>
    Rv none (ldNR 5 v9) fun v10 =>
    New (.cells #[(Value.int .i64 0), (Value.int .i64 0), (Value.int .i64 0), (Value.int .i64 0), (Value.slice none 0 0)] 30 (0, 0)) <| gh fun e_11 =>
    Sto 5 e_11 v10 <| gh fun _ =>
    Cal Try.prog ω 37 #[a0, v2] <| gh fun v12 =>
    Rv none (ldNR 5 e_11) fun v13 =>
    Sto 5 v1 v13 <| gh fun _ =>
    Rv none (ldNR 5 v1) fun v14 =>
    K (Value.tuple #[v14, (Value.int .i64 0)]))
theorem sh17_eq (ω : Om) (a0 a1 : Value) (K : Value → M) : vcF Try.prog ω Try.f17 [a0, a1] K = sh17 ω a0 a1 K := by kernel_rfl
theorem cal17 {ω : Om} {a0 a1 : Value} {K : Value → M} {I : Imm} {L : LH} (h : sh17 ω a0 a1 (fun v => Gh (K v)) I L) : Cal Try.prog ω 17 #[a0, a1] K I L :=
  Cal.gh (cal_of_vc mixed Try.func17 (by rw [sh17_eq]; exact h))

def sh18 (ω : Om) (a0 : Value) (a1 : Value) (K : Value → M) : M :=
  Cal Try.prog ω 17 #[a0, a1] <| gh fun v1 =>
  Pv (exV v1 0) fun v2 =>
  Pv (exV v1 1) fun v3 =>
  New (.cells #[(Value.int .i64 0), (Value.int .i64 0), (Value.int .i64 0), (Value.int .i64 0), (Value.slice none 0 0)] 30 (0, 0)) <| gh fun v4 =>
  Sto 5 v4 v2 <| gh fun _ =>
  K v3
theorem sh18_eq (ω : Om) (a0 a1 : Value) (K : Value → M) : vcF Try.prog ω Try.f18 [a0, a1] K = sh18 ω a0 a1 K := by kernel_rfl
theorem cal18 {ω : Om} {a0 a1 : Value} {K : Value → M} {I : Imm} {L : LH} (h : sh18 ω a0 a1 (fun v => Gh (K v)) I L) : Cal Try.prog ω 18 #[a0, a1] K I L :=
  Cal.gh (cal_of_vc mixed Try.func18 (by rw [sh18_eq]; exact h))

def sh19 (ω : Om) (a0 : Value) (a1 : Value) (K : Value → M) : M :=
  Cal Try.prog ω 36 #[a0, a1] <| gh fun v1 =>
  Pv (binIV .lss v1 (Value.int .i64 0)) fun v2 =>
  Br v2
    (K (Value.tuple #[(Value.int .i64 0), (Value.int .i64 91)]))
    (Pv (nilV a0) fun v3 =>
    Pv (fldV 0 v3) fun v4 =>
    Rv none (ld1R v4) fun v5 =>
    Pv (ixV 5 v5 v1) fun v6 =>
    Rv none (ldNR 5 v6) fun v7 =>
    Cal Try.prog ω 16 #[a0, v7] <| gh fun v8 =>
    Pv (exV v8 0) fun v9 =>
    Pv (exV v8 1) fun v10 =>
    K (Value.tuple #[v9, v10]))
theorem sh19_eq (ω : Om) (a0 a1 : Value) (K : Value → M) : vcF Try.prog ω Try.f19 [a0, a1] K = sh19 ω a0 a1 K := by kernel_rfl
theorem cal19 {ω : Om} {a0 a1 : Value} {K : Value → M} {I : Imm} {L : LH} (h : sh19 ω a0 a1 (fun v => Gh (K v)) I L) : Cal Try.prog ω 19 #[a0, a1] K I L :=
  Cal.gh (cal_of_vc mixed Try.func19 (by rw [sh19_eq]; exact h))

def sh20_1 (ω : Om) (p4 : Value) (p5 : Value) (K : Value → M) : M :=
  Cal Try.prog ω 38 #[p5] <| gh fun v1 =>
  K v1
def sh20_2 (ω : Om) (p4 : Value) (p5 : Value) (K : Value → M) : M :=
  sh20_1 ω p4 p5 K
def sh20_4 (ω : Om) (p5 : Value) (p13 : Value) (Kn0 : (Value × Value × Unit) → M) (K : Value → M) : M :=
  Pv (binIV .add p13 (Value.int .i64 1)) fun v7 =>
  Kn0 (p5, v7, ())
def sh20_5 (ω : Om) (p5 : Value) (p13 : Value) (Kn0 : (Value × Value × Unit) → M) (K : Value → M) : M :=
  sh20_4 ω p5 p13 Kn0 K
def sh20_3 (ω : Om) (p1 : Value) (p4 : Value) (p11 : Value) (p12 : Value) (x5 : Value) (x13 : Value) (Kn0 : (Value × Value × Unit) → M) (K : Value → M) : M :=
  Pv (binIV .lss x13 p12) fun v6 =>
  Br v6
    (Pv (ixV 5 p11 x13) fun v8 =>
    Rv none (ldNR 5 v8) fun v9 =>
    New (.cells #[(Value.int .i64 0), (Value.int .i64 0), (Value.int .i64 0), (Value.int .i64 0), (Value.slice none 0 0)] 30 (0, 0)) <| gh fun e_10 =>
    Sto 5 e_10 v9 <| gh fun _ =>
    Pv (fldV 2 e_10) fun v11 =>
    Rv none (ld1R v11) fun v12 =>
    Pv (binIV .eql v12 p1) fun v13 =>
    Br v13
      (Pv (fldV 0 e_10) fun v14 =>
      Rv none (ld1R v14) fun v15 =>
      BldS 3 1 #[(Value.int .i64 0)] 1 [(0, v15)] <| gh fun v16 =>
      App 3 1 8 #[(Value.int .i64 0)] x5 v16 <| gh fun v17 =>
      sh20_5 ω v17 x13 Kn0 K)
      (sh20_5 ω x5 x13 Kn0 K))
    (sh20_2 ω p4 x5 K)
def sh20 (ω : Om) (a0 : Value) (a1 : Value) (K : Value → M) : M :=
  Pv (nilV a0) fun v2 =>
  Pv (fldV 0 v2) fun v3 =>
  Rv none (ld1R v3) fun v4 =>
  Pv (lenV v4) fun v5 =>
  LoopM (((Value.slice none 0 0), (Value.int .i64 0), ()) : Value × Value × Unit) fun s Kn0 =>
  sh20_3 ω a1 (Value.slice none 0 0) v4 v5 s.1 s.2.1 Kn0 K
theorem sh20_eq (ω : Om) (a0 a1 : Value) (K : Value → M) : vcF Try.prog ω Try.f20 [a0, a1] K = sh20 ω a0 a1 K := by kernel_rfl
theorem cal20 {ω : Om} {a0 a1 : Value} {K : Value → M} {I : Imm} {L : LH} (h : sh20 ω a0 a1 (fun v => Gh (K v)) I L) : Cal Try.prog ω 20 #[a0, a1] K I L :=
  Cal.gh (cal_of_vc mixed Try.func20 (by rw [sh20_eq]; exact h))

def sh21_1 (ω : Om) (p4 : Value) (p5 : Value) (K : Value → M) : M :=
  K p5
def sh21_2 (ω : Om) (p4 : Value) (p5 : Value) (K : Value → M) : M :=
  sh21_1 ω p4 p5 K
def sh21_4 (ω : Om) (p5 : Value) (p6 : Value) (Kn0 : (Value × Value × Unit) → M) (K : Value → M) : M :=
  Pv (binIV .add p6 (Value.int .i64 1)) fun v6 =>
  Kn0 (p5, v6, ())
def sh21_5 (ω : Om) (p5 : Value) (p6 : Value) (Kn0 : (Value × Value × Unit) → M) (K : Value → M) : M :=
  sh21_4 ω p5 p6 Kn0 K
def sh21_3 (ω : Om) (p0 : Value) (p1 : Value) (p4 : Value) (x5 : Value) (x6 : Value) (Kn0 : (Value × Value × Unit) → M) (K : Value → M) : M :=
  Pv (nilV p0) fun v1 =>
  Pv (fldV 0 v1) fun v2 =>
  Rv none (ld1R v2) fun v3 =>
  Pv (lenV v3) fun v4 =>
  Pv (binIV .lss x6 v4) fun v5 =>
  Br v5
    (Pv (nilV p0) fun v7 =>
    Pv (fldV 0 v7) fun v8 =>
    Rv none (ld1R v8) fun v9 =>
    Pv (ixV 5 v9 x6) fun v10 =>
    Pv (fldV 2 v10) fun v11 =>
    Rv none (ld1R v11) fun v12 =>
    Pv (binIV .eql v12 p1) fun v13 =>
    Br v13
      (Pv (nilV p0) fun v14 =>
      Pv (fldV 0 v14) fun v15 =>
      Rv none (ld1R v15) fun v16 =>
      Pv (ixV 5 v16 x6) fun v17 =>
      Pv (fldV 0 v17) fun v18 =>
      Rv none (ld1R v18) fun v19 =>
      BldS 3 1 #[(Value.int .i64 0)] 1 [(0, v19)] <| gh fun v20 =>
      App 3 1 8 #[(Value.int .i64 0)] x5 v20 <| gh fun v21 =>
      sh21_5 ω v21 x6 Kn0 K)
      (sh21_5 ω x5 x6 Kn0 K))
    (sh21_2 ω p4 x5 K)
def sh21 (ω : Om) (a0 : Value) (a1 : Value) (K : Value → M) : M :=
  LoopM (((Value.slice none 0 0), (Value.int .i64 0), ()) : Value × Value × Unit) fun s Kn0 =>
  sh21_3 ω a0 a1 (Value.slice none 0 0) s.1 s.2.1 Kn0 K
theorem sh21_eq (ω : Om) (a0 a1 : Value) (K : Value → M) : vcF Try.prog ω Try.f21 [a0, a1] K = sh21 ω a0 a1 K := by kernel_rfl
theorem cal21 {ω : Om} {a0 a1 : Value} {K : Value → M} {I : Imm} {L : LH} (h : sh21 ω a0 a1 (fun v => Gh (K v)) I L) : Cal Try.prog ω 21 #[a0, a1] K I L :=
  Cal.gh (cal_of_vc mixed Try.func21 (by rw [sh21_eq]; exact h))

def sh22_1 (ω : Om) (p4 : Value) (K : Value → M) : M :=
  K (Value.bool true)
def sh22_2 (ω : Om) (p4 : Value) (K : Value → M) : M :=
  sh22_1 ω p4 K
def sh22_3 (ω : Om) (p0 : Value) (p1 : Value) (x4 : Value) (x5 : Value) (Kn0 : (Value × Value × Unit) → M) (K : Value → M) : M :=
  Pv (lenV p0) fun v4 =>
  Pv (binIV .lss x5 v4) fun v5 =>
  Br v5
    (Draw fun S =>
      Pv (ixV 1 p0 x5) fun v6 =>
      Rv (some S) (ld1R v6) fun v7 =>
      Pv (ixV 1 p1 x5) fun v8 =>
      Rv (some S) (ld1R v8) fun v9 =>
      Pv (binIV .neq v7 v9) fun v10 =>
      Br v10
        (K (Value.bool false))
        (Pv (binIV .add x5 (Value.int .i64 1)) fun v11 =>
        Kn0 (x4, v11, ())))
    (sh22_2 ω x4 K)
def sh22 (ω : Om) (a0 : Value) (a1 : Value) (K : Value → M) : M :=
  Pv (lenV a0) fun v1 =>
  Pv (lenV a1) fun v2 =>
  Pv (binIV .neq v1 v2) fun v3 =>
  Br v3
    (K (Value.bool false))
    (LoopM (((Value.bool false), (Value.int .i64 0), ()) : Value × Value × Unit) fun s Kn0 =>
    sh22_3 ω a0 a1 s.1 s.2.1 Kn0 K)
theorem sh22_eq (ω : Om) (a0 a1 : Value) (K : Value → M) : vcF Try.prog ω Try.f22 [a0, a1] K = sh22 ω a0 a1 K := by kernel_rfl
theorem cal22 {ω : Om} {a0 a1 : Value} {K : Value → M} {I : Imm} {L : LH} (h : sh22 ω a0 a1 (fun v => Gh (K v)) I L) : Cal Try.prog ω 22 #[a0, a1] K I L :=
  Cal.gh (cal_of_vc mixed Try.func22 (by rw [sh22_eq]; exact h))

def sh23_1 (ω : Om) (p4 : Value) (K : Value → M) : M :=
  K (Value.bool true)
def sh23_2 (ω : Om) (p4 : Value) (K : Value → M) : M :=
  sh23_1 ω p4 K
def sh23_4 (ω : Om) (p4 : Value) (p6 : Value) (Kn0 : (Value × Value × Unit) → M) (K : Value → M) : M :=
  Pv (binIV .add p6 (Value.int .i64 1)) fun v12 =>
  Kn0 (p4, v12, ())
def sh23_5 (ω : Om) (p4 : Value) (p6 : Value) (Kn0 : (Value × Value × Unit) → M) (K : Value → M) : M :=
  sh23_4 ω p4 p6 Kn0 K
def sh23_6 (ω : Om) (p4 : Value) (p6 : Value) (p8 : Value) (Kn0 : (Value × Value × Unit) → M) (K : Value → M) : M :=
  Br p8
    (K (Value.bool false))
    (sh23_5 ω p4 p6 Kn0 K)
def sh23_7 (ω : Om) (p4 : Value) (K : Value → M) : M :=
  K (Value.bool false)
def sh23_3 (ω : Om) (p0 : Value) (p1 : Value) (x4 : Value) (x6 : Value) (Kn0 : (Value × Value × Unit) → M) (K : Value → M) : M :=
  Pv (nilV p1) fun v7 =>
  Pv (fldV 0 v7) fun v8 =>
  Rv none (ld1R v8) fun v9 =>
  Pv (lenV v9) fun v10 =>
  Pv (binIV .leq x6 v10) fun v11 =>
  Br v11
    (Cal Try.prog ω 40 #[p0, x6] <| gh fun v13 =>
    Pv (exV v13 0) fun v14 =>
    Pv (exV v13 1) fun v15 =>
    New (.cells #[(Value.int .i64 0), (Value.int .i64 0), (Value.int .i64 0), (Value.int .i64 0), (Value.slice none 0 0)] 30 (0, 0)) <| gh fun e_16 =>
    Sto 5 e_16 v14 <| gh fun _ =>
    Pv (binIV .lss x6 (Value.int .i64 0)) fun v17 =>
    Gd v17 false
      (Pv (nilV p1) fun v18 =>
      Pv (fldV 0 v18) fun v19 =>
      Rv none (ld1R v19) fun v20 =>
      Pv (lenV v20) fun v21 =>
      Pv (binIV .eql x6 v21) fun v22 =>
      Br v22
        (sh23_6 ω x4 x6 v15 Kn0 K)
        (Draw fun S =>
          Rv (some S) (ldNR 5 e_16) fun v23 =>
          Pv (nilV p1) fun v24 =>
          Pv (fldV 0 v24) fun v25 =>
          Rv (some S) (ld1R v25) fun v26 =>
          Pv (ixV 5 v26 x6) fun v27 =>
          Rv (some S) (ldNR 5 v27) fun v28 =>
          Cal Try.prog ω 14 #[v23, v28] <| gh fun v29 =>
          Pv (unV .not v15) fun v30 =>
          Gd v30 false
            (Pv (unV .not v29) fun v31 =>
            Br v31
              (sh23_7 ω x4 K)
              (sh23_5 ω x4 x6 Kn0 K))
            (sh23_7 ω x4 K)))
      (sh23_6 ω x4 x6 v15 Kn0 K))
    (sh23_2 ω x4 K)
def sh23 (ω : Om) (a0 : Value) (a1 : Value) (K : Value → M) : M :=
  Cal Try.prog ω 39 #[a0] <| gh fun v1 =>
  Pv (nilV a1) fun v2 =>
  Pv (fldV 0 v2) fun v3 =>
  Rv none (ld1R v3) fun v4 =>
  Pv (lenV v4) fun v5 =>
  Pv (binIV .neq v1 v5) fun v6 =>
  Br v6
    (K (Value.bool false))
    (LoopM (((Value.bool false), (Value.int .i64 (-1)), ()) : Value × Value × Unit) fun s Kn0 =>
    sh23_3 ω a0 a1 s.1 s.2.1 Kn0 K)
theorem sh23_eq (ω : Om) (a0 a1 : Value) (K : Value → M) : vcF Try.prog ω Try.f23 [a0, a1] K = sh23 ω a0 a1 K := by kernel_rfl
theorem cal23 {ω : Om} {a0 a1 : Value} {K : Value → M} {I : Imm} {L : LH} (h : sh23 ω a0 a1 (fun v => Gh (K v)) I L) : Cal Try.prog ω 23 #[a0, a1] K I L :=
  Cal.gh (cal_of_vc mixed Try.func23 (by rw [sh23_eq]; exact h))

def sh24 (ω : Om) (K : Value → M) : M :=
  Pv (bldV #[(Value.int .i64 0), (Value.int .i64 0), (Value.int .i64 0), (Value.int .i64 0), (Value.int .i64 0), (Value.int .i64 0), (Value.int .i64 0), (Value.int .i64 0), (Value.bool false), (Value.slice none 0 0), (Value.slice none 0 0), (Value.slice none 0 0)] #[(0, 1), (1, 1), (2, 1), (3, 1), (4, 1), (5, 1), (6, 1), (7, 1), (8, 1), (9, 1), (10, 1), (11, 1)] [(0, (Value.int .i64 2)), (1, (Value.int .i64 1)), (2, (Value.int .i64 2)), (3, (Value.int .i64 1)), (4, (Value.int .i64 300)), (8, (Value.bool true))]) fun v1 =>
  Cal Try.prog ω 25 #[v1] <| gh fun v2 =>
  Pv (exV v2 0) fun v3 =>
  Pv (exV v2 1) fun v4 =>
  Pv (binIV .eql v4 (Value.int .i64 0)) fun v5 =>
  Gd v5 true
    (Rv none (bsR v3) fun v6 =>
    Pv (binSV .eql v6 (Value.string (ByteArray.mk #[2, 1, 2, 1, 172, 2, 1]))) fun v7 =>
    K v7)
    (K (Value.bool false))
theorem sh24_eq (ω : Om) (K : Value → M) : vcF Try.prog ω Try.f24 [] K = sh24 ω K := by kernel_rfl
theorem cal24 {ω : Om} {K : Value → M} {I : Imm} {L : LH} (h : sh24 ω (fun v => Gh (K v)) I L) : Cal Try.prog ω 24 #[] K I L :=
  Cal.gh (cal_of_vc mixed Try.func24 (by rw [sh24_eq]; exact h))

def sh25_1 (ω : Om) (p2 : Value) (p3 : Value) (p4 : Value) (K : Value → M) : M :=
  Pv (nilV p4) fun v24 =>
  Pv (fldV 0 v24) fun v25 =>
  Rv none (ld1R v25) fun v26 =>
  Cal Try.prog ω 46 #[v26] <| gh fun v27 =>
  K (Value.tuple #[v27, (Value.int .i64 0)])
def sh25_2 (ω : Om) (p2 : Value) (p3 : Value) (p4 : Value) (K : Value → M) : M :=
  sh25_1 ω p2 p3 p4 K
def sh25_3 (ω : Om) (p2 : Value) (p3 : Value) (p4 : Value) (K : Value → M) : M :=
  sh25_2 ω p2 p3 p4 K
def sh25_4 (ω : Om) (p2 : Value) (p3 : Value) (p4 : Value) (p64 : Value) (p65 : Value) (x66 : Value) (Kn0 : (Value × Unit) → M) (K : Value → M) : M :=
  Pv (binIV .lss x66 p65) fun v56 =>
  Br v56
    (Pv (ixV 4 p64 x66) fun v57 =>
    Rv none (ldNR 4 v57) fun v58 =>
    New (.cells #[(Value.int .i64 0), (Value.int .i64 0), (Value.int .i64 0), (Value.slice none 0 0)] 78 (0, 0)) <| gh fun e_59 =>
    Sto 4 e_59 v58 <| gh fun _ =>
    Pv (fldV 1 e_59) fun v60 =>
    Rv none (ld1R v60) fun v61 =>
    BldS 3 1 #[(Value.int .i64 0)] 1 [(0, v61)] <| gh fun v62 =>
    Cal Try.prog ω 42 #[p4, v62] <| gh fun v63 =>
    Pv (fldV 2 e_59) fun v64 =>
    Rv none (ld1R v64) fun v65 =>
    Cal Try.prog ω 44 #[p4, v65] <| gh fun v66 =>
    Pv (fldV 3 e_59) fun v67 =>
    Rv none (ld1R v67) fun v68 =>
    Cal Try.prog ω 45 #[p4, v68] <| gh fun v69 =>
    Pv (binIV .add x66 (Value.int .i64 1)) fun v70 =>
    Kn0 (v70, ()))
    (sh25_3 ω p2 p3 p4 K)
def sh25_5 (ω : Om) (p1 : Value) (p2 : Value) (p3 : Value) (p4 : Value) (K : Value → M) : M :=
  Pv (fldV 11 p1) fun v89 =>
  Rv none (ld1R v89) fun v90 =>
  Cal Try.prog ω 45 #[p4, v90] <| gh fun v91 =>
  sh25_2 ω p2 p3 p4 K
def sh25_6 (ω : Om) (p1 : Value) (p2 : Value) (p3 : Value) (p4 : Value) (K : Value → M) : M :=
  sh25_5 ω p1 p2 p3 p4 K
def sh25_7 (ω : Om) (p1 : Value) (p2 : Value) (p3 : Value) (p4 : Value) (p108 : Value) (p109 : Value) (x110 : Value) (Kn0 : (Value × Unit) → M) (K : Value → M) : M :=
  Pv (binIV .lss x110 p109) fun v95 =>
  Br v95
    (Pv (ixV 1 p108 x110) fun v96 =>
    Rv none (ld1R v96) fun v97 =>
    Cal Try.prog ω 44 #[p4, v97] <| gh fun v98 =>
    Pv (binIV .add x110 (Value.int .i64 1)) fun v99 =>
    Kn0 (v99, ()))
    (sh25_6 ω p1 p2 p3 p4 K)
def sh25 (ω : Om) (a0 : Value) (K : Value → M) : M :=
  New (.cells (Value.cells a0) 51 (0, 0)) <| gh fun m_1 =>
  Rv none (ldNR 12 m_1) fun v2 =>
  Cal Try.prog ω 41 #[v2] <| gh fun v3 =>
  Pv (unV .not v3) fun v4 =>
  Br v4
    (K (Value.tuple #[(Value.slice none 0 0), (Value.int .i64 92)]))
    (Pv (fldV 0 m_1) fun v5 =>
    Rv none (ld1R v5) fun v6 =>
    Pv (cvIV .u8 v6) fun v7 =>
    Pv (fldV 1 m_1) fun v8 =>
    Rv none (ld1R v8) fun v9 =>
    Pv (cvIV .u8 v9) fun v10 =>
    Pv (fldV 2 m_1) fun v11 =>
    Rv none (ld1R v11) fun v12 =>
    Pv (cvIV .u8 v12) fun v13 =>
    Pv (fldV 3 m_1) fun v14 =>
    Rv none (ld1R v14) fun v15 =>
    Pv (cvIV .u8 v15) fun v16 =>
    BldS 5 1 #[(Value.int .u8 0)] 4 [(0, v7), (1, v10), (2, v13), (3, v16)] <| gh fun v17 =>
    Pv (bldV #[(Value.slice none 0 0)] #[(0, 1)] [(0, v17)]) fun v18 =>
    New (.cells (Value.cells v18) 74 (0, 0)) <| gh fun v19 =>
    Pv (fldV 4 m_1) fun v20 =>
    Rv none (ld1R v20) fun v21 =>
    BldS 3 1 #[(Value.int .i64 0)] 1 [(0, v21)] <| gh fun v22 =>
    Cal Try.prog ω 42 #[v19, v22] <| gh fun v23 =>
    Pv (fldV 0 m_1) fun v28 =>
    Rv none (ld1R v28) fun v29 =>
    Pv (binIV .eql v29 (Value.int .i64 1)) fun v30 =>
    Br v30
      (Pv (fldV 5 m_1) fun v31 =>
      Rv none (ld1R v31) fun v32 =>
      Pv (fldV 6 m_1) fun v33 =>
      Rv none (ld1R v33) fun v34 =>
      BldS 3 1 #[(Value.int .i64 0)] 2 [(0, v32), (1, v34)] <| gh fun v35 =>
      Cal Try.prog ω 42 #[v19, v35] <| gh fun v36 =>
      sh25_2 ω (Value.slice none 0 0) (Value.int .i64 0) v19 K)
      (Pv (binIV .eql v29 (Value.int .i64 2)) fun v37 =>
      Br v37
        (Pv (fldV 8 m_1) fun v38 =>
        Rv none (ld1R v38) fun v39 =>
        Cal Try.prog ω 43 #[v19, v39] <| gh fun v40 =>
        sh25_2 ω (Value.slice none 0 0) (Value.int .i64 0) v19 K)
        (Pv (binIV .eql v29 (Value.int .i64 3)) fun v41 =>
        Br v41
          (Pv (fldV 5 m_1) fun v42 =>
          Rv none (ld1R v42) fun v43 =>
          Pv (fldV 6 m_1) fun v44 =>
          Rv none (ld1R v44) fun v45 =>
          Pv (fldV 7 m_1) fun v46 =>
          Rv none (ld1R v46) fun v47 =>
          Pv (fldV 9 m_1) fun v48 =>
          Rv none (ld1R v48) fun v49 =>
          Pv (lenV v49) fun v50 =>
          BldS 3 1 #[(Value.int .i64 0)] 4 [(0, v43), (1, v45), (2, v47), (3, v50)] <| gh fun v51 =>
          Cal Try.prog ω 42 #[v19, v51] <| gh fun v52 =>
          Pv (fldV 9 m_1) fun v53 =>
          Rv none (ld1R v53) fun v54 =>
          Pv (lenV v54) fun v55 =>
          LoopM (((Value.int .i64 0), ()) : Value × Unit) fun s Kn0 =>
          sh25_4 ω (Value.slice none 0 0) (Value.int .i64 0) v19 v54 v55 s.1 Kn0 K)
          (Pv (binIV .eql v29 (Value.int .i64 4)) fun v71 =>
          Br v71
            (Pv (fldV 8 m_1) fun v72 =>
            Rv none (ld1R v72) fun v73 =>
            Cal Try.prog ω 43 #[v19, v73] <| gh fun v74 =>
            Pv (fldV 5 m_1) fun v75 =>
            Rv none (ld1R v75) fun v76 =>
            BldS 3 1 #[(Value.int .i64 0)] 1 [(0, v76)] <| gh fun v77 =>
            Cal Try.prog ω 42 #[v19, v77] <| gh fun v78 =>
            sh25_2 ω (Value.slice none 0 0) (Value.int .i64 0) v19 K)
            (Pv (binIV .eql v29 (Value.int .i64 5)) fun v79 =>
            Br v79
              (Pv (fldV 5 m_1) fun v80 =>
              Rv none (ld1R v80) fun v81 =>
              Pv (fldV 6 m_1) fun v82 =>
              Rv none (ld1R v82) fun v83 =>
              Pv (fldV 10 m_1) fun v84 =>
              Rv none (ld1R v84) fun v85 =>
              Pv (lenV v85) fun v86 =>
              BldS 3 1 #[(Value.int .i64 0)] 3 [(0, v81), (1, v83), (2, v86)] <| gh fun v87 =>
              Cal Try.prog ω 42 #[v19, v87] <| gh fun v88 =>
              Pv (fldV 10 m_1) fun v92 =>
              Rv none (ld1R v92) fun v93 =>
              Pv (lenV v93) fun v94 =>
              LoopM (((Value.int .i64 0), ()) : Value × Unit) fun s Kn0 =>
              sh25_7 ω m_1 (Value.slice none 0 0) (Value.int .i64 0) v19 v93 v94 s.1 Kn0 K)
              (sh25_2 ω (Value.slice none 0 0) (Value.int .i64 0) v19 K))))))
theorem sh25_eq (ω : Om) (a0 : Value) (K : Value → M) : vcF Try.prog ω Try.f25 [a0] K = sh25 ω a0 K := by kernel_rfl
theorem cal25 {ω : Om} {a0 : Value} {K : Value → M} {I : Imm} {L : LH} (h : sh25 ω a0 (fun v => Gh (K v)) I L) : Cal Try.prog ω 25 #[a0] K I L :=
  Cal.gh (cal_of_vc mixed Try.func25 (by rw [sh25_eq]; exact h))

def sh26_1 (ω : Om) (p2 : Value) (p3 : Value) (p5 : Value) (K : Value → M) : M :=
  K (Value.tuple #[p5, (Value.int .i64 0)])
def sh26_2 (ω : Om) (p2 : Value) (p3 : Value) (p5 : Value) (K : Value → M) : M :=
  sh26_1 ω p2 p3 p5 K
def sh26_3 (ω : Om) (p2 : Value) (p3 : Value) (p5 : Value) (K : Value → M) : M :=
  sh26_2 ω p2 p3 p5 K
def sh26_4 (ω : Om) (p1 : Value) (p2 : Value) (p3 : Value) (x5 : Value) (x6 : Value) (Kn0 : (Value × Value × Unit) → M) (K : Value → M) : M :=
  Pv (fldV 9 p1) fun v48 =>
  Rv none (ld1R v48) fun v49 =>
  Pv (lenV v49) fun v50 =>
  Pv (binIV .lss x6 v50) fun v51 =>
  Br v51
    (Pv (fldV 9 p1) fun v52 =>
    Rv none (ld1R v52) fun v53 =>
    Pv (ixV 4 v53 x6) fun v54 =>
    Pv (fldV 1 v54) fun v55 =>
    Rv none (ld1R v55) fun v56 =>
    Cal Try.prog ω 47 #[x5, v56] <| gh fun v57 =>
    Pv (fldV 9 p1) fun v58 =>
    Rv none (ld1R v58) fun v59 =>
    Pv (ixV 4 v59 x6) fun v60 =>
    Pv (fldV 2 v60) fun v61 =>
    Rv none (ld1R v61) fun v62 =>
    Pv (cvIV .u8 v62) fun v63 =>
    BldS 5 1 #[(Value.int .u8 0)] 1 [(0, v63)] <| gh fun v64 =>
    App 5 1 1 #[(Value.int .u8 0)] v57 v64 <| gh fun v65 =>
    Pv (fldV 9 p1) fun v66 =>
    Rv none (ld1R v66) fun v67 =>
    Pv (ixV 4 v67 x6) fun v68 =>
    Pv (fldV 3 v68) fun v69 =>
    Rv none (ld1R v69) fun v70 =>
    Cal Try.prog ω 49 #[v65, v70] <| gh fun v71 =>
    Pv (binIV .add x6 (Value.int .i64 1)) fun v72 =>
    Kn0 (v71, v72, ()))
    (sh26_3 ω p2 p3 x5 K)
def sh26_5 (ω : Om) (p1 : Value) (p2 : Value) (p3 : Value) (p5 : Value) (K : Value → M) : M :=
  Pv (fldV 11 p1) fun v91 =>
  Rv none (ld1R v91) fun v92 =>
  Cal Try.prog ω 49 #[p5, v92] <| gh fun v93 =>
  sh26_2 ω p2 p3 v93 K
def sh26_6 (ω : Om) (p1 : Value) (p2 : Value) (p3 : Value) (p5 : Value) (K : Value → M) : M :=
  sh26_5 ω p1 p2 p3 p5 K
def sh26_7 (ω : Om) (p1 : Value) (p2 : Value) (p3 : Value) (x5 : Value) (x7 : Value) (Kn0 : (Value × Value × Unit) → M) (K : Value → M) : M :=
  Pv (fldV 10 p1) fun v94 =>
  Rv none (ld1R v94) fun v95 =>
  Pv (lenV v95) fun v96 =>
  Pv (binIV .lss x7 v96) fun v97 =>
  Br v97
    (Pv (fldV 10 p1) fun v98 =>
    Rv none (ld1R v98) fun v99 =>
    Pv (ixV 1 v99 x7) fun v100 =>
    Rv none (ld1R v100) fun v101 =>
    Pv (cvIV .u8 v101) fun v102 =>
    BldS 5 1 #[(Value.int .u8 0)] 1 [(0, v102)] <| gh fun v103 =>
    App 5 1 1 #[(Value.int .u8 0)] x5 v103 <| gh fun v104 =>
    Pv (binIV .add x7 (Value.int .i64 1)) fun v105 =>
    Kn0 (v104, v105, ()))
    (sh26_6 ω p1 p2 p3 x5 K)
def sh26 (ω : Om) (a0 : Value) (K : Value → M) : M :=
  New (.cells (Value.cells a0) 51 (0, 0)) <| gh fun m_1 =>
  Rv none (ldNR 12 m_1) fun v2 =>
  Cal Try.prog ω 30 #[v2] <| gh fun v3 =>
  Pv (unV .not v3) fun v4 =>
  Br v4
    (K (Value.tuple #[(Value.slice none 0 0), (Value.int .i64 92)]))
    (Pv (fldV 0 m_1) fun v5 =>
    Rv none (ld1R v5) fun v6 =>
    Pv (cvIV .u8 v6) fun v7 =>
    Pv (fldV 1 m_1) fun v8 =>
    Rv none (ld1R v8) fun v9 =>
    Pv (cvIV .u8 v9) fun v10 =>
    Pv (fldV 2 m_1) fun v11 =>
    Rv none (ld1R v11) fun v12 =>
    Pv (cvIV .u8 v12) fun v13 =>
    Pv (fldV 3 m_1) fun v14 =>
    Rv none (ld1R v14) fun v15 =>
    Pv (cvIV .u8 v15) fun v16 =>
    BldS 5 1 #[(Value.int .u8 0)] 4 [(0, v7), (1, v10), (2, v13), (3, v16)] <| gh fun v17 =>
    Pv (fldV 4 m_1) fun v18 =>
    Rv none (ld1R v18) fun v19 =>
    Cal Try.prog ω 47 #[v17, v19] <| gh fun v20 =>
    Pv (fldV 0 m_1) fun v21 =>
    Rv none (ld1R v21) fun v22 =>
    Pv (binIV .eql v22 (Value.int .i64 1)) fun v23 =>
    Br v23
      (Pv (fldV 5 m_1) fun v24 =>
      Rv none (ld1R v24) fun v25 =>
      Cal Try.prog ω 47 #[v20, v25] <| gh fun v26 =>
      Pv (fldV 6 m_1) fun v27 =>
      Rv none (ld1R v27) fun v28 =>
      Cal Try.prog ω 47 #[v26, v28] <| gh fun v29 =>
      sh26_2 ω (Value.slice none 0 0) (Value.int .i64 0) v29 K)
      (Pv (binIV .eql v22 (Value.int .i64 2)) fun v30 =>
      Br v30
        (Pv (fldV 8 m_1) fun v31 =>
        Rv none (ld1R v31) fun v32 =>
        Cal Try.prog ω 48 #[v20, v32] <| gh fun v33 =>
        sh26_2 ω (Value.slice none 0 0) (Value.int .i64 0) v33 K)
        (Pv (binIV .eql v22 (Value.int .i64 3)) fun v34 =>
        Br v34
          (Pv (fldV 5 m_1) fun v35 =>
          Rv none (ld1R v35) fun v36 =>
          Cal Try.prog ω 47 #[v20, v36] <| gh fun v37 =>
          Pv (fldV 6 m_1) fun v38 =>
          Rv none (ld1R v38) fun v39 =>
          Cal Try.prog ω 47 #[v37, v39] <| gh fun v40 =>
          Pv (fldV 7 m_1) fun v41 =>
          Rv none (ld1R v41) fun v42 =>
          Cal Try.prog ω 47 #[v40, v42] <| gh fun v43 =>
          Pv (fldV 9 m_1) fun v44 =>
          Rv none (ld1R v44) fun v45 =>
          Pv (lenV v45) fun v46 =>
          Cal Try.prog ω 47 #[v43, v46] <| gh fun v47 =>
          LoopM ((v47, (Value.int .i64 0), ()) : Value × Value × Unit) fun s Kn0 =>
          sh26_4 ω m_1 (Value.slice none 0 0) (Value.int .i64 0) s.1 s.2.1 Kn0 K)
          (Pv (binIV .eql v22 (Value.int .i64 4)) fun v73 =>
          Br v73
            (Pv (fldV 8 m_1) fun v74 =>
            Rv none (ld1R v74) fun v75 =>
            Cal Try.prog ω 48 #[v20, v75] <| gh fun v76 =>
            Pv (fldV 5 m_1) fun v77 =>
            Rv none (ld1R v77) fun v78 =>
            Cal Try.prog ω 47 #[v76, v78] <| gh fun v79 =>
            sh26_2 ω (Value.slice none 0 0) (Value.int .i64 0) v79 K)
            (Pv (binIV .eql v22 (Value.int .i64 5)) fun v80 =>
            Br v80
              (Pv (fldV 5 m_1) fun v81 =>
              Rv none (ld1R v81) fun v82 =>
              Cal Try.prog ω 47 #[v20, v82] <| gh fun v83 =>
              Pv (fldV 6 m_1) fun v84 =>
              Rv none (ld1R v84) fun v85 =>
              Cal Try.prog ω 47 #[v83, v85] <| gh fun v86 =>
              Pv (fldV 10 m_1) fun v87 =>
              Rv none (ld1R v87) fun v88 =>
              Pv (lenV v88) fun v89 =>
              Cal Try.prog ω 47 #[v86, v89] <| gh fun v90 =>
              LoopM ((v90, (Value.int .i64 0), ()) : Value × Value × Unit) fun s Kn0 =>
              sh26_7 ω m_1 (Value.slice none 0 0) (Value.int .i64 0) s.1 s.2.1 Kn0 K)
              (sh26_2 ω (Value.slice none 0 0) (Value.int .i64 0) v20 K))))))
theorem sh26_eq (ω : Om) (a0 : Value) (K : Value → M) : vcF Try.prog ω Try.f26 [a0] K = sh26 ω a0 K := by kernel_rfl
theorem cal26 {ω : Om} {a0 : Value} {K : Value → M} {I : Imm} {L : LH} (h : sh26 ω a0 (fun v => Gh (K v)) I L) : Cal Try.prog ω 26 #[a0] K I L :=
  Cal.gh (cal_of_vc mixed Try.func26 (by rw [sh26_eq]; exact h))

def sh27_2 (ω : Om) (p2 : Value) (p3 : Value) (K : Value → M) : M :=
  Pv (bldV #[(Value.int .i64 0), (Value.int .i64 0), (Value.int .i64 0), (Value.int .i64 0), (Value.int .i64 0), (Value.int .i64 0), (Value.int .i64 0), (Value.int .i64 0), (Value.bool false), (Value.slice none 0 0), (Value.slice none 0 0), (Value.slice none 0 0)] #[(0, 1), (1, 1), (2, 1), (3, 1), (4, 1), (5, 1), (6, 1), (7, 1), (8, 1), (9, 1), (10, 1), (11, 1)] []) fun v21 =>
  Sto 12 p2 v21 <| gh fun _ =>
  Rv none (ldNR 12 p2) fun v22 =>
  K (Value.tuple #[v22, (Value.int .i64 92)])
def sh27_1 (ω : Om) (p0 : Value) (p2 : Value) (p3 : Value) (p4 : Value) (p5 : Value) (K : Value → M) : M :=
  Rv none (ldNR 12 p5) fun v11 =>
  Cal Try.prog ω 25 #[v11] <| gh fun v12 =>
  Pv (exV v12 0) fun v13 =>
  Pv (exV v12 1) fun v14 =>
  Pv (nilV p4) fun v15 =>
  Pv (fldV 1 v15) fun v16 =>
  Rv none (ld1R v16) fun v17 =>
  Gd v17 false
    (Pv (binIV .neq v14 (Value.int .i64 0)) fun v18 =>
    Gd v18 false
      (Cal Try.prog ω 54 #[v13, p0] <| gh fun v19 =>
      Pv (unV .not v19) fun v20 =>
      Br v20
        (sh27_2 ω p2 p3 K)
        (Rv none (ldNR 12 p5) fun v23 =>
        Sto 12 p2 v23 <| gh fun _ =>
        Rv none (ldNR 12 p2) fun v24 =>
        K (Value.tuple #[v24, (Value.int .i64 0)])))
      (sh27_2 ω p2 p3 K))
    (sh27_2 ω p2 p3 K)
def sh27_3 (ω : Om) (p0 : Value) (p2 : Value) (p3 : Value) (p4 : Value) (p5 : Value) (K : Value → M) : M :=
  sh27_1 ω p0 p2 p3 p4 p5 K
def sh27_4 (ω : Om) (p0 : Value) (p2 : Value) (p3 : Value) (p4 : Value) (p5 : Value) (K : Value → M) : M :=
  sh27_3 ω p0 p2 p3 p4 p5 K
def sh27_5 (ω : Om) (p0 : Value) (p2 : Value) (p3 : Value) (p4 : Value) (p5 : Value) (p6 : Value) (x7 : Value) (Kn0 : (Value × Unit) → M) (K : Value → M) : M :=
  Pv (binIV .lss x7 p6) fun v44 =>
  Gd v44 true
    (Pv (binIV .leq x7 (Value.int .i64 64)) fun v45 =>
    Br v45
      (Draw fun S =>
        Pv (fldV 9 p5) fun v46 =>
        Rv (some S) (ld1R v46) fun v47 =>
        Pv (fldV 5 p5) fun v48 =>
        Rv (some S) (ld1R v48) fun v49 =>
        Pv (binIV .add v49 (Value.int .i64 1)) fun v50 =>
        Pv (binIV .add v50 x7) fun v51 =>
        Cal Try.prog ω 51 #[p4] <| gh <| Keep S fun v52 =>
        Cal Try.prog ω 50 #[p4] <| gh <| Keep S fun v53 =>
        Cal Try.prog ω 52 #[p4] <| gh <| Keep S fun v54 =>
        Pv (bldV #[(Value.int .i64 0), (Value.int .i64 0), (Value.int .i64 0), (Value.slice none 0 0)] #[(0, 1), (1, 1), (2, 1), (3, 1)] [(0, v51), (1, v52), (2, v53), (3, v54)]) fun v55 =>
        BldS 78 4 #[(Value.int .i64 0), (Value.int .i64 0), (Value.int .i64 0), (Value.slice none 0 0)] 1 [(0, v55)] <| gh <| Keep S fun v56 =>
        App 78 4 48 #[(Value.int .i64 0), (Value.int .i64 0), (Value.int .i64 0), (Value.slice none 0 0)] v47 v56 <| gh fun v57 =>
        Pv (fldV 9 p5) fun v58 =>
        Sto 1 v58 v57 <| gh fun _ =>
        Pv (binIV .add x7 (Value.int .i64 1)) fun v59 =>
        Kn0 (v59, ()))
      (sh27_4 ω p0 p2 p3 p4 p5 K))
    (sh27_4 ω p0 p2 p3 p4 p5 K)
def sh27 (ω : Om) (a0 : Value) (K : Value → M) : M :=
  New (.cells #[(Value.int .i64 0), (Value.int .i64 0), (Value.int .i64 0), (Value.int .i64 0), (Value.int .i64 0), (Value.int .i64 0), (Value.int .i64 0), (Value.int .i64 0), (Value.bool false), (Value.slice none 0 0), (Value.slice none 0 0), (Value.slice none 0 0)] 51 (0, 0)) <| gh fun v1 =>
  Pv (bldV #[(Value.slice none 0 0), (Value.bool false)] #[(0, 1), (1, 1)] [(0, a0)]) fun v2 =>
  New (.cells (Value.cells v2) 86 (0, 0)) <| gh fun v3 =>
  Cal Try.prog ω 50 #[v3] <| gh fun v4 =>
  Cal Try.prog ω 50 #[v3] <| gh fun v5 =>
  Cal Try.prog ω 50 #[v3] <| gh fun v6 =>
  Cal Try.prog ω 50 #[v3] <| gh fun v7 =>
  Cal Try.prog ω 51 #[v3] <| gh fun v8 =>
  Pv (bldV #[(Value.int .i64 0), (Value.int .i64 0), (Value.int .i64 0), (Value.int .i64 0), (Value.int .i64 0), (Value.int .i64 0), (Value.int .i64 0), (Value.int .i64 0), (Value.bool false), (Value.slice none 0 0), (Value.slice none 0 0), (Value.slice none 0 0)] #[(0, 1), (1, 1), (2, 1), (3, 1), (4, 1), (5, 1), (6, 1), (7, 1), (8, 1), (9, 1), (10, 1), (11, 1)] [(0, v4), (1, v5), (2, v6), (3, v7), (4, v8)]) fun v9 =>
  New (.cells #[(Value.int .i64 0), (Value.int .i64 0), (Value.int .i64 0), (Value.int .i64 0), (Value.int .i64 0), (Value.int .i64 0), (Value.int .i64 0), (Value.int .i64 0), (Value.bool false), (Value.slice none 0 0), (Value.slice none 0 0), (Value.slice none 0 0)] 51 (0, 0)) <| gh fun m_10 =>
  Sto 12 m_10 v9 <| gh fun _ =>
  Pv (fldV 0 m_10) fun v25 =>
  Rv none (ld1R v25) fun v26 =>
  Pv (binIV .eql v26 (Value.int .i64 1)) fun v27 =>
  Br v27
    (Cal Try.prog ω 51 #[v3] <| gh fun v28 =>
    Cal Try.prog ω 51 #[v3] <| gh fun v29 =>
    Pv (fldV 5 m_10) fun v30 =>
    Sto 1 v30 v28 <| gh fun _ =>
    Pv (fldV 6 m_10) fun v31 =>
    Sto 1 v31 v29 <| gh fun _ =>
    sh27_3 ω a0 v1 (Value.int .i64 0) v3 m_10 K)
    (Pv (binIV .eql v26 (Value.int .i64 2)) fun v32 =>
    Br v32
      (Cal Try.prog ω 50 #[v3] <| gh fun v33 =>
      Pv (binIV .eql v33 (Value.int .i64 1)) fun v34 =>
      Pv (fldV 8 m_10) fun v35 =>
      Sto 1 v35 v34 <| gh fun _ =>
      sh27_3 ω a0 v1 (Value.int .i64 0) v3 m_10 K)
      (Pv (binIV .eql v26 (Value.int .i64 3)) fun v36 =>
      Br v36
        (Cal Try.prog ω 51 #[v3] <| gh fun v37 =>
        Cal Try.prog ω 51 #[v3] <| gh fun v38 =>
        Cal Try.prog ω 51 #[v3] <| gh fun v39 =>
        Pv (fldV 5 m_10) fun v40 =>
        Sto 1 v40 v37 <| gh fun _ =>
        Pv (fldV 6 m_10) fun v41 =>
        Sto 1 v41 v38 <| gh fun _ =>
        Pv (fldV 7 m_10) fun v42 =>
        Sto 1 v42 v39 <| gh fun _ =>
        Cal Try.prog ω 51 #[v3] <| gh fun v43 =>
        LoopM (((Value.int .i64 0), ()) : Value × Unit) fun s Kn0 =>
        sh27_5 ω a0 v1 (Value.int .i64 0) v3 m_10 v43 s.1 Kn0 K)
        (Pv (binIV .eql v26 (Value.int .i64 4)) fun v60 =>
        Br v60
          (Cal Try.prog ω 50 #[v3] <| gh fun v61 =>
          Pv (binIV .eql v61 (Value.int .i64 1)) fun v62 =>
          Cal Try.prog ω 51 #[v3] <| gh fun v63 =>
          Pv (fldV 8 m_10) fun v64 =>
          Sto 1 v64 v62 <| gh fun _ =>
          Pv (fldV 5 m_10) fun v65 =>
          Sto 1 v65 v63 <| gh fun _ =>
          sh27_3 ω a0 v1 (Value.int .i64 0) v3 m_10 K)
          (Pv (binIV .eql v26 (Value.int .i64 5)) fun v66 =>
          Br v66
            (Cal Try.prog ω 51 #[v3] <| gh fun v67 =>
            Cal Try.prog ω 51 #[v3] <| gh fun v68 =>
            Cal Try.prog ω 52 #[v3] <| gh fun v69 =>
            Cal Try.prog ω 53 #[v69] <| gh fun v70 =>
            Cal Try.prog ω 52 #[v3] <| gh fun v71 =>
            Pv (fldV 5 m_10) fun v72 =>
            Sto 1 v72 v67 <| gh fun _ =>
            Pv (fldV 6 m_10) fun v73 =>
            Sto 1 v73 v68 <| gh fun _ =>
            Pv (fldV 10 m_10) fun v74 =>
            Sto 1 v74 v70 <| gh fun _ =>
            Pv (fldV 11 m_10) fun v75 =>
            Sto 1 v75 v71 <| gh fun _ =>
            sh27_3 ω a0 v1 (Value.int .i64 0) v3 m_10 K)
            (sh27_3 ω a0 v1 (Value.int .i64 0) v3 m_10 K)))))
theorem sh27_eq (ω : Om) (a0 : Value) (K : Value → M) : vcF Try.prog ω Try.f27 [a0] K = sh27 ω a0 K := by kernel_rfl
theorem cal27 {ω : Om} {a0 : Value} {K : Value → M} {I : Imm} {L : LH} (h : sh27 ω a0 (fun v => Gh (K v)) I L) : Cal Try.prog ω 27 #[a0] K I L :=
  Cal.gh (cal_of_vc mixed Try.func27 (by rw [sh27_eq]; exact h))

def sh28_2 (ω : Om) (p2 : Value) (p3 : Value) (K : Value → M) : M :=
  Pv (bldV #[(Value.int .i64 0), (Value.int .i64 0), (Value.int .i64 0), (Value.int .i64 0), (Value.int .i64 0), (Value.int .i64 0), (Value.int .i64 0), (Value.int .i64 0), (Value.bool false), (Value.slice none 0 0), (Value.slice none 0 0), (Value.slice none 0 0)] #[(0, 1), (1, 1), (2, 1), (3, 1), (4, 1), (5, 1), (6, 1), (7, 1), (8, 1), (9, 1), (10, 1), (11, 1)] []) fun v29 =>
  Sto 12 p2 v29 <| gh fun _ =>
  Rv none (ldNR 12 p2) fun v30 =>
  K (Value.tuple #[v30, (Value.int .i64 92)])
def sh28_1 (ω : Om) (p0 : Value) (p2 : Value) (p3 : Value) (p4 : Value) (p5 : Value) (K : Value → M) : M :=
  Pv (nilV p4) fun v16 =>
  Pv (fldV 2 v16) fun v17 =>
  Rv none (ld1R v17) fun v18 =>
  Br v18
    (Pv (bldV #[(Value.int .i64 0), (Value.int .i64 0), (Value.int .i64 0), (Value.int .i64 0), (Value.int .i64 0), (Value.int .i64 0), (Value.int .i64 0), (Value.int .i64 0), (Value.bool false), (Value.slice none 0 0), (Value.slice none 0 0), (Value.slice none 0 0)] #[(0, 1), (1, 1), (2, 1), (3, 1), (4, 1), (5, 1), (6, 1), (7, 1), (8, 1), (9, 1), (10, 1), (11, 1)] []) fun v19 =>
    Sto 12 p2 v19 <| gh fun _ =>
    Rv none (ldNR 12 p2) fun v20 =>
    K (Value.tuple #[v20, (Value.int .i64 92)]))
    (Rv none (ldNR 12 p5) fun v21 =>
    Cal Try.prog ω 26 #[v21] <| gh fun v22 =>
    Pv (exV v22 0) fun v23 =>
    Pv (exV v22 1) fun v24 =>
    Pv (binIV .neq v24 (Value.int .i64 0)) fun v25 =>
    Gd v25 false
      (Rv none (bsR v23) fun v26 =>
      Rv none (bsR p0) fun v27 =>
      Pv (binSV .neq v26 v27) fun v28 =>
      Br v28
        (sh28_2 ω p2 p3 K)
        (Rv none (ldNR 12 p5) fun v31 =>
        Sto 12 p2 v31 <| gh fun _ =>
        Rv none (ldNR 12 p2) fun v32 =>
        K (Value.tuple #[v32, (Value.int .i64 0)])))
      (sh28_2 ω p2 p3 K))
def sh28_3 (ω : Om) (p0 : Value) (p2 : Value) (p3 : Value) (p4 : Value) (p5 : Value) (K : Value → M) : M :=
  sh28_1 ω p0 p2 p3 p4 p5 K
def sh28_4 (ω : Om) (p0 : Value) (p2 : Value) (p3 : Value) (p4 : Value) (p5 : Value) (K : Value → M) : M :=
  sh28_3 ω p0 p2 p3 p4 p5 K
def sh28_5 (ω : Om) (p0 : Value) (p2 : Value) (p3 : Value) (p4 : Value) (p5 : Value) (p7 : Value) (x8 : Value) (Kn0 : (Value × Unit) → M) (K : Value → M) : M :=
  Pv (binIV .lss x8 p7) fun v52 =>
  Gd v52 true
    (Pv (binIV .leq x8 (Value.int .i64 64)) fun v53 =>
    Gd v53 true
      (Pv (nilV p4) fun v54 =>
      Pv (fldV 2 v54) fun v55 =>
      Rv none (ld1R v55) fun v56 =>
      Pv (unV .not v56) fun v57 =>
      Br v57
        (Pv (fldV 5 p5) fun v58 =>
        Rv none (ld1R v58) fun v59 =>
        Pv (binIV .add v59 (Value.int .i64 1)) fun v60 =>
        Pv (binIV .add v60 x8) fun v61 =>
        Pv (bldV #[(Value.int .i64 0), (Value.int .i64 0), (Value.int .i64 0), (Value.slice none 0 0)] #[(0, 1), (1, 1), (2, 1), (3, 1)] [(0, v61)]) fun v62 =>
        New (.cells #[(Value.int .i64 0), (Value.int .i64 0), (Value.int .i64 0), (Value.slice none 0 0)] 78 (0, 0)) <| gh fun e_63 =>
        Sto 4 e_63 v62 <| gh fun _ =>
        Cal Try.prog ω 56 #[p4] <| gh fun v64 =>
        Pv (fldV 1 e_63) fun v65 =>
        Sto 1 v65 v64 <| gh fun _ =>
        Cal Try.prog ω 55 #[p4] <| gh fun v66 =>
        Pv (fldV 2 e_63) fun v67 =>
        Sto 1 v67 v66 <| gh fun _ =>
        Cal Try.prog ω 57 #[p4] <| gh fun v68 =>
        Pv (fldV 3 e_63) fun v69 =>
        Sto 1 v69 v68 <| gh fun _ =>
        Pv (fldV 9 p5) fun v70 =>
        Rv none (ld1R v70) fun v71 =>
        Rv none (ldNR 4 e_63) fun v72 =>
        BldS 78 4 #[(Value.int .i64 0), (Value.int .i64 0), (Value.int .i64 0), (Value.slice none 0 0)] 1 [(0, v72)] <| gh fun v73 =>
        App 78 4 48 #[(Value.int .i64 0), (Value.int .i64 0), (Value.int .i64 0), (Value.slice none 0 0)] v71 v73 <| gh fun v74 =>
        Pv (fldV 9 p5) fun v75 =>
        Sto 1 v75 v74 <| gh fun _ =>
        Pv (binIV .add x8 (Value.int .i64 1)) fun v76 =>
        Kn0 (v76, ()))
        (sh28_4 ω p0 p2 p3 p4 p5 K))
      (sh28_4 ω p0 p2 p3 p4 p5 K))
    (sh28_4 ω p0 p2 p3 p4 p5 K)
def sh28_6 (ω : Om) (p0 : Value) (p2 : Value) (p3 : Value) (p4 : Value) (p5 : Value) (K : Value → M) : M :=
  Cal Try.prog ω 57 #[p4] <| gh fun v89 =>
  Pv (fldV 11 p5) fun v90 =>
  Sto 1 v90 v89 <| gh fun _ =>
  sh28_3 ω p0 p2 p3 p4 p5 K
def sh28_7 (ω : Om) (p0 : Value) (p2 : Value) (p3 : Value) (p4 : Value) (p5 : Value) (K : Value → M) : M :=
  sh28_6 ω p0 p2 p3 p4 p5 K
def sh28_8 (ω : Om) (p0 : Value) (p2 : Value) (p3 : Value) (p4 : Value) (p5 : Value) (p11 : Value) (x12 : Value) (Kn0 : (Value × Unit) → M) (K : Value → M) : M :=
  Pv (lenV p11) fun v91 =>
  Pv (binIV .lss x12 v91) fun v92 =>
  Br v92
    (Draw fun S =>
      Pv (fldV 10 p5) fun v93 =>
      Rv (some S) (ld1R v93) fun v94 =>
      Pv (ixV 1 p11 x12) fun v95 =>
      Rv (some S) (ld1R v95) fun v96 =>
      Pv (cvIV .i64 v96) fun v97 =>
      BldS 3 1 #[(Value.int .i64 0)] 1 [(0, v97)] <| gh <| Keep S fun v98 =>
      App 3 1 8 #[(Value.int .i64 0)] v94 v98 <| gh fun v99 =>
      Pv (fldV 10 p5) fun v100 =>
      Sto 1 v100 v99 <| gh fun _ =>
      Pv (binIV .add x12 (Value.int .i64 1)) fun v101 =>
      Kn0 (v101, ()))
    (sh28_7 ω p0 p2 p3 p4 p5 K)
def sh28 (ω : Om) (a0 : Value) (K : Value → M) : M :=
  New (.cells #[(Value.int .i64 0), (Value.int .i64 0), (Value.int .i64 0), (Value.int .i64 0), (Value.int .i64 0), (Value.int .i64 0), (Value.int .i64 0), (Value.int .i64 0), (Value.bool false), (Value.slice none 0 0), (Value.slice none 0 0), (Value.slice none 0 0)] 51 (0, 0)) <| gh fun v1 =>
  Pv (bldV #[(Value.slice none 0 0), (Value.int .i64 0), (Value.bool false)] #[(0, 1), (1, 1), (2, 1)] [(0, a0)]) fun v2 =>
  New (.cells (Value.cells v2) 92 (0, 0)) <| gh fun v3 =>
  Pv (bldV #[(Value.int .i64 0), (Value.int .i64 0), (Value.int .i64 0), (Value.int .i64 0), (Value.int .i64 0), (Value.int .i64 0), (Value.int .i64 0), (Value.int .i64 0), (Value.bool false), (Value.slice none 0 0), (Value.slice none 0 0), (Value.slice none 0 0)] #[(0, 1), (1, 1), (2, 1), (3, 1), (4, 1), (5, 1), (6, 1), (7, 1), (8, 1), (9, 1), (10, 1), (11, 1)] []) fun v4 =>
  New (.cells #[(Value.int .i64 0), (Value.int .i64 0), (Value.int .i64 0), (Value.int .i64 0), (Value.int .i64 0), (Value.int .i64 0), (Value.int .i64 0), (Value.int .i64 0), (Value.bool false), (Value.slice none 0 0), (Value.slice none 0 0), (Value.slice none 0 0)] 51 (0, 0)) <| gh fun m_5 =>
  Sto 12 m_5 v4 <| gh fun _ =>
  Cal Try.prog ω 55 #[v3] <| gh fun v6 =>
  Pv (fldV 0 m_5) fun v7 =>
  Sto 1 v7 v6 <| gh fun _ =>
  Cal Try.prog ω 55 #[v3] <| gh fun v8 =>
  Pv (fldV 1 m_5) fun v9 =>
  Sto 1 v9 v8 <| gh fun _ =>
  Cal Try.prog ω 55 #[v3] <| gh fun v10 =>
  Pv (fldV 2 m_5) fun v11 =>
  Sto 1 v11 v10 <| gh fun _ =>
  Cal Try.prog ω 55 #[v3] <| gh fun v12 =>
  Pv (fldV 3 m_5) fun v13 =>
  Sto 1 v13 v12 <| gh fun _ =>
  Cal Try.prog ω 56 #[v3] <| gh fun v14 =>
  Pv (fldV 4 m_5) fun v15 =>
  Sto 1 v15 v14 <| gh fun _ =>
  Pv (fldV 0 m_5) fun v33 =>
  Rv none (ld1R v33) fun v34 =>
  Pv (binIV .eql v34 (Value.int .i64 1)) fun v35 =>
  Br v35
    (Cal Try.prog ω 56 #[v3] <| gh fun v36 =>
    Pv (fldV 5 m_5) fun v37 =>
    Sto 1 v37 v36 <| gh fun _ =>
    Cal Try.prog ω 56 #[v3] <| gh fun v38 =>
    Pv (fldV 6 m_5) fun v39 =>
    Sto 1 v39 v38 <| gh fun _ =>
    sh28_3 ω a0 v1 (Value.int .i64 0) v3 m_5 K)
    (Pv (binIV .eql v34 (Value.int .i64 2)) fun v40 =>
    Br v40
      (Cal Try.prog ω 55 #[v3] <| gh fun v41 =>
      Pv (binIV .eql v41 (Value.int .i64 1)) fun v42 =>
      Pv (fldV 8 m_5) fun v43 =>
      Sto 1 v43 v42 <| gh fun _ =>
      sh28_3 ω a0 v1 (Value.int .i64 0) v3 m_5 K)
      (Pv (binIV .eql v34 (Value.int .i64 3)) fun v44 =>
      Br v44
        (Cal Try.prog ω 56 #[v3] <| gh fun v45 =>
        Pv (fldV 5 m_5) fun v46 =>
        Sto 1 v46 v45 <| gh fun _ =>
        Cal Try.prog ω 56 #[v3] <| gh fun v47 =>
        Pv (fldV 6 m_5) fun v48 =>
        Sto 1 v48 v47 <| gh fun _ =>
        Cal Try.prog ω 56 #[v3] <| gh fun v49 =>
        Pv (fldV 7 m_5) fun v50 =>
        Sto 1 v50 v49 <| gh fun _ =>
        Cal Try.prog ω 56 #[v3] <| gh fun v51 =>
        LoopM (((Value.int .i64 0), ()) : Value × Unit) fun s Kn0 =>
        sh28_5 ω a0 v1 (Value.int .i64 0) v3 m_5 v51 s.1 Kn0 K)
        (Pv (binIV .eql v34 (Value.int .i64 4)) fun v77 =>
        Br v77
          (Cal Try.prog ω 55 #[v3] <| gh fun v78 =>
          Pv (binIV .eql v78 (Value.int .i64 1)) fun v79 =>
          Pv (fldV 8 m_5) fun v80 =>
          Sto 1 v80 v79 <| gh fun _ =>
          Cal Try.prog ω 56 #[v3] <| gh fun v81 =>
          Pv (fldV 5 m_5) fun v82 =>
          Sto 1 v82 v81 <| gh fun _ =>
          sh28_3 ω a0 v1 (Value.int .i64 0) v3 m_5 K)
          (Pv (binIV .eql v34 (Value.int .i64 5)) fun v83 =>
          Br v83
            (Cal Try.prog ω 56 #[v3] <| gh fun v84 =>
            Pv (fldV 5 m_5) fun v85 =>
            Sto 1 v85 v84 <| gh fun _ =>
            Cal Try.prog ω 56 #[v3] <| gh fun v86 =>
            Pv (fldV 6 m_5) fun v87 =>
            Sto 1 v87 v86 <| gh fun _ =>
            Cal Try.prog ω 57 #[v3] <| gh fun v88 =>
            LoopM (((Value.int .i64 0), ()) : Value × Unit) fun s Kn0 =>
            sh28_8 ω a0 v1 (Value.int .i64 0) v3 m_5 v88 s.1 Kn0 K)
            (sh28_3 ω a0 v1 (Value.int .i64 0) v3 m_5 K)))))
theorem sh28_eq (ω : Om) (a0 : Value) (K : Value → M) : vcF Try.prog ω Try.f28 [a0] K = sh28 ω a0 K := by kernel_rfl
theorem cal28 {ω : Om} {a0 : Value} {K : Value → M} {I : Imm} {L : LH} (h : sh28 ω a0 (fun v => Gh (K v)) I L) : Cal Try.prog ω 28 #[a0] K I L :=
  Cal.gh (cal_of_vc mixed Try.func28 (by rw [sh28_eq]; exact h))

def sh29 (ω : Om) (a0 : Value) (a1 : Value) (K : Value → M) : M :=
  New (.cells (Value.cells a0) 51 (0, 0)) <| gh fun a_1 =>
  New (.cells (Value.cells a1) 51 (0, 0)) <| gh fun b_2 =>
  Pv (fldV 9 a_1) fun v3 =>
  Rv none (ld1R v3) fun v4 =>
  Pv (fldV 9 b_2) fun v5 =>
  Rv none (ld1R v5) fun v6 =>
  Cal Try.prog ω 58 #[v4, v6] <| gh fun v7 =>
  Pv (fldV 10 a_1) fun v8 =>
  Rv none (ld1R v8) fun v9 =>
  Pv (fldV 10 b_2) fun v10 =>
  Rv none (ld1R v10) fun v11 =>
  Cal Try.prog ω 22 #[v9, v11] <| gh fun v12 =>
  Gd v7 true
    (Gd v12 true
      (Pv (fldV 0 a_1) fun v13 =>
      Rv none (ld1R v13) fun v14 =>
      Pv (fldV 0 b_2) fun v15 =>
      Rv none (ld1R v15) fun v16 =>
      Pv (binIV .eql v14 v16) fun v17 =>
      Gd v17 true
        (Pv (fldV 1 a_1) fun v18 =>
        Rv none (ld1R v18) fun v19 =>
        Pv (fldV 1 b_2) fun v20 =>
        Rv none (ld1R v20) fun v21 =>
        Pv (binIV .eql v19 v21) fun v22 =>
        Gd v22 true
          (Pv (fldV 2 a_1) fun v23 =>
          Rv none (ld1R v23) fun v24 =>
          Pv (fldV 2 b_2) fun v25 =>
          Rv none (ld1R v25) fun v26 =>
          Pv (binIV .eql v24 v26) fun v27 =>
          Gd v27 true
            (Pv (fldV 3 a_1) fun v28 =>
            Rv none (ld1R v28) fun v29 =>
            Pv (fldV 3 b_2) fun v30 =>
            Rv none (ld1R v30) fun v31 =>
            Pv (binIV .eql v29 v31) fun v32 =>
            Gd v32 true
              (Pv (fldV 4 a_1) fun v33 =>
              Rv none (ld1R v33) fun v34 =>
              Pv (fldV 4 b_2) fun v35 =>
              Rv none (ld1R v35) fun v36 =>
              Pv (binIV .eql v34 v36) fun v37 =>
              Gd v37 true
                (Pv (fldV 5 a_1) fun v38 =>
                Rv none (ld1R v38) fun v39 =>
                Pv (fldV 5 b_2) fun v40 =>
                Rv none (ld1R v40) fun v41 =>
                Pv (binIV .eql v39 v41) fun v42 =>
                Gd v42 true
                  (Pv (fldV 6 a_1) fun v43 =>
                  Rv none (ld1R v43) fun v44 =>
                  Pv (fldV 6 b_2) fun v45 =>
                  Rv none (ld1R v45) fun v46 =>
                  Pv (binIV .eql v44 v46) fun v47 =>
                  Gd v47 true
                    (Pv (fldV 7 a_1) fun v48 =>
                    Rv none (ld1R v48) fun v49 =>
                    Pv (fldV 7 b_2) fun v50 =>
                    Rv none (ld1R v50) fun v51 =>
                    Pv (binIV .eql v49 v51) fun v52 =>
                    Gd v52 true
                      (Pv (fldV 8 a_1) fun v53 =>
                      Rv none (ld1R v53) fun v54 =>
                      Pv (fldV 8 b_2) fun v55 =>
                      Rv none (ld1R v55) fun v56 =>
                      Pv (binBV .eql v54 v56) fun v57 =>
                      Gd v57 true
                        (Pv (fldV 11 a_1) fun v58 =>
                        Rv none (ld1R v58) fun v59 =>
                        Rv none (bsR v59) fun v60 =>
                        Pv (fldV 11 b_2) fun v61 =>
                        Rv none (ld1R v61) fun v62 =>
                        Rv none (bsR v62) fun v63 =>
                        Pv (binSV .eql v60 v63) fun v64 =>
                        K v64)
                        (K (Value.bool false)))
                      (K (Value.bool false)))
                    (K (Value.bool false)))
                  (K (Value.bool false)))
                (K (Value.bool false)))
              (K (Value.bool false)))
            (K (Value.bool false)))
          (K (Value.bool false)))
        (K (Value.bool false)))
      (K (Value.bool false)))
    (K (Value.bool false))
theorem sh29_eq (ω : Om) (a0 a1 : Value) (K : Value → M) : vcF Try.prog ω Try.f29 [a0, a1] K = sh29 ω a0 a1 K := by kernel_rfl
theorem cal29 {ω : Om} {a0 a1 : Value} {K : Value → M} {I : Imm} {L : LH} (h : sh29 ω a0 a1 (fun v => Gh (K v)) I L) : Cal Try.prog ω 29 #[a0, a1] K I L :=
  Cal.gh (cal_of_vc mixed Try.func29 (by rw [sh29_eq]; exact h))

def sh30_1 (ω : Om) (p2 : Value) (K : Value → M) : M :=
  K (Value.bool false)
def sh30_2 (ω : Om) (p1 : Value) (p2 : Value) (p10 : Value) (p11 : Value) (K : Value → M) : M :=
  Pv (fldV 7 p1) fun v56 =>
  Rv none (ld1R v56) fun v57 =>
  Pv (binIV .eql v57 (Value.int .i64 0)) fun v58 =>
  Gd v58 true
    (Pv (fldV 8 p1) fun v59 =>
    Rv none (ld1R v59) fun v60 =>
    Pv (unV .not v60) fun v61 =>
    Gd v61 true
      (Gd p10 true
        (K p11)
        (K (Value.bool false)))
      (K (Value.bool false)))
    (K (Value.bool false))
def sh30_4 (ω : Om) (p2 : Value) (K : Value → M) : M :=
  K (Value.bool false)
def sh30_5 (ω : Om) (p2 : Value) (K : Value → M) : M :=
  K (Value.bool true)
def sh30_6 (ω : Om) (p2 : Value) (K : Value → M) : M :=
  sh30_5 ω p2 K
def sh30_8 (ω : Om) (p2 : Value) (K : Value → M) : M :=
  K (Value.bool false)
def sh30_7 (ω : Om) (p1 : Value) (x2 : Value) (x13 : Value) (Kn0 : (Value × Value × Unit) → M) (K : Value → M) : M :=
  Pv (fldV 9 p1) fun v105 =>
  Rv none (ld1R v105) fun v106 =>
  Pv (lenV v106) fun v107 =>
  Pv (binIV .lss x13 v107) fun v108 =>
  Br v108
    (Pv (fldV 9 p1) fun v109 =>
    Rv none (ld1R v109) fun v110 =>
    Pv (ixV 4 v110 x13) fun v111 =>
    Rv none (ldNR 4 v111) fun v112 =>
    Cal Try.prog ω 61 #[v112] <| gh fun v113 =>
    Draw fun S =>
      Pv (unV .not v113) fun v114 =>
      Gd v114 false
        (Pv (fldV 9 p1) fun v115 =>
        Rv (some S) (ld1R v115) fun v116 =>
        Pv (ixV 4 v116 x13) fun v117 =>
        Pv (fldV 0 v117) fun v118 =>
        Rv (some S) (ld1R v118) fun v119 =>
        Pv (fldV 5 p1) fun v120 =>
        Rv (some S) (ld1R v120) fun v121 =>
        Pv (binIV .add v121 (Value.int .i64 1)) fun v122 =>
        Pv (binIV .add v122 x13) fun v123 =>
        Pv (binIV .neq v119 v123) fun v124 =>
        Gd v124 false
          (Pv (fldV 9 p1) fun v125 =>
          Rv (some S) (ld1R v125) fun v126 =>
          Pv (ixV 4 v126 x13) fun v127 =>
          Pv (fldV 1 v127) fun v128 =>
          Rv (some S) (ld1R v128) fun v129 =>
          Pv (fldV 4 p1) fun v130 =>
          Rv (some S) (ld1R v130) fun v131 =>
          Pv (binIV .gtr v129 v131) fun v132 =>
          Br v132
            (sh30_8 ω x2 K)
            (Pv (binIV .add x13 (Value.int .i64 1)) fun v133 =>
            Kn0 (x2, v133, ())))
          (sh30_8 ω x2 K))
        (sh30_8 ω x2 K))
    (sh30_6 ω x2 K)
def sh30_3 (ω : Om) (p1 : Value) (p2 : Value) (p9 : Value) (p10 : Value) (p11 : Value) (p93 : Value) (K : Value → M) : M :=
  Pv (binIV .eql p93 (Value.int .i64 2)) fun v62 =>
  Br v62
    (Gd p9 true
      (Pv (fldV 7 p1) fun v63 =>
      Rv none (ld1R v63) fun v64 =>
      Pv (binIV .eql v64 (Value.int .i64 0)) fun v65 =>
      Gd v65 true
        (Gd p10 true
          (K p11)
          (K (Value.bool false)))
        (K (Value.bool false)))
      (K (Value.bool false)))
    (Pv (binIV .eql p93 (Value.int .i64 4)) fun v66 =>
    Br v66
      (Pv (fldV 6 p1) fun v67 =>
      Rv none (ld1R v67) fun v68 =>
      Pv (binIV .eql v68 (Value.int .i64 0)) fun v69 =>
      Gd v69 true
        (Pv (fldV 7 p1) fun v70 =>
        Rv none (ld1R v70) fun v71 =>
        Pv (binIV .eql v71 (Value.int .i64 0)) fun v72 =>
        Gd v72 true
          (Gd p10 true
            (K p11)
            (K (Value.bool false)))
          (K (Value.bool false)))
        (K (Value.bool false)))
      (Pv (binIV .eql p93 (Value.int .i64 5)) fun v73 =>
      Br v73
        (Pv (fldV 10 p1) fun v74 =>
        Rv none (ld1R v74) fun v75 =>
        Cal Try.prog ω 60 #[v75] <| gh fun v76 =>
        Pv (fldV 7 p1) fun v77 =>
        Rv none (ld1R v77) fun v78 =>
        Pv (binIV .eql v78 (Value.int .i64 0)) fun v79 =>
        Gd v79 true
          (Pv (fldV 8 p1) fun v80 =>
          Rv none (ld1R v80) fun v81 =>
          Pv (unV .not v81) fun v82 =>
          Gd v82 true
            (Gd p10 true
              (Gd v76 true
                (Pv (fldV 11 p1) fun v83 =>
                Rv none (ld1R v83) fun v84 =>
                Pv (lenV v84) fun v85 =>
                Pv (binIV .leq v85 (Value.int .i64 60000)) fun v86 =>
                Gd v86 true
                  (Pv (fldV 6 p1) fun v87 =>
                  Rv none (ld1R v87) fun v88 =>
                  Pv (fldV 4 p1) fun v89 =>
                  Rv none (ld1R v89) fun v90 =>
                  Pv (binIV .leq v88 v90) fun v91 =>
                  K v91)
                  (K (Value.bool false)))
                (K (Value.bool false)))
              (K (Value.bool false)))
            (K (Value.bool false)))
          (K (Value.bool false)))
        (Pv (binIV .eql p93 (Value.int .i64 3)) fun v92 =>
        Br v92
          (Pv (fldV 8 p1) fun v93 =>
          Rv none (ld1R v93) fun v94 =>
          Gd v94 false
            (Pv (unV .not p11) fun v95 =>
            Gd v95 false
              (Pv (fldV 9 p1) fun v96 =>
              Rv none (ld1R v96) fun v97 =>
              Pv (lenV v97) fun v98 =>
              Pv (binIV .gtr v98 (Value.int .i64 64)) fun v99 =>
              Gd v99 false
                (Pv (fldV 6 p1) fun v100 =>
                Rv none (ld1R v100) fun v101 =>
                Pv (fldV 4 p1) fun v102 =>
                Rv none (ld1R v102) fun v103 =>
                Pv (binIV .gtr v101 v103) fun v104 =>
                Br v104
                  (sh30_4 ω p2 K)
                  (LoopM ((p2, (Value.int .i64 0), ()) : Value × Value × Unit) fun s Kn0 =>
                  sh30_7 ω p1 s.1 s.2.1 Kn0 K))
                (sh30_4 ω p2 K))
              (sh30_4 ω p2 K))
            (sh30_4 ω p2 K))
          (K (Value.bool false)))))
def sh30 (ω : Om) (a0 : Value) (K : Value → M) : M :=
  New (.cells (Value.cells a0) 51 (0, 0)) <| gh fun m_1 =>
  Pv (fldV 2 m_1) fun v2 =>
  Rv none (ld1R v2) fun v3 =>
  Cal Try.prog ω 35 #[v3] <| gh fun v4 =>
  Pv (fldV 3 m_1) fun v5 =>
  Rv none (ld1R v5) fun v6 =>
  Cal Try.prog ω 35 #[v6] <| gh fun v7 =>
  Pv (fldV 5 m_1) fun v8 =>
  Rv none (ld1R v8) fun v9 =>
  Cal Try.prog ω 59 #[v9] <| gh fun v10 =>
  Pv (fldV 6 m_1) fun v11 =>
  Rv none (ld1R v11) fun v12 =>
  Cal Try.prog ω 59 #[v12] <| gh fun v13 =>
  Pv (fldV 7 m_1) fun v14 =>
  Rv none (ld1R v14) fun v15 =>
  Cal Try.prog ω 59 #[v15] <| gh fun v16 =>
  Pv (fldV 4 m_1) fun v17 =>
  Rv none (ld1R v17) fun v18 =>
  Cal Try.prog ω 59 #[v18] <| gh fun v19 =>
  Pv (unV .not v4) fun v20 =>
  Gd v20 false
    (Pv (unV .not v7) fun v21 =>
    Gd v21 false
      (Pv (unV .not v10) fun v22 =>
      Gd v22 false
        (Pv (unV .not v13) fun v23 =>
        Gd v23 false
          (Pv (unV .not v16) fun v24 =>
          Gd v24 false
            (Pv (unV .not v19) fun v25 =>
            Gd v25 false
              (Pv (fldV 4 m_1) fun v26 =>
              Rv none (ld1R v26) fun v27 =>
              Pv (binIV .lss v27 (Value.int .i64 1)) fun v28 =>
              Gd v28 false
                (Pv (fldV 1 m_1) fun v29 =>
                Rv none (ld1R v29) fun v30 =>
                Pv (binIV .lss v30 (Value.int .i64 1)) fun v31 =>
                Gd v31 false
                  (Pv (fldV 1 m_1) fun v32 =>
                  Rv none (ld1R v32) fun v33 =>
                  Pv (binIV .gtr v33 (Value.int .i64 255)) fun v34 =>
                  Br v34
                    (sh30_1 ω (Value.bool false) K)
                    (Pv (fldV 5 m_1) fun v35 =>
                    Rv none (ld1R v35) fun v36 =>
                    Pv (binIV .eql v36 (Value.int .i64 0)) fun v37 =>
                    Gd v37 true
                      (Pv (fldV 6 m_1) fun v38 =>
                      Rv none (ld1R v38) fun v39 =>
                      Pv (binIV .eql v39 (Value.int .i64 0)) fun v40 =>
                      Pv (fldV 9 m_1) fun v41 =>
                      Rv none (ld1R v41) fun v42 =>
                      Pv (lenV v42) fun v43 =>
                      Pv (binIV .eql v43 (Value.int .i64 0)) fun v44 =>
                      Pv (fldV 10 m_1) fun v45 =>
                      Rv none (ld1R v45) fun v46 =>
                      Pv (lenV v46) fun v47 =>
                      Pv (binIV .eql v47 (Value.int .i64 0)) fun v48 =>
                      Gd v48 true
                        (Pv (fldV 11 m_1) fun v49 =>
                        Rv none (ld1R v49) fun v50 =>
                        Pv (lenV v50) fun v51 =>
                        Pv (binIV .eql v51 (Value.int .i64 0)) fun v52 =>
                        Pv (fldV 0 m_1) fun v53 =>
                        Rv none (ld1R v53) fun v54 =>
                        Pv (binIV .eql v54 (Value.int .i64 1)) fun v55 =>
                        Br v55
                          (sh30_2 ω m_1 (Value.bool false) v44 v52 K)
                          (sh30_3 ω m_1 (Value.bool false) v40 v44 v52 v54 K))
                        (Pv (fldV 0 m_1) fun v134 =>
                        Rv none (ld1R v134) fun v135 =>
                        Pv (binIV .eql v135 (Value.int .i64 1)) fun v136 =>
                        Br v136
                          (sh30_2 ω m_1 (Value.bool false) v44 (Value.bool false) K)
                          (sh30_3 ω m_1 (Value.bool false) v40 v44 (Value.bool false) v135 K)))
                      (Pv (fldV 9 m_1) fun v137 =>
                      Rv none (ld1R v137) fun v138 =>
                      Pv (lenV v138) fun v139 =>
                      Pv (binIV .eql v139 (Value.int .i64 0)) fun v140 =>
                      Pv (fldV 10 m_1) fun v141 =>
                      Rv none (ld1R v141) fun v142 =>
                      Pv (lenV v142) fun v143 =>
                      Pv (binIV .eql v143 (Value.int .i64 0)) fun v144 =>
                      Gd v144 true
                        (Pv (fldV 11 m_1) fun v145 =>
                        Rv none (ld1R v145) fun v146 =>
                        Pv (lenV v146) fun v147 =>
                        Pv (binIV .eql v147 (Value.int .i64 0)) fun v148 =>
                        Pv (fldV 0 m_1) fun v149 =>
                        Rv none (ld1R v149) fun v150 =>
                        Pv (binIV .eql v150 (Value.int .i64 1)) fun v151 =>
                        Br v151
                          (sh30_2 ω m_1 (Value.bool false) v140 v148 K)
                          (sh30_3 ω m_1 (Value.bool false) (Value.bool false) v140 v148 v150 K))
                        (Pv (fldV 0 m_1) fun v152 =>
                        Rv none (ld1R v152) fun v153 =>
                        Pv (binIV .eql v153 (Value.int .i64 1)) fun v154 =>
                        Br v154
                          (sh30_2 ω m_1 (Value.bool false) v140 (Value.bool false) K)
                          (sh30_3 ω m_1 (Value.bool false) (Value.bool false) v140 (Value.bool false) v153 K)))))
                  (sh30_1 ω (Value.bool false) K))
                (sh30_1 ω (Value.bool false) K))
              (sh30_1 ω (Value.bool false) K))
            (sh30_1 ω (Value.bool false) K))
          (sh30_1 ω (Value.bool false) K))
        (sh30_1 ω (Value.bool false) K))
      (sh30_1 ω (Value.bool false) K))
    (sh30_1 ω (Value.bool false) K)
theorem sh30_eq (ω : Om) (a0 : Value) (K : Value → M) : vcF Try.prog ω Try.f30 [a0] K = sh30 ω a0 K := by kernel_rfl
theorem cal30 {ω : Om} {a0 : Value} {K : Value → M} {I : Imm} {L : LH} (h : sh30 ω a0 (fun v => Gh (K v)) I L) : Cal Try.prog ω 30 #[a0] K I L :=
  Cal.gh (cal_of_vc mixed Try.func30 (by rw [sh30_eq]; exact h))

def sh31 (ω : Om) (a0 : Value) (K : Value → M) : M :=
  Pv (binIV .geq a0 (Value.int .i64 1)) fun v1 =>
  Gd v1 true
    (Pv (binIV .leq a0 (Value.int .i64 5)) fun v2 =>
    K v2)
    (K (Value.bool false))
theorem sh31_eq (ω : Om) (a0 : Value) (K : Value → M) : vcF Try.prog ω Try.f31 [a0] K = sh31 ω a0 K := by kernel_rfl
theorem cal31 {ω : Om} {a0 : Value} {K : Value → M} {I : Imm} {L : LH} (h : sh31 ω a0 (fun v => Gh (K v)) I L) : Cal Try.prog ω 31 #[a0] K I L :=
  Cal.gh (cal_of_vc mixed Try.func31 (by rw [sh31_eq]; exact h))

def sh32 (ω : Om) (a0 : Value) (K : Value → M) : M :=
  New (.cells (Value.cells a0) 30 (0, 0)) <| gh fun e_1 =>
  New (.cells #[(Value.int .i64 0), (Value.int .i64 0), (Value.int .i64 0), (Value.int .i64 0), (Value.slice none 0 0)] 30 (0, 0)) <| gh fun v2 =>
  Draw fun S =>
    Pv (fldV 4 e_1) fun v3 =>
    Rv (some S) (ld1R v3) fun v4 =>
    Pv (lenV v4) fun v5 =>
    MkS 5 1 #[(Value.int .u8 0)] (Value.int .i64 0) v5 <| gh <| Keep S fun v6 =>
    Pv (fldV 4 e_1) fun v7 =>
    Rv (some S) (ld1R v7) fun v8 =>
    App 5 1 1 #[(Value.int .u8 0)] v6 v8 <| gh fun v9 =>
    Pv (fldV 4 e_1) fun v10 =>
    Sto 1 v10 v9 <| gh fun _ =>
    Rv none (ldNR 5 e_1) fun v11 =>
    Sto 5 v2 v11 <| gh fun _ =>
    Rv none (ldNR 5 v2) fun v12 =>
    K v12
theorem sh32_eq (ω : Om) (a0 : Value) (K : Value → M) : vcF Try.prog ω Try.f32 [a0] K = sh32 ω a0 K := by kernel_rfl
theorem cal32 {ω : Om} {a0 : Value} {K : Value → M} {I : Imm} {L : LH} (h : sh32 ω a0 (fun v => Gh (K v)) I L) : Cal Try.prog ω 32 #[a0] K I L :=
  Cal.gh (cal_of_vc mixed Try.func32 (by rw [sh32_eq]; exact h))

def sh33 (ω : Om) (a0 : Value) (a1 : Value) (K : Value → M) : M :=
  Pv (nilV a0) fun v1 =>
  Pv (fldV 0 v1) fun v2 =>
  Rv none (ld1R v2) fun v3 =>
  Cal Try.prog ω 62 #[v3, a1, (Value.func (.func 63) #[] #[])] <| gh fun v4 =>
  Pv (exV v4 0) fun v5 =>
  Pv (exV v4 1) fun v6 =>
  K (Value.tuple #[v5, v6])
theorem sh33_eq (ω : Om) (a0 a1 : Value) (K : Value → M) : vcF Try.prog ω Try.f33 [a0, a1] K = sh33 ω a0 a1 K := by kernel_rfl
theorem cal33 {ω : Om} {a0 a1 : Value} {K : Value → M} {I : Imm} {L : LH} (h : sh33 ω a0 a1 (fun v => Gh (K v)) I L) : Cal Try.prog ω 33 #[a0, a1] K I L :=
  Cal.gh (cal_of_vc mixed Try.func33 (by rw [sh33_eq]; exact h))

def sh34 (ω : Om) (a0 : Value) (a1 : Value) (a2 : Value) (K : Value → M) : M :=
  Pv (lenV a0) fun v1 =>
  Pv (slcV 5 a0 (some a1) (some a2) (some v1)) fun v2 =>
  Pv (binIV .eql a1 a2) fun v3 =>
  Br v3
    (K a0)
    (Pv (lenV a0) fun v4 =>
    Draw fun S =>
      Pv (slcV 5 a0 none (some a1) none) fun v5 =>
      Pv (slcV 5 a0 (some a2) none none) fun v6 =>
      App 30 5 56 #[(Value.int .i64 0), (Value.int .i64 0), (Value.int .i64 0), (Value.int .i64 0), (Value.slice none 0 0)] v5 v6 <| gh fun v7 =>
      Pv (lenV v7) fun v8 =>
      Pv (slcV 5 v7 (some v8) (some v4) none) fun v9 =>
      ClrV #[(Value.int .i64 0), (Value.int .i64 0), (Value.int .i64 0), (Value.int .i64 0), (Value.slice none 0 0)] v9 <| gh fun _ =>
      K v7)
theorem sh34_eq (ω : Om) (a0 a1 a2 : Value) (K : Value → M) : vcF Try.prog ω Try.f34 [a0, a1, a2] K = sh34 ω a0 a1 a2 K := by kernel_rfl
theorem cal34 {ω : Om} {a0 a1 a2 : Value} {K : Value → M} {I : Imm} {L : LH} (h : sh34 ω a0 a1 a2 (fun v => Gh (K v)) I L) : Cal Try.prog ω 34 #[a0, a1, a2] K I L :=
  Cal.gh (cal_of_vc mixed Try.func34 (by rw [sh34_eq]; exact h))

def sh35 (ω : Om) (a0 : Value) (K : Value → M) : M :=
  Pv (binIV .geq a0 (Value.int .i64 1)) fun v1 =>
  Gd v1 true
    (Pv (binIV .leq a0 (Value.int .i64 5)) fun v2 =>
    K v2)
    (K (Value.bool false))
theorem sh35_eq (ω : Om) (a0 : Value) (K : Value → M) : vcF Try.prog ω Try.f35 [a0] K = sh35 ω a0 K := by kernel_rfl
theorem cal35 {ω : Om} {a0 : Value} {K : Value → M} {I : Imm} {L : LH} (h : sh35 ω a0 (fun v => Gh (K v)) I L) : Cal Try.prog ω 35 #[a0] K I L :=
  Cal.gh (cal_of_vc mixed Try.func35 (by rw [sh35_eq]; exact h))

def sh36_1 (ω : Om) (p4 : Value) (K : Value → M) : M :=
  K (Value.int .i64 (-1))
def sh36_2 (ω : Om) (p4 : Value) (K : Value → M) : M :=
  sh36_1 ω p4 K
def sh36_3 (ω : Om) (p0 : Value) (p1 : Value) (x4 : Value) (x5 : Value) (Kn0 : (Value × Value × Unit) → M) (K : Value → M) : M :=
  Pv (nilV p0) fun v1 =>
  Pv (fldV 0 v1) fun v2 =>
  Rv none (ld1R v2) fun v3 =>
  Pv (lenV v3) fun v4 =>
  Pv (binIV .lss x5 v4) fun v5 =>
  Br v5
    (Pv (nilV p0) fun v6 =>
    Pv (fldV 0 v6) fun v7 =>
    Rv none (ld1R v7) fun v8 =>
    Pv (ixV 5 v8 x5) fun v9 =>
    Pv (fldV 0 v9) fun v10 =>
    Rv none (ld1R v10) fun v11 =>
    Pv (binIV .eql v11 p1) fun v12 =>
    Br v12
      (K x5)
      (Pv (binIV .add x5 (Value.int .i64 1)) fun v13 =>
      Kn0 (x4, v13, ())))
    (sh36_2 ω x4 K)
def sh36 (ω : Om) (a0 : Value) (a1 : Value) (K : Value → M) : M :=
  LoopM (((Value.int .i64 0), (Value.int .i64 0), ()) : Value × Value × Unit) fun s Kn0 =>
  sh36_3 ω a0 a1 s.1 s.2.1 Kn0 K
theorem sh36_eq (ω : Om) (a0 a1 : Value) (K : Value → M) : vcF Try.prog ω Try.f36 [a0, a1] K = sh36 ω a0 a1 K := by kernel_rfl
theorem cal36 {ω : Om} {a0 a1 : Value} {K : Value → M} {I : Imm} {L : LH} (h : sh36 ω a0 a1 (fun v => Gh (K v)) I L) : Cal Try.prog ω 36 #[a0, a1] K I L :=
  Cal.gh (cal_of_vc mixed Try.func36 (by rw [sh36_eq]; exact h))

def sh37 (ω : Om) (a0 : Value) (a1 : Value) (K : Value → M) : M :=
  Pv (nilV a0) fun v1 =>
  Pv (fldV 0 v1) fun v2 =>
  Rv none (ld1R v2) fun v3 =>
  Pv (slcV 5 v3 none (some a1) none) fun v4 =>
  App 30 5 56 #[(Value.int .i64 0), (Value.int .i64 0), (Value.int .i64 0), (Value.int .i64 0), (Value.slice none 0 0)] (Value.slice none 0 0) v4 <| gh fun v5 =>
  Pv (nilV a0) fun v6 =>
  Pv (fldV 0 v6) fun v7 =>
  Rv none (ld1R v7) fun v8 =>
  Pv (binIV .add a1 (Value.int .i64 1)) fun v9 =>
  Pv (slcV 5 v8 (some v9) none none) fun v10 =>
  App 30 5 56 #[(Value.int .i64 0), (Value.int .i64 0), (Value.int .i64 0), (Value.int .i64 0), (Value.slice none 0 0)] v5 v10 <| gh fun v11 =>
  Pv (nilV a0) fun v12 =>
  Pv (fldV 0 v12) fun v13 =>
  Sto 1 v13 v11 <| gh fun _ =>
  K (Value.tuple #[])
theorem sh37_eq (ω : Om) (a0 a1 : Value) (K : Value → M) : vcF Try.prog ω Try.f37 [a0, a1] K = sh37 ω a0 a1 K := by kernel_rfl
theorem cal37 {ω : Om} {a0 a1 : Value} {K : Value → M} {I : Imm} {L : LH} (h : sh37 ω a0 a1 (fun v => Gh (K v)) I L) : Cal Try.prog ω 37 #[a0, a1] K I L :=
  Cal.gh (cal_of_vc mixed Try.func37 (by rw [sh37_eq]; exact h))

def sh38 (ω : Om) (a0 : Value) (K : Value → M) : M :=
  Pv (lenV a0) fun v1 =>
  Pv (lenV a0) fun v2 =>
  Pv (slcV 1 a0 none (some v1) (some v2)) fun v3 =>
  K v3
theorem sh38_eq (ω : Om) (a0 : Value) (K : Value → M) : vcF Try.prog ω Try.f38 [a0] K = sh38 ω a0 K := by kernel_rfl
theorem cal38 {ω : Om} {a0 : Value} {K : Value → M} {I : Imm} {L : LH} (h : sh38 ω a0 (fun v => Gh (K v)) I L) : Cal Try.prog ω 38 #[a0] K I L :=
  Cal.gh (cal_of_vc mixed Try.func38 (by rw [sh38_eq]; exact h))

def sh39 (ω : Om) (a0 : Value) (K : Value → M) : M :=
  Pv (nilV a0) fun v1 =>
  Pv (fldV 0 v1) fun v2 =>
  Rv none (ld1R v2) fun v3 =>
  Pv (lenV v3) fun v4 =>
  K v4
theorem sh39_eq (ω : Om) (a0 : Value) (K : Value → M) : vcF Try.prog ω Try.f39 [a0] K = sh39 ω a0 K := by kernel_rfl
theorem cal39 {ω : Om} {a0 : Value} {K : Value → M} {I : Imm} {L : LH} (h : sh39 ω a0 (fun v => Gh (K v)) I L) : Cal Try.prog ω 39 #[a0] K I L :=
  Cal.gh (cal_of_vc mixed Try.func39 (by rw [sh39_eq]; exact h))

def sh40_1 (ω : Om) (p4 : Value) (p5 : Value) (K : Value → M) : M :=
  Pv (bldV #[(Value.int .i64 0), (Value.int .i64 0), (Value.int .i64 0), (Value.int .i64 0), (Value.slice none 0 0)] #[(0, 1), (1, 1), (2, 1), (3, 1), (4, 1)] []) fun v8 =>
  Sto 5 p4 v8 <| gh fun _ =>
  Rv none (ldNR 5 p4) fun v9 =>
  K (Value.tuple #[v9, (Value.bool false)])
def sh40 (ω : Om) (a0 : Value) (a1 : Value) (K : Value → M) : M :=
  New (.cells #[(Value.int .i64 0), (Value.int .i64 0), (Value.int .i64 0), (Value.int .i64 0), (Value.slice none 0 0)] 30 (0, 0)) <| gh fun v1 =>
  Pv (binIV .lss a1 (Value.int .i64 0)) fun v2 =>
  Gd v2 false
    (Pv (nilV a0) fun v3 =>
    Pv (fldV 0 v3) fun v4 =>
    Rv none (ld1R v4) fun v5 =>
    Pv (lenV v5) fun v6 =>
    Pv (binIV .geq a1 v6) fun v7 =>
    Br v7
      (sh40_1 ω v1 (Value.bool false) K)
      (Pv (nilV a0) fun v10 =>
      Pv (fldV 0 v10) fun v11 =>
      Rv none (ld1R v11) fun v12 =>
      Pv (ixV 5 v12 a1) fun v13 =>
      Rv none (ldNR 5 v13) fun v14 =>
      Cal Try.prog ω 32 #[v14] <| gh fun v15 =>
      Sto 5 v1 v15 <| gh fun _ =>
      Rv none (ldNR 5 v1) fun v16 =>
      K (Value.tuple #[v16, (Value.bool true)])))
    (sh40_1 ω v1 (Value.bool false) K)
theorem sh40_eq (ω : Om) (a0 a1 : Value) (K : Value → M) : vcF Try.prog ω Try.f40 [a0, a1] K = sh40 ω a0 a1 K := by kernel_rfl
theorem cal40 {ω : Om} {a0 a1 : Value} {K : Value → M} {I : Imm} {L : LH} (h : sh40 ω a0 a1 (fun v => Gh (K v)) I L) : Cal Try.prog ω 40 #[a0, a1] K I L :=
  Cal.gh (cal_of_vc mixed Try.func40 (by rw [sh40_eq]; exact h))

def sh41_2 (ω : Om) (p2 : Value) (K : Value → M) : M :=
  K (Value.bool false)
def sh41_3 (ω : Om) (p1 : Value) (p2 : Value) (p6 : Value) (K : Value → M) : M :=
  Gd p6 true
    (Pv (fldV 8 p1) fun v43 =>
    Rv none (ld1R v43) fun v44 =>
    Pv (unV .not v44) fun v45 =>
    K v45)
    (K (Value.bool false))
def sh41_4 (ω : Om) (p1 : Value) (p2 : Value) (p5 : Value) (p6 : Value) (p78 : Value) (K : Value → M) : M :=
  Pv (binIV .eql p78 (Value.int .i64 2)) fun v46 =>
  Br v46
    (Gd p6 true
      (K p5)
      (K (Value.bool false)))
    (Pv (binIV .eql p78 (Value.int .i64 3)) fun v47 =>
    Br v47
      (Pv (fldV 8 p1) fun v48 =>
      Rv none (ld1R v48) fun v49 =>
      Pv (unV .not v49) fun v50 =>
      Gd v50 true
        (Pv (fldV 10 p1) fun v51 =>
        Rv none (ld1R v51) fun v52 =>
        Pv (lenV v52) fun v53 =>
        Pv (binIV .eql v53 (Value.int .i64 0)) fun v54 =>
        Gd v54 true
          (Pv (fldV 11 p1) fun v55 =>
          Rv none (ld1R v55) fun v56 =>
          Pv (lenV v56) fun v57 =>
          Pv (binIV .eql v57 (Value.int .i64 0)) fun v58 =>
          Gd v58 true
            (Pv (fldV 6 p1) fun v59 =>
            Rv none (ld1R v59) fun v60 =>
            Pv (fldV 4 p1) fun v61 =>
            Rv none (ld1R v61) fun v62 =>
            Pv (binIV .leq v60 v62) fun v63 =>
            Gd v63 true
              (Rv none (ldNR 12 p1) fun v64 =>
              Cal Try.prog ω 65 #[v64] <| gh fun v65 =>
              K v65)
              (K (Value.bool false)))
            (K (Value.bool false)))
          (K (Value.bool false)))
        (K (Value.bool false)))
      (Pv (binIV .eql p78 (Value.int .i64 4)) fun v66 =>
      Br v66
        (Gd p6 true
          (Pv (fldV 6 p1) fun v67 =>
          Rv none (ld1R v67) fun v68 =>
          Pv (binIV .eql v68 (Value.int .i64 0)) fun v69 =>
          K v69)
          (K (Value.bool false)))
        (Pv (binIV .eql p78 (Value.int .i64 5)) fun v70 =>
        Br v70
          (Pv (fldV 8 p1) fun v71 =>
          Rv none (ld1R v71) fun v72 =>
          Pv (unV .not v72) fun v73 =>
          Gd v73 true
            (Pv (fldV 7 p1) fun v74 =>
            Rv none (ld1R v74) fun v75 =>
            Pv (binIV .eql v75 (Value.int .i64 0)) fun v76 =>
            Gd v76 true
              (Pv (fldV 6 p1) fun v77 =>
              Rv none (ld1R v77) fun v78 =>
              Pv (fldV 4 p1) fun v79 =>
              Rv none (ld1R v79) fun v80 =>
              Pv (binIV .leq v78 v80) fun v81 =>
              Gd v81 true
                (Pv (fldV 9 p1) fun v82 =>
                Rv none (ld1R v82) fun v83 =>
                Pv (lenV v83) fun v84 =>
                Pv (binIV .eql v84 (Value.int .i64 0)) fun v85 =>
                Gd v85 true
                  (Pv (fldV 10 p1) fun v86 =>
                  Rv none (ld1R v86) fun v87 =>
                  Cal Try.prog ω 66 #[v87] <| gh fun v88 =>
                  Gd v88 true
                    (Pv (fldV 11 p1) fun v89 =>
                    Rv none (ld1R v89) fun v90 =>
                    Pv (lenV v90) fun v91 =>
                    Pv (binIV .leq v91 (Value.int .i64 60000)) fun v92 =>
                    K v92)
                    (K (Value.bool false)))
                  (K (Value.bool false)))
                (K (Value.bool false)))
              (K (Value.bool false)))
            (K (Value.bool false)))
          (K (Value.bool false)))))
def sh41_1 (ω : Om) (p1 : Value) (p2 : Value) (K : Value → M) : M :=
  Pv (fldV 2 p1) fun v2 =>
  Rv none (ld1R v2) fun v3 =>
  Cal Try.prog ω 31 #[v3] <| gh fun v4 =>
  Pv (unV .not v4) fun v5 =>
  Gd v5 false
    (Pv (fldV 3 p1) fun v6 =>
    Rv none (ld1R v6) fun v7 =>
    Cal Try.prog ω 31 #[v7] <| gh fun v8 =>
    Pv (unV .not v8) fun v9 =>
    Gd v9 false
      (Pv (fldV 4 p1) fun v10 =>
      Rv none (ld1R v10) fun v11 =>
      Pv (binIV .lss v11 (Value.int .i64 1)) fun v12 =>
      Gd v12 false
        (Pv (fldV 1 p1) fun v13 =>
        Rv none (ld1R v13) fun v14 =>
        Pv (binIV .lss v14 (Value.int .i64 1)) fun v15 =>
        Gd v15 false
          (Pv (fldV 1 p1) fun v16 =>
          Rv none (ld1R v16) fun v17 =>
          Pv (binIV .gtr v17 (Value.int .i64 255)) fun v18 =>
          Br v18
            (sh41_2 ω p2 K)
            (Pv (fldV 5 p1) fun v19 =>
            Rv none (ld1R v19) fun v20 =>
            Pv (binIV .eql v20 (Value.int .i64 0)) fun v21 =>
            Gd v21 true
              (Pv (fldV 6 p1) fun v22 =>
              Rv none (ld1R v22) fun v23 =>
              Pv (binIV .eql v23 (Value.int .i64 0)) fun v24 =>
              Pv (fldV 9 p1) fun v25 =>
              Rv none (ld1R v25) fun v26 =>
              Pv (lenV v26) fun v27 =>
              Pv (binIV .eql v27 (Value.int .i64 0)) fun v28 =>
              Gd v28 true
                (Pv (fldV 10 p1) fun v29 =>
                Rv none (ld1R v29) fun v30 =>
                Pv (lenV v30) fun v31 =>
                Pv (binIV .eql v31 (Value.int .i64 0)) fun v32 =>
                Gd v32 true
                  (Pv (fldV 11 p1) fun v33 =>
                  Rv none (ld1R v33) fun v34 =>
                  Pv (lenV v34) fun v35 =>
                  Pv (binIV .eql v35 (Value.int .i64 0)) fun v36 =>
                  Gd v36 true
                    (Pv (fldV 7 p1) fun v37 =>
                    Rv none (ld1R v37) fun v38 =>
                    Pv (binIV .eql v38 (Value.int .i64 0)) fun v39 =>
                    Pv (fldV 0 p1) fun v40 =>
                    Rv none (ld1R v40) fun v41 =>
                    Pv (binIV .eql v41 (Value.int .i64 1)) fun v42 =>
                    Br v42
                      (sh41_3 ω p1 p2 v39 K)
                      (sh41_4 ω p1 p2 v24 v39 v41 K))
                    (Pv (fldV 0 p1) fun v93 =>
                    Rv none (ld1R v93) fun v94 =>
                    Pv (binIV .eql v94 (Value.int .i64 1)) fun v95 =>
                    Br v95
                      (sh41_3 ω p1 p2 (Value.bool false) K)
                      (sh41_4 ω p1 p2 v24 (Value.bool false) v94 K)))
                  (Pv (fldV 0 p1) fun v96 =>
                  Rv none (ld1R v96) fun v97 =>
                  Pv (binIV .eql v97 (Value.int .i64 1)) fun v98 =>
                  Br v98
                    (sh41_3 ω p1 p2 (Value.bool false) K)
                    (sh41_4 ω p1 p2 v24 (Value.bool false) v97 K)))
                (Pv (fldV 0 p1) fun v99 =>
                Rv none (ld1R v99) fun v100 =>
                Pv (binIV .eql v100 (Value.int .i64 1)) fun v101 =>
                Br v101
                  (sh41_3 ω p1 p2 (Value.bool false) K)
                  (sh41_4 ω p1 p2 v24 (Value.bool false) v100 K)))
              (Pv (fldV 9 p1) fun v102 =>
              Rv none (ld1R v102) fun v103 =>
              Pv (lenV v103) fun v104 =>
              Pv (binIV .eql v104 (Value.int .i64 0)) fun v105 =>
              Gd v105 true
                (Pv (fldV 10 p1) fun v106 =>
                Rv none (ld1R v106) fun v107 =>
                Pv (lenV v107) fun v108 =>
                Pv (binIV .eql v108 (Value.int .i64 0)) fun v109 =>
                Gd v109 true
                  (Pv (fldV 11 p1) fun v110 =>
                  Rv none (ld1R v110) fun v111 =>
                  Pv (lenV v111) fun v112 =>
                  Pv (binIV .eql v112 (Value.int .i64 0)) fun v113 =>
                  Gd v113 true
                    (Pv (fldV 7 p1) fun v114 =>
                    Rv none (ld1R v114) fun v115 =>
                    Pv (binIV .eql v115 (Value.int .i64 0)) fun v116 =>
                    Pv (fldV 0 p1) fun v117 =>
                    Rv none (ld1R v117) fun v118 =>
                    Pv (binIV .eql v118 (Value.int .i64 1)) fun v119 =>
                    Br v119
                      (sh41_3 ω p1 p2 v116 K)
                      (sh41_4 ω p1 p2 (Value.bool false) v116 v118 K))
                    (Pv (fldV 0 p1) fun v120 =>
                    Rv none (ld1R v120) fun v121 =>
                    Pv (binIV .eql v121 (Value.int .i64 1)) fun v122 =>
                    Br v122
                      (sh41_3 ω p1 p2 (Value.bool false) K)
                      (sh41_4 ω p1 p2 (Value.bool false) (Value.bool false) v121 K)))
                  (Pv (fldV 0 p1) fun v123 =>
                  Rv none (ld1R v123) fun v124 =>
                  Pv (binIV .eql v124 (Value.int .i64 1)) fun v125 =>
                  Br v125
                    (sh41_3 ω p1 p2 (Value.bool false) K)
                    (sh41_4 ω p1 p2 (Value.bool false) (Value.bool false) v124 K)))
                (Pv (fldV 0 p1) fun v126 =>
                Rv none (ld1R v126) fun v127 =>
                Pv (binIV .eql v127 (Value.int .i64 1)) fun v128 =>
                Br v128
                  (sh41_3 ω p1 p2 (Value.bool false) K)
                  (sh41_4 ω p1 p2 (Value.bool false) (Value.bool false) v127 K)))))
          (sh41_2 ω p2 K))
        (sh41_2 ω p2 K))
      (sh41_2 ω p2 K))
    (sh41_2 ω p2 K)
def sh41_5 (ω : Om) (p1 : Value) (p2 : Value) (K : Value → M) : M :=
  sh41_1 ω p1 p2 K
def sh41_6 (ω : Om) (p1 : Value) (p15 : Value) (x2 : Value) (x16 : Value) (Kn0 : (Value × Value × Unit) → M) (K : Value → M) : M :=
  Pv (binIV .lss x16 (Value.int .i64 4)) fun v138 =>
  Br v138
    (Pv (ixAV false 1 4 p15 x16) fun v139 =>
    Cal Try.prog ω 64 #[v139] <| gh fun v140 =>
    Pv (unV .not v140) fun v141 =>
    Br v141
      (K (Value.bool false))
      (Pv (binIV .add x16 (Value.int .i64 1)) fun v142 =>
      Kn0 (x2, v142, ())))
    (sh41_5 ω p1 x2 K)
def sh41 (ω : Om) (a0 : Value) (K : Value → M) : M :=
  New (.cells (Value.cells a0) 51 (0, 0)) <| gh fun m_1 =>
  Pv (fldV 5 m_1) fun v129 =>
  Rv none (ld1R v129) fun v130 =>
  Pv (fldV 6 m_1) fun v131 =>
  Rv none (ld1R v131) fun v132 =>
  Pv (fldV 7 m_1) fun v133 =>
  Rv none (ld1R v133) fun v134 =>
  Pv (fldV 4 m_1) fun v135 =>
  Rv none (ld1R v135) fun v136 =>
  Pv (bldAV 1 #[(Value.int .i64 0), (Value.int .i64 0), (Value.int .i64 0), (Value.int .i64 0)] [(0, v130), (1, v132), (2, v134), (3, v136)]) fun v137 =>
  LoopM (((Value.bool false), (Value.int .i64 0), ()) : Value × Value × Unit) fun s Kn0 =>
  sh41_6 ω m_1 v137 s.1 s.2.1 Kn0 K
theorem sh41_eq (ω : Om) (a0 : Value) (K : Value → M) : vcF Try.prog ω Try.f41 [a0] K = sh41 ω a0 K := by kernel_rfl
theorem cal41 {ω : Om} {a0 : Value} {K : Value → M} {I : Imm} {L : LH} (h : sh41 ω a0 (fun v => Gh (K v)) I L) : Cal Try.prog ω 41 #[a0] K I L :=
  Cal.gh (cal_of_vc mixed Try.func41 (by rw [sh41_eq]; exact h))

def sh42_1 (ω : Om) (K : Value → M) : M :=
  K (Value.tuple #[])
def sh42_3 (ω : Om) (p0 : Value) (p5 : Value) (p8 : Value) (Kn0 : (Value × Unit) → M) (K : Value → M) : M :=
  Cal Try.prog ω 44 #[p0, p5] <| gh fun v5 =>
  Pv (binIV .add p8 (Value.int .i64 1)) fun v6 =>
  Kn0 (v6, ())
def sh42_4 (ω : Om) (p0 : Value) (p5 : Value) (p8 : Value) (Kn0 : (Value × Unit) → M) (K : Value → M) : M :=
  sh42_3 ω p0 p5 p8 Kn0 K
def sh42_5 (ω : Om) (p0 : Value) (p8 : Value) (x5 : Value) (Kn0 : (Value × Unit) → M) (Kn1 : (Value × Unit) → M) (K : Value → M) : M :=
  Pv (binIV .geq x5 (Value.int .i64 128)) fun v7 =>
  Br v7
    (Pv (binIV .and x5 (Value.int .i64 127)) fun v8 =>
    Pv (binIV .or v8 (Value.int .i64 128)) fun v9 =>
    Cal Try.prog ω 44 #[p0, v9] <| gh fun v10 =>
    Pv (binIV .shr x5 (Value.int .u64 7)) fun v11 =>
    Kn1 (v11, ()))
    (sh42_4 ω p0 x5 p8 Kn0 K)
def sh42_2 (ω : Om) (p0 : Value) (p6 : Value) (p7 : Value) (x8 : Value) (Kn0 : (Value × Unit) → M) (K : Value → M) : M :=
  Pv (binIV .lss x8 p7) fun v2 =>
  Br v2
    (Pv (ixV 1 p6 x8) fun v3 =>
    Rv none (ld1R v3) fun v4 =>
    LoopM ((v4, ()) : Value × Unit) fun s Kn1 =>
    sh42_5 ω p0 x8 s.1 Kn0 Kn1 K)
    (sh42_1 ω K)
def sh42 (ω : Om) (a0 : Value) (a1 : Value) (K : Value → M) : M :=
  Pv (lenV a1) fun v1 =>
  LoopM (((Value.int .i64 0), ()) : Value × Unit) fun s Kn0 =>
  sh42_2 ω a0 a1 v1 s.1 Kn0 K
theorem sh42_eq (ω : Om) (a0 a1 : Value) (K : Value → M) : vcF Try.prog ω Try.f42 [a0, a1] K = sh42 ω a0 a1 K := by kernel_rfl
theorem cal42 {ω : Om} {a0 a1 : Value} {K : Value → M} {I : Imm} {L : LH} (h : sh42 ω a0 a1 (fun v => Gh (K v)) I L) : Cal Try.prog ω 42 #[a0, a1] K I L :=
  Cal.gh (cal_of_vc mixed Try.func42 (by rw [sh42_eq]; exact h))

def sh43 (ω : Om) (a0 : Value) (a1 : Value) (K : Value → M) : M :=
  Br a1
    (Cal Try.prog ω 44 #[a0, (Value.int .i64 1)] <| gh fun v1 =>
    K (Value.tuple #[]))
    (Cal Try.prog ω 44 #[a0, (Value.int .i64 0)] <| gh fun v2 =>
    K (Value.tuple #[]))
theorem sh43_eq (ω : Om) (a0 a1 : Value) (K : Value → M) : vcF Try.prog ω Try.f43 [a0, a1] K = sh43 ω a0 a1 K := by kernel_rfl
theorem cal43 {ω : Om} {a0 a1 : Value} {K : Value → M} {I : Imm} {L : LH} (h : sh43 ω a0 a1 (fun v => Gh (K v)) I L) : Cal Try.prog ω 43 #[a0, a1] K I L :=
  Cal.gh (cal_of_vc mixed Try.func43 (by rw [sh43_eq]; exact h))

def sh44 (ω : Om) (a0 : Value) (a1 : Value) (K : Value → M) : M :=
  Pv (nilV a0) fun v1 =>
  Pv (fldV 0 v1) fun v2 =>
  Rv none (ld1R v2) fun v3 =>
  Pv (cvIV .u8 a1) fun v4 =>
  BldS 5 1 #[(Value.int .u8 0)] 1 [(0, v4)] <| gh fun v5 =>
  App 5 1 1 #[(Value.int .u8 0)] v3 v5 <| gh fun v6 =>
  Pv (nilV a0) fun v7 =>
  Pv (fldV 0 v7) fun v8 =>
  Sto 1 v8 v6 <| gh fun _ =>
  K (Value.tuple #[])
theorem sh44_eq (ω : Om) (a0 a1 : Value) (K : Value → M) : vcF Try.prog ω Try.f44 [a0, a1] K = sh44 ω a0 a1 K := by kernel_rfl
theorem cal44 {ω : Om} {a0 a1 : Value} {K : Value → M} {I : Imm} {L : LH} (h : sh44 ω a0 a1 (fun v => Gh (K v)) I L) : Cal Try.prog ω 44 #[a0, a1] K I L :=
  Cal.gh (cal_of_vc mixed Try.func44 (by rw [sh44_eq]; exact h))

def sh45 (ω : Om) (a0 : Value) (a1 : Value) (K : Value → M) : M :=
  Pv (lenV a1) fun v1 =>
  BldS 3 1 #[(Value.int .i64 0)] 1 [(0, v1)] <| gh fun v2 =>
  Cal Try.prog ω 42 #[a0, v2] <| gh fun v3 =>
  Pv (nilV a0) fun v4 =>
  Pv (fldV 0 v4) fun v5 =>
  Rv none (ld1R v5) fun v6 =>
  App 5 1 1 #[(Value.int .u8 0)] v6 a1 <| gh fun v7 =>
  Pv (nilV a0) fun v8 =>
  Pv (fldV 0 v8) fun v9 =>
  Sto 1 v9 v7 <| gh fun _ =>
  K (Value.tuple #[])
theorem sh45_eq (ω : Om) (a0 a1 : Value) (K : Value → M) : vcF Try.prog ω Try.f45 [a0, a1] K = sh45 ω a0 a1 K := by kernel_rfl
theorem cal45 {ω : Om} {a0 a1 : Value} {K : Value → M} {I : Imm} {L : LH} (h : sh45 ω a0 a1 (fun v => Gh (K v)) I L) : Cal Try.prog ω 45 #[a0, a1] K I L :=
  Cal.gh (cal_of_vc mixed Try.func45 (by rw [sh45_eq]; exact h))

def sh46 (ω : Om) (a0 : Value) (K : Value → M) : M :=
  Pv (lenV a0) fun v1 =>
  Pv (lenV a0) fun v2 =>
  Pv (slcV 1 a0 none (some v1) (some v2)) fun v3 =>
  K v3
theorem sh46_eq (ω : Om) (a0 : Value) (K : Value → M) : vcF Try.prog ω Try.f46 [a0] K = sh46 ω a0 K := by kernel_rfl
theorem cal46 {ω : Om} {a0 : Value} {K : Value → M} {I : Imm} {L : LH} (h : sh46 ω a0 (fun v => Gh (K v)) I L) : Cal Try.prog ω 46 #[a0] K I L :=
  Cal.gh (cal_of_vc mixed Try.func46 (by rw [sh46_eq]; exact h))

def sh47_1 (ω : Om) (p0 : Value) (p1 : Value) (p4 : Value) (K : Value → M) : M :=
  Pv (cvIV .u8 p1) fun v1 =>
  BldS 5 1 #[(Value.int .u8 0)] 1 [(0, v1)] <| gh fun v2 =>
  App 5 1 1 #[(Value.int .u8 0)] p0 v2 <| gh fun v3 =>
  K v3
def sh47_2 (ω : Om) (p0 : Value) (p1 : Value) (p4 : Value) (K : Value → M) : M :=
  sh47_1 ω p0 p1 p4 K
def sh47_3 (ω : Om) (p4 : Value) (x0 : Value) (x1 : Value) (Kn0 : (Value × Value × Unit) → M) (K : Value → M) : M :=
  Pv (binIV .geq x1 (Value.int .i64 128)) fun v4 =>
  Br v4
    (Pv (binIV .rem x1 (Value.int .i64 128)) fun v5 =>
    Pv (binIV .add v5 (Value.int .i64 128)) fun v6 =>
    Pv (cvIV .u8 v6) fun v7 =>
    BldS 5 1 #[(Value.int .u8 0)] 1 [(0, v7)] <| gh fun v8 =>
    App 5 1 1 #[(Value.int .u8 0)] x0 v8 <| gh fun v9 =>
    Pv (binIV .quo x1 (Value.int .i64 128)) fun v10 =>
    Kn0 (v9, v10, ()))
    (sh47_2 ω x0 x1 p4 K)
def sh47 (ω : Om) (a0 : Value) (a1 : Value) (K : Value → M) : M :=
  LoopM ((a0, a1, ()) : Value × Value × Unit) fun s Kn0 =>
  sh47_3 ω (Value.slice none 0 0) s.1 s.2.1 Kn0 K
theorem sh47_eq (ω : Om) (a0 a1 : Value) (K : Value → M) : vcF Try.prog ω Try.f47 [a0, a1] K = sh47 ω a0 a1 K := by kernel_rfl
theorem cal47 {ω : Om} {a0 a1 : Value} {K : Value → M} {I : Imm} {L : LH} (h : sh47 ω a0 a1 (fun v => Gh (K v)) I L) : Cal Try.prog ω 47 #[a0, a1] K I L :=
  Cal.gh (cal_of_vc mixed Try.func47 (by rw [sh47_eq]; exact h))

def sh48 (ω : Om) (a0 : Value) (a1 : Value) (K : Value → M) : M :=
  Br a1
    (BldS 5 1 #[(Value.int .u8 0)] 1 [(0, (Value.int .u8 1))] <| gh fun v1 =>
    App 5 1 1 #[(Value.int .u8 0)] a0 v1 <| gh fun v2 =>
    K v2)
    (BldS 5 1 #[(Value.int .u8 0)] 1 [(0, (Value.int .u8 0))] <| gh fun v3 =>
    App 5 1 1 #[(Value.int .u8 0)] a0 v3 <| gh fun v4 =>
    K v4)
theorem sh48_eq (ω : Om) (a0 a1 : Value) (K : Value → M) : vcF Try.prog ω Try.f48 [a0, a1] K = sh48 ω a0 a1 K := by kernel_rfl
theorem cal48 {ω : Om} {a0 a1 : Value} {K : Value → M} {I : Imm} {L : LH} (h : sh48 ω a0 a1 (fun v => Gh (K v)) I L) : Cal Try.prog ω 48 #[a0, a1] K I L :=
  Cal.gh (cal_of_vc mixed Try.func48 (by rw [sh48_eq]; exact h))

def sh49 (ω : Om) (a0 : Value) (a1 : Value) (K : Value → M) : M :=
  Pv (lenV a1) fun v1 =>
  Cal Try.prog ω 47 #[a0, v1] <| gh fun v2 =>
  App 5 1 1 #[(Value.int .u8 0)] v2 a1 <| gh fun v3 =>
  K v3
theorem sh49_eq (ω : Om) (a0 a1 : Value) (K : Value → M) : vcF Try.prog ω Try.f49 [a0, a1] K = sh49 ω a0 a1 K := by kernel_rfl
theorem cal49 {ω : Om} {a0 a1 : Value} {K : Value → M} {I : Imm} {L : LH} (h : sh49 ω a0 a1 (fun v => Gh (K v)) I L) : Cal Try.prog ω 49 #[a0, a1] K I L :=
  Cal.gh (cal_of_vc mixed Try.func49 (by rw [sh49_eq]; exact h))

def sh50 (ω : Om) (a0 : Value) (K : Value → M) : M :=
  Pv (nilV a0) fun v1 =>
  Pv (fldV 0 v1) fun v2 =>
  Rv none (ld1R v2) fun v3 =>
  Pv (lenV v3) fun v4 =>
  Pv (binIV .eql v4 (Value.int .i64 0)) fun v5 =>
  Br v5
    (Pv (nilV a0) fun v6 =>
    Pv (fldV 1 v6) fun v7 =>
    Sto 1 v7 (Value.bool true) <| gh fun _ =>
    K (Value.int .i64 0))
    (Pv (nilV a0) fun v8 =>
    Pv (fldV 0 v8) fun v9 =>
    Rv none (ld1R v9) fun v10 =>
    Pv (ixV 1 v10 (Value.int .i64 0)) fun v11 =>
    Rv none (ld1R v11) fun v12 =>
    Pv (nilV a0) fun v13 =>
    Pv (fldV 0 v13) fun v14 =>
    Rv none (ld1R v14) fun v15 =>
    Pv (slcV 1 v15 (some (Value.int .i64 1)) none none) fun v16 =>
    Pv (nilV a0) fun v17 =>
    Pv (fldV 0 v17) fun v18 =>
    Sto 1 v18 v16 <| gh fun _ =>
    Pv (cvIV .i64 v12) fun v19 =>
    K v19)
theorem sh50_eq (ω : Om) (a0 : Value) (K : Value → M) : vcF Try.prog ω Try.f50 [a0] K = sh50 ω a0 K := by kernel_rfl
theorem cal50 {ω : Om} {a0 : Value} {K : Value → M} {I : Imm} {L : LH} (h : sh50 ω a0 (fun v => Gh (K v)) I L) : Cal Try.prog ω 50 #[a0] K I L :=
  Cal.gh (cal_of_vc mixed Try.func50 (by rw [sh50_eq]; exact h))

def sh51_1 (ω : Om) (p0 : Value) (p2 : Value) (K : Value → M) : M :=
  Pv (nilV p0) fun v1 =>
  Pv (fldV 1 v1) fun v2 =>
  Sto 1 v2 (Value.bool true) <| gh fun _ =>
  K (Value.int .i64 0)
def sh51_2 (ω : Om) (p0 : Value) (p2 : Value) (K : Value → M) : M :=
  sh51_1 ω p0 p2 K
def sh51_3 (ω : Om) (p0 : Value) (x2 : Value) (x3 : Value) (x4 : Value) (Kn0 : (Value × Value × Value × Unit) → M) (K : Value → M) : M :=
  Pv (binIV .lss x4 (Value.int .i64 56)) fun v3 =>
  Br v3
    (Cal Try.prog ω 50 #[p0] <| gh fun v4 =>
    Pv (binIV .and v4 (Value.int .i64 127)) fun v5 =>
    Pv (binIV .shl v5 x4) fun v6 =>
    Pv (binIV .or x3 v6) fun v7 =>
    Pv (binIV .lss v4 (Value.int .i64 128)) fun v8 =>
    Br v8
      (K v7)
      (Pv (binIV .add x4 (Value.int .i64 7)) fun v9 =>
      Kn0 (x2, v7, v9, ())))
    (sh51_2 ω p0 x2 K)
def sh51 (ω : Om) (a0 : Value) (K : Value → M) : M :=
  LoopM (((Value.int .i64 0), (Value.int .i64 0), (Value.int .i64 0), ()) : Value × Value × Value × Unit) fun s Kn0 =>
  sh51_3 ω a0 s.1 s.2.1 s.2.2.1 Kn0 K
theorem sh51_eq (ω : Om) (a0 : Value) (K : Value → M) : vcF Try.prog ω Try.f51 [a0] K = sh51 ω a0 K := by kernel_rfl
theorem cal51 {ω : Om} {a0 : Value} {K : Value → M} {I : Imm} {L : LH} (h : sh51 ω a0 (fun v => Gh (K v)) I L) : Cal Try.prog ω 51 #[a0] K I L :=
  Cal.gh (cal_of_vc mixed Try.func51 (by rw [sh51_eq]; exact h))

def sh52 (ω : Om) (a0 : Value) (K : Value → M) : M :=
  Cal Try.prog ω 51 #[a0] <| gh fun v1 =>
  Pv (nilV a0) fun v2 =>
  Pv (fldV 0 v2) fun v3 =>
  Rv none (ld1R v3) fun v4 =>
  Pv (lenV v4) fun v5 =>
  Pv (binIV .gtr v1 v5) fun v6 =>
  Br v6
    (Pv (nilV a0) fun v7 =>
    Pv (fldV 1 v7) fun v8 =>
    Sto 1 v8 (Value.bool true) <| gh fun _ =>
    K (Value.slice none 0 0))
    (Pv (nilV a0) fun v9 =>
    Pv (fldV 0 v9) fun v10 =>
    Rv none (ld1R v10) fun v11 =>
    Pv (slcV 1 v11 none (some v1) none) fun v12 =>
    Cal Try.prog ω 67 #[v12] <| gh fun v13 =>
    Pv (nilV a0) fun v14 =>
    Pv (fldV 0 v14) fun v15 =>
    Rv none (ld1R v15) fun v16 =>
    Pv (slcV 1 v16 (some v1) none none) fun v17 =>
    Pv (nilV a0) fun v18 =>
    Pv (fldV 0 v18) fun v19 =>
    Sto 1 v19 v17 <| gh fun _ =>
    K v13)
theorem sh52_eq (ω : Om) (a0 : Value) (K : Value → M) : vcF Try.prog ω Try.f52 [a0] K = sh52 ω a0 K := by kernel_rfl
theorem cal52 {ω : Om} {a0 : Value} {K : Value → M} {I : Imm} {L : LH} (h : sh52 ω a0 (fun v => Gh (K v)) I L) : Cal Try.prog ω 52 #[a0] K I L :=
  Cal.gh (cal_of_vc mixed Try.func52 (by rw [sh52_eq]; exact h))

def sh53_1 (ω : Om) (p2 : Value) (p3 : Value) (K : Value → M) : M :=
  K p3
def sh53_2 (ω : Om) (p2 : Value) (p3 : Value) (K : Value → M) : M :=
  sh53_1 ω p2 p3 K
def sh53_3 (ω : Om) (p2 : Value) (p6 : Value) (p7 : Value) (x3 : Value) (x8 : Value) (Kn0 : (Value × Value × Unit) → M) (K : Value → M) : M :=
  Pv (binIV .lss x8 p7) fun v2 =>
  Br v2
    (Pv (ixV 1 p6 x8) fun v3 =>
    Rv none (ld1R v3) fun v4 =>
    Pv (cvIV .i64 v4) fun v5 =>
    BldS 3 1 #[(Value.int .i64 0)] 1 [(0, v5)] <| gh fun v6 =>
    App 3 1 8 #[(Value.int .i64 0)] x3 v6 <| gh fun v7 =>
    Pv (binIV .add x8 (Value.int .i64 1)) fun v8 =>
    Kn0 (v7, v8, ()))
    (sh53_2 ω p2 x3 K)
def sh53 (ω : Om) (a0 : Value) (K : Value → M) : M :=
  Pv (lenV a0) fun v1 =>
  LoopM (((Value.slice none 0 0), (Value.int .i64 0), ()) : Value × Value × Unit) fun s Kn0 =>
  sh53_3 ω (Value.slice none 0 0) a0 v1 s.1 s.2.1 Kn0 K
theorem sh53_eq (ω : Om) (a0 : Value) (K : Value → M) : vcF Try.prog ω Try.f53 [a0] K = sh53 ω a0 K := by kernel_rfl
theorem cal53 {ω : Om} {a0 : Value} {K : Value → M} {I : Imm} {L : LH} (h : sh53 ω a0 (fun v => Gh (K v)) I L) : Cal Try.prog ω 53 #[a0] K I L :=
  Cal.gh (cal_of_vc mixed Try.func53 (by rw [sh53_eq]; exact h))

def sh54 (ω : Om) (a0 : Value) (a1 : Value) (K : Value → M) : M :=
  Rv none (bsR a0) fun v1 =>
  Rv none (bsR a1) fun v2 =>
  Pv (binSV .eql v1 v2) fun v3 =>
  K v3
theorem sh54_eq (ω : Om) (a0 a1 : Value) (K : Value → M) : vcF Try.prog ω Try.f54 [a0, a1] K = sh54 ω a0 a1 K := by kernel_rfl
theorem cal54 {ω : Om} {a0 a1 : Value} {K : Value → M} {I : Imm} {L : LH} (h : sh54 ω a0 a1 (fun v => Gh (K v)) I L) : Cal Try.prog ω 54 #[a0, a1] K I L :=
  Cal.gh (cal_of_vc mixed Try.func54 (by rw [sh54_eq]; exact h))

def sh55_1 (ω : Om) (p0 : Value) (p2 : Value) (K : Value → M) : M :=
  Pv (nilV p0) fun v12 =>
  Pv (fldV 2 v12) fun v13 =>
  Sto 1 v13 (Value.bool true) <| gh fun _ =>
  K (Value.int .i64 0)
def sh55 (ω : Om) (a0 : Value) (K : Value → M) : M :=
  Draw fun S =>
    Pv (nilV a0) fun v1 =>
    Pv (fldV 2 v1) fun v2 =>
    Rv (some S) (ld1R v2) fun v3 =>
    Gd v3 false
      (Pv (nilV a0) fun v4 =>
      Pv (fldV 1 v4) fun v5 =>
      Rv (some S) (ld1R v5) fun v6 =>
      Pv (nilV a0) fun v7 =>
      Pv (fldV 0 v7) fun v8 =>
      Rv (some S) (ld1R v8) fun v9 =>
      Pv (lenV v9) fun v10 =>
      Pv (binIV .geq v6 v10) fun v11 =>
      Br v11
        (sh55_1 ω a0 (Value.int .i64 0) K)
        (Pv (nilV a0) fun v14 =>
        Pv (fldV 1 v14) fun v15 =>
        Rv none (ld1R v15) fun v16 =>
        Pv (binIV .add v16 (Value.int .i64 1)) fun v17 =>
        Pv (nilV a0) fun v18 =>
        Pv (fldV 1 v18) fun v19 =>
        Sto 1 v19 v17 <| gh fun _ =>
        Draw fun S =>
          Pv (nilV a0) fun v20 =>
          Pv (fldV 0 v20) fun v21 =>
          Rv (some S) (ld1R v21) fun v22 =>
          Pv (nilV a0) fun v23 =>
          Pv (fldV 1 v23) fun v24 =>
          Rv (some S) (ld1R v24) fun v25 =>
          Pv (binIV .sub v25 (Value.int .i64 1)) fun v26 =>
          Pv (ixV 1 v22 v26) fun v27 =>
          Rv (some S) (ld1R v27) fun v28 =>
          Pv (cvIV .i64 v28) fun v29 =>
          K v29))
      (sh55_1 ω a0 (Value.int .i64 0) K)
theorem sh55_eq (ω : Om) (a0 : Value) (K : Value → M) : vcF Try.prog ω Try.f55 [a0] K = sh55 ω a0 K := by kernel_rfl
theorem cal55 {ω : Om} {a0 : Value} {K : Value → M} {I : Imm} {L : LH} (h : sh55 ω a0 (fun v => Gh (K v)) I L) : Cal Try.prog ω 55 #[a0] K I L :=
  Cal.gh (cal_of_vc mixed Try.func55 (by rw [sh55_eq]; exact h))

def sh56_1 (ω : Om) (p0 : Value) (p2 : Value) (K : Value → M) : M :=
  Pv (nilV p0) fun v1 =>
  Pv (fldV 2 v1) fun v2 =>
  Sto 1 v2 (Value.bool true) <| gh fun _ =>
  K (Value.int .i64 0)
def sh56_2 (ω : Om) (p0 : Value) (p2 : Value) (K : Value → M) : M :=
  sh56_1 ω p0 p2 K
def sh56_4 (ω : Om) (p2 : Value) (p3 : Value) (K : Value → M) : M :=
  K p3
def sh56_5 (ω : Om) (p0 : Value) (p2 : Value) (p3 : Value) (K : Value → M) : M :=
  Pv (nilV p0) fun v12 =>
  Pv (fldV 2 v12) fun v13 =>
  Sto 1 v13 (Value.bool true) <| gh fun _ =>
  sh56_4 ω p2 p3 K
def sh56_3 (ω : Om) (p0 : Value) (x2 : Value) (x3 : Value) (x4 : Value) (x5 : Value) (Kn0 : (Value × Value × Value × Value × Unit) → M) (K : Value → M) : M :=
  Pv (binIV .lss x5 (Value.int .i64 8)) fun v3 =>
  Br v3
    (Cal Try.prog ω 55 #[p0] <| gh fun v4 =>
    Pv (binIV .rem v4 (Value.int .i64 128)) fun v5 =>
    Pv (binIV .mul v5 x4) fun v6 =>
    Pv (binIV .add x3 v6) fun v7 =>
    Pv (binIV .lss v4 (Value.int .i64 128)) fun v8 =>
    Br v8
      (Pv (binIV .gtr x5 (Value.int .i64 0)) fun v9 =>
      Gd v9 true
        (Pv (binIV .eql v4 (Value.int .i64 0)) fun v10 =>
        Gd v10 false
          (Pv (binIV .gtr v7 (Value.int .i64 9007199254740991)) fun v11 =>
          Br v11
            (sh56_5 ω p0 x2 v7 K)
            (sh56_4 ω x2 v7 K))
          (sh56_5 ω p0 x2 v7 K))
        (Pv (binIV .gtr v7 (Value.int .i64 9007199254740991)) fun v14 =>
        Br v14
          (sh56_5 ω p0 x2 v7 K)
          (sh56_4 ω x2 v7 K)))
      (Pv (binIV .mul x4 (Value.int .i64 128)) fun v15 =>
      Pv (binIV .add x5 (Value.int .i64 1)) fun v16 =>
      Kn0 (x2, v7, v15, v16, ())))
    (sh56_2 ω p0 x2 K)
def sh56 (ω : Om) (a0 : Value) (K : Value → M) : M :=
  LoopM (((Value.int .i64 0), (Value.int .i64 0), (Value.int .i64 1), (Value.int .i64 0), ()) : Value × Value × Value × Value × Unit) fun s Kn0 =>
  sh56_3 ω a0 s.1 s.2.1 s.2.2.1 s.2.2.2.1 Kn0 K
theorem sh56_eq (ω : Om) (a0 : Value) (K : Value → M) : vcF Try.prog ω Try.f56 [a0] K = sh56 ω a0 K := by kernel_rfl
theorem cal56 {ω : Om} {a0 : Value} {K : Value → M} {I : Imm} {L : LH} (h : sh56 ω a0 (fun v => Gh (K v)) I L) : Cal Try.prog ω 56 #[a0] K I L :=
  Cal.gh (cal_of_vc mixed Try.func56 (by rw [sh56_eq]; exact h))

def sh57_1 (ω : Om) (p0 : Value) (p2 : Value) (K : Value → M) : M :=
  Pv (nilV p0) fun v14 =>
  Pv (fldV 2 v14) fun v15 =>
  Sto 1 v15 (Value.bool true) <| gh fun _ =>
  K (Value.slice none 0 0)
def sh57 (ω : Om) (a0 : Value) (K : Value → M) : M :=
  Cal Try.prog ω 56 #[a0] <| gh fun v1 =>
  Draw fun S =>
    Pv (nilV a0) fun v2 =>
    Pv (fldV 2 v2) fun v3 =>
    Rv (some S) (ld1R v3) fun v4 =>
    Gd v4 false
      (Pv (nilV a0) fun v5 =>
      Pv (fldV 0 v5) fun v6 =>
      Rv (some S) (ld1R v6) fun v7 =>
      Pv (lenV v7) fun v8 =>
      Pv (nilV a0) fun v9 =>
      Pv (fldV 1 v9) fun v10 =>
      Rv (some S) (ld1R v10) fun v11 =>
      Pv (binIV .sub v8 v11) fun v12 =>
      Pv (binIV .gtr v1 v12) fun v13 =>
      Br v13
        (sh57_1 ω a0 (Value.slice none 0 0) K)
        (Pv (nilV a0) fun v16 =>
        Pv (fldV 1 v16) fun v17 =>
        Rv none (ld1R v17) fun v18 =>
        Pv (binIV .add v18 v1) fun v19 =>
        Pv (nilV a0) fun v20 =>
        Pv (fldV 1 v20) fun v21 =>
        Sto 1 v21 v19 <| gh fun _ =>
        Draw fun S =>
          BldS 5 1 #[(Value.int .u8 0)] 0 [] <| gh <| Keep S fun v22 =>
          Pv (nilV a0) fun v23 =>
          Pv (fldV 0 v23) fun v24 =>
          Rv (some S) (ld1R v24) fun v25 =>
          Pv (nilV a0) fun v26 =>
          Pv (fldV 1 v26) fun v27 =>
          Rv (some S) (ld1R v27) fun v28 =>
          Pv (binIV .sub v28 v1) fun v29 =>
          Pv (nilV a0) fun v30 =>
          Pv (fldV 1 v30) fun v31 =>
          Rv (some S) (ld1R v31) fun v32 =>
          Pv (slcV 1 v25 (some v29) (some v32) none) fun v33 =>
          App 5 1 1 #[(Value.int .u8 0)] v22 v33 <| gh fun v34 =>
          K v34))
      (sh57_1 ω a0 (Value.slice none 0 0) K)
theorem sh57_eq (ω : Om) (a0 : Value) (K : Value → M) : vcF Try.prog ω Try.f57 [a0] K = sh57 ω a0 K := by kernel_rfl
theorem cal57 {ω : Om} {a0 : Value} {K : Value → M} {I : Imm} {L : LH} (h : sh57 ω a0 (fun v => Gh (K v)) I L) : Cal Try.prog ω 57 #[a0] K I L :=
  Cal.gh (cal_of_vc mixed Try.func57 (by rw [sh57_eq]; exact h))

def sh58_1 (ω : Om) (p4 : Value) (K : Value → M) : M :=
  K (Value.bool true)
def sh58_2 (ω : Om) (p4 : Value) (K : Value → M) : M :=
  sh58_1 ω p4 K
def sh58_4 (ω : Om) (p4 : Value) (K : Value → M) : M :=
  K (Value.bool false)
def sh58_3 (ω : Om) (p0 : Value) (p1 : Value) (x4 : Value) (x5 : Value) (Kn0 : (Value × Value × Unit) → M) (K : Value → M) : M :=
  Pv (lenV p0) fun v4 =>
  Pv (binIV .lss x5 v4) fun v5 =>
  Br v5
    (Draw fun S =>
      Pv (ixV 4 p0 x5) fun v6 =>
      Pv (fldV 0 v6) fun v7 =>
      Rv (some S) (ld1R v7) fun v8 =>
      Pv (ixV 4 p1 x5) fun v9 =>
      Pv (fldV 0 v9) fun v10 =>
      Rv (some S) (ld1R v10) fun v11 =>
      Pv (binIV .neq v8 v11) fun v12 =>
      Gd v12 false
        (Pv (ixV 4 p0 x5) fun v13 =>
        Pv (fldV 1 v13) fun v14 =>
        Rv (some S) (ld1R v14) fun v15 =>
        Pv (ixV 4 p1 x5) fun v16 =>
        Pv (fldV 1 v16) fun v17 =>
        Rv (some S) (ld1R v17) fun v18 =>
        Pv (binIV .neq v15 v18) fun v19 =>
        Gd v19 false
          (Pv (ixV 4 p0 x5) fun v20 =>
          Pv (fldV 2 v20) fun v21 =>
          Rv (some S) (ld1R v21) fun v22 =>
          Pv (ixV 4 p1 x5) fun v23 =>
          Pv (fldV 2 v23) fun v24 =>
          Rv (some S) (ld1R v24) fun v25 =>
          Pv (binIV .neq v22 v25) fun v26 =>
          Gd v26 false
            (Pv (ixV 4 p0 x5) fun v27 =>
            Pv (fldV 3 v27) fun v28 =>
            Rv (some S) (ld1R v28) fun v29 =>
            Rv (some S) (bsR v29) fun v30 =>
            Pv (ixV 4 p1 x5) fun v31 =>
            Pv (fldV 3 v31) fun v32 =>
            Rv (some S) (ld1R v32) fun v33 =>
            Rv (some S) (bsR v33) fun v34 =>
            Pv (binSV .neq v30 v34) fun v35 =>
            Br v35
              (sh58_4 ω x4 K)
              (Pv (binIV .add x5 (Value.int .i64 1)) fun v36 =>
              Kn0 (x4, v36, ())))
            (sh58_4 ω x4 K))
          (sh58_4 ω x4 K))
        (sh58_4 ω x4 K))
    (sh58_2 ω x4 K)
def sh58 (ω : Om) (a0 : Value) (a1 : Value) (K : Value → M) : M :=
  Pv (lenV a0) fun v1 =>
  Pv (lenV a1) fun v2 =>
  Pv (binIV .neq v1 v2) fun v3 =>
  Br v3
    (K (Value.bool false))
    (LoopM (((Value.bool false), (Value.int .i64 0), ()) : Value × Value × Unit) fun s Kn0 =>
    sh58_3 ω a0 a1 s.1 s.2.1 Kn0 K)
theorem sh58_eq (ω : Om) (a0 a1 : Value) (K : Value → M) : vcF Try.prog ω Try.f58 [a0, a1] K = sh58 ω a0 a1 K := by kernel_rfl
theorem cal58 {ω : Om} {a0 a1 : Value} {K : Value → M} {I : Imm} {L : LH} (h : sh58 ω a0 a1 (fun v => Gh (K v)) I L) : Cal Try.prog ω 58 #[a0, a1] K I L :=
  Cal.gh (cal_of_vc mixed Try.func58 (by rw [sh58_eq]; exact h))

def sh59 (ω : Om) (a0 : Value) (K : Value → M) : M :=
  Pv (binIV .geq a0 (Value.int .i64 0)) fun v1 =>
  Gd v1 true
    (Pv (binIV .leq a0 (Value.int .i64 9007199254740991)) fun v2 =>
    K v2)
    (K (Value.bool false))
theorem sh59_eq (ω : Om) (a0 : Value) (K : Value → M) : vcF Try.prog ω Try.f59 [a0] K = sh59 ω a0 K := by kernel_rfl
theorem cal59 {ω : Om} {a0 : Value} {K : Value → M} {I : Imm} {L : LH} (h : sh59 ω a0 (fun v => Gh (K v)) I L) : Cal Try.prog ω 59 #[a0] K I L :=
  Cal.gh (cal_of_vc mixed Try.func59 (by rw [sh59_eq]; exact h))

def sh60_1 (ω : Om) (p2 : Value) (K : Value → M) : M :=
  K (Value.bool false)
def sh60_2 (ω : Om) (p2 : Value) (K : Value → M) : M :=
  K (Value.bool true)
def sh60_3 (ω : Om) (p2 : Value) (K : Value → M) : M :=
  sh60_2 ω p2 K
def sh60_5 (ω : Om) (p2 : Value) (K : Value → M) : M :=
  K (Value.bool false)
def sh60_4 (ω : Om) (p0 : Value) (x2 : Value) (x3 : Value) (Kn0 : (Value × Value × Unit) → M) (K : Value → M) : M :=
  Pv (lenV p0) fun v5 =>
  Pv (binIV .lss x3 v5) fun v6 =>
  Br v6
    (Pv (ixV 1 p0 x3) fun v7 =>
    Rv none (ld1R v7) fun v8 =>
    Cal Try.prog ω 35 #[v8] <| gh fun v9 =>
    Draw fun S =>
      Pv (unV .not v9) fun v10 =>
      Gd v10 false
        (Pv (binIV .gtr x3 (Value.int .i64 0)) fun v11 =>
        Gd v11 true
          (Pv (ixV 1 p0 x3) fun v12 =>
          Rv (some S) (ld1R v12) fun v13 =>
          Pv (binIV .sub x3 (Value.int .i64 1)) fun v14 =>
          Pv (ixV 1 p0 v14) fun v15 =>
          Rv (some S) (ld1R v15) fun v16 =>
          Pv (binIV .leq v13 v16) fun v17 =>
          Br v17
            (sh60_5 ω x2 K)
            (Pv (binIV .add x3 (Value.int .i64 1)) fun v18 =>
            Kn0 (x2, v18, ())))
          (Pv (binIV .add x3 (Value.int .i64 1)) fun v19 =>
          Kn0 (x2, v19, ())))
        (sh60_5 ω x2 K))
    (sh60_3 ω x2 K)
def sh60 (ω : Om) (a0 : Value) (K : Value → M) : M :=
  Pv (lenV a0) fun v1 =>
  Pv (binIV .lss v1 (Value.int .i64 1)) fun v2 =>
  Gd v2 false
    (Pv (lenV a0) fun v3 =>
    Pv (binIV .gtr v3 (Value.int .i64 5)) fun v4 =>
    Br v4
      (sh60_1 ω (Value.bool false) K)
      (LoopM (((Value.bool false), (Value.int .i64 0), ()) : Value × Value × Unit) fun s Kn0 =>
      sh60_4 ω a0 s.1 s.2.1 Kn0 K))
    (sh60_1 ω (Value.bool false) K)
theorem sh60_eq (ω : Om) (a0 : Value) (K : Value → M) : vcF Try.prog ω Try.f60 [a0] K = sh60 ω a0 K := by kernel_rfl
theorem cal60 {ω : Om} {a0 : Value} {K : Value → M} {I : Imm} {L : LH} (h : sh60 ω a0 (fun v => Gh (K v)) I L) : Cal Try.prog ω 60 #[a0] K I L :=
  Cal.gh (cal_of_vc mixed Try.func60 (by rw [sh60_eq]; exact h))

def sh61_1 (ω : Om) (p2 : Value) (K : Value → M) : M :=
  K (Value.bool false)
def sh61_2 (ω : Om) (p1 : Value) (p2 : Value) (K : Value → M) : M :=
  Pv (fldV 3 p1) fun v16 =>
  Rv none (ld1R v16) fun v17 =>
  Pv (lenV v17) fun v18 =>
  Pv (binIV .eql v18 (Value.int .i64 0)) fun v19 =>
  K v19
def sh61_3 (ω : Om) (p1 : Value) (p2 : Value) (p23 : Value) (K : Value → M) : M :=
  Pv (binIV .eql p23 (Value.int .i64 2)) fun v20 =>
  Br v20
    (Pv (fldV 3 p1) fun v21 =>
    Rv none (ld1R v21) fun v22 =>
    Pv (lenV v22) fun v23 =>
    Pv (binIV .leq v23 (Value.int .i64 12000)) fun v24 =>
    K v24)
    (Pv (binIV .eql p23 (Value.int .i64 3)) fun v25 =>
    Br v25
      (Pv (fldV 3 p1) fun v26 =>
      Rv none (ld1R v26) fun v27 =>
      Cal Try.prog ω 68 #[v27] <| gh fun v28 =>
      K v28)
      (K (Value.bool false)))
def sh61 (ω : Om) (a0 : Value) (K : Value → M) : M :=
  New (.cells (Value.cells a0) 78 (0, 0)) <| gh fun e_1 =>
  Pv (fldV 0 e_1) fun v2 =>
  Rv none (ld1R v2) fun v3 =>
  Cal Try.prog ω 59 #[v3] <| gh fun v4 =>
  Pv (fldV 1 e_1) fun v5 =>
  Rv none (ld1R v5) fun v6 =>
  Cal Try.prog ω 59 #[v6] <| gh fun v7 =>
  Pv (unV .not v4) fun v8 =>
  Gd v8 false
    (Pv (unV .not v7) fun v9 =>
    Gd v9 false
      (Pv (fldV 1 e_1) fun v10 =>
      Rv none (ld1R v10) fun v11 =>
      Pv (binIV .lss v11 (Value.int .i64 1)) fun v12 =>
      Br v12
        (sh61_1 ω (Value.bool false) K)
        (Pv (fldV 2 e_1) fun v13 =>
        Rv none (ld1R v13) fun v14 =>
        Pv (binIV .eql v14 (Value.int .i64 1)) fun v15 =>
        Br v15
          (sh61_2 ω e_1 (Value.bool false) K)
          (sh61_3 ω e_1 (Value.bool false) v14 K)))
      (sh61_1 ω (Value.bool false) K))
    (sh61_1 ω (Value.bool false) K)
theorem sh61_eq (ω : Om) (a0 : Value) (K : Value → M) : vcF Try.prog ω Try.f61 [a0] K = sh61 ω a0 K := by kernel_rfl
theorem cal61 {ω : Om} {a0 : Value} {K : Value → M} {I : Imm} {L : LH} (h : sh61 ω a0 (fun v => Gh (K v)) I L) : Cal Try.prog ω 61 #[a0] K I L :=
  Cal.gh (cal_of_vc mixed Try.func61 (by rw [sh61_eq]; exact h))

def sh62_1 (ω : Om) (p0 : Value) (p1 : Value) (p2 : Value) (p6 : Value) (p7 : Value) (p8 : Value) (p9 : Value) (K : Value → M) : M :=
  Pv (binIV .lss p9 p8) fun v2 =>
  Gd v2 true
    (Pv (ixV 5 p0 p9) fun v3 =>
    Rv none (ldNR 5 v3) fun v4 =>
    CalV Try.prog ω p2 #[v4, p1] <| gh fun v5 =>
    Pv (binIV .eql v5 (Value.int .i64 0)) fun v6 =>
    K (Value.tuple #[p9, v6]))
    (K (Value.tuple #[p9, (Value.bool false)]))
def sh62_2 (ω : Om) (p0 : Value) (p1 : Value) (p2 : Value) (p6 : Value) (p7 : Value) (p8 : Value) (p9 : Value) (K : Value → M) : M :=
  sh62_1 ω p0 p1 p2 p6 p7 p8 p9 K
def sh62_4 (ω : Om) (p9 : Value) (p10 : Value) (Kn0 : (Value × Value × Unit) → M) (K : Value → M) : M :=
  Kn0 (p9, p10, ())
def sh62_3 (ω : Om) (p0 : Value) (p1 : Value) (p2 : Value) (p6 : Value) (p7 : Value) (p8 : Value) (x9 : Value) (x10 : Value) (Kn0 : (Value × Value × Unit) → M) (K : Value → M) : M :=
  Pv (binIV .lss x9 x10) fun v7 =>
  Br v7
    (Pv (binIV .add x9 x10) fun v8 =>
    Pv (cvIV .u64 v8) fun v9 =>
    Pv (binIV .shr v9 (Value.int .u64 1)) fun v10 =>
    Pv (cvIV .i64 v10) fun v11 =>
    Pv (ixV 5 p0 v11) fun v12 =>
    Rv none (ldNR 5 v12) fun v13 =>
    CalV Try.prog ω p2 #[v13, p1] <| gh fun v14 =>
    Pv (binIV .lss v14 (Value.int .i64 0)) fun v15 =>
    Br v15
      (Pv (binIV .add v11 (Value.int .i64 1)) fun v16 =>
      sh62_4 ω v16 x10 Kn0 K)
      (sh62_4 ω x9 v11 Kn0 K))
    (sh62_2 ω p0 p1 p2 p6 p7 p8 x9 K)
def sh62 (ω : Om) (a0 : Value) (a1 : Value) (a2 : Value) (K : Value → M) : M :=
  Pv (lenV a0) fun v1 =>
  LoopM (((Value.int .i64 0), v1, ()) : Value × Value × Unit) fun s Kn0 =>
  sh62_3 ω a0 a1 a2 (Value.int .i64 0) (Value.bool false) v1 s.1 s.2.1 Kn0 K
theorem sh62_eq (ω : Om) (a0 a1 a2 : Value) (K : Value → M) : vcF Try.prog ω Try.f62 [a0, a1, a2] K = sh62 ω a0 a1 a2 K := by kernel_rfl
theorem cal62 {ω : Om} {a0 a1 a2 : Value} {K : Value → M} {I : Imm} {L : LH} (h : sh62 ω a0 a1 a2 (fun v => Gh (K v)) I L) : Cal Try.prog ω 62 #[a0, a1, a2] K I L :=
  Cal.gh (cal_of_vc mixed Try.func62 (by rw [sh62_eq]; exact h))

def sh63 (ω : Om) (a0 : Value) (a1 : Value) (K : Value → M) : M :=
  New (.cells (Value.cells a0) 30 (0, 0)) <| gh fun e_1 =>
  Pv (fldV 0 e_1) fun v2 =>
  Rv none (ld1R v2) fun v3 =>
  Pv (binIV .sub v3 a1) fun v4 =>
  K v4
theorem sh63_eq (ω : Om) (a0 a1 : Value) (K : Value → M) : vcF Try.prog ω Try.f63 [a0, a1] K = sh63 ω a0 a1 K := by kernel_rfl
theorem cal63 {ω : Om} {a0 a1 : Value} {K : Value → M} {I : Imm} {L : LH} (h : sh63 ω a0 a1 (fun v => Gh (K v)) I L) : Cal Try.prog ω 63 #[a0, a1] K I L :=
  Cal.gh (cal_of_vc mixed Try.func63 (by rw [sh63_eq]; exact h))

def sh64 (ω : Om) (a0 : Value) (K : Value → M) : M :=
  Pv (binIV .geq a0 (Value.int .i64 0)) fun v1 =>
  Gd v1 true
    (Pv (binIV .leq a0 (Value.int .i64 9007199254740991)) fun v2 =>
    K v2)
    (K (Value.bool false))
theorem sh64_eq (ω : Om) (a0 : Value) (K : Value → M) : vcF Try.prog ω Try.f64 [a0] K = sh64 ω a0 K := by kernel_rfl
theorem cal64 {ω : Om} {a0 : Value} {K : Value → M} {I : Imm} {L : LH} (h : sh64 ω a0 (fun v => Gh (K v)) I L) : Cal Try.prog ω 64 #[a0] K I L :=
  Cal.gh (cal_of_vc mixed Try.func64 (by rw [sh64_eq]; exact h))

def sh65_1 (ω : Om) (p2 : Value) (K : Value → M) : M :=
  K (Value.bool true)
def sh65_2 (ω : Om) (p2 : Value) (K : Value → M) : M :=
  sh65_1 ω p2 K
def sh65_4 (ω : Om) (p2 : Value) (K : Value → M) : M :=
  K (Value.bool false)
def sh65_3 (ω : Om) (p1 : Value) (p10 : Value) (p11 : Value) (x2 : Value) (x12 : Value) (Kn0 : (Value × Value × Unit) → M) (K : Value → M) : M :=
  Pv (binIV .lss x12 p11) fun v9 =>
  Br v9
    (Pv (ixV 4 p10 x12) fun v10 =>
    Rv none (ldNR 4 v10) fun v11 =>
    New (.cells #[(Value.int .i64 0), (Value.int .i64 0), (Value.int .i64 0), (Value.slice none 0 0)] 78 (0, 0)) <| gh fun e_12 =>
    Sto 4 e_12 v11 <| gh fun _ =>
    Rv none (ldNR 4 e_12) fun v13 =>
    Cal Try.prog ω 69 #[v13] <| gh fun v14 =>
    Pv (unV .not v14) fun v15 =>
    Gd v15 false
      (Pv (fldV 0 e_12) fun v16 =>
      Rv none (ld1R v16) fun v17 =>
      Pv (fldV 5 p1) fun v18 =>
      Rv none (ld1R v18) fun v19 =>
      Pv (binIV .add v19 (Value.int .i64 1)) fun v20 =>
      Pv (binIV .add v20 x12) fun v21 =>
      Pv (binIV .neq v17 v21) fun v22 =>
      Gd v22 false
        (Pv (fldV 1 e_12) fun v23 =>
        Rv none (ld1R v23) fun v24 =>
        Pv (fldV 4 p1) fun v25 =>
        Rv none (ld1R v25) fun v26 =>
        Pv (binIV .gtr v24 v26) fun v27 =>
        Br v27
          (sh65_4 ω x2 K)
          (Pv (binIV .add x12 (Value.int .i64 1)) fun v28 =>
          Kn0 (x2, v28, ())))
        (sh65_4 ω x2 K))
      (sh65_4 ω x2 K))
    (sh65_2 ω x2 K)
def sh65 (ω : Om) (a0 : Value) (K : Value → M) : M :=
  New (.cells (Value.cells a0) 51 (0, 0)) <| gh fun m_1 =>
  Pv (fldV 9 m_1) fun v2 =>
  Rv none (ld1R v2) fun v3 =>
  Pv (lenV v3) fun v4 =>
  Pv (binIV .gtr v4 (Value.int .i64 64)) fun v5 =>
  Br v5
    (K (Value.bool false))
    (Pv (fldV 9 m_1) fun v6 =>
    Rv none (ld1R v6) fun v7 =>
    Pv (lenV v7) fun v8 =>
    LoopM (((Value.bool false), (Value.int .i64 0), ()) : Value × Value × Unit) fun s Kn0 =>
    sh65_3 ω m_1 v7 v8 s.1 s.2.1 Kn0 K)
theorem sh65_eq (ω : Om) (a0 : Value) (K : Value → M) : vcF Try.prog ω Try.f65 [a0] K = sh65 ω a0 K := by kernel_rfl
theorem cal65 {ω : Om} {a0 : Value} {K : Value → M} {I : Imm} {L : LH} (h : sh65 ω a0 (fun v => Gh (K v)) I L) : Cal Try.prog ω 65 #[a0] K I L :=
  Cal.gh (cal_of_vc mixed Try.func65 (by rw [sh65_eq]; exact h))

def sh66_1 (ω : Om) (p0 : Value) (p2 : Value) (K : Value → M) : M :=
  Pv (lenV p0) fun v1 =>
  Pv (binIV .gtr v1 (Value.int .i64 0)) fun v2 =>
  K v2
def sh66_2 (ω : Om) (p0 : Value) (p2 : Value) (K : Value → M) : M :=
  sh66_1 ω p0 p2 K
def sh66_4 (ω : Om) (p2 : Value) (K : Value → M) : M :=
  K (Value.bool false)
def sh66_3 (ω : Om) (p0 : Value) (p5 : Value) (p6 : Value) (x2 : Value) (x7 : Value) (Kn0 : (Value × Value × Unit) → M) (K : Value → M) : M :=
  Pv (binIV .lss x7 p6) fun v4 =>
  Br v4
    (Pv (ixV 1 p5 x7) fun v5 =>
    Rv none (ld1R v5) fun v6 =>
    Cal Try.prog ω 31 #[v6] <| gh fun v7 =>
    Pv (unV .not v7) fun v8 =>
    Gd v8 false
      (Pv (binIV .gtr x7 (Value.int .i64 0)) fun v9 =>
      Gd v9 true
        (Pv (binIV .sub x7 (Value.int .i64 1)) fun v10 =>
        Pv (ixV 1 p0 v10) fun v11 =>
        Rv none (ld1R v11) fun v12 =>
        Pv (binIV .leq v6 v12) fun v13 =>
        Br v13
          (sh66_4 ω x2 K)
          (Pv (binIV .add x7 (Value.int .i64 1)) fun v14 =>
          Kn0 (x2, v14, ())))
        (Pv (binIV .add x7 (Value.int .i64 1)) fun v15 =>
        Kn0 (x2, v15, ())))
      (sh66_4 ω x2 K))
    (sh66_2 ω p0 x2 K)
def sh66 (ω : Om) (a0 : Value) (K : Value → M) : M :=
  Pv (lenV a0) fun v3 =>
  LoopM (((Value.bool false), (Value.int .i64 0), ()) : Value × Value × Unit) fun s Kn0 =>
  sh66_3 ω a0 a0 v3 s.1 s.2.1 Kn0 K
theorem sh66_eq (ω : Om) (a0 : Value) (K : Value → M) : vcF Try.prog ω Try.f66 [a0] K = sh66 ω a0 K := by kernel_rfl
theorem cal66 {ω : Om} {a0 : Value} {K : Value → M} {I : Imm} {L : LH} (h : sh66 ω a0 (fun v => Gh (K v)) I L) : Cal Try.prog ω 66 #[a0] K I L :=
  Cal.gh (cal_of_vc mixed Try.func66 (by rw [sh66_eq]; exact h))

def sh67 (ω : Om) (a0 : Value) (K : Value → M) : M :=
  Pv (binNV .eql a0 (Value.slice none 0 0)) fun v1 =>
  Br v1
    (K (Value.slice none 0 0))
    (BldS 5 1 #[(Value.int .u8 0)] 0 [] <| gh fun v2 =>
    App 5 1 1 #[(Value.int .u8 0)] v2 a0 <| gh fun v3 =>
    K v3)
theorem sh67_eq (ω : Om) (a0 : Value) (K : Value → M) : vcF Try.prog ω Try.f67 [a0] K = sh67 ω a0 K := by kernel_rfl
theorem cal67 {ω : Om} {a0 : Value} {K : Value → M} {I : Imm} {L : LH} (h : sh67 ω a0 (fun v => Gh (K v)) I L) : Cal Try.prog ω 67 #[a0] K I L :=
  Cal.gh (cal_of_vc mixed Try.func67 (by rw [sh67_eq]; exact h))

def sh68_1 (ω : Om) (p2 : Value) (p3 : Value) (K : Value → M) : M :=
  Cal Try.prog ω 60 #[p3] <| gh fun v3 =>
  K v3
def sh68_2 (ω : Om) (p2 : Value) (p3 : Value) (K : Value → M) : M :=
  sh68_1 ω p2 p3 K
def sh68_3 (ω : Om) (p0 : Value) (p2 : Value) (x3 : Value) (x4 : Value) (Kn0 : (Value × Value × Unit) → M) (K : Value → M) : M :=
  Pv (lenV p0) fun v4 =>
  Pv (binIV .lss x4 v4) fun v5 =>
  Br v5
    (Pv (ixV 1 p0 x4) fun v6 =>
    Rv none (ld1R v6) fun v7 =>
    Pv (cvIV .i64 v7) fun v8 =>
    BldS 3 1 #[(Value.int .i64 0)] 1 [(0, v8)] <| gh fun v9 =>
    App 3 1 8 #[(Value.int .i64 0)] x3 v9 <| gh fun v10 =>
    Pv (binIV .add x4 (Value.int .i64 1)) fun v11 =>
    Kn0 (v10, v11, ()))
    (sh68_2 ω p2 x3 K)
def sh68 (ω : Om) (a0 : Value) (K : Value → M) : M :=
  Pv (lenV a0) fun v1 =>
  Pv (binIV .gtr v1 (Value.int .i64 5)) fun v2 =>
  Br v2
    (K (Value.bool false))
    (LoopM (((Value.slice none 0 0), (Value.int .i64 0), ()) : Value × Value × Unit) fun s Kn0 =>
    sh68_3 ω a0 (Value.bool false) s.1 s.2.1 Kn0 K)
theorem sh68_eq (ω : Om) (a0 : Value) (K : Value → M) : vcF Try.prog ω Try.f68 [a0] K = sh68 ω a0 K := by kernel_rfl
theorem cal68 {ω : Om} {a0 : Value} {K : Value → M} {I : Imm} {L : LH} (h : sh68 ω a0 (fun v => Gh (K v)) I L) : Cal Try.prog ω 68 #[a0] K I L :=
  Cal.gh (cal_of_vc mixed Try.func68 (by rw [sh68_eq]; exact h))

def sh69_1 (ω : Om) (p2 : Value) (K : Value → M) : M :=
  K (Value.bool false)
def sh69_2 (ω : Om) (p1 : Value) (p2 : Value) (K : Value → M) : M :=
  Pv (fldV 3 p1) fun v16 =>
  Rv none (ld1R v16) fun v17 =>
  Pv (lenV v17) fun v18 =>
  Pv (binIV .eql v18 (Value.int .i64 0)) fun v19 =>
  K v19
def sh69_3 (ω : Om) (p1 : Value) (p2 : Value) (p19 : Value) (K : Value → M) : M :=
  Pv (binIV .eql p19 (Value.int .i64 2)) fun v20 =>
  Br v20
    (Pv (fldV 3 p1) fun v21 =>
    Rv none (ld1R v21) fun v22 =>
    Pv (lenV v22) fun v23 =>
    Pv (binIV .leq v23 (Value.int .i64 12000)) fun v24 =>
    K v24)
    (Pv (binIV .eql p19 (Value.int .i64 3)) fun v25 =>
    Br v25
      (Pv (fldV 3 p1) fun v26 =>
      Rv none (ld1R v26) fun v27 =>
      Pv (lenV v27) fun v28 =>
      Pv (binIV .leq v28 (Value.int .i64 5)) fun v29 =>
      Gd v29 true
        (Pv (fldV 3 p1) fun v30 =>
        Rv none (ld1R v30) fun v31 =>
        Cal Try.prog ω 53 #[v31] <| gh fun v32 =>
        Cal Try.prog ω 66 #[v32] <| gh fun v33 =>
        K v33)
        (K (Value.bool false)))
      (K (Value.bool false)))
def sh69 (ω : Om) (a0 : Value) (K : Value → M) : M :=
  New (.cells (Value.cells a0) 78 (0, 0)) <| gh fun e_1 =>
  Pv (fldV 0 e_1) fun v2 =>
  Rv none (ld1R v2) fun v3 =>
  Cal Try.prog ω 64 #[v3] <| gh fun v4 =>
  Pv (unV .not v4) fun v5 =>
  Gd v5 false
    (Pv (fldV 1 e_1) fun v6 =>
    Rv none (ld1R v6) fun v7 =>
    Cal Try.prog ω 64 #[v7] <| gh fun v8 =>
    Pv (unV .not v8) fun v9 =>
    Gd v9 false
      (Pv (fldV 1 e_1) fun v10 =>
      Rv none (ld1R v10) fun v11 =>
      Pv (binIV .lss v11 (Value.int .i64 1)) fun v12 =>
      Br v12
        (sh69_1 ω (Value.bool false) K)
        (Pv (fldV 2 e_1) fun v13 =>
        Rv none (ld1R v13) fun v14 =>
        Pv (binIV .eql v14 (Value.int .i64 1)) fun v15 =>
        Br v15
          (sh69_2 ω e_1 (Value.bool false) K)
          (sh69_3 ω e_1 (Value.bool false) v14 K)))
      (sh69_1 ω (Value.bool false) K))
    (sh69_1 ω (Value.bool false) K)
theorem sh69_eq (ω : Om) (a0 : Value) (K : Value → M) : vcF Try.prog ω Try.f69 [a0] K = sh69 ω a0 K := by kernel_rfl
theorem cal69 {ω : Om} {a0 : Value} {K : Value → M} {I : Imm} {L : LH} (h : sh69 ω a0 (fun v => Gh (K v)) I L) : Cal Try.prog ω 69 #[a0] K I L :=
  Cal.gh (cal_of_vc mixed Try.func69 (by rw [sh69_eq]; exact h))

end Go.Proofs.Ytfeonffmeajpgaa
