/- lemmas -/
import Derived.Test.YtmmfcgbfbcamcaaGreatDoorP4
import Derived.Test.YtmmfcgbfbcamcaaGreatDoorP2
import GoSem.ClaimJoined
import Derived.Below
import Derived.WideShapes
set_option maxRecDepth 100000
set_option maxHeartbeats 2000000
set_option linter.unusedVariables false
set_option linter.unusedSimpArgs false
set_option linter.unusedSectionVars false
namespace Go.Proofs.YtmmfcgbfbcamcaaGreatDoor
open Go.SL
def Ut (ω:Om)(p0 p4:Value)(p6 p8:Value)(x10 x11 x20:Value)(Kn1:(Value×Value×Value×Unit)→M)(K:Value→M):M:=Pv (AG p0) λv50=>Pv (AA 1 v50) λv51=>Rn (AB v51) λv52=>Pv (lenV v52) λv53=>Pv (AC .lss x20 v53) λv54=>Br v54 (AY λS=>Rs S (AD 2 p6) λv55=>Pv (AG p0) λv56=>Pv (AA 1 v56) λv57=>Rs S (AB v57) λv58=>Pv (ixV 6 v58 x20) λv59=>Pv (AA 0 v59) λv60=>Rs S (AB v60) λv61=>CT ω 46 #[v55,v61]<|gh λv62=>AY λS=>Pv (AG p0) λv63=>Pv (AA 1 v63) λv64=>Rs S (AB v64) λv65=>Pv (ixV 6 v65 x20) λv66=>Pv (AA 2 v66) λv67=>Rs S (AD 2 v67) λv68=>Rs S (AD 2 p8) λv69=>CT ω 109 #[v68,v69]<|gh λv70=>Gd v62 true (Pv (AG p0) λv71=>Pv (AA 1 v71) λv72=>Rn (AB v72) λv73=>Pv (ixV 6 v73 x20) λv74=>Pv (AA 1 v74) λv75=>Rn (AB v75) λv76=>Pv (AC .neq v76 p4) λv77=>Gd v77 true (Pv (unV .not v70) λv78=>Br v78 (K (Value.tuple Zr)) (Pv (AC .add x20 (.int .i64 1)) λv79=>Kn1 (x10,x11,v79,()))) (Pv (AC .add x20 (.int .i64 1)) λv80=>Kn1 (x10,x11,v80,()))) (Pv (AC .add x20 (.int .i64 1)) λv81=>Kn1 (x10,x11,v81,()))) (K (Value.tuple Zn))
def Uu (ω:Om)(p0 p4:Value)(p6 p8:Value)(p10 p11:Value)(K:Value→M):M:=Ae ((p10,p11,I0,()):Value×Value×Value×Unit) λs Kn1=>Ut ω p0 p4 p6 p8 s.1 s.2.1 s.2.2.1 Kn1 K
def Uv (ω:Om)(p0 p4:Value)(p6 p7:Value)(p8 x10:Value)(x11 x16:Value)(Kn0:(Value×Value×Value×Unit)→M)(K:Value→M):M:=Pv (AG p0) λv17=>Pv (AA 0 v17) λv18=>Rn (AB v18) λv19=>Pv (lenV v19) λv20=>Pv (AC .lss x16 v20) λv21=>Br v21 (AY λS=>Rs S (AD 2 p6) λv22=>Pv (AG p0) λv23=>Pv (AA 0 v23) λv24=>Rs S (AB v24) λv25=>Pv (ixV 5 v25 x16) λv26=>Pv (AA 0 v26) λv27=>Rs S (AB v27) λv28=>CT ω 46 #[v22,v28]<|gh λv29=>AY λS=>Pv (AG p0) λv30=>Pv (AA 0 v30) λv31=>Rs S (AB v31) λv32=>Pv (ixV 5 v32 x16) λv33=>Pv (AA 1 v33) λv34=>Rs S (AD 2 v34) λv35=>Rs S (AD 2 p7) λv36=>CT ω 109 #[v35,v36]<|gh λv37=>AY λS=>Pv (AG p0) λv38=>Pv (AA 0 v38) λv39=>Rs S (AB v39) λv40=>Pv (ixV 5 v40 x16) λv41=>Pv (AA 1 v41) λv42=>Rs S (AD 2 v42) λv43=>Rs S (AD 2 p8) λv44=>CT ω 109 #[v43,v44]<|gh λv45=>Gd v29 true (Gd v37 true (Pv (unV .not v45) λv46=>Br v46 (K (Value.tuple Zr)) (Pv (AC .add x16 (.int .i64 1)) λv47=>Kn0 (x10,x11,v47,()))) (Pv (AC .add x16 (.int .i64 1)) λv48=>Kn0 (x10,x11,v48,()))) (Pv (AC .add x16 (.int .i64 1)) λv49=>Kn0 (x10,x11,v49,()))) (Uu ω p0 p4 p6 p8 x10 x11 K)
def ABS (ω:Om)(a0 a1:Value)(a2 a3 a4:Value)(K:Value→M):M:=New (.cells (Value.cells a1) 31 (0,0))<|gh λp_1=>New (.cells (Value.cells a2) 41 (0,0))<|gh λfrom_2=>New (.cells (Value.cells a3) 41 (0,0))<|gh λto_3=>Rn (AD 2 from_2) λv4=>CT ω 66 #[v4]<|gh λv5=>Rn (AD 2 to_3) λv6=>CT ω 66 #[v6]<|gh λv7=>CT ω 108 #[a4]<|gh λv8=>Pv (unV .not v5) λv9=>Gd v9 false (Pv (unV .not v7) λv10=>Gd v10 false (Pv (unV .not v8) λv11=>Br v11 (K (Value.tuple Zk)) (AY λS=>Pv (AG a0) λv12=>Pv (AA 2 v12) λv13=>Rs S (AD 2 v13) λv14=>Rs S (AD 2 from_2) λv15=>CT ω 109 #[v14,v15]<|gh λv16=>Br v16 (K (Value.tuple #[(.bool false),(.int .i64 131)])) (Ae (((.bool false),I0,I0,()):Value×Value×Value×Unit) λs Kn0=>Uv ω a0 a4 p_1 from_2 to_3 s.1 s.2.1 s.2.2.1 Kn0 K))) (K (Value.tuple Zk))) (K (Value.tuple Zk))
theorem ABR (ω:Om)(a0 a1 a2 a3 a4:Value)(K:Value→M):vcF Tryz.prog ω Tryz.f172 [a0,a1,a2,a3,a4] K=ABS ω a0 a1 a2 a3 a4 K:=by kernel_rfl
variable {ω:Om}{K:Value→M}{I:Imm}{L:LH}{a0 a1 a2 a3 a4 a5 a6 a7 a8:Value}
theorem ALL (h:ABS ω a0 a1 a2 a3 a4 (λv=>Gh (K v)) I L):CT ω 172 #[a0,a1,a2,a3,a4] K I L:=Cal.gh (AE mixed Tryz.func172 (by rw [ABR];exact h))
def Us (ω:Om)(p0 p1:Value)(x4 x5:Value)(Kn0:(Value×Value×Unit)→M)(K:Value→M):M:=Pv (AG p0) λv1=>Pv (AA 8 v1) λv2=>Rn (AB v2) λv3=>Pv (lenV v3) λv4=>Pv (AC .lss x5 v4) λv5=>Br v5 (Pv (AG p0) λv6=>Pv (AA 8 v6) λv7=>Rn (AB v7) λv8=>Pv (ixV 4 v8 x5) λv9=>Pv (AA 0 v9) λv10=>Rn (AB v10) λv11=>Pv (AC .eql v11 p1) λv12=>Br v12 (K x5) (Pv (AC .add x5 (.int .i64 1)) λv13=>Kn0 (x4,v13,()))) (K (.int .i64 (-1)))
def ABQ (ω:Om)(a0 a1:Value)(K:Value→M):M:=Ae ((I0,I0,()):Value×Value×Unit) λs Kn0=>Us ω a0 a1 s.1 s.2.1 Kn0 K
theorem ABP (ω:Om)(a0 a1:Value)(K:Value→M):vcF Tryz.prog ω Tryz.f173 [a0,a1] K=ABQ ω a0 a1 K:=by kernel_rfl
theorem ALK (h:ABQ ω a0 a1 (λv=>Gh (K v)) I L):CT ω 173 #[a0,a1] K I L:=Cal.gh (AE mixed Tryz.func173 (by rw [ABP];exact h))
def IY (ω:Om)(p0 p5:Value)(p6 p7:Value)(Kn0:(Value×Value×Value×Unit)→M)(K:Value→M):M:=Pv (AG p0) λv25=>Pv (AA 8 v25) λv26=>Rn (AB v26) λv27=>Pv (ixV 4 v27 p7) λv28=>Rn (AD 4 v28) λv29=>Aq 138 4 Zl 1 [(0,v29)]<|gh λv30=>App 138 4 32 Zl p5 v30<|gh λv31=>Pv (AC .add p7 (.int .i64 1)) λv32=>Kn0 (v31,p6,v32,())
def Uq (ω:Om)(p0 p3:Value)(p5 p6 p7:Value)(Kn0:(Value×Value×Value×Unit)→M)(K:Value→M):M:=Rn (AD 4 p3) λv22=>Aq 138 4 Zl 1 [(0,v22)]<|gh λv23=>App 138 4 32 Zl p5 v23<|gh λv24=>IY ω p0 v24 (.bool true) p7 Kn0 K
def Ka (ω:Om)(p0 p4 p5:Value)(K:Value→M):M:=Pv (AG p0) λv37=>Pv (AA 8 v37) λv38=>Sto 1 v38 p5<|gh λ_=>K (.bool true)
def Up (ω:Om)(p0 p3:Value)(p4 p5 p6:Value)(K:Value→M):M:=Pv (unV .not p6) λv33=>Br v33 (Rn (AD 4 p3) λv34=>Aq 138 4 Zl 1 [(0,v34)]<|gh λv35=>App 138 4 32 Zl p5 v35<|gh λv36=>Ka ω p0 p4 v36 K) (Ka ω p0 p4 p5 K)
def Ur (ω:Om)(p0 p3:Value)(p4 x5:Value)(x6 x7:Value)(Kn0:(Value×Value×Value×Unit)→M)(K:Value→M):M:=Pv (AG p0) λv7=>Pv (AA 8 v7) λv8=>Rn (AB v8) λv9=>Pv (lenV v9) λv10=>Pv (AC .lss x7 v10) λv11=>Br v11 (AY λS=>Pv (unV .not x6) λv12=>Gd v12 true (Pv (AG p0) λv13=>Pv (AA 8 v13) λv14=>Rs S (AB v14) λv15=>Pv (ixV 4 v15 x7) λv16=>Pv (AA 0 v16) λv17=>Rs S (AB v17) λv18=>Pv (AA 0 p3) λv19=>Rs S (AB v19) λv20=>Pv (AC .gtr v18 v20) λv21=>Br v21 (Uq ω p0 p3 x5 x6 x7 Kn0 K) (IY ω p0 x5 x6 x7 Kn0 K)) (IY ω p0 x5 x6 x7 Kn0 K)) (Up ω p0 p3 p4 x5 x6 K)
def ABO (ω:Om)(a0 a1:Value)(K:Value→M):M:=New (.cells (Value.cells a1) 138 (0,0))<|gh λx_1=>Pv (AG a0) λv2=>Pv (AA 8 v2) λv3=>Rn (AB v3) λv4=>Pv (lenV v4) λv5=>Pv (AC .geq v5 (.int .i64 64)) λv6=>Br v6 (K (.bool false)) (Ae ((S0,(.bool false),I0,()):Value×Value×Value×Unit) λs Kn0=>Ur ω a0 x_1 (.bool false) s.1 s.2.1 s.2.2.1 Kn0 K)
theorem ABN (ω:Om)(a0 a1:Value)(K:Value→M):vcF Tryz.prog ω Tryz.f174 [a0,a1] K=ABO ω a0 a1 K:=by kernel_rfl
theorem ALJ (h:ABO ω a0 a1 (λv=>Gh (K v)) I L):CT ω 174 #[a0,a1] K I L:=Cal.gh (AE mixed Tryz.func174 (by rw [ABN];exact h))
def ABM (ω:Om)(a0 a1:Value)(K:Value→M):M:=New (.cells (Value.cells a1) 56 (0,0))<|gh λc_1=>Pv (AA 1 c_1) λv2=>Rn (AB v2) λv3=>CT ω 173 #[a0,v3]<|gh λv4=>Pv (AC .geq v4 I0) λv5=>Br v5 (K v4) (Pv (AA 1 c_1) λv6=>Rn (AB v6) λv7=>Pv (AA 3 c_1) λv8=>Rn (AD 2 v8) λv9=>Pv (AR Zl Zo [(0,v7),(1,(.int .i64 3)),(2,v9)]) λv10=>CT ω 174 #[a0,v10]<|gh λv11=>Pv (unV .not v11) λv12=>Br v12 (K (.int .i64 (-1))) (Pv (AA 1 c_1) λv13=>Rn (AB v13) λv14=>CT ω 173 #[a0,v14]<|gh λv15=>K v15))
theorem ABL (ω:Om)(a0 a1:Value)(K:Value→M):vcF Tryz.prog ω Tryz.f175 [a0,a1] K=ABM ω a0 a1 K:=by kernel_rfl
theorem ALI (h:ABM ω a0 a1 (λv=>Gh (K v)) I L):CT ω 175 #[a0,a1] K I L:=Cal.gh (AE mixed Tryz.func175 (by rw [ABL];exact h))
def Ee (ω:Om)(p21 p22:Value)(Kn0:(Value×Value×Unit)→M)(K:Value→M):M:=Pv (AC .add p22 (.int .i64 1)) λv51=>Kn0 (p21,v51,())
def Fq (ω:Om)(p0 p21 p22:Value)(Kn0:(Value×Value×Unit)→M)(K:Value→M):M:=Pv (AG p0) λv44=>Pv (AA 1 v44) λv45=>Rn (AB v45) λv46=>Pv (ixV 6 v46 p22) λv47=>Rn (AD 6 v47) λv48=>Aq 190 6 Zh 1 [(0,v48)]<|gh λv49=>App 190 6 80 Zh p21 v49<|gh λv50=>Ee ω v50 p22 Kn0 K
def Fa (ω:Om)(p0 p23:Value)(p24 p25:Value)(Kn1:(Value×Value×Value×Unit)→M)(K:Value→M):M:=Pv (AG p0) λv78=>Pv (AA 0 v78) λv79=>Rn (AB v79) λv80=>Pv (ixV 5 v80 p25) λv81=>Rn (AD 5 v81) λv82=>Aq 188 5 Zd 1 [(0,v82)]<|gh λv83=>App 188 5 72 Zd p23 v83<|gh λv84=>Pv (AC .add p25 (.int .i64 1)) λv85=>Kn1 (v84,p24,v85,())
def QU (ω:Om)(p0 p1:Value)(p9 p15:Value)(p23 p24 p25:Value)(Kn1:(Value×Value×Value×Unit)→M)(K:Value→M):M:=Rn (AD 2 p9) λv70=>Pv (AA 4 p15) λv71=>Rn (AB v71) λv72=>Pv (AA 5 p15) λv73=>Rn (AB v73) λv74=>Pv (AR Zd Zw [(0,p1),(1,v70),(2,v72),(3,v74)]) λv75=>Aq 188 5 Zd 1 [(0,v75)]<|gh λv76=>App 188 5 72 Zd p23 v76<|gh λv77=>Fa ω p0 v77 (.bool true) p25 Kn1 K
def IX (ω:Om)(p0 p10:Value)(p11 p23:Value)(K:Value→M):M:=Pv (AG p0) λv95=>Pv (AA 0 v95) λv96=>Sto 1 v96 p23<|gh λ_=>K (Value.tuple Zr)
def QT (ω:Om)(p0 p1:Value)(p9 p10:Value)(p11 p15:Value)(p23 p24:Value)(K:Value→M):M:=Pv (unV .not p24) λv86=>Br v86 (Rn (AD 2 p9) λv87=>Pv (AA 4 p15) λv88=>Rn (AB v88) λv89=>Pv (AA 5 p15) λv90=>Rn (AB v90) λv91=>Pv (AR Zd Zw [(0,p1),(1,v87),(2,v89),(3,v91)]) λv92=>Aq 188 5 Zd 1 [(0,v92)]<|gh λv93=>App 188 5 72 Zd p23 v93<|gh λv94=>IX ω p0 p10 p11 v94 K) (IX ω p0 p10 p11 p23 K)
def LU (ω:Om)(p0 p1:Value)(p9 p10:Value)(p11 p15:Value)(x23 x24 x25:Value)(Kn1:(Value×Value×Value×Unit)→M)(K:Value→M):M:=Pv (AG p0) λv55=>Pv (AA 0 v55) λv56=>Rn (AB v56) λv57=>Pv (lenV v57) λv58=>Pv (AC .lss x25 v58) λv59=>Br v59 (AY λS=>Pv (unV .not x24) λv60=>Gd v60 true (Pv (AG p0) λv61=>Pv (AA 0 v61) λv62=>Rs S (AB v62) λv63=>Pv (ixV 5 v63 x25) λv64=>Pv (AA 0 v64) λv65=>Rs S (AB v65) λv66=>Rs S (bsR v66) λv67=>Rs S (bsR p1) λv68=>Pv (Ao .gtr v67 v68) λv69=>Br v69 (QU ω p0 p1 p9 p15 x23 x24 x25 Kn1 K) (Fa ω p0 x23 x24 x25 Kn1 K)) (Fa ω p0 x23 x24 x25 Kn1 K)) (QT ω p0 p1 p9 p10 p11 p15 x23 x24 K)
def Fp (ω:Om)(p0 p1:Value)(p3 p9:Value)(p10 p11:Value)(p15 p21:Value)(K:Value→M):M:=Pv (AG p0) λv52=>Pv (AA 1 v52) λv53=>Sto 1 v53 p21<|gh λ_=>Pv (unV .not p3) λv54=>Br v54 (K (Value.tuple Zr)) (Ae ((S0,(.bool false),I0,()):Value×Value×Value×Unit) λs Kn1=>LU ω p0 p1 p9 p10 p11 p15 s.1 s.2.1 s.2.2.1 Kn1 K)
def Ef (ω:Om)(p0 p1:Value)(p3 p9:Value)(p10 p11:Value)(p15 x21 x22:Value)(Kn0:(Value×Value×Unit)→M)(K:Value→M):M:=Pv (AG p0) λv30=>Pv (AA 1 v30) λv31=>Rn (AB v31) λv32=>Pv (lenV v32) λv33=>Pv (AC .lss x22 v33) λv34=>Br v34 (AY λS=>Pv (AG p0) λv35=>Pv (AA 1 v35) λv36=>Rs S (AB v36) λv37=>Pv (ixV 6 v37 x22) λv38=>Pv (AA 0 v38) λv39=>Rs S (AB v39) λv40=>Rs S (bsR v40) λv41=>Rs S (bsR p1) λv42=>Pv (Ao .neq v41 v42) λv43=>Br v43 (Fq ω p0 x21 x22 Kn0 K) (Ee ω x21 x22 Kn0 K)) (Fp ω p0 p1 p3 p9 p10 p11 p15 x21 K)
def QS (ω:Om)(p0 p1:Value)(p3 p9:Value)(p10 p11:Value)(p15 x21 x22:Value)(Kn0:(Value×Value×Unit)→M)(K:Value→M):M:=Pv (AG p0) λv97=>Pv (AA 1 v97) λv98=>Rn (AB v98) λv99=>Pv (lenV v99) λv100=>Pv (AC .lss x22 v100) λv101=>Br v101 (AY λS=>Pv (AG p0) λv102=>Pv (AA 1 v102) λv103=>Rs S (AB v103) λv104=>Pv (ixV 6 v104 x22) λv105=>Pv (AA 0 v105) λv106=>Rs S (AB v106) λv107=>Rs S (bsR v107) λv108=>Rs S (bsR p1) λv109=>Pv (Ao .neq v108 v109) λv110=>Br v110 (Fq ω p0 x21 x22 Kn0 K) (Ee ω x21 x22 Kn0 K)) (Fp ω p0 p1 p3 p9 p10 p11 p15 x21 K)
def ABK (ω:Om)(p0 p1:Value)(p3 p9:Value)(p10 p11:Value)(p15 x21 x22:Value)(Kn0:(Value×Value×Unit)→M)(K:Value→M):M:=Pv (AG p0) λv111=>Pv (AA 1 v111) λv112=>Rn (AB v112) λv113=>Pv (lenV v113) λv114=>Pv (AC .lss x22 v114) λv115=>Br v115 (AY λS=>Pv (AG p0) λv116=>Pv (AA 1 v116) λv117=>Rs S (AB v117) λv118=>Pv (ixV 6 v118 x22) λv119=>Pv (AA 0 v119) λv120=>Rs S (AB v120) λv121=>Rs S (bsR v121) λv122=>Rs S (bsR p1) λv123=>Pv (Ao .neq v122 v123) λv124=>Br v124 (Fq ω p0 x21 x22 Kn0 K) (Ee ω x21 x22 Kn0 K)) (Fp ω p0 p1 p3 p9 p10 p11 p15 x21 K)
def ABJ (ω:Om)(p0 p1:Value)(p3 p9:Value)(p10 p11:Value)(p15 x21 x22:Value)(Kn0:(Value×Value×Unit)→M)(K:Value→M):M:=Pv (AG p0) λv146=>Pv (AA 1 v146) λv147=>Rn (AB v147) λv148=>Pv (lenV v148) λv149=>Pv (AC .lss x22 v149) λv150=>Br v150 (AY λS=>Pv (AG p0) λv151=>Pv (AA 1 v151) λv152=>Rs S (AB v152) λv153=>Pv (ixV 6 v153 x22) λv154=>Pv (AA 0 v154) λv155=>Rs S (AB v155) λv156=>Rs S (bsR v156) λv157=>Rs S (bsR p1) λv158=>Pv (Ao .neq v157 v158) λv159=>Br v159 (Fq ω p0 x21 x22 Kn0 K) (Ee ω x21 x22 Kn0 K)) (Fp ω p0 p1 p3 p9 p10 p11 p15 x21 K)
def ABI (ω:Om)(p0 p1:Value)(p3 p9:Value)(p10 p11:Value)(p15 x21 x22:Value)(Kn0:(Value×Value×Unit)→M)(K:Value→M):M:=Pv (AG p0) λv160=>Pv (AA 1 v160) λv161=>Rn (AB v161) λv162=>Pv (lenV v162) λv163=>Pv (AC .lss x22 v163) λv164=>Br v164 (AY λS=>Pv (AG p0) λv165=>Pv (AA 1 v165) λv166=>Rs S (AB v166) λv167=>Pv (ixV 6 v167 x22) λv168=>Pv (AA 0 v168) λv169=>Rs S (AB v169) λv170=>Rs S (bsR v170) λv171=>Rs S (bsR p1) λv172=>Pv (Ao .neq v171 v172) λv173=>Br v173 (Fq ω p0 x21 x22 Kn0 K) (Ee ω x21 x22 Kn0 K)) (Fp ω p0 p1 p3 p9 p10 p11 p15 x21 K)
def QR (ω:Om)(p0 p1:Value)(p3 p9:Value)(p10 p11:Value)(p15 x21 x22:Value)(Kn0:(Value×Value×Unit)→M)(K:Value→M):M:=Pv (AG p0) λv174=>Pv (AA 1 v174) λv175=>Rn (AB v175) λv176=>Pv (lenV v176) λv177=>Pv (AC .lss x22 v177) λv178=>Br v178 (AY λS=>Pv (AG p0) λv179=>Pv (AA 1 v179) λv180=>Rs S (AB v180) λv181=>Pv (ixV 6 v181 x22) λv182=>Pv (AA 0 v182) λv183=>Rs S (AB v183) λv184=>Rs S (bsR v184) λv185=>Rs S (bsR p1) λv186=>Pv (Ao .neq v185 v186) λv187=>Br v187 (Fq ω p0 x21 x22 Kn0 K) (Ee ω x21 x22 Kn0 K)) (Fp ω p0 p1 p3 p9 p10 p11 p15 x21 K)
def Uo (ω:Om)(a0 a1:Value)(a2 a3 a4:Value)(K:Value→M):M:=New (.cells (Value.cells a4) 41 (0,0))<|gh λat_1=>CT ω 68 #[a1]<|gh λv2=>CT ω 123 #[a2]<|gh λv3=>Rn (AD 2 at_1) λv4=>CT ω 66 #[v4]<|gh λv5=>Pv (unV .not v2) λv6=>Gd v6 false (Pv (unV .not v3) λv7=>Gd v7 false (Gd a3 true (Pv (unV .not v5) λv8=>Br v8 (K (Value.tuple Zk)) (CT ω 166 #[a0,a1]<|gh λv9=>Pv (exV v9 0) λv10=>Pv (exV v9 1) λv11=>New (.cells Zh 190 (0,0))<|gh λx_12=>Sto 6 x_12 v10<|gh λ_=>Pv (unV .not v11) λv13=>Gd v13 false (Pv (AA 1 x_12) λv14=>Rn (AB v14) λv15=>Pv (AC .neq v15 a2) λv16=>Br v16 (K (Value.tuple Zn)) (Pv (AA 2 x_12) λv17=>Rn (AD 2 v17) λv18=>Rn (AD 2 at_1) λv19=>CT ω 109 #[v18,v19]<|gh λv20=>CT ω 227 #[a0,a1]<|gh λv21=>Pv (exV v21 0) λv22=>Pv (exV v21 1) λv23=>New (.cells Zd 188 (0,0))<|gh λv_24=>Sto 5 v_24 v22<|gh λ_=>Rn (AD 2 at_1) λv25=>Pv (AA 1 v_24) λv26=>Rn (AD 2 v26) λv27=>CT ω 109 #[v25,v27]<|gh λv28=>Gd a3 true (Gd v20 false (Gd v23 true (Pv (unV .not v28) λv29=>Br v29 (K (Value.tuple Zk)) (Ae ((S0,I0,()):Value×Value×Unit) λs Kn0=>Ef ω a0 a1 a3 at_1 (.bool false) I0 x_12 s.1 s.2.1 Kn0 K)) (Ae ((S0,I0,()):Value×Value×Unit) λs Kn0=>QS ω a0 a1 a3 at_1 (.bool false) I0 x_12 s.1 s.2.1 Kn0 K)) (K (Value.tuple Zk))) (Ae ((S0,I0,()):Value×Value×Unit) λs Kn0=>ABK ω a0 a1 a3 at_1 (.bool false) I0 x_12 s.1 s.2.1 Kn0 K))) (K (Value.tuple Zn)))) (CT ω 166 #[a0,a1]<|gh λv125=>Pv (exV v125 0) λv126=>Pv (exV v125 1) λv127=>New (.cells Zh 190 (0,0))<|gh λx_128=>Sto 6 x_128 v126<|gh λ_=>Pv (unV .not v127) λv129=>Gd v129 false (Pv (AA 1 x_128) λv130=>Rn (AB v130) λv131=>Pv (AC .neq v131 a2) λv132=>Br v132 (K (Value.tuple Zn)) (Pv (AA 2 x_128) λv133=>Rn (AD 2 v133) λv134=>Rn (AD 2 at_1) λv135=>CT ω 109 #[v134,v135]<|gh λv136=>CT ω 227 #[a0,a1]<|gh λv137=>Pv (exV v137 0) λv138=>Pv (exV v137 1) λv139=>New (.cells Zd 188 (0,0))<|gh λv_140=>Sto 5 v_140 v138<|gh λ_=>Rn (AD 2 at_1) λv141=>Pv (AA 1 v_140) λv142=>Rn (AD 2 v142) λv143=>CT ω 109 #[v141,v143]<|gh λv144=>Gd a3 true (Gd v136 false (Gd v139 true (Pv (unV .not v144) λv145=>Br v145 (K (Value.tuple Zk)) (Ae ((S0,I0,()):Value×Value×Unit) λs Kn0=>ABJ ω a0 a1 a3 at_1 (.bool false) I0 x_128 s.1 s.2.1 Kn0 K)) (Ae ((S0,I0,()):Value×Value×Unit) λs Kn0=>ABI ω a0 a1 a3 at_1 (.bool false) I0 x_128 s.1 s.2.1 Kn0 K)) (K (Value.tuple Zk))) (Ae ((S0,I0,()):Value×Value×Unit) λs Kn0=>QR ω a0 a1 a3 at_1 (.bool false) I0 x_128 s.1 s.2.1 Kn0 K))) (K (Value.tuple Zn)))) (K (Value.tuple Zk))) (K (Value.tuple Zk))
theorem ABH (ω:Om)(a0 a1 a2 a3 a4:Value)(K:Value→M):vcF Tryz.prog ω Tryz.f176 [a0,a1,a2,a3,a4] K=Uo ω a0 a1 a2 a3 a4 K:=by kernel_rfl
theorem AEo (h:Uo ω a0 a1 a2 a3 a4 (λv=>Gh (K v)) I L):CT ω 176 #[a0,a1,a2,a3,a4] K I L:=Cal.gh (AE mixed Tryz.func176 (by rw [ABH];exact h))
def ABG (ω:Om)(a0 a1:Value)(K:Value→M):M:=New (.cells (Value.cells a0) 99 (0,0))<|gh λs_1=>New (.cells (Value.cells a1) 31 (0,0))<|gh λp_2=>K (Value.func (Fn.func 229) #[] #[s_1,p_2])
theorem ABF (ω:Om)(a0 a1:Value)(K:Value→M):vcF Tryz.prog ω Tryz.f177 [a0,a1] K=ABG ω a0 a1 K:=by kernel_rfl
theorem ALH (h:ABG ω a0 a1 (λv=>Gh (K v)) I L):CT ω 177 #[a0,a1] K I L:=Cal.gh (AE mixed Tryz.func177 (by rw [ABF];exact h))
def ABE (ω:Om)(a0:Value)(K:Value→M):M:=Pv (lenV a0) λv1=>Pv (lenV a0) λv2=>Pv (BP 1 a0 none (some v1) (some v2)) λv3=>K v3
theorem ABD (ω:Om)(a0:Value)(K:Value→M):vcF Tryz.prog ω Tryz.f178 [a0] K=ABE ω a0 K:=by kernel_rfl
theorem ALG (h:ABE ω a0 (λv=>Gh (K v)) I L):CT ω 178 #[a0] K I L:=Cal.gh (AE mixed Tryz.func178 (by rw [ABD];exact h))
def ABC (ω:Om)(a0:Value)(K:Value→M):M:=CT ω 230 #[S0,a0]<|gh λv1=>K v1
theorem ABB (ω:Om)(a0:Value)(K:Value→M):vcF Tryz.prog ω Tryz.f179 [a0] K=ABC ω a0 K:=by kernel_rfl
theorem ALF (h:ABC ω a0 (λv=>Gh (K v)) I L):CT ω 179 #[a0] K I L:=Cal.gh (AE mixed Tryz.func179 (by rw [ABB];exact h))
def Un (ω:Om)(p0 p5:Value)(Kn0:(Unit)→M)(K:Value→M):M:=My p5<|gh λv3=>Pv (exV v3 0) λv4=>Br v4 (Rn (NR p5) λv5=>Pv (exV v5 0) λv6=>CW ω p0 #[v6]<|gh λv7=>Pv (unV .not v7) λv8=>Br v8 (K (Value.tuple #[])) (Kn0 (()))) (K (Value.tuple #[]))
def ABA (ω:Om)(a0 a1:Value)(K:Value→M):M:=Rn (AB a1) λv1=>JA v1<|gh λv2=>Ae ((()):Unit) λs Kn0=>Un ω a0 v2 Kn0 K
theorem AAz (ω:Om)(a0 a1:Value)(K:Value→M):vcF Tryz.prog ω Tryz.f181 [a0,a1] K=ABA ω a0 a1 K:=by kernel_rfl
theorem ALE (h:ABA ω a0 a1 (λv=>Gh (K v)) I L):CT ω 181 #[a0,a1] K I L:=Cal.gh (AE mixed Tryz.func181 (by rw [AAz];exact h))
def Um (ω:Om)(a0:Value)(K:Value→M):M:=CT ω 232 #[S0,a0]<|gh λv1=>K v1
theorem AAy (ω:Om)(a0:Value)(K:Value→M):vcF Tryz.prog ω Tryz.f182 [a0] K=Um ω a0 K:=by kernel_rfl
theorem AEn (h:Um ω a0 (λv=>Gh (K v)) I L):CT ω 182 #[a0] K I L:=Cal.gh (AE mixed Tryz.func182 (by rw [AAy];exact h))
def Ul (ω:Om)(p0 p5:Value)(Kn0:(Unit)→M)(K:Value→M):M:=My p5<|gh λv3=>Pv (exV v3 0) λv4=>Br v4 (Rn (NR p5) λv5=>Pv (exV v5 0) λv6=>CW ω p0 #[v6]<|gh λv7=>Pv (unV .not v7) λv8=>Br v8 (K (Value.tuple #[])) (Kn0 (()))) (K (Value.tuple #[]))
def AAx (ω:Om)(a0 a1:Value)(K:Value→M):M:=Rn (AB a1) λv1=>JA v1<|gh λv2=>Ae ((()):Unit) λs Kn0=>Ul ω a0 v2 Kn0 K
theorem AAw (ω:Om)(a0 a1:Value)(K:Value→M):vcF Tryz.prog ω Tryz.f184 [a0,a1] K=AAx ω a0 a1 K:=by kernel_rfl
theorem ALD (h:AAx ω a0 a1 (λv=>Gh (K v)) I L):CT ω 184 #[a0,a1] K I L:=Cal.gh (AE mixed Tryz.func184 (by rw [AAw];exact h))
def Uk (ω:Om)(p0 p5:Value)(Kn0:(Unit)→M)(K:Value→M):M:=My p5<|gh λv3=>Pv (exV v3 0) λv4=>Br v4 (Rn (NR p5) λv5=>Pv (exV v5 0) λv6=>CW ω p0 #[v6]<|gh λv7=>Pv (unV .not v7) λv8=>Br v8 (K (Value.tuple #[])) (Kn0 (()))) (K (Value.tuple #[]))
def AAv (ω:Om)(a0 a1:Value)(K:Value→M):M:=Rn (AB a1) λv1=>JA v1<|gh λv2=>Ae ((()):Unit) λs Kn0=>Uk ω a0 v2 Kn0 K
theorem AAu (ω:Om)(a0 a1:Value)(K:Value→M):vcF Tryz.prog ω Tryz.f185 [a0,a1] K=AAv ω a0 a1 K:=by kernel_rfl
theorem ALC (h:AAv ω a0 a1 (λv=>Gh (K v)) I L):CT ω 185 #[a0,a1] K I L:=Cal.gh (AE mixed Tryz.func185 (by rw [AAu];exact h))
def Ui (ω:Om)(p1 p2:Value)(p3 p4:Value)(K:Value→M):M:=Pv (AA 1 p1) λv14=>Rn (AB v14) λv15=>Pv (AC .shr v15 (.int .u64 8)) λv16=>Pv (KL .u8 v16) λv17=>Pv (AA 1 p1) λv18=>Rn (AB v18) λv19=>Pv (KL .u8 v19) λv20=>Aq 5 1 #[(.int .u8 0)] 2 [(0,v17),(1,v20)]<|gh λv21=>App 5 1 1 #[(.int .u8 0)] p4 v21<|gh λv22=>K (Value.tuple #[v22,I0])
def Uj (ω:Om)(p1 p2:Value)(p3 x4 x5:Value)(Kn0:(Value×Value×Unit)→M)(K:Value→M):M:=Pv (AC .geq x5 I0) λv6=>Br v6 (Pv (AA 0 p1) λv7=>Rn (AB v7) λv8=>Pv (AC .shr v8 x5) λv9=>Pv (KL .u8 v9) λv10=>Aq 5 1 #[(.int .u8 0)] 1 [(0,v10)]<|gh λv11=>App 5 1 1 #[(.int .u8 0)] x4 v11<|gh λv12=>Pv (AC .sub x5 (.int .i64 8)) λv13=>Kn0 (v12,v13,())) (Ui ω p1 p2 p3 x4 K)
def AAt (ω:Om)(a0:Value)(K:Value→M):M:=New (.cells (Value.cells a0) 41 (0,0))<|gh λs_1=>Rn (AD 2 s_1) λv2=>CT ω 89 #[v2]<|gh λv3=>Pv (unV .not v3) λv4=>Br v4 (K (Value.tuple #[S0,(.int .i64 80)])) (MkS 5 1 #[(.int .u8 0)] I0 (.int .i64 9)<|gh λv5=>Ae ((v5,(.int .i64 48),()):Value×Value×Unit) λs Kn0=>Uj ω s_1 S0 I0 s.1 s.2.1 Kn0 K)
theorem AAs (ω:Om)(a0:Value)(K:Value→M):vcF Tryz.prog ω Tryz.f186 [a0] K=AAt ω a0 K:=by kernel_rfl
theorem ALB (h:AAt ω a0 (λv=>Gh (K v)) I L):CT ω 186 #[a0] K I L:=Cal.gh (AE mixed Tryz.func186 (by rw [AAs];exact h))
def AAr (ω:Om)(a0 a1:Value)(a2 a3:Value)(K:Value→M):M:=AY λS=>Pv (AG a0) λv1=>Pv (AA 4 v1) λv2=>Rs S (AB v2) λv3=>Rs S (bsR a1) λv4=>Pv (AR Zp #[(0,1),(1,1),(2,1)] [(0,a3),(1,a1),(2,a2)]) λv5=>Gu .string v3 v4 v5<|gh λ_=>K (Value.tuple #[])
theorem AAq (ω:Om)(a0 a1 a2 a3:Value)(K:Value→M):vcF Tryz.prog ω Tryz.f187 [a0,a1,a2,a3] K=AAr ω a0 a1 a2 a3 K:=by kernel_rfl
theorem ALA (h:AAr ω a0 a1 a2 a3 (λv=>Gh (K v)) I L):CT ω 187 #[a0,a1,a2,a3] K I L:=Cal.gh (AE mixed Tryz.func187 (by rw [AAq];exact h))
def AAp (ω:Om)(a0 a1 a2:Value)(K:Value→M):M:=New (.cells (Value.cells a2) 253 (0,0))<|gh λv_1=>Rn (AD 4 v_1) λv2=>CT ω 234 #[a1,v2]<|gh λv3=>CT ω 187 #[a0,v3,S0,(.bool true)]<|gh λv4=>K (Value.tuple #[])
theorem AAo (ω:Om)(a0 a1 a2:Value)(K:Value→M):vcF Tryz.prog ω Tryz.f188 [a0,a1,a2] K=AAp ω a0 a1 a2 K:=by kernel_rfl
theorem AKz (h:AAp ω a0 a1 a2 (λv=>Gh (K v)) I L):CT ω 188 #[a0,a1,a2] K I L:=Cal.gh (AE mixed Tryz.func188 (by rw [AAo];exact h))
def Uh (ω:Om)(a0 a1 a2:Value)(K:Value→M):M:=New (.cells (Value.cells a2) 253 (0,0))<|gh λv_1=>AY λS=>Rs S (AD 4 v_1) λv2=>CT ω 234 #[a1,v2]<|gh<|BW S λv3=>Rs S (AD 4 v_1) λv4=>CT ω 235 #[v4]<|gh λv5=>CT ω 187 #[a0,v3,v5,(.bool false)]<|gh λv6=>K (Value.tuple #[])
theorem AAn (ω:Om)(a0 a1 a2:Value)(K:Value→M):vcF Tryz.prog ω Tryz.f189 [a0,a1,a2] K=Uh ω a0 a1 a2 K:=by kernel_rfl
theorem AEm (h:Uh ω a0 a1 a2 (λv=>Gh (K v)) I L):CT ω 189 #[a0,a1,a2] K I L:=Cal.gh (AE mixed Tryz.func189 (by rw [AAn];exact h))
def Ug (ω:Om)(a0 a1:Value)(K:Value→M):M:=Aq 5 1 #[(.int .u8 0)] 1 [(0,(.int .u8 105))]<|gh λv1=>App 5 1 1 #[(.int .u8 0)] v1 a1<|gh λv2=>Pv (AG a0) λv3=>Pv (AA 0 v3) λv4=>Rn (AB v4) λv5=>Rn (lkR .string N0 false v5 a1) λv6=>Pv (AG v6) λv7=>Pv (AA 1 v7) λv8=>Pv (AA 4 v8) λv9=>Rn (AB v9) λv10=>Pv (AC .eql v10 I0) λv11=>Br v11 (CT ω 187 #[a0,v2,S0,(.bool true)]<|gh λv12=>K (Value.tuple #[])) (Pv (AG v6) λv13=>Pv (AA 1 v13) λv14=>Pv (AA 0 v14) λv15=>Pv (AA 0 v15) λv16=>Rn (AD 2 v16) λv17=>CT ω 186 #[v17]<|gh λv18=>Pv (exV v18 0) λv19=>Pv (exV v18 1) λv20=>Pv (AG v6) λv21=>Pv (AA 1 v21) λv22=>Pv (AA 4 v22) λv23=>Rn (AB v23) λv24=>Pv (KL .u64 v24) λv25=>CT ω 121 #[v25]<|gh λv26=>App 5 1 1 #[(.int .u8 0)] v19 v26<|gh λv27=>Pv (AG v6) λv28=>Pv (AA 1 v28) λv29=>Pv (AA 0 v29) λv30=>Rn (AD 4 v30) λv31=>CT ω 235 #[v31]<|gh λv32=>App 5 1 1 #[(.int .u8 0)] v27 v32<|gh λv33=>CT ω 187 #[a0,v2,v33,(.bool false)]<|gh λv34=>K (Value.tuple #[]))
theorem AAm (ω:Om)(a0 a1:Value)(K:Value→M):vcF Tryz.prog ω Tryz.f190 [a0,a1] K=Ug ω a0 a1 K:=by kernel_rfl
theorem AEl (h:Ug ω a0 a1 (λv=>Gh (K v)) I L):CT ω 190 #[a0,a1] K I L:=Cal.gh (AE mixed Tryz.func190 (by rw [AAm];exact h))
def PI (ω:Om)(p2 p4:Value)(Q0:Nat)(K:Value→M):M:=Rn (AB p2) λv7=>Tak Q0<|K v7
def AAl (ω:Om)(a0 a1:Value)(K:Value→M):M:=New (.cells (Value.cells a0) 90 (0,0))<|gh λs_1=>JB Tryz.prog ω a1 (λr1_0 Bg Nk Xk Rk=>New (.cells Zp 167 (0,0))<|gh λv_2=>Sto 3 v_2 r1_0<|gh λ_=>Bg (Rn (AB s_1) λv3=>Rn (AD 3 v_2) λv4=>Aq 167 3 Zp 1 [(0,v4)]<|gh λv5=>App 167 3 56 Zp v3 v5<|gh λv6=>Sto 1 s_1 v6<|gh λ_=>Nk)) (λD1=>PI ω s_1 S0 D1 K) (λ_=>[]) (λD1=>Tak D1<|K S0)
theorem AAk (ω:Om)(a0 a1:Value)(K:Value→M):vcF Tryz.prog ω Tryz.f191 [a0,a1] K=AAl ω a0 a1 K:=by kernel_rfl
theorem AKy (h:AAl ω a0 a1 (λv=>Gh (K v)) I L):CT ω 191 #[a0,a1] K I L:=Cal.gh (AE mixed Tryz.func191 (by rw [AAk];exact h))
def Uf (ω:Om)(p0 p6:Value)(Kn0:(Unit)→M)(K:Value→M):M:=My p6<|gh λv3=>Pv (exV v3 0) λv4=>Br v4 (Rn (NR p6) λv5=>Pv (exV v5 1) λv6=>New (.cells Zp 167 (0,0))<|gh λv_7=>Sto 3 v_7 v6<|gh λ_=>Rn (AD 3 v_7) λv8=>CW ω p0 #[v8]<|gh λv9=>Pv (unV .not v9) λv10=>Br v10 (K (Value.tuple #[])) (Kn0 (()))) (K (Value.tuple #[]))
def AAj (ω:Om)(a0 a1:Value)(K:Value→M):M:=Rn (AB a1) λv1=>JA v1<|gh λv2=>Ae ((()):Unit) λs Kn0=>Uf ω a0 v2 Kn0 K
theorem AAi (ω:Om)(a0 a1:Value)(K:Value→M):vcF Tryz.prog ω Tryz.f192 [a0,a1] K=AAj ω a0 a1 K:=by kernel_rfl
theorem AKx (h:AAj ω a0 a1 (λv=>Gh (K v)) I L):CT ω 192 #[a0,a1] K I L:=Cal.gh (AE mixed Tryz.func192 (by rw [AAi];exact h))
def Ue (ω:Om)(a0 a1:Value)(K:Value→M):M:=Pv (AG a0) λv1=>Pv (AA 0 v1) λv2=>Rn (AB v2) λv3=>Rn (lkR .string N0 false v3 a1) λv4=>Pv (CK .eql v4 N0) λv5=>Br v5 (Pv (AR #[S0,I0,I0,(.bool false),(Value.string (ByteArray.mk #[])),I0] #[(0,1),(1,5)] []) λv6=>New (.cells (Value.cells v6) 257 (0,0))<|gh λv7=>Pv (AG a0) λv8=>Pv (AA 0 v8) λv9=>Rn (AB v9) λv10=>Gu .string v10 a1 v7<|gh λ_=>Pv (AG a0) λv11=>Pv (AA 1 v11) λv12=>Rn (AB v12) λv13=>CT ω 144 #[v13,a1]<|gh λv14=>Pv (exV v14 0) λv15=>Pv (exV v14 1) λv16=>Pv (AG a0) λv17=>Pv (AA 1 v17) λv18=>Rn (AB v18) λv19=>Aq 9 1 #[(Value.string (ByteArray.mk #[]))] 1 [(0,a1)]<|gh λv20=>CT ω 242 #[v19,v15,v20]<|gh λv21=>Pv (AG a0) λv22=>Pv (AA 1 v22) λv23=>Sto 1 v23 v21<|gh λ_=>K v7) (K v4)
theorem AAh (ω:Om)(a0 a1:Value)(K:Value→M):vcF Tryz.prog ω Tryz.f206 [a0,a1] K=Ue ω a0 a1 K:=by kernel_rfl
theorem AEk (h:Ue ω a0 a1 (λv=>Gh (K v)) I L):CT ω 206 #[a0,a1] K I L:=Cal.gh (AE mixed Tryz.func206 (by rw [AAh];exact h))
def sh210 (ω:Om)(a0 a1:Value)(K:Value→M):M:=CT ω 244 #[a0]<|gh λv1=>Gd v1 true (CT ω 244 #[a1]<|gh λv2=>Pv (unV .not v2) λv3=>Gd v3 false (Pv (Ao .lss a0 a1) λv4=>K v4) (K (.bool true))) (Pv (Ao .lss a0 a1) λv5=>K v5)
theorem AAg (ω:Om)(a0 a1:Value)(K:Value→M):vcF Tryz.prog ω Tryz.f210 [a0,a1] K=sh210 ω a0 a1 K:=by kernel_rfl
theorem AKw (h:sh210 ω a0 a1 (λv=>Gh (K v)) I L):CT ω 210 #[a0,a1] K I L:=Cal.gh (AE mixed Tryz.func210 (by rw [AAg];exact h))
def AAf (ω:Om)(a0:Value)(K:Value→M):M:=Pv (Ao .neq a0 a0) λv1=>K v1
theorem AAe (ω:Om)(a0:Value)(K:Value→M):vcF Tryz.prog ω Tryz.f211 [a0] K=AAf ω a0 K:=by kernel_rfl
theorem AKv (h:AAf ω a0 (λv=>Gh (K v)) I L):CT ω 211 #[a0] K I L:=Cal.gh (AE mixed Tryz.func211 (by rw [AAe];exact h))
def sh212 (ω:Om)(a0 a1:Value)(K:Value→M):M:=New (.cells (Value.cells a0) 41 (0,0))<|gh λat_1=>Rn (AD 2 at_1) λv2=>CT ω 89 #[v2]<|gh λv3=>Gd v3 true (Pv (AC .eql a1 I0) λv4=>Gd v4 false (CT ω 217 #[a1]<|gh λv5=>K v5) (K (.bool true))) (K (.bool false))
theorem AAd (ω:Om)(a0 a1:Value)(K:Value→M):vcF Tryz.prog ω Tryz.f212 [a0,a1] K=sh212 ω a0 a1 K:=by kernel_rfl
theorem AKu (h:sh212 ω a0 a1 (λv=>Gh (K v)) I L):CT ω 212 #[a0,a1] K I L:=Cal.gh (AE mixed Tryz.func212 (by rw [AAd];exact h))
def sh213 (ω:Om)(a0 a1:Value)(K:Value→M):M:=New (.cells (Value.cells a0) 41 (0,0))<|gh λa_1=>New (.cells (Value.cells a1) 41 (0,0))<|gh λb_2=>Rn (AD 2 a_1) λv3=>Rn (AD 2 b_2) λv4=>CT ω 158 #[v3,v4]<|gh λv5=>Pv (AC .gtr v5 I0) λv6=>K v6
theorem AAc (ω:Om)(a0 a1:Value)(K:Value→M):vcF Tryz.prog ω Tryz.f213 [a0,a1] K=sh213 ω a0 a1 K:=by kernel_rfl
theorem AKt (h:sh213 ω a0 a1 (λv=>Gh (K v)) I L):CT ω 213 #[a0,a1] K I L:=Cal.gh (AE mixed Tryz.func213 (by rw [AAc];exact h))
def sh214_3 (ω:Om)(p6 p7:Value)(K:Value→M):M:=Pv (AR Ze Zj []) λv15=>Sto 5 p6 v15<|gh λ_=>Rn (AD 5 p6) λv16=>K (Value.tuple #[v16,I0])
def sh214_2 (ω:Om)(p6 p7 p8:Value)(K:Value→M):M:=Pv (CK .eql p8 N0) λv11=>Gd v11 false (Pv (AG p8) λv12=>Pv (AA 2 v12) λv13=>Rn (AB v13) λv14=>Br v14 (sh214_3 ω p6 p7 K) (AY λS=>Pv (AG p8) λv17=>Pv (AA 3 v17) λv18=>Rs S (AB v18) λv19=>NW 5 v19<|gh<|BW S λv20=>Pv (AG p8) λv21=>Pv (AA 0 v21) λv22=>Rs S (AD 2 v22) λv23=>Pv (AR Ze Zj [(0,(.bool true)),(1,v20),(2,v23)]) λv24=>Sto 5 p6 v24<|gh λ_=>Rn (AD 5 p6) λv25=>K (Value.tuple #[v25,I0]))) (sh214_3 ω p6 p7 K)
def sh214 (ω:Om)(a0 a1 a2:Value)(K:Value→M):M:=New (.cells (Value.cells a1) 41 (0,0))<|gh λat_1=>New (.cells Ze 49 (0,0))<|gh λv2=>Rn (AD 2 at_1) λv3=>CT ω 221 #[a0,v3]<|gh λv4=>Pv (AG a0) λv5=>Pv (AA 1 v5) λv6=>Pv (AG v6) λv7=>Pv (AA 4 v7) λv8=>Rn (AB v8) λv9=>Pv (AC .eql v9 I0) λv10=>Br v10 (sh214_2 ω v2 I0 v4 K) (Pv (AG v6) λv26=>Pv (AA 4 v26) λv27=>Rn (AB v27) λv28=>Pv (AC .eql v28 a2) λv29=>Br v29 (Pv (AG v6) λv30=>Pv (AA 0 v30) λv31=>sh214_2 ω v2 I0 v31 K) (AY λS=>Pv (AG v6) λv32=>Pv (AA 0 v32) λv33=>Pv (AA 0 v33) λv34=>Rs S (AD 2 v34) λv35=>Rs S (AD 2 at_1) λv36=>CT ω 213 #[v35,v36]<|gh λv37=>Pv (unV .not v37) λv38=>Br v38 (Pv (AG v6) λv39=>Pv (AA 4 v39) λv40=>Rn (AB v40) λv41=>Pv (AR Ze Zj [(3,v41)]) λv42=>Sto 5 v2 v42<|gh λ_=>Rn (AD 5 v2) λv43=>K (Value.tuple #[v43,(.int .i64 130)])) (sh214_2 ω v2 I0 v4 K)))
theorem AAb (ω:Om)(a0 a1 a2:Value)(K:Value→M):vcF Tryz.prog ω Tryz.f214 [a0,a1,a2] K=sh214 ω a0 a1 a2 K:=by kernel_rfl
theorem AKs (h:sh214 ω a0 a1 a2 (λv=>Gh (K v)) I L):CT ω 214 #[a0,a1,a2] K I L:=Cal.gh (AE mixed Tryz.func214 (by rw [AAb];exact h))
def AAa (ω:Om)(a0:Value)(K:Value→M):M:=Pv (lenV a0) λv1=>Pv (lenV a0) λv2=>Pv (BP 2 a0 none (some v1) (some v2)) λv3=>K v3
theorem AAZ (ω:Om)(a0:Value)(K:Value→M):vcF Tryz.prog ω Tryz.f215 [a0] K=AAa ω a0 K:=by kernel_rfl
theorem AKr (h:AAa ω a0 (λv=>Gh (K v)) I L):CT ω 215 #[a0] K I L:=Cal.gh (AE mixed Tryz.func215 (by rw [AAZ];exact h))
def sh216 (ω:Om)(a0:Value)(K:Value→M):M:=New (.cells (Value.cells a0) 41 (0,0))<|gh λs_1=>New (.cells Zb 41 (0,0))<|gh λv2=>Rn (AD 2 s_1) λv3=>CT ω 89 #[v3]<|gh λv4=>Pv (unV .not v4) λv5=>Br v5 (Pv (AR Zb #[(0,1),(1,1)] []) λv6=>Sto 2 v2 v6<|gh λ_=>Rn (AD 2 v2) λv7=>K (Value.tuple #[v7,(.int .i64 80)])) (Rn (AD 2 s_1) λv8=>Pv (AR Zb #[(0,1),(1,1)] [(0,(.int .i64 9007199254740991)),(1,(.int .i64 65535))]) λv9=>Pv (Bf .eql [(TypeDesc.int .i64,0),(TypeDesc.int .i64,1)] v8 v9) λv10=>Br v10 (Pv (AR Zb #[(0,1),(1,1)] []) λv11=>Sto 2 v2 v11<|gh λ_=>Rn (AD 2 v2) λv12=>K (Value.tuple #[v12,(.int .i64 82)])) (Pv (AA 1 s_1) λv13=>Rn (AB v13) λv14=>Pv (AC .eql v14 (.int .i64 65535)) λv15=>Br v15 (Pv (AA 0 s_1) λv16=>Rn (AB v16) λv17=>Pv (AC .add v17 (.int .i64 1)) λv18=>Pv (AR Zb #[(0,1),(1,1)] [(0,v18)]) λv19=>Sto 2 v2 v19<|gh λ_=>Rn (AD 2 v2) λv20=>K (Value.tuple #[v20,I0])) (Pv (AA 1 s_1) λv21=>Rn (AB v21) λv22=>Pv (AC .add v22 (.int .i64 1)) λv23=>Pv (AA 1 s_1) λv24=>Sto 1 v24 v23<|gh λ_=>Rn (AD 2 s_1) λv25=>Sto 2 v2 v25<|gh λ_=>Rn (AD 2 v2) λv26=>K (Value.tuple #[v26,I0]))))
theorem AAY (ω:Om)(a0:Value)(K:Value→M):vcF Tryz.prog ω Tryz.f216 [a0] K=sh216 ω a0 K:=by kernel_rfl
theorem AKq (h:sh216 ω a0 (λv=>Gh (K v)) I L):CT ω 216 #[a0] K I L:=Cal.gh (AE mixed Tryz.func216 (by rw [AAY];exact h))
def sh217 (ω:Om)(a0:Value)(K:Value→M):M:=Pv (AC .geq a0 (.int .i64 1)) λv1=>Gd v1 true (Pv (AC .leq a0 (.int .i64 9007199254740991)) λv2=>K v2) (K (.bool false))
theorem AAX (ω:Om)(a0:Value)(K:Value→M):vcF Tryz.prog ω Tryz.f217 [a0] K=sh217 ω a0 K:=by kernel_rfl
theorem AKp (h:sh217 ω a0 (λv=>Gh (K v)) I L):CT ω 217 #[a0] K I L:=Cal.gh (AE mixed Tryz.func217 (by rw [AAX];exact h))
def Uc (ω:Om)(p0 p2:Value)(x3 x4:Value)(Kn0:(Value×Value×Unit)→M)(K:Value→M):M:=Pv (lenV p0) λv5=>Pv (AC .lss x4 v5) λv6=>Br v6 (Pv (ixV 1 p0 x4) λv7=>Rn (AB v7) λv8=>Pv (AHy x3 v8) λv9=>Pv (AC .add x4 (.int .i64 1)) λv10=>Kn0 (v9,v10,())) (K x3)
def Ud (ω:Om)(p0 p2:Value)(K:Value→M):M:=Pv (ixV 1 p0 I0) λv3=>Rn (AB v3) λv4=>Ae ((v4,(.int .i64 1),()):Value×Value×Unit) λs Kn0=>Uc ω p0 p2 s.1 s.2.1 Kn0 K
def AAW (ω:Om)(a0:Value)(K:Value→M):M:=Pv (lenV a0) λv1=>Pv (AC .lss v1 (.int .i64 1)) λv2=>Br v2 (F /- panic -/) (Ud ω a0 I0 K)
theorem AAV (ω:Om)(a0:Value)(K:Value→M):vcF Tryz.prog ω Tryz.f218 [a0] K=AAW ω a0 K:=by kernel_rfl
theorem AKo (h:AAW ω a0 (λv=>Gh (K v)) I L):CT ω 218 #[a0] K I L:=Cal.gh (AE mixed Tryz.func218 (by rw [AAV];exact h))
def Ub (ω:Om)(p3 p6:Value)(p7 x2 x8:Value)(Kn0:(Value×Value×Unit)→M)(K:Value→M):M:=Pv (AC .lss x8 p7) λv2=>Br v2 (Pv (ixV 1 p6 x8) λv3=>Rn (AB v3) λv4=>Pv (AC .neq v4 p3) λv5=>Br v5 (K v4) (Pv (AC .add x8 (.int .i64 1)) λv6=>Kn0 (x2,v6,()))) (K p3)
def AAU (ω:Om)(a0:Value)(K:Value→M):M:=Pv (lenV a0) λv1=>Ae ((I0,I0,()):Value×Value×Unit) λs Kn0=>Ub ω I0 a0 v1 s.1 s.2.1 Kn0 K
theorem AAT (ω:Om)(a0:Value)(K:Value→M):vcF Tryz.prog ω Tryz.f219 [a0] K=AAU ω a0 K:=by kernel_rfl
theorem AKn (h:AAU ω a0 (λv=>Gh (K v)) I L):CT ω 219 #[a0] K I L:=Cal.gh (AE mixed Tryz.func219 (by rw [AAT];exact h))
def sh220 (ω:Om)(a0 a1:Value)(K:Value→M):M:=CT ω 245 #[a0]<|gh λv1=>CT ω 245 #[a1]<|gh λv2=>Br v1 (Br v2 (K I0) (K (.int .i64 (-1)))) (Br v2 (K (.int .i64 1)) (Pv (AC .lss a0 a1) λv3=>Br v3 (K (.int .i64 (-1))) (Pv (AC .gtr a0 a1) λv4=>Br v4 (K (.int .i64 1)) (K I0))))
theorem AAS (ω:Om)(a0 a1:Value)(K:Value→M):vcF Tryz.prog ω Tryz.f220 [a0,a1] K=sh220 ω a0 a1 K:=by kernel_rfl
theorem AKm (h:sh220 ω a0 a1 (λv=>Gh (K v)) I L):CT ω 220 #[a0,a1] K I L:=Cal.gh (AE mixed Tryz.func220 (by rw [AAS];exact h))
def Ua (ω:Om)(p0 p3:Value)(x4 x5:Value)(Kn0:(Value×Value×Unit)→M)(K:Value→M):M:=Pv (AC .geq x5 I0) λv7=>Br v7 (AY λS=>Pv (AG p0) λv8=>Pv (AA 0 v8) λv9=>Rs S (AB v9) λv10=>Pv (ixV 4 v10 x5) λv11=>Pv (AA 0 v11) λv12=>Rs S (AD 2 v12) λv13=>Rs S (AD 2 p3) λv14=>CT ω 213 #[v13,v14]<|gh λv15=>Pv (unV .not v15) λv16=>Br v16 (Pv (AG p0) λv17=>Pv (AA 0 v17) λv18=>Rn (AB v18) λv19=>Pv (ixV 4 v19 x5) λv20=>K v20) (Pv (AC .sub x5 (.int .i64 1)) λv21=>Kn0 (x4,v21,()))) (K N0)
def AAR (ω:Om)(a0 a1:Value)(K:Value→M):M:=New (.cells (Value.cells a1) 41 (0,0))<|gh λat_1=>Pv (AG a0) λv2=>Pv (AA 0 v2) λv3=>Rn (AB v3) λv4=>Pv (lenV v4) λv5=>Pv (AC .sub v5 (.int .i64 1)) λv6=>Ae ((N0,v6,()):Value×Value×Unit) λs Kn0=>Ua ω a0 at_1 s.1 s.2.1 Kn0 K
theorem AAQ (ω:Om)(a0 a1:Value)(K:Value→M):vcF Tryz.prog ω Tryz.f221 [a0,a1] K=AAR ω a0 a1 K:=by kernel_rfl
theorem AKl (h:AAR ω a0 a1 (λv=>Gh (K v)) I L):CT ω 221 #[a0,a1] K I L:=Cal.gh (AE mixed Tryz.func221 (by rw [AAQ];exact h))
def AAP (ω:Om)(a0 a1:Value)(K:Value→M):M:=Pv (AG a0) λv1=>Pv (AA 0 v1) λv2=>Rn (AB v2) λv3=>Rn (lkR .string N0 false v3 a1) λv4=>Pv (AG v4) λv5=>Pv (AA 0 v5) λv6=>Rn (AB v6) λv7=>Pv (lenV v7) λv8=>Pv (AC .gtr v8 I0) λv9=>Gd v9 false (Pv (AG v4) λv10=>Pv (AA 1 v10) λv11=>Pv (AA 4 v11) λv12=>Rn (AB v12) λv13=>Pv (AC .neq v13 I0) λv14=>Br v14 (K (Value.tuple #[])) (Pv (AG a0) λv15=>Pv (AA 0 v15) λv16=>Rn (AB v16) λv17=>NV .string v17 a1<|gh λ_=>Pv (AG a0) λv18=>Pv (AA 1 v18) λv19=>Rn (AB v19) λv20=>CT ω 144 #[v20,a1]<|gh λv21=>Pv (exV v21 0) λv22=>Pv (exV v21 1) λv23=>Pv (AG a0) λv24=>Pv (AA 1 v24) λv25=>Rn (AB v25) λv26=>Pv (AC .add v22 (.int .i64 1)) λv27=>CT ω 246 #[v26,v22,v27]<|gh λv28=>Pv (AG a0) λv29=>Pv (AA 1 v29) λv30=>Sto 1 v30 v28<|gh λ_=>K (Value.tuple #[]))) (K (Value.tuple #[]))
theorem AAO (ω:Om)(a0 a1:Value)(K:Value→M):vcF Tryz.prog ω Tryz.f222 [a0,a1] K=AAP ω a0 a1 K:=by kernel_rfl
theorem AKk (h:AAP ω a0 a1 (λv=>Gh (K v)) I L):CT ω 222 #[a0,a1] K I L:=Cal.gh (AE mixed Tryz.func222 (by rw [AAO];exact h))
def KZ (ω:Om)(p5 p6:Value)(Kn0:(Value×Value×Unit)→M)(K:Value→M):M:=Pv (AC .add p6 (.int .i64 1)) λv15=>Kn0 (p5,v15,())
def UY (ω:Om)(p0 p4 p5:Value)(K:Value→M):M:=Pv (BP 4 p0 (some p5) none none) λv16=>AIa #[I0,I0,(.bool false),(Value.string (ByteArray.mk #[]))] v16<|gh λ_=>Pv (BP 4 p0 none (some p5) none) λv17=>K v17
def UZ (ω:Om)(p0 p1:Value)(p4 x5 x6:Value)(Kn0:(Value×Value×Unit)→M)(K:Value→M):M:=Pv (lenV p0) λv4=>Pv (AC .lss x6 v4) λv5=>Br v5 (Pv (ixV 4 p0 x6) λv6=>Rn (AD 4 v6) λv7=>New (.cells #[I0,I0,(.bool false),(Value.string (ByteArray.mk #[]))] 253 (0,0))<|gh λv_8=>Sto 4 v_8 v7<|gh λ_=>Rn (AD 4 v_8) λv9=>CW ω p1 #[v9]<|gh λv10=>Pv (unV .not v10) λv11=>Br v11 (Rn (AD 4 v_8) λv12=>Pv (ixV 4 p0 x5) λv13=>Sto 4 v13 v12<|gh λ_=>Pv (AC .add x5 (.int .i64 1)) λv14=>KZ ω v14 x6 Kn0 K) (KZ ω x5 x6 Kn0 K)) (UY ω p0 p4 x5 K)
def AAN (ω:Om)(a0 a1:Value)(K:Value→M):M:=CT ω 247 #[a0,a1]<|gh λv1=>Pv (AC .eql v1 (.int .i64 (-1))) λv2=>Br v2 (K a0) (Pv (AC .add v1 (.int .i64 1)) λv3=>Ae ((v1,v3,()):Value×Value×Unit) λs Kn0=>UZ ω a0 a1 S0 s.1 s.2.1 Kn0 K)
theorem AAM (ω:Om)(a0 a1:Value)(K:Value→M):vcF Tryz.prog ω Tryz.f223 [a0,a1] K=AAN ω a0 a1 K:=by kernel_rfl
theorem AKj (h:AAN ω a0 a1 (λv=>Gh (K v)) I L):CT ω 223 #[a0,a1] K I L:=Cal.gh (AE mixed Tryz.func223 (by rw [AAM];exact h))
def KY (ω:Om)(p3 p4:Value)(p5 p6:Value)(p7 p8:Value)(K:Value→M):M:=Rn (AB p3) λv11=>Pv (AC .add v11 (.int .i64 1)) λv12=>Sto 1 p3 v12<|gh λ_=>Rn (AB p4) λv13=>Rn (AB p5) λv14=>Rn (AD 4 p6) λv15=>CT ω 188 #[v13,v14,v15]<|gh λv16=>K p8
def AAL (ω:Om)(a0 a1:Value)(a2 a3:Value)(a4 a5:Value)(K:Value→M):M:=New (.cells (Value.cells a0) 253 (0,0))<|gh λv_1=>Rn (AD 2 a1) λv2=>Pv (AA 0 v_1) λv3=>Rn (AD 2 v3) λv4=>CT ω 213 #[v2,v4]<|gh λv5=>Gd v5 false (Rn (AB a2) λv6=>Gd v6 true (Pv (AA 0 v_1) λv7=>Rn (AD 2 v7) λv8=>Rn (AD 2 a1) λv9=>Pv (Bf .eql [(TypeDesc.int .i64,0),(TypeDesc.int .i64,1)] v8 v9) λv10=>Br v10 (KY ω a3 a4 a5 v_1 (.bool false) v10 K) (K v10)) (K (.bool false))) (KY ω a3 a4 a5 v_1 (.bool false) (.bool true) K)
theorem AAK (ω:Om)(a0 a1 a2 a3 a4 a5:Value)(K:Value→M):vcF Tryz.prog ω Tryz.f224 [a0,a1,a2,a3,a4,a5] K=AAL ω a0 a1 a2 a3 a4 a5 K:=by kernel_rfl
theorem AKi (h:AAL ω a0 a1 a2 a3 a4 a5 (λv=>Gh (K v)) I L):CT ω 224 #[a0,a1,a2,a3,a4,a5] K I L:=Cal.gh (AE mixed Tryz.func224 (by rw [AAK];exact h))
def sh226 (ω:Om)(a0:Value)(K:Value→M):M:=New (.cells (Value.cells a0) 41 (0,0))<|gh λs_1=>New (.cells Zb 41 (0,0))<|gh λv2=>Rn (AD 2 s_1) λv3=>CT ω 66 #[v3]<|gh λv4=>Pv (unV .not v4) λv5=>Br v5 (Pv (AR Zb #[(0,1),(1,1)] []) λv6=>Sto 2 v2 v6<|gh λ_=>Rn (AD 2 v2) λv7=>K (Value.tuple #[v7,(.int .i64 80)])) (Pv (AA 1 s_1) λv8=>Rn (AB v8) λv9=>Pv (AC .lss v9 (.int .i64 65535)) λv10=>Br v10 (Pv (AA 0 s_1) λv11=>Rn (AB v11) λv12=>Pv (AA 1 s_1) λv13=>Rn (AB v13) λv14=>Pv (AC .add v14 (.int .i64 1)) λv15=>Pv (AR Zb #[(0,1),(1,1)] [(0,v12),(1,v15)]) λv16=>Sto 2 v2 v16<|gh λ_=>Rn (AD 2 v2) λv17=>K (Value.tuple #[v17,I0])) (Pv (AA 0 s_1) λv18=>Rn (AB v18) λv19=>Pv (AC .eql v19 (.int .i64 9007199254740991)) λv20=>Br v20 (Pv (AR Zb #[(0,1),(1,1)] []) λv21=>Sto 2 v2 v21<|gh λ_=>Rn (AD 2 v2) λv22=>K (Value.tuple #[v22,(.int .i64 82)])) (Pv (AA 0 s_1) λv23=>Rn (AB v23) λv24=>Pv (AC .add v24 (.int .i64 1)) λv25=>Pv (AR Zb #[(0,1),(1,1)] [(0,v25)]) λv26=>Sto 2 v2 v26<|gh λ_=>Rn (AD 2 v2) λv27=>K (Value.tuple #[v27,I0]))))
theorem AAJ (ω:Om)(a0:Value)(K:Value→M):vcF Tryz.prog ω Tryz.f226 [a0] K=sh226 ω a0 K:=by kernel_rfl
theorem AKh (h:sh226 ω a0 (λv=>Gh (K v)) I L):CT ω 226 #[a0] K I L:=Cal.gh (AE mixed Tryz.func226 (by rw [AAJ];exact h))
def AAI (ω:Om)(a0 a1:Value)(K:Value→M):M:=New (.cells Zd 188 (0,0))<|gh λv1=>Pv (AR Zb #[(0,1),(1,1)] [(0,(.int .i64 9007199254740991)),(1,(.int .i64 65535))]) λv2=>CT ω 167 #[a0,a1,v2]<|gh λv3=>Pv (exV v3 0) λv4=>Pv (exV v3 1) λv5=>New (.cells Zd 188 (0,0))<|gh λv_6=>Sto 5 v_6 v4<|gh λ_=>Rn (AD 5 v_6) λv7=>Sto 5 v1 v7<|gh λ_=>Rn (AD 5 v1) λv8=>K (Value.tuple #[v8,v5])
theorem AAH (ω:Om)(a0 a1:Value)(K:Value→M):vcF Tryz.prog ω Tryz.f227 [a0,a1] K=AAI ω a0 a1 K:=by kernel_rfl
theorem AKg (h:AAI ω a0 a1 (λv=>Gh (K v)) I L):CT ω 227 #[a0,a1] K I L:=Cal.gh (AE mixed Tryz.func227 (by rw [AAH];exact h))
def KW (ω:Om)(p4 p5 p6:Value)(Kn0:(Value×Value×Value×Unit)→M)(K:Value→M):M:=Pv (AC .add p6 (.int .i64 1)) λv40=>Kn0 (p4,p5,v40,())
def HB (ω:Om)(p0 p3:Value)(p4 p5 p6:Value)(Kn0:(Value×Value×Value×Unit)→M)(K:Value→M):M:=AY λS=>Pv (AG p0) λv22=>Pv (AA 1 v22) λv23=>Rs S (AB v23) λv24=>Pv (ixV 6 v24 p6) λv25=>Pv (AA 0 v25) λv26=>Rs S (AB v26) λv27=>Rs S (bsR v27) λv28=>Pv (AA 0 p3) λv29=>Rs S (AB v29) λv30=>Rs S (bsR v30) λv31=>Pv (Ao .neq v28 v31) λv32=>Br v32 (Pv (AG p0) λv33=>Pv (AA 1 v33) λv34=>Rn (AB v34) λv35=>Pv (ixV 6 v35 p6) λv36=>Rn (AD 6 v36) λv37=>Aq 190 6 Zh 1 [(0,v37)]<|gh λv38=>App 190 6 80 Zh p4 v38<|gh λv39=>KW ω v39 p5 p6 Kn0 K) (KW ω p4 p5 p6 Kn0 K)
def UW (ω:Om)(p0 p3:Value)(p4 p5 p6:Value)(Kn0:(Value×Value×Value×Unit)→M)(K:Value→M):M:=Rn (AD 6 p3) λv19=>Aq 190 6 Zh 1 [(0,v19)]<|gh λv20=>App 190 6 80 Zh p4 v20<|gh λv21=>HB ω p0 p3 v21 (.bool true) p6 Kn0 K
def KV (ω:Om)(p0 p4:Value)(K:Value→M):M:=Pv (AG p0) λv45=>Pv (AA 1 v45) λv46=>Sto 1 v46 p4<|gh λ_=>K (Value.tuple #[])
def UV (ω:Om)(p0 p3:Value)(p4 p5:Value)(K:Value→M):M:=Pv (unV .not p5) λv41=>Br v41 (Rn (AD 6 p3) λv42=>Aq 190 6 Zh 1 [(0,v42)]<|gh λv43=>App 190 6 80 Zh p4 v43<|gh λv44=>KV ω p0 v44 K) (KV ω p0 p4 K)
def UX (ω:Om)(p0 p3:Value)(x4 x5 x6:Value)(Kn0:(Value×Value×Value×Unit)→M)(K:Value→M):M:=Pv (AG p0) λv2=>Pv (AA 1 v2) λv3=>Rn (AB v3) λv4=>Pv (lenV v4) λv5=>Pv (AC .lss x6 v5) λv6=>Br v6 (AY λS=>Pv (unV .not x5) λv7=>Gd v7 true (Pv (AG p0) λv8=>Pv (AA 1 v8) λv9=>Rs S (AB v9) λv10=>Pv (ixV 6 v10 x6) λv11=>Pv (AA 0 v11) λv12=>Rs S (AB v12) λv13=>Rs S (bsR v13) λv14=>Pv (AA 0 p3) λv15=>Rs S (AB v15) λv16=>Rs S (bsR v16) λv17=>Pv (Ao .geq v14 v17) λv18=>Br v18 (UW ω p0 p3 x4 x5 x6 Kn0 K) (HB ω p0 p3 x4 x5 x6 Kn0 K)) (HB ω p0 p3 x4 x5 x6 Kn0 K)) (UV ω p0 p3 x4 x5 K)
def AAG (ω:Om)(a0 a1:Value)(K:Value→M):M:=New (.cells (Value.cells a1) 190 (0,0))<|gh λx_1=>Ae ((S0,(.bool false),I0,()):Value×Value×Value×Unit) λs Kn0=>UX ω a0 x_1 s.1 s.2.1 s.2.2.1 Kn0 K
theorem AAF (ω:Om)(a0 a1:Value)(K:Value→M):vcF Tryz.prog ω Tryz.f228 [a0,a1] K=AAG ω a0 a1 K:=by kernel_rfl
theorem AKf (h:AAG ω a0 a1 (λv=>Gh (K v)) I L):CT ω 228 #[a0,a1] K I L:=Cal.gh (AE mixed Tryz.func228 (by rw [AAF];exact h))
def UU (ω:Om)(p0 p1:Value)(p2 p24:Value)(p25 x26:Value)(Kn0:(Value×Unit)→M)(K:Value→M):M:=Pv (AC .lss x26 p25) λv17=>Br v17 (Pv (ixV 1 p24 x26) λv18=>Rn (AB v18) λv19=>Pv (AA 1 p2) λv20=>Rn (AB v20) λv21=>Pv (lenV v21) λv22=>Pv (AC .gtr v22 I0) λv23=>Gd v23 true (Pv (AA 1 p2) λv24=>Rn (AB v24) λv25=>Rn (bsR v25) λv26=>Pv (Ao .geq v19 v26) λv27=>Gd v27 false (Rn (AB p1) λv28=>Pv (AG v28) λv29=>Pv (AA 0 v29) λv30=>Rn (AB v30) λv31=>Rn (lkR .string N0 false v31 v19) λv32=>CW ω p0 #[v19,v32]<|gh λv33=>Pv (unV .not v33) λv34=>Br v34 (K (Value.tuple #[])) (Pv (AC .add x26 (.int .i64 1)) λv35=>Kn0 (v35,()))) (K (Value.tuple #[]))) (Rn (AB p1) λv36=>Pv (AG v36) λv37=>Pv (AA 0 v37) λv38=>Rn (AB v38) λv39=>Rn (lkR .string N0 false v39 v19) λv40=>CW ω p0 #[v19,v40]<|gh λv41=>Pv (unV .not v41) λv42=>Br v42 (K (Value.tuple #[])) (Pv (AC .add x26 (.int .i64 1)) λv43=>Kn0 (v43,())))) (K (Value.tuple #[]))
def AAE (ω:Om)(a0 a1 a2:Value)(K:Value→M):M:=AY λS=>Rs S (AB a1) λv1=>Pv (AG v1) λv2=>Pv (AA 1 v2) λv3=>Rs S (AB v3) λv4=>Pv (AA 0 a2) λv5=>Rs S (AB v5) λv6=>Rs S (bsR v6) λv7=>CT ω 144 #[v4,v7]<|gh λv8=>Pv (exV v8 0) λv9=>Pv (exV v8 1) λv10=>Rn (AB a1) λv11=>Pv (AG v11) λv12=>Pv (AA 1 v12) λv13=>Rn (AB v13) λv14=>Pv (BP 1 v14 (some v9) none none) λv15=>Pv (lenV v15) λv16=>Ae ((I0,()):Value×Unit) λs Kn0=>UU ω a0 a1 a2 v15 v16 s.1 Kn0 K
theorem AAD (ω:Om)(a0 a1 a2:Value)(K:Value→M):vcF Tryz.prog ω Tryz.f229 [a0,a1,a2] K=AAE ω a0 a1 a2 K:=by kernel_rfl
theorem AKe (h:AAE ω a0 a1 a2 (λv=>Gh (K v)) I L):CT ω 229 #[a0,a1,a2] K I L:=Cal.gh (AE mixed Tryz.func229 (by rw [AAD];exact h))
def PH (ω:Om)(p2 p4:Value)(Q0:Nat)(K:Value→M):M:=Rn (AB p2) λv5=>Tak Q0<|K v5
def AAC (ω:Om)(a0 a1:Value)(K:Value→M):M:=New (.cells (Value.cells a0) 177 (0,0))<|gh λs_1=>JB Tryz.prog ω a1 (λr1_0 Bg Nk Xk Rk=>Bg (Rn (AB s_1) λv2=>Aq 9 1 #[(Value.string (ByteArray.mk #[]))] 1 [(0,r1_0)]<|gh λv3=>App 9 1 16 #[(Value.string (ByteArray.mk #[]))] v2 v3<|gh λv4=>Sto 1 s_1 v4<|gh λ_=>Nk)) (λD1=>PH ω s_1 S0 D1 K) (λ_=>[]) (λD1=>Tak D1<|K S0)
theorem AAB (ω:Om)(a0 a1:Value)(K:Value→M):vcF Tryz.prog ω Tryz.f230 [a0,a1] K=AAC ω a0 a1 K:=by kernel_rfl
theorem AKd (h:AAC ω a0 a1 (λv=>Gh (K v)) I L):CT ω 230 #[a0,a1] K I L:=Cal.gh (AE mixed Tryz.func230 (by rw [AAB];exact h))
def IW (ω:Om)(p2 p4:Value)(Q0:Nat)(K:Value→M):M:=Rn (AB p2) λv5=>Tak Q0<|K v5
def UT (ω:Om)(a0 a1:Value)(K:Value→M):M:=New (.cells (Value.cells a0) 23 (0,0))<|gh λs_1=>JB Tryz.prog ω a1 (λr1_0 Bg Nk Xk Rk=>Bg (Rn (AB s_1) λv2=>Aq 3 1 #[I0] 1 [(0,r1_0)]<|gh λv3=>App 3 1 8 #[I0] v2 v3<|gh λv4=>Sto 1 s_1 v4<|gh λ_=>Nk)) (λD1=>IW ω s_1 S0 D1 K) (λ_=>[]) (λD1=>Tak D1<|K S0)
theorem AAA (ω:Om)(a0 a1:Value)(K:Value→M):vcF Tryz.prog ω Tryz.f232 [a0,a1] K=UT ω a0 a1 K:=by kernel_rfl
theorem AEj (h:UT ω a0 a1 (λv=>Gh (K v)) I L):CT ω 232 #[a0,a1] K I L:=Cal.gh (AE mixed Tryz.func232 (by rw [AAA];exact h))
def ZZ (ω:Om)(a0 a1:Value)(K:Value→M):M:=New (.cells (Value.cells a1) 253 (0,0))<|gh λv_1=>Pv (AA 0 v_1) λv2=>Rn (AD 2 v2) λv3=>CT ω 186 #[v3]<|gh λv4=>Pv (exV v4 0) λv5=>Pv (exV v4 1) λv6=>Aq 5 1 #[(.int .u8 0)] 1 [(0,(.int .u8 118))]<|gh λv7=>NW 5 a0<|gh λv8=>CT ω 265 #[v8]<|gh λv9=>App 5 1 1 #[(.int .u8 0)] v7 v9<|gh λv10=>App 5 1 1 #[(.int .u8 0)] v10 v5<|gh λv11=>K v11
theorem ZY (ω:Om)(a0 a1:Value)(K:Value→M):vcF Tryz.prog ω Tryz.f234 [a0,a1] K=ZZ ω a0 a1 K:=by kernel_rfl
theorem AKc (h:ZZ ω a0 a1 (λv=>Gh (K v)) I L):CT ω 234 #[a0,a1] K I L:=Cal.gh (AE mixed Tryz.func234 (by rw [ZY];exact h))
def ZX (ω:Om)(a0:Value)(K:Value→M):M:=New (.cells (Value.cells a0) 253 (0,0))<|gh λv_1=>Pv (AA 2 v_1) λv2=>Rn (AB v2) λv3=>Br v3 (Aq 5 1 #[(.int .u8 0)] 1 [(0,(.int .u8 1))]<|gh λv4=>K v4) (Aq 5 1 #[(.int .u8 0)] 1 [(0,(.int .u8 0))]<|gh λv5=>Pv (AA 3 v_1) λv6=>Rn (AB v6) λv7=>App 5 1 1 #[(.int .u8 0)] v5 v7<|gh λv8=>K v8)
theorem ZW (ω:Om)(a0:Value)(K:Value→M):vcF Tryz.prog ω Tryz.f235 [a0] K=ZX ω a0 K:=by kernel_rfl
theorem AKb (h:ZX ω a0 (λv=>Gh (K v)) I L):CT ω 235 #[a0] K I L:=Cal.gh (AE mixed Tryz.func235 (by rw [ZW];exact h))
def ZV (ω:Om)(a0 a1 a2:Value)(K:Value→M):M:=Pv (BP 1 a0 (some a1) none none) λv1=>Pv (lenV a2) λv2=>Pv (AC .eql v2 I0) λv3=>Br v3 (K a0) (Pv (lenV a0) λv4=>Pv (AC .eql a1 v4) λv5=>Br v5 (App 9 1 16 #[(Value.string (ByteArray.mk #[]))] a0 a2<|gh λv6=>K v6) (Pv (AC .add v4 v2) λv7=>Pv (YH a0) λv8=>Pv (AC .gtr v7 v8) λv9=>Br v9 (Pv (BP 1 a0 none (some a1) none) λv10=>Pv (AC .add v4 v2) λv11=>Pv (AC .sub v11 a1) λv12=>AIb 9 1 16 #[(Value.string (ByteArray.mk #[]))] v10 v12<|gh λv13=>Pv (BP 1 v13 (some a1) none none) λv14=>IE 1 v14 a2<|gh λv15=>AY λS=>Pv (AC .add a1 v2) λv16=>Pv (BP 1 v13 (some v16) none none) λv17=>Pv (BP 1 a0 (some a1) none none) λv18=>IE 1 v17 v18<|gh λv19=>K v13) (Pv (AC .add v4 v2) λv20=>Pv (BP 1 a0 none (some v20) none) λv21=>Pv (AC .add a1 v2) λv22=>Pv (BP 1 v21 (some v22) none none) λv23=>QG Tryz.prog ω (Extern.SlicesOverlaps.overlaps #[177,177] #[4]) #[a2,v23]<|gh λv24=>Pv (unV .not v24) λv25=>Br v25 (AY λS=>Pv (AC .add a1 v2) λv26=>Pv (BP 1 v21 (some v26) none none) λv27=>Pv (BP 1 v21 (some a1) none none) λv28=>IE 1 v27 v28<|gh λv29=>Pv (BP 1 v21 (some a1) none none) λv30=>IE 1 v30 a2<|gh λv31=>K v21) (Pv (BP 1 v21 (some v4) none none) λv32=>IE 1 v32 a2<|gh λv33=>Pv (BP 1 v21 (some a1) none none) λv34=>CT ω 268 #[v34,v2]<|gh λv35=>K v21))))
theorem ZU (ω:Om)(a0 a1 a2:Value)(K:Value→M):vcF Tryz.prog ω Tryz.f242 [a0,a1,a2] K=ZV ω a0 a1 a2 K:=by kernel_rfl
theorem AKa (h:ZV ω a0 a1 a2 (λv=>Gh (K v)) I L):CT ω 242 #[a0,a1,a2] K I L:=Cal.gh (AE mixed Tryz.func242 (by rw [ZU];exact h))
def ZT (ω:Om)(a0 a1:Value)(K:Value→M):M:=QG Tryz.prog ω Extern.BytealgIndexByte.indexByte #[a0,a1]<|gh λv1=>K v1
theorem ZS (ω:Om)(a0 a1:Value)(K:Value→M):vcF Tryz.prog ω Tryz.f243 [a0,a1] K=ZT ω a0 a1 K:=by kernel_rfl
theorem AKZ (h:ZT ω a0 a1 (λv=>Gh (K v)) I L):CT ω 243 #[a0,a1] K I L:=Cal.gh (AE mixed Tryz.func243 (by rw [ZS];exact h))
def ZR (ω:Om)(a0:Value)(K:Value→M):M:=Pv (Ao .neq a0 a0) λv1=>K v1
theorem ZQ (ω:Om)(a0:Value)(K:Value→M):vcF Tryz.prog ω Tryz.f244 [a0] K=ZR ω a0 K:=by kernel_rfl
theorem AKY (h:ZR ω a0 (λv=>Gh (K v)) I L):CT ω 244 #[a0] K I L:=Cal.gh (AE mixed Tryz.func244 (by rw [ZQ];exact h))
def ZP (ω:Om)(a0:Value)(K:Value→M):M:=Pv (AC .neq a0 a0) λv1=>K v1
theorem ZO (ω:Om)(a0:Value)(K:Value→M):vcF Tryz.prog ω Tryz.f245 [a0] K=ZP ω a0 K:=by kernel_rfl
theorem AKX (h:ZP ω a0 (λv=>Gh (K v)) I L):CT ω 245 #[a0] K I L:=Cal.gh (AE mixed Tryz.func245 (by rw [ZO];exact h))
def ZN (ω:Om)(a0 a1 a2:Value)(K:Value→M):M:=Pv (lenV a0) λv1=>Pv (BP 1 a0 (some a1) (some a2) (some v1)) λv2=>Pv (AC .eql a1 a2) λv3=>Br v3 (K a0) (Pv (lenV a0) λv4=>AY λS=>Pv (BP 1 a0 none (some a1) none) λv5=>Pv (BP 1 a0 (some a2) none none) λv6=>App 9 1 16 #[(Value.string (ByteArray.mk #[]))] v5 v6<|gh λv7=>Pv (lenV v7) λv8=>Pv (BP 1 v7 (some v8) (some v4) none) λv9=>AIa #[(Value.string (ByteArray.mk #[]))] v9<|gh λ_=>K v7)
theorem ZM (ω:Om)(a0 a1 a2:Value)(K:Value→M):vcF Tryz.prog ω Tryz.f246 [a0,a1,a2] K=ZN ω a0 a1 a2 K:=by kernel_rfl
theorem AKW (h:ZN ω a0 a1 a2 (λv=>Gh (K v)) I L):CT ω 246 #[a0,a1,a2] K I L:=Cal.gh (AE mixed Tryz.func246 (by rw [ZM];exact h))
def US (ω:Om)(p0 p1:Value)(p7 x4 x8:Value)(Kn0:(Value×Value×Unit)→M)(K:Value→M):M:=Pv (AC .lss x8 p7) λv2=>Br v2 (Pv (ixV 4 p0 x8) λv3=>Rn (AD 4 v3) λv4=>CW ω p1 #[v4]<|gh λv5=>Br v5 (K x8) (Pv (AC .add x8 (.int .i64 1)) λv6=>Kn0 (x4,v6,()))) (K (.int .i64 (-1)))
def ZL (ω:Om)(a0 a1:Value)(K:Value→M):M:=Pv (lenV a0) λv1=>Ae ((I0,I0,()):Value×Value×Unit) λs Kn0=>US ω a0 a1 v1 s.1 s.2.1 Kn0 K
theorem ZK (ω:Om)(a0 a1:Value)(K:Value→M):vcF Tryz.prog ω Tryz.f247 [a0,a1] K=ZL ω a0 a1 K:=by kernel_rfl
theorem AKV (h:ZL ω a0 a1 (λv=>Gh (K v)) I L):CT ω 247 #[a0,a1] K I L:=Cal.gh (AE mixed Tryz.func247 (by rw [ZK];exact h))
def ZH (ω:Om)(a0:Value)(K:Value→M):M:=Aq 5 1 #[(.int .u8 0)] 1 [(0,(.int .u8 0))]<|gh λv1=>Aq 5 1 #[(.int .u8 0)] 2 [(0,(.int .u8 0)),(1,(.int .u8 255))]<|gh λv2=>CT ω 276 #[a0,v1,v2]<|gh λv3=>Aq 5 1 #[(.int .u8 0)] 2 [(0,(.int .u8 0)),(1,(.int .u8 1))]<|gh λv4=>Aq 29 1 #[S0] 2 [(0,v3),(1,v4)]<|gh λv5=>CT ω 277 #[v5]<|gh λv6=>K v6
theorem ZG (ω:Om)(a0:Value)(K:Value→M):vcF Tryz.prog ω Tryz.f265 [a0] K=ZH ω a0 K:=by kernel_rfl
theorem AKU (h:ZH ω a0 (λv=>Gh (K v)) I L):CT ω 265 #[a0] K I L:=Cal.gh (AE mixed Tryz.func265 (by rw [ZG];exact h))
def ZF (ω:Om)(a0 a1 a2:Value)(K:Value→M):M:=CT ω 281 #[a0,a1,a2,(.int .i64 (-1))]<|gh λv1=>K v1
theorem ZE (ω:Om)(a0 a1 a2:Value)(K:Value→M):vcF Tryz.prog ω Tryz.f276 [a0,a1,a2] K=ZF ω a0 a1 a2 K:=by kernel_rfl
theorem AKT (h:ZF ω a0 a1 a2 (λv=>Gh (K v)) I L):CT ω 276 #[a0,a1,a2] K I L:=Cal.gh (AE mixed Tryz.func276 (by rw [ZE];exact h))
def UQ (ω:Om)(p3 p11:Value)(Kn0:(Value×Value×Unit)→M)(K:Value→M):M:=Pv (AC .add p11 (.int .i64 1)) λv8=>Kn0 (p3,v8,())
def UO (ω:Om)(p2 p25:Value)(p26 x6 x27:Value)(Kn1:(Value×Value×Unit)→M)(K:Value→M):M:=Pv (AC .lss x27 p26) λv11=>Br v11 (Pv (ixV 1 p25 x27) λv12=>Rn (AB v12) λv13=>App 5 1 1 #[(.int .u8 0)] x6 v13<|gh λv14=>Pv (AC .add x27 (.int .i64 1)) λv15=>Kn1 (v14,v15,())) (K x6)
def UP (ω:Om)(p0 p2 p3:Value)(K:Value→M):M:=CT ω 282 #[S0,p3]<|gh λv9=>Pv (lenV p0) λv10=>Ae ((v9,I0,()):Value×Value×Unit) λs Kn1=>UO ω p2 p0 v10 s.1 s.2.1 Kn1 K
def UR (ω:Om)(p0 p2:Value)(p9 p10:Value)(x3 x11:Value)(Kn0:(Value×Value×Unit)→M)(K:Value→M):M:=Pv (AC .lss x11 p10) λv2=>Br v2 (Pv (ixV 1 p9 x11) λv3=>Rn (AB v3) λv4=>Pv (lenV v4) λv5=>Pv (AC .add x3 v5) λv6=>Pv (AC .lss v6 I0) λv7=>Br v7 (F /- panic -/) (UQ ω v6 x11 Kn0 K)) (UP ω p0 p2 x3 K)
def ZD (ω:Om)(a0:Value)(K:Value→M):M:=Pv (lenV a0) λv1=>Ae ((I0,I0,()):Value×Value×Unit) λs Kn0=>UR ω a0 S0 a0 v1 s.1 s.2.1 Kn0 K
theorem ZC (ω:Om)(a0:Value)(K:Value→M):vcF Tryz.prog ω Tryz.f277 [a0] K=ZD ω a0 K:=by kernel_rfl
theorem AKS (h:ZD ω a0 (λv=>Gh (K v)) I L):CT ω 277 #[a0] K I L:=Cal.gh (AE mixed Tryz.func277 (by rw [ZC];exact h))
def PF (ω:Om)(p0 p8:Value)(p10 p11 p12:Value)(K:Value→M):M:=AY λS=>Pv (BP 1 p10 (some p11) none none) λv30=>Pv (BP 1 p0 (some p12) none none) λv31=>IE 1 v30 v31<|gh λv32=>Pv (AC .add p11 v32) λv33=>Pv (BP 1 p10 (some I0) (some v33) none) λv34=>K v34
def UN (ω:Om)(p0 p1:Value)(p2 p8:Value)(p10 p48:Value)(x11 x12 x49:Value)(Kn0:(Value×Value×Value×Unit)→M)(K:Value→M):M:=Pv (AC .lss x49 p48) λv16=>Br v16 (Pv (BP 1 p0 (some x12) none none) λv17=>CT ω 285 #[v17,p1]<|gh λv18=>Pv (AC .add x12 v18) λv19=>AY λS=>Pv (BP 1 p10 (some x11) none none) λv20=>Pv (BP 1 p0 (some x12) (some v19) none) λv21=>IE 1 v20 v21<|gh λv22=>Pv (AC .add x11 v22) λv23=>Pv (BP 1 p10 (some v23) none none) λv24=>IE 1 v24 p2<|gh λv25=>Pv (AC .add v23 v25) λv26=>Pv (lenV p1) λv27=>Pv (AC .add v19 v27) λv28=>Pv (AC .add x49 (.int .i64 1)) λv29=>Kn0 (v26,v28,v29,())) (PF ω p0 p8 p10 x11 x12 K)
def AHK (ω:Om)(p0 p2:Value)(p8 p10:Value)(p88 x11:Value)(x12 x89:Value)(Kn0:(Value×Value×Value×Unit)→M)(K:Value→M):M:=Pv (AC .lss x89 p88) λv39=>Br v39 (Pv (BP 1 p0 (some x12) none none) λv40=>CT ω 286 #[v40]<|gh λv41=>Pv (exV v41 0) λv42=>Pv (exV v41 1) λv43=>Pv (AC .add x12 v43) λv44=>AY λS=>Pv (BP 1 p10 (some x11) none none) λv45=>Pv (BP 1 p0 (some x12) (some v44) none) λv46=>IE 1 v45 v46<|gh λv47=>Pv (AC .add x11 v47) λv48=>Pv (BP 1 p10 (some v48) none none) λv49=>IE 1 v49 p2<|gh λv50=>Pv (AC .add v48 v50) λv51=>Pv (AC .add x89 (.int .i64 1)) λv52=>Kn0 (v51,v44,v52,())) (PF ω p0 p8 p10 x11 x12 K)
def KU (ω:Om)(p0 p1:Value)(p2 p3 p8:Value)(K:Value→M):M:=Pv (lenV p0) λv7=>Pv (lenV p2) λv8=>Pv (lenV p1) λv9=>Pv (AC .sub v8 v9) λv10=>Pv (AC .mul p3 v10) λv11=>Pv (AC .add v7 v11) λv12=>MkS 5 1 #[(.int .u8 0)] v12 v12<|gh λv13=>Pv (lenV p1) λv14=>Pv (AC .gtr v14 I0) λv15=>Br v15 (Ae ((I0,I0,I0,()):Value×Value×Value×Unit) λs Kn0=>UN ω p0 p1 p2 p8 v13 p3 s.1 s.2.1 s.2.2.1 Kn0 K) (Pv (BP 1 v13 (some I0) none none) λv35=>IE 1 v35 p2<|gh λv36=>Pv (AC .add I0 v36) λv37=>Pv (AC .sub p3 (.int .i64 1)) λv38=>Ae ((v37,I0,I0,()):Value×Value×Value×Unit) λs Kn0=>AHK ω p0 p2 p8 v13 v38 s.1 s.2.1 s.2.2.1 Kn0 K)
def PG (ω:Om)(p0 p1:Value)(p2 p3:Value)(p8 p9:Value)(K:Value→M):M:=Pv (AC .eql p9 I0) λv3=>Br v3 (App 5 1 1 #[(.int .u8 0)] S0 p0<|gh λv4=>K v4) (Pv (AC .lss p3 I0) λv5=>Gd v5 false (Pv (AC .lss p9 p3) λv6=>Br v6 (KU ω p0 p1 p2 p9 p8 K) (KU ω p0 p1 p2 p3 p8 K)) (KU ω p0 p1 p2 p9 p8 K))
def ZB (ω:Om)(a0 a1:Value)(a2 a3:Value)(K:Value→M):M:=Pv (AC .neq a3 I0) λv1=>Br v1 (CT ω 284 #[a0,a1]<|gh λv2=>PG ω a0 a1 a2 a3 S0 v2 K) (PG ω a0 a1 a2 a3 S0 I0 K)
theorem ZA (ω:Om)(a0 a1 a2 a3:Value)(K:Value→M):vcF Tryz.prog ω Tryz.f281 [a0,a1,a2,a3] K=ZB ω a0 a1 a2 a3 K:=by kernel_rfl
theorem AKR (h:ZB ω a0 a1 a2 a3 (λv=>Gh (K v)) I L):CT ω 281 #[a0,a1,a2,a3] K I L:=Cal.gh (AE mixed Tryz.func281 (by rw [ZA];exact h))
def UM (ω:Om)(p0 p1 p4:Value)(K:Value→M):M:=Pv (YH p0) λv2=>Pv (lenV p0) λv3=>Pv (AC .sub v2 v3) λv4=>Pv (AC .sub p1 v4) λv5=>Pv (AC .gtr v5 I0) λv6=>Br v6 (Pv (YH p0) λv7=>Pv (BP 1 p0 none (some v7) none) λv8=>AIb 5 1 1 #[(.int .u8 0)] v8 v5<|gh λv9=>Pv (lenV p0) λv10=>Pv (BP 1 v9 none (some v10) none) λv11=>K v11) (K p0)
def Yz (ω:Om)(a0 a1:Value)(K:Value→M):M:=Pv (AC .lss a1 I0) λv1=>Br v1 (F /- panic -/) (UM ω a0 a1 S0 K)
theorem Yy (ω:Om)(a0 a1:Value)(K:Value→M):vcF Tryz.prog ω Tryz.f282 [a0,a1] K=Yz ω a0 a1 K:=by kernel_rfl
theorem AKQ (h:Yz ω a0 a1 (λv=>Gh (K v)) I L):CT ω 282 #[a0,a1] K I L:=Cal.gh (AE mixed Tryz.func282 (by rw [Yy];exact h))
def AHJ (ω:Om)(p1 x0:Value)(x4 x5:Value)(Kn0:(Value×Value×Value×Unit)→M)(K:Value→M):M:=CT ω 285 #[x0,p1]<|gh λv10=>Pv (AC .eql v10 (.int .i64 (-1))) λv11=>Br v11 (K x5) (Pv (AC .add x5 (.int .i64 1)) λv12=>Pv (lenV p1) λv13=>Pv (AC .add v10 v13) λv14=>Pv (BP 1 x0 (some v14) none none) λv15=>Kn0 (v15,x4,v12,()))
def Yx (ω:Om)(a0 a1:Value)(K:Value→M):M:=Pv (lenV a1) λv1=>Pv (AC .eql v1 I0) λv2=>Br v2 (CT ω 287 #[a0]<|gh λv3=>Pv (AC .add v3 (.int .i64 1)) λv4=>K v4) (Pv (lenV a1) λv5=>Pv (AC .eql v5 (.int .i64 1)) λv6=>Br v6 (Pv (ixV 1 a1 I0) λv7=>Rn (AB v7) λv8=>QG Tryz.prog ω Extern.BytealgCount.count #[a0,v8]<|gh λv9=>K v9) (Ae ((a0,I0,I0,()):Value×Value×Value×Unit) λs Kn0=>AHJ ω a1 s.1 s.2.1 s.2.2.1 Kn0 K))
theorem Yw (ω:Om)(a0 a1:Value)(K:Value→M):vcF Tryz.prog ω Tryz.f284 [a0,a1] K=Yx ω a0 a1 K:=by kernel_rfl
theorem AKP (h:Yx ω a0 a1 (λv=>Gh (K v)) I L):CT ω 284 #[a0,a1] K I L:=Cal.gh (AE mixed Tryz.func284 (by rw [Yw];exact h))
theorem AJB:AR Zg #[(0,1),(1,1)] []=some (.agg Zg):=by kernel_rfl
theorem AJA (x0:Int)(x1:Int)(x2:Int)(x3:Option Addr)(x4:Nat)(x5:Nat)(x6:Option Addr)(x7:Nat)(x8:Nat):AR Zq Zx [(0,.int .i64 x0),(1,.int .i64 x1),(2,.int .i64 x2),(8,.slice x3 x4 x5),(9,.slice x6 x7 x8)]=some (.agg #[.int .i64 x0,.int .i64 x1,.int .i64 x2,(.int .i64 0),(.int .i64 0),(.int .i64 0),(.int .i64 0),(.int .i64 0),(.bool false),(.bool false),.slice x3 x4 x5,.slice x6 x7 x8,(.slice none 0 0),(.slice none 0 0),(.int .i64 0)]):=by kernel_rfl
theorem AIz (x0:Int)(x1:Int)(x2:Option Addr)(x3:Nat)(x4:Nat):AR Zq Zx [(0,.int .i64 x0),(1,.int .i64 x1),(8,.slice x2 x3 x4)]=some (.agg #[.int .i64 x0,.int .i64 x1,(.int .i64 0),(.int .i64 0),(.int .i64 0),(.int .i64 0),(.int .i64 0),(.int .i64 0),(.bool false),(.bool false),.slice x2 x3 x4,(.slice none 0 0),(.slice none 0 0),(.slice none 0 0),(.int .i64 0)]):=by kernel_rfl
theorem AIy:AR Zu Zo []=some (.agg Zu):=by kernel_rfl
theorem AIx (x0:Option Addr)(x1:Nat)(x2:Nat)(x3:Option Addr)(x4:Nat)(x5:Nat)(x6:Option Addr):AR Zy Zz [(0,.agg #[.slice x0 x1 x2,.slice x3 x4 x5]),(1,.pointer x6)]=some (.agg #[.slice x0 x1 x2,.slice x3 x4 x5,.pointer x6,(.slice none 0 0),(.slice none 0 0),(.int .i64 0),(.int .i64 0),(.int .i64 0),(.slice none 0 0),(.slice none 0 0),(.int .i64 0)]):=by kernel_rfl
theorem AIw (x0:Int):AR Za Zc [(0,.int .i64 x0)]=some (.agg #[.int .i64 x0,(.bool false),(.slice none 0 0),(.int .i64 0),(.int .i64 0),(.int .i64 0),(.slice none 0 0),(.int .i64 0),(.int .i64 0),(.int .i64 0),(.int .i64 0)]):=by kernel_rfl
theorem AIv (x0:Int)(x1:Int):AR Za Zc [(0,.int .i64 x0),(4,.int .i64 x1)]=some (.agg #[.int .i64 x0,(.bool false),(.slice none 0 0),(.int .i64 0),(.int .i64 0),(.int .i64 0),(.slice none 0 0),(.int .i64 0),(.int .i64 0),.int .i64 x1,(.int .i64 0)]):=by kernel_rfl
theorem AIu (x0:Bool)(x1:Option Addr)(x2:Nat)(x3:Nat)(x4:Int)(x5:Int)(x6:Int):AR Za Zc [(1,.agg #[.bool x0,.slice x1 x2 x3,.int .i64 x4,.int .i64 x5,.int .i64 x6])]=some (.agg #[(.int .i64 0),.bool x0,.slice x1 x2 x3,.int .i64 x4,.int .i64 x5,.int .i64 x6,(.slice none 0 0),(.int .i64 0),(.int .i64 0),(.int .i64 0),(.int .i64 0)]):=by kernel_rfl
theorem AIt (x0:Option Addr)(x1:Nat)(x2:Nat):AR Za Zc [(2,.slice x0 x1 x2)]=some (.agg #[(.int .i64 0),(.bool false),(.slice none 0 0),(.int .i64 0),(.int .i64 0),(.int .i64 0),.slice x0 x1 x2,(.int .i64 0),(.int .i64 0),(.int .i64 0),(.int .i64 0)]):=by kernel_rfl
theorem AFh:AR #[(.slice none 0 0)] #[(0,1)] []=some (.agg #[(.slice none 0 0)]):=by kernel_rfl
theorem AFg:AR Zb #[(0,1),(1,1)] []=some (.agg Zb):=by kernel_rfl
theorem AFf (x0:Option Addr)(x1:Nat)(x2:Nat):AR #[(.slice none 0 0),(.bool false)] #[(0,1),(1,1)] [(0,.slice x0 x1 x2)]=some (.agg #[.slice x0 x1 x2,(.bool false)]):=by kernel_rfl
theorem AFe (x0:Int)(x1:Int)(x2:Int)(x3:Int)(x4:Int):AR Zq Zx [(0,.int .i64 x0),(1,.int .i64 x1),(2,.int .i64 x2),(5,.int .i64 x3),(11,.int .i64 x4)]=some (.agg #[.int .i64 x0,.int .i64 x1,.int .i64 x2,(.int .i64 0),(.int .i64 0),(.int .i64 0),(.int .i64 0),.int .i64 x3,(.bool false),(.bool false),(.slice none 0 0),(.slice none 0 0),(.slice none 0 0),(.slice none 0 0),.int .i64 x4]):=by kernel_rfl
theorem AFd:AR Zq Zx []=some (.agg Zq):=by kernel_rfl
theorem AFc (x0:Int)(x1:Int)(x2:Int):AR Za Zc [(0,.int .i64 x0),(5,.int .i64 x1),(4,.int .i64 x2)]=some (.agg #[.int .i64 x0,(.bool false),(.slice none 0 0),(.int .i64 0),(.int .i64 0),(.int .i64 0),(.slice none 0 0),(.int .i64 0),(.int .i64 0),.int .i64 x2,.int .i64 x1]):=by kernel_rfl
theorem AFb (x0:Option Addr)(x1:Nat)(x2:Nat)(x3:Option Addr)(x4:Nat)(x5:Nat):AR Zg #[(0,1),(1,1)] [(0,.slice x0 x1 x2),(1,.slice x3 x4 x5)]=some (.agg #[.slice x0 x1 x2,.slice x3 x4 x5]):=by kernel_rfl
theorem AFa:AR Za Zc []=some (.agg Za):=by kernel_rfl
theorem AFZ (x0:Option Addr)(x1:Nat)(x2:Nat)(x3:Option Addr)(x4:Nat)(x5:Nat):AR Zp #[(0,1),(1,1),(2,1)] [(1,.slice x0 x1 x2),(2,.slice x3 x4 x5)]=some (.agg #[(.bool false),.slice x0 x1 x2,.slice x3 x4 x5]):=by kernel_rfl
theorem AFY (x0:Option Addr)(x1:Nat)(x2:Nat)(x3:Option Addr)(x4:Nat)(x5:Nat)(x6:Option Addr)(x7:Option Nat)(x8:Option Nat)(x9:Option Nat):AR #[(.slice none 0 0),(.slice none 0 0),(.pointer none),(Value.map none),(.int .i64 0),(.int .i64 0),(.int .i64 0),(Value.map none),(Value.map none),(.int .i64 0),(.slice none 0 0)] #[(0,2),(2,1),(3,1),(4,3),(7,1),(8,1),(9,1),(10,1)] [(0,.agg #[.slice x0 x1 x2,.slice x3 x4 x5]),(1,.pointer x6),(2,.map x7),(4,.map x8),(5,.map x9)]=some (.agg #[.slice x0 x1 x2,.slice x3 x4 x5,.pointer x6,.map x7,(.int .i64 0),(.int .i64 0),(.int .i64 0),.map x8,.map x9,(.int .i64 0),(.slice none 0 0)]):=by kernel_rfl
theorem AFX (x0:Option Nat)(x1:Option Nat):AR #[(Value.map none),(.slice none 0 0),(.int .i64 0),(.int .i64 0),(Value.map none)] Zj [(0,.map x0),(3,.map x1)]=some (.agg #[.map x0,(.slice none 0 0),(.int .i64 0),(.int .i64 0),.map x1]):=by kernel_rfl
theorem AFW:AR Ze Zj []=some (.agg Ze):=by kernel_rfl
theorem AFV (x0:Option Addr)(x1:Nat)(x2:Nat):AR Zi #[(0,1),(1,2),(3,1)] [(0,.slice x0 x1 x2)]=some (.agg #[.slice x0 x1 x2,(.int .i64 0),(.int .i64 0),(.int .i64 0)]):=by kernel_rfl
theorem AFU (x0:Int)(x1:Int):AR Zu Zo [(2,.agg #[.int .i64 x0,.int .i64 x1])]=some (.agg #[(.slice none 0 0),(.slice none 0 0),.int .i64 x0,.int .i64 x1]):=by kernel_rfl
theorem AFT (x0:Option Addr)(x1:Nat)(x2:Nat)(x3:Option Addr)(x4:Nat)(x5:Nat)(x6:Option Addr)(x7:Option Addr)(x8:Nat)(x9:Nat)(x10:Int)(x11:Int)(x12:Int)(x13:Int):AR Zy Zz [(0,.agg #[.slice x0 x1 x2,.slice x3 x4 x5]),(1,.pointer x6),(3,.agg #[.slice x7 x8 x9,.int .i64 x10,.int .i64 x11,.int .i64 x12]),(6,.int .i64 x13)]=some (.agg #[.slice x0 x1 x2,.slice x3 x4 x5,.pointer x6,(.slice none 0 0),.slice x7 x8 x9,.int .i64 x10,.int .i64 x11,.int .i64 x12,(.slice none 0 0),(.slice none 0 0),.int .i64 x13]):=by kernel_rfl
theorem AFS (x0:Int)(x1:Int):AR Zb #[(0,1),(1,1)] [(0,.int .i64 x0),(1,.int .i64 x1)]=some (.agg #[.int .i64 x0,.int .i64 x1]):=by kernel_rfl
theorem AFR (x0:Option Nat)(x1:Option Addr)(x2:Nat)(x3:Nat)(x4:Int)(x5:Int)(x6:Option Nat):AR #[(Value.map none),(.slice none 0 0),(.int .i64 0),(.int .i64 0),(Value.map none)] Zj [(0,.map x0),(1,.slice x1 x2 x3),(2,.agg #[.int .i64 x4,.int .i64 x5]),(3,.map x6)]=some (.agg #[.map x0,.slice x1 x2 x3,.int .i64 x4,.int .i64 x5,.map x6]):=by kernel_rfl
theorem AFQ (x0:Int)(x1:Int)(x2:Int):AR Zf #[(0,2),(2,1)] [(0,.agg #[.int .i64 x0,.int .i64 x1]),(1,.int .i64 x2)]=some (.agg #[.int .i64 x0,.int .i64 x1,.int .i64 x2]):=by kernel_rfl
theorem AFP (x0:Int)(x1:Int)(x2:Int):AR Zf #[(0,1),(1,2)] [(0,.int .i64 x0),(1,.agg #[.int .i64 x1,.int .i64 x2])]=some (.agg #[.int .i64 x0,.int .i64 x1,.int .i64 x2]):=by kernel_rfl
theorem AFO (x0:Int)(x1:Int)(x2:Int)(x3:Int):AR Zl Zo [(0,.int .i64 x0),(1,.int .i64 x1),(2,.agg #[.int .i64 x2,.int .i64 x3])]=some (.agg #[.int .i64 x0,.int .i64 x1,.int .i64 x2,.int .i64 x3]):=by kernel_rfl
theorem AFN (x0:Int)(x1:Int)(x2:Int)(x3:Int):AR Za Zc [(0,.int .i64 x0),(3,.agg #[.int .i64 x1,.int .i64 x2]),(4,.int .i64 x3)]=some (.agg #[.int .i64 x0,(.bool false),(.slice none 0 0),(.int .i64 0),(.int .i64 0),(.int .i64 0),(.slice none 0 0),.int .i64 x1,.int .i64 x2,.int .i64 x3,(.int .i64 0)]):=by kernel_rfl
theorem AFM (x0:Option Addr)(x1:Nat)(x2:Nat)(x3:Int)(x4:Int)(x5:Int)(x6:Bool)(x7:Option Addr)(x8:Nat)(x9:Nat):AR Zh Zs [(0,.slice x0 x1 x2),(1,.int .i64 x3),(2,.agg #[.int .i64 x4,.int .i64 x5]),(3,.bool x6),(4,.slice x7 x8 x9)]=some (.agg #[.slice x0 x1 x2,.int .i64 x3,.int .i64 x4,.int .i64 x5,.bool x6,.slice x7 x8 x9]):=by kernel_rfl
theorem AFL (x0:Int):AR Za Zc [(5,.int .i64 x0)]=some (.agg #[(.int .i64 0),(.bool false),(.slice none 0 0),(.int .i64 0),(.int .i64 0),(.int .i64 0),(.slice none 0 0),(.int .i64 0),(.int .i64 0),(.int .i64 0),.int .i64 x0]):=by kernel_rfl
theorem AFK (x0:Int)(x1:Int)(x2:Int):AR Za Zc [(5,.int .i64 x0),(3,.agg #[.int .i64 x1,.int .i64 x2])]=some (.agg #[(.int .i64 0),(.bool false),(.slice none 0 0),(.int .i64 0),(.int .i64 0),(.int .i64 0),(.slice none 0 0),.int .i64 x1,.int .i64 x2,(.int .i64 0),.int .i64 x0]):=by kernel_rfl
theorem AFJ (x0:Bool)(x1:Option Addr)(x2:Nat)(x3:Nat)(x4:Int)(x5:Int):AR Ze Zj [(0,.bool x0),(1,.slice x1 x2 x3),(2,.agg #[.int .i64 x4,.int .i64 x5])]=some (.agg #[.bool x0,.slice x1 x2 x3,.int .i64 x4,.int .i64 x5,(.int .i64 0)]):=by kernel_rfl
theorem AFI (x0:Int):AR Ze Zj [(3,.int .i64 x0)]=some (.agg #[(.bool false),(.slice none 0 0),(.int .i64 0),(.int .i64 0),.int .i64 x0]):=by kernel_rfl
theorem AFH (x0:Int)(x1:Int):AR Za Zc [(0,.int .i64 x0),(5,.int .i64 x1)]=some (.agg #[.int .i64 x0,(.bool false),(.slice none 0 0),(.int .i64 0),(.int .i64 0),(.int .i64 0),(.slice none 0 0),(.int .i64 0),(.int .i64 0),(.int .i64 0),.int .i64 x1]):=by kernel_rfl
theorem AFG (x0:Int)(x1:Int)(x2:Bool)(x3:ByteArray)(x4:Int):AR #[(.int .i64 0),(.int .i64 0),(.bool false),(Value.string (ByteArray.mk #[])),(.int .i64 0)] #[(0,4),(4,1)] [(0,.agg #[.int .i64 x0,.int .i64 x1,.bool x2,.string x3]),(1,.int .i64 x4)]=some (.agg #[.int .i64 x0,.int .i64 x1,.bool x2,.string x3,.int .i64 x4]):=by kernel_rfl
theorem AFF (x0:Int)(x1:Int)(x2:Int):AR Za Zc [(0,.int .i64 x0),(3,.agg #[.int .i64 x1,.int .i64 x2])]=some (.agg #[.int .i64 x0,(.bool false),(.slice none 0 0),(.int .i64 0),(.int .i64 0),(.int .i64 0),(.slice none 0 0),.int .i64 x1,.int .i64 x2,(.int .i64 0),(.int .i64 0)]):=by kernel_rfl
theorem AFE (x0:Int)(x1:Int)(x2:Bool)(x3:ByteArray):AR #[(.int .i64 0),(.int .i64 0),(.bool false),(Value.string (ByteArray.mk #[]))] #[(0,2),(2,1),(3,1)] [(0,.agg #[.int .i64 x0,.int .i64 x1]),(1,.bool x2),(2,.string x3)]=some (.agg #[.int .i64 x0,.int .i64 x1,.bool x2,.string x3]):=by kernel_rfl
theorem AFD:AR #[(.int .i64 0),(.int .i64 0),(.bool false),(Value.string (ByteArray.mk #[])),(.int .i64 0)] #[(0,4),(4,1)] []=some (.agg #[(.int .i64 0),(.int .i64 0),(.bool false),(Value.string (ByteArray.mk #[])),(.int .i64 0)]):=by kernel_rfl
theorem AFC:AR Zh Zs []=some (.agg Zh):=by kernel_rfl
theorem AFB:AR Zd Zw []=some (.agg Zd):=by kernel_rfl
theorem AFA (x0:Int)(x1:Int)(x2:Int)(x3:Int)(x4:Int):AR Zm #[(0,1),(1,1),(2,1),(3,2)] [(0,.int .i64 x0),(1,.int .i64 x1),(2,.int .i64 x2),(3,.agg #[.int .i64 x3,.int .i64 x4])]=some (.agg #[.int .i64 x0,.int .i64 x1,.int .i64 x2,.int .i64 x3,.int .i64 x4]):=by kernel_rfl
theorem AEz (x0:Option Addr)(x1:Nat)(x2:Nat)(x3:Int)(x4:Int)(x5:Bool)(x6:Option Addr)(x7:Nat)(x8:Nat):AR Zd Zw [(0,.slice x0 x1 x2),(1,.agg #[.int .i64 x3,.int .i64 x4]),(2,.bool x5),(3,.slice x6 x7 x8)]=some (.agg #[.slice x0 x1 x2,.int .i64 x3,.int .i64 x4,.bool x5,.slice x6 x7 x8]):=by kernel_rfl
theorem AEy (x0:Bool)(x1:Option Addr)(x2:Nat)(x3:Nat)(x4:Option Addr)(x5:Nat)(x6:Nat):AR Zp #[(0,1),(1,1),(2,1)] [(0,.bool x0),(1,.slice x1 x2 x3),(2,.slice x4 x5 x6)]=some (.agg #[.bool x0,.slice x1 x2 x3,.slice x4 x5 x6]):=by kernel_rfl
theorem AEx:AR #[(.int .i64 0),(.int .i64 0),(.bool false),(Value.string (ByteArray.mk #[]))] #[(0,2),(2,1),(3,1)] []=some (.agg #[(.int .i64 0),(.int .i64 0),(.bool false),(Value.string (ByteArray.mk #[]))]):=by kernel_rfl
theorem AEw (x0:Bool)(x1:ByteArray):AR #[(.int .i64 0),(.int .i64 0),(.bool false),(Value.string (ByteArray.mk #[]))] #[(0,2),(2,1),(3,1)] [(1,.bool x0),(2,.string x1)]=some (.agg #[(.int .i64 0),(.int .i64 0),.bool x0,.string x1]):=by kernel_rfl
theorem AEv:AR #[(.slice none 0 0),(.int .i64 0),(.int .i64 0),(.bool false),(Value.string (ByteArray.mk #[])),(.int .i64 0)] #[(0,1),(1,5)] []=some (.agg #[(.slice none 0 0),(.int .i64 0),(.int .i64 0),(.bool false),(Value.string (ByteArray.mk #[])),(.int .i64 0)]):=by kernel_rfl
theorem AEu (x0:Int):AR Zb #[(0,1),(1,1)] [(0,.int .i64 x0)]=some (.agg #[.int .i64 x0,(.int .i64 0)]):=by kernel_rfl
end Go.Proofs.YtmmfcgbfbcamcaaGreatDoor
namespace Go.SL
def SlI (I:Imm)(n:Nat)(v:Value)(cells:List Value)(len:Nat):Prop:=
 cells.length=len * n∧∃a cap,v= .slice a len cap∧len≤cap∧
  (len≠0→∃b off cs T fr,a=some ⟨b,off,none⟩∧I b=some (Obj.cells cs T fr)∧∀j u,cells[j]? =some u→cs[off+j]? =some u)
theorem SlI.mono {I I':Imm}{n len:Nat}{v:Value}{cells:List Value}(h:SlI I n v cells len)(hI:Ext I I'):SlI I' n v cells len:=by
 obtain ⟨hl,a,cap,hv,hc,h⟩:=h;refine ⟨hl,a,cap,hv,hc,λh0=>?_⟩;obtain ⟨b,off,cs,T,fr,ha,hb,hcs⟩:=h h0;exact ⟨b,off,cs,T,fr,ha,hI _ _ hb,hcs⟩
theorem SlI.nil (I:Imm)(n:Nat)(a:Option Addr)(cap:Nat):SlI I n (.slice a 0 cap) [] 0:=⟨by simp,a,cap,rfl,Nat.zero_le _,λh=>absurd rfl h⟩
theorem SlI.news {I:Imm}{L:LH}{n len:Nat}{v:Value}{cells:List Value}(h:SlI I n v cells len):News n v I L len cells:=by
 obtain ⟨hl,a,cap,rfl,hc,h⟩:=h;by_cases h0:len=0
 ·subst h0;exact .inl ⟨a,cap,rfl,rfl,List.eq_nil_of_length_eq_zero (by simpa using hl)⟩
 ·obtain ⟨b,off,cs,T,fr,rfl,hb,hcs⟩:=h h0;exact .inr (.inl ⟨b,off,cap,rfl,hl,λj u hu=>Cell.imm hb (hcs j u hu)⟩)
def SlO (T n : Nat) (X : LH) (v : Value) (cells : List Value) (len : Nat) : Prop :=
  cells.length = len * n ∧
  ((X = [] ∧ len = 0 ∧ ∃ a, v = .slice a 0 0) ∨
   (∃ (b cap : Nat) (cs : Array Value), X = [(b, Obj.cells cs T (0, 0))] ∧ v = .slice (some ⟨b, 0, Option.none⟩) len cap ∧ cs.size = cap * n ∧ len ≤ cap ∧ ∀ (j : Nat) (u : Value), cells[j]? = some u → cs[j]? = some u))
theorem SlO.none (T n:Nat):SlO T n [] (.slice none 0 0) [] 0:=⟨by simp,.inl ⟨rfl,rfl,_,rfl⟩⟩
theorem SlO.empty (T n:Nat)(a:Option Addr):SlO T n [] (.slice a 0 0) [] 0:=⟨by simp,.inl ⟨rfl,rfl,_,rfl⟩⟩
theorem SlO.form {T n len:Nat}{X:LH}{v:Value}{cells:List Value}(h:SlO T n X v cells len):∃a cap,v= .slice a len cap:=by
 rcases h.2 with ⟨_,rfl,a,rfl⟩|⟨b,cap,cs,_,rfl,_⟩
 ·exact ⟨a,0,rfl⟩
 ·exact ⟨_,cap,rfl⟩
theorem SlO.news {I:Imm}{T n len:Nat}{X F:LH}{v:Value}{cells:List Value}(h:SlO T n X v cells len)(hF:∀x∈X,x∈F):News n v I F len cells:=by
 obtain ⟨hl,h⟩:=h;rcases h with ⟨rfl,rfl,a,rfl⟩|⟨b,cap,cs,rfl,rfl,hcs,hle,hc⟩
 ·exact .inl ⟨a,0,rfl,rfl,List.eq_nil_of_length_eq_zero (by simpa using hl)⟩
 ·exact .inr (.inl ⟨b,0,cap,rfl,hl,λj u hu=>Cell.own (hF _ (List.mem_singleton.2 rfl)) (by rw [Nat.zero_add];exact hc j u hu)⟩)
theorem SlO.freeze {A:M}{I:Imm}{T n len:Nat}{X F:LH}{v:Value}{cells:List Value}(h:SlO T n X v cells len)(hk:∀I',Ext I I'→SlI I' n v cells len→Gh A I' F):Gh A I (X++F):=by
 obtain ⟨hl,h⟩:=h;rcases h with ⟨rfl,rfl,a,rfl⟩|⟨b,cap,cs,rfl,rfl,hcs,hle,hc⟩
 ·exact hk I (Ext.refl I) ⟨hl,a,0,rfl,Nat.le_refl _,λh=>absurd rfl h⟩
 ·exact Gh.freeze λhext=>hk _ hext ⟨hl,_,cap,rfl,hle,λ_=>⟨b,0,cs,T,(0,0),rfl,by simp [Imm.put],λj u hu=>by rw [Nat.zero_add];exact hc j u hu⟩⟩
theorem CR (z:Array Value)(k:Nat):(Builtin.zeroCells z k).size=k * z.size:=by simp [Builtin.zeroCells]
theorem Fi {I:Imm}{X L F:LH}[hsp:SplitL X L F]{T n bytes len m:Nat}{z:Array Value}{s x:Value}{cells news:List Value}{K:Value→M}(hz:z.size=n)(ho:SlO T n X s cells len)(hn:News n x I L m news)
  (h1:∀u∈news,u.oneCell'=true) (hb:(len+m) * bytes≤150000000000000) (hm:len+m≤150000000000000)
  (hk:∀X' v',SlO T n X' v' (cells++news) (len+m)→Gh (K v') I (X'++F)):App T n bytes z s x (gh K) I L:=by
 have hp:=hsp.perm;obtain ⟨hl,ho'⟩:=ho;have hnl:=hn.length;have hlen:(cells++news).length=(len+m) * n:=by rw [List.length_append,hl,hnl,Nat.add_mul]
 rcases ho' with ⟨rfl,rfl,a,rfl⟩|⟨b,cap,cs,rfl,rfl,hcs,hle,hc⟩
 ·have hce:cells=[]:=List.eq_nil_of_length_eq_zero (by simpa using hl);subst hce;refine ⟨a,0,0,m,news,rfl,hn,h1,?_⟩;by_cases h0:m=0
  ·subst h0;have:news=[]:=List.eq_nil_of_length_eq_zero (by simpa using hnl);subst this;exact .inl ⟨Nat.le_refl _,rfl,Gh.perm hp (hk [] (.slice a 0 0) (SlO.empty T n a))⟩
  ·refine .inr (.inr ⟨by omega,hb,hm,[],L,.inl ⟨a,0,rfl,rfl,rfl⟩,List.Sublist.refl _,λb c hc=>?_⟩);refine Gh.perm (List.Perm.cons _ hp) (hk [(b,_)] _ ⟨hlen,.inr ⟨b,c,_,rfl,rfl,?_,hc,?_⟩⟩)
   ·simp only [List.nil_append,Array.size_append,List.size_toArray,CR,hz,hnl];rw [←Nat.add_mul];congr 1;omega
   ·intro j u hu;simp only [List.nil_append] at hu ⊢;have hlt:j < news.length:=(List.getElem?_eq_some_iff.1 hu).1;rw [Array.getElem?_append_left (by simpa using hlt)];simpa using hu
 ·have hmem:(b,Obj.cells cs T (0,0))∈L:=hp.mem_iff.2 (List.mem_append_left _ (List.mem_singleton.2 rfl));obtain ⟨L1,L2,rfl⟩:=List.append_of_mem hmem;have hF:(L1++L2).Perm F:=by
   have h2:(L1++(b,Obj.cells cs T (0,0))::L2).Perm ((b,Obj.cells cs T (0,0))::(L1++L2)):=List.perm_middle;exact (List.perm_cons _).1 (h2.symm.trans hp)
  refine ⟨_,len,cap,m,news,rfl,hn,h1,?_⟩;by_cases hfit:len+m≤cap
  ·refine .inr (.inl ⟨hfit,b,0,cs,T,L1,L2,rfl,rfl,by rw [hcs,Nat.zero_add];exact Nat.mul_le_mul_right n hfit,?_⟩);refine Gh.perm (List.perm_middle.trans (List.Perm.cons _ hF)) (hk [(b,_)] _ ⟨hlen,.inr ⟨b,cap,_,rfl,rfl,by rw [Bh];exact hcs,hfit,?_⟩⟩);have hroom:0+len * n+news.length≤cs.size:=by
    rw [hcs,hnl,Nat.zero_add,←Nat.add_mul];exact Nat.mul_le_mul_right n hfit
   intro j u hu;rw [Cc news cs (0+len * n) j hroom];simp only [Nat.zero_add] at hroom ⊢;by_cases hj:j < len * n
   ·rw [if_pos hj];rw [List.getElem?_append_left (by omega)] at hu;exact hc j u hu
   ·rw [if_neg hj];rw [List.getElem?_append_right (by omega),hl] at hu;have hlt:=(List.getElem?_eq_some_iff.1 hu).1;rw [if_pos (by omega)];exact hu
  ·refine .inr (.inr ⟨by omega,hb,hm,cells,L1++L2,.inr (.inl ⟨b,0,cap,rfl,hl,λj u hu=>Cell.own hmem (by rw [Nat.zero_add];exact hc j u hu)⟩),
    List.Sublist.append (List.Sublist.refl _) (List.sublist_cons_self ..),λb' c hcc=>?_⟩)
   refine Gh.perm (List.Perm.cons _ hF) (hk [(b',_)] _ ⟨hlen,.inr ⟨b',c,_,rfl,rfl,?_,hcc,?_⟩⟩)
   ·simp only [Array.size_append,List.size_toArray,CR,hz,hlen];rw [←Nat.add_mul];congr 1;omega
   ·intro j u hu;have hlt:j < (cells++news).length:=(List.getElem?_eq_some_iff.1 hu).1;rw [Array.getElem?_append_left (by simpa using hlt)];simpa using hu
theorem DX {I:Imm}{X L F:LH}[hsp:SplitL X L F]{T n bytes len m:Nat}{z:Array Value}{s x:Value}{cells news:List Value}{K:Value→M}(hz:z.size=n)(ho:SlO T n X s cells len)(hn:News n x I L m news)
  (h1:∀u∈news,u.oneCell'=true) (hb:(len+m) * bytes≤150000000000000) (hm:len+m≤150000000000000)
  (hk:∀X' v',SlO T n X' v' (cells++news) (len+m)→K v' I (X'++F)):App T n bytes z s x (gh K) I L:=Fi hz ho hn h1 hb hm (λX' v' h=>Gh.done (hk X' v' h))
theorem AJu {I:Imm}{F:LH}{T bytes:Nat}{z:Array Value}{ln cn:Nat}{K:Value→M}(hlc:ln≤cn)(hc:cn≤140737488355328)(hb:cn * bytes≤281474976710656)
  (hk:∀X v,SlO T z.size X v (Builtin.zeroCells z ln).toList ln→K v I (X++F)):MkS T bytes z (.int .i64 ln) (.int .i64 cn) (gh K) I F:=by
 refine ⟨.i64,.i64,ln,cn,rfl,rfl,hlc,hc,hb,λb=>?_⟩;refine Gh.done (hk [(b,_)] _ ⟨by simp [CR],.inr ⟨b,cn,_,rfl,rfl,CR z cn,hlc,?_⟩⟩);intro j u hu;have hlt:j < ln * z.size:=by have:=(List.getElem?_eq_some_iff.1 hu).1;simpa [CR] using this
 have hlt':j < cn * z.size:=Nat.lt_of_lt_of_le hlt (Nat.mul_le_mul_right _ hlc);simp only [Builtin.zeroCells,Array.toList_map,List.getElem?_map,Array.toList_range,List.getElem?_range hlt,Option.map_some,Option.some.injEq] at hu;simp only [Builtin.zeroCells,Array.getElem?_map,Array.getElem?_range,hlt',if_true,Option.map_some,hu]
theorem Mu {I:Imm}{F:LH}{T n:Nat}{z:Array Value}{v:Value}{K:Value→M}(hz:z.size=n)(hn:0 < n)(hv:v.cells.size=n)
  (hk:∀X u,SlO T n X u v.cells.toList 1→Gh (K u) I (X++F)):Aq T n z 1 [(0,v)] (gh K) I F:=by
 have hfold:∀(vs:List Value) (cs:Array Value) (k:Nat),k+vs.length≤cs.size→(vs.zipIdx k).foldl (λcs (c,j)=>cs.setIfInBounds (0+j) c) cs=wr cs k vs:=by
  intro vs;induction vs with
  |nil=>intro cs k _;rfl
  |cons v vs ih=>
   intro cs k hk;simp only [List.zipIdx_cons,List.foldl_cons,wr,Nat.zero_add];simp only [List.length_cons] at hk;have:=ih (cs.setIfInBounds k v) (k+1) (by simp;omega);simpa using this
 refine ⟨v.cells,?_,λb=>?_⟩
 ·simp only [Instr.fill];have h0:((Array.range (1 * n)).map (λx=>z[x % z.size]!)).size=n:=by simp
  rw [h0];have hc:¬((decide (v.cells.size≠n)||decide (0 * n+v.cells.size > n))=true):=by simp [hv]
  rw [if_neg hc];congr 1
  rw [←Array.foldl_toList];simp only [Array.toList_zipIdx,Nat.zero_mul];rw [hfold _ _ 0 (by rw [h0];simp [hv]),QH _ _ 0 (by rw [h0];simp [hv])];apply Array.ext'
  simp [hv]
 ·exact hk [(b,_)] _ ⟨by simp [hv],.inr ⟨b,1,_,rfl,rfl,by omega,Nat.le_refl _,λj u hu=>by simpa using hu⟩⟩
theorem EH {I:Imm}{F:LH}{T n:Nat}{z:Array Value}{v:Value}{K:Value→M}(hz:z.size=n)(hn:0 < n)(hv:v.cells.size=n)
  (hk:∀X u,SlO T n X u v.cells.toList 1→K u I (X++F)):Aq T n z 1 [(0,v)] (gh K) I F:=Mu hz hn hv (λX u h=>Gh.done (hk X u h))
theorem Rl {I:Imm}{F:LH}{T n:Nat}{z:Array Value}{K:Value→M}(hk:∀X u,SlO T n X u [] 0→K u I (X++F)):Aq T n z 0 [] (gh K) I F:=by
 refine ⟨#[],by simp [Instr.fill],λb=>?_⟩;exact Gh.done (hk [(b,_)] _ ⟨by simp,.inr ⟨b,0,_,rfl,rfl,by simp,Nat.le_refl _,λj u hu=>by simp at hu⟩⟩)
theorem AHx {I:Imm}{X L F:LH}[hsp:SplitL X L F]{T n len:Nat}{v:Value}{cells:List Value}{K:Value→M}(ho:SlO T n X v cells len)(hX:X≠[])
  (hk:∀I',Ext I I'→SlI I' n v cells len→K v I' F):Tx v (gh K) I L:=by
 have hp:=hsp.perm;obtain ⟨hl,ho⟩:=ho;rcases ho with ⟨rfl,_⟩|⟨b,cap,cs,rfl,rfl,hcs,hle,hc⟩
 ·exact absurd rfl hX
 ·have hmem:(b,Obj.cells cs T (0,0))∈L:=hp.mem_iff.2 (List.mem_append_left _ (List.mem_singleton.2 rfl));obtain ⟨L1,L2,rfl⟩:=List.append_of_mem hmem;have hF:(L1++L2).Perm F:=by
   have h2:(L1++(b,Obj.cells cs T (0,0))::L2).Perm ((b,Obj.cells cs T (0,0))::(L1++L2)):=List.perm_middle;exact (List.perm_cons _).1 (h2.symm.trans hp)
  refine ⟨b,0,len,cap,cs,T,L1,L2,rfl,rfl,?_⟩;refine Gh.perm (List.perm_middle.trans (List.Perm.cons _ hF)) (Gh.freeze λhext=>Gh.done (hk _ hext ⟨hl,_,cap,rfl,hle,λ_=>⟨b,0,cs,T,_,rfl,by simp [Imm.put];rfl,λj u hu=>by rw [Nat.zero_add];exact hc j u hu⟩⟩))
theorem SlO.ix {T n len i:Nat}{X:LH}{v:Value}{cells:List Value}(h:SlO T n X v cells len)(k:IntKind)(hi:i < len):
  ∃b,ixV n v (.int k i)=some (.pointer (some ⟨b,i * n,Option.none⟩))∧∀I L,(∀x∈X,x∈L)→Cells I L b (i * n) ((cells.drop (i * n)).take n):=by
 obtain ⟨hl,h⟩:=h;rcases h with ⟨rfl,rfl,a,rfl⟩|⟨b,cap,cs,rfl,rfl,hcs,hle,hc⟩
 ·omega
 ·refine ⟨b,by rw [TV b 0 n k len cap i hi,Nat.zero_add],λI L hX j u hu=>?_⟩;rw [List.getElem?_take] at hu;split at hu
  ·rw [List.getElem?_drop] at hu;exact Cell.own (hX _ (List.mem_singleton.2 rfl)) (hc _ u hu)
  ·cases hu
theorem SlI.ix {I:Imm}{n len i:Nat}{v:Value}{cells:List Value}(h:SlI I n v cells len)(k:IntKind)(hi:i < len):
  ∃b off,ixV n v (.int k i)=some (.pointer (some ⟨b,off,none⟩))∧∀I' L,Ext I I'→Cells I' L b off ((cells.drop (i * n)).take n):=by
 obtain ⟨hl,a,cap,rfl,hcap,h⟩:=h;obtain ⟨b,off,cs,T,fr,rfl,hb,hcs⟩:=h (by omega);refine ⟨b,off+i * n,TV b off n k len cap i hi,λI' L hI j u hu=>?_⟩;rw [List.getElem?_take] at hu;split at hu
 ·rw [List.getElem?_drop] at hu;refine Cell.imm (hI _ _ hb) ?_;have:=hcs _ u hu;rwa [←Nat.add_assoc] at this
 ·cases hu
theorem BI (k:IntKind)(i d y:Nat)(h:i≤y):Cz (some (.int k i)) d y=some i:=by
 simp only [Cz];rw [if_pos (by omega)];simp
theorem SlI.part {I:Imm}{n len lo hi:Nat}{v:Value}{cells:List Value}(h:SlI I n v cells len)(h1:lo≤hi)(h2:hi≤len)(blo bhi:Option Value)
  (hlo:∀y,hi≤y→Cz blo 0 y=some lo∨y≠hi) (hhi:∀cap,len≤cap→Cz bhi len cap=some hi):
  ∃v',BP n v blo bhi none=some v'∧SlI I n v' ((cells.drop (lo * n)).take ((hi - lo) * n)) (hi - lo):=by
 obtain ⟨hl,a,cap,rfl,hcap,h⟩:=h;have hb1:=hhi cap hcap;have hb2:Cz blo 0 hi=some lo:=(hlo hi (Nat.le_refl _)).resolve_right (by simp);refine ⟨.slice (if cap=lo then a else a.map (·.add (lo * n))) (hi - lo) (cap - lo),?_,?_,_,_,rfl,by omega,λh0=>?_⟩
 ·simp only [BP];rw [if_neg (by simp)];simp only [Cz] at hb1 hb2 ⊢;simp [hb1,hb2]
 ·rw [List.length_take,List.length_drop,hl];apply Nat.min_eq_left
  rw [←Nat.sub_mul];exact Nat.mul_le_mul_right n (by omega)
 ·obtain ⟨b,off,cs,T,fr,rfl,hb,hcs⟩:=h (by omega);refine ⟨b,off+lo * n,cs,T,fr,by rw [if_neg (by omega)];simp [Be],hb,λj u hu=>?_⟩;rw [List.getElem?_take] at hu;split at hu
  ·rw [List.getElem?_drop] at hu;have:=hcs _ u hu;rwa [←Nat.add_assoc] at this
  ·cases hu
def u8s (l:List UInt8):List Value:=l.map λc=>.int .u8 c.toNat
def RQ (l:List Int):List Value:=l.map (.int .i64)
def Bytes (I:Imm)(v:Value)(l:List UInt8):Prop:=SlI I 1 v (u8s l) l.length
def Ints (I:Imm)(v:Value)(l:List Int):Prop:=SlI I 1 v (RQ l) l.length
theorem Bytes.mono {I I':Imm}{v:Value}{l:List UInt8}(h:Bytes I v l)(hI:Ext I I'):Bytes I' v l:=SlI.mono h hI
theorem Ints.mono {I I':Imm}{v:Value}{l:List Int}(h:Ints I v l)(hI:Ext I I'):Ints I' v l:=SlI.mono h hI
theorem Bytes.form {I:Imm}{v:Value}{l:List UInt8}(h:Bytes I v l):∃a cap,v= .slice a l.length cap:=by
 obtain ⟨_,a,cap,hv,_⟩:=h;exact ⟨a,cap,hv⟩
theorem Ints.form {I:Imm}{v:Value}{l:List Int}(h:Ints I v l):∃a cap,v= .slice a l.length cap:=by
 obtain ⟨_,a,cap,hv,_⟩:=h;exact ⟨a,cap,hv⟩
theorem Fl (l:List UInt8):∀u∈u8s l,u.oneCell'=true:=by
 intro u hu;obtain ⟨c,_,rfl⟩:=List.mem_map.1 hu;rfl
theorem Bytes.str {I:Imm}{L:LH}{v:Value}{l:List UInt8}(h:Bytes I v l):bsR v I L (.string ⟨l.toArray⟩):=by
 rcases SlI.news (L:=L) h with ⟨a,cap,rfl,hl,hn⟩|⟨b,off,cap,rfl,hl,hc⟩|⟨s,rfl,_⟩
 ·have:l=[]:=List.eq_nil_of_length_eq_zero hl;subst this;exact .inl ⟨a,cap,rfl,rfl⟩
 ·exact .inr ⟨b,off,_,cap,l,rfl,rfl,hc,rfl⟩
 ·obtain ⟨a,cap,hv⟩:=h.form;cases hv
def Recs {α:Type}(R:α→List Value→Prop)(n:Nat):List α→List Value→Prop
 |[],cells=>cells=[]
 |x::xs,cells=>(cells.take n).length=n∧R x (cells.take n)∧Recs R n xs (cells.drop n)
section recs
variable {α:Type}{R R':α→List Value→Prop}{n:Nat}
theorem Recs.length:∀{xs:List α} {cells:List Value},Recs R n xs cells→cells.length=xs.length * n
 |[],cells,h=>by rw [h];simp
 |x::xs,cells,⟨h1,_,h2⟩=>by
  have:=Recs.length h2;rw [List.length_drop] at this;rw [List.length_take] at h1;simp only [List.length_cons,Nat.add_mul,Nat.one_mul];omega
theorem Recs.imp (hR:∀x c,R x c→R' x c):∀{xs:List α} {cells:List Value},Recs R n xs cells→Recs R' n xs cells
 |[],_,h=>h
 |_::_,_,⟨h1,h2,h3⟩=>⟨h1,hR _ _ h2,Recs.imp hR h3⟩
theorem Recs.append:∀{xs ys:List α} {cs ds:List Value},Recs R n xs cs→Recs R n ys ds→Recs R n (xs++ys) (cs++ds)
 |[],ys,cs,ds,h,h'=>by rw [show cs=[] from h];exact h'
 |x::xs,ys,cs,ds,⟨h1,h2,h3⟩,h'=>by
  have hle:n≤cs.length:=by rw [List.length_take] at h1;omega
  refine ⟨?_,?_,?_⟩
  ·rw [List.take_append_of_le_length hle];exact h1
  ·rw [List.take_append_of_le_length hle];exact h2
  ·rw [List.drop_append_of_le_length hle];exact Recs.append h3 h'
theorem Recs.one {x:α}{c:List Value}(hl:c.length=n)(h:R x c):Recs R n [x] c:=by
 refine ⟨by rw [List.take_of_length_le (by omega)];exact hl,by rw [List.take_of_length_le (by omega)];exact h,?_⟩;show c.drop n=[];simp [hl]
theorem Recs.one_cells (hR:∀x c,R x c→∀u∈c,u.oneCell'=true):∀{xs:List α} {cells:List Value},Recs R n xs cells→∀u∈cells,u.oneCell'=true
 |[],cells,h,u,hu=>by rw [show cells=[] from h] at hu;cases hu
 |x::xs,cells,⟨_,h2,h3⟩,u,hu=>by
  rw [←List.take_append_drop n cells] at hu;rcases List.mem_append.1 hu with hu|hu
  ·exact hR _ _ h2 u hu
  ·exact Recs.one_cells hR h3 u hu
theorem Recs.get:∀{xs:List α} {cells:List Value} {i:Nat} {x:α},Recs R n xs cells→xs[i]? =some x→((cells.drop (i * n)).take n).length=n∧R x ((cells.drop (i * n)).take n)
 |[],_,_,_,_,h=>by simp at h
 |y::ys,cells,0,x,⟨h1,h2,_⟩,h=>by
  simp only [List.getElem?_cons_zero,Option.some.injEq] at h;subst h;simpa using ⟨by simpa using h1,h2⟩
 |y::ys,cells,i+1,x,⟨_,_,h3⟩,h=>by
  have:=Recs.get (i:=i) h3 (by simpa using h);rw [List.drop_drop] at this;rwa [show (i+1) * n=n+i * n from by rw [Nat.add_mul];omega]
theorem Recs.take:∀{xs:List α} {cells:List Value} (k:Nat),Recs R n xs cells→Recs R n (xs.take k) (cells.take (k * n))
 |[],cells,k,h=>by rw [show cells=[] from h];simp [Recs]
 |x::xs,cells,0,_=>by simp [Recs]
 |x::xs,cells,k+1,⟨h1,h2,h3⟩=>by
  have hle:n≤(k+1) * n:=by rw [Nat.add_mul];omega
  refine ⟨?_,?_,?_⟩
  ·rw [List.take_take,Nat.min_eq_left hle];exact h1
  ·rw [List.take_take,Nat.min_eq_left hle];exact h2
  ·have:=Recs.take k h3;rw [List.drop_take];rwa [show (k+1) * n - n=k * n from by rw [Nat.add_mul];omega]
theorem Recs.drop:∀{xs:List α} {cells:List Value} (k:Nat),Recs R n xs cells→Recs R n (xs.drop k) (cells.drop (k * n))
 |[],cells,k,h=>by rw [show cells=[] from h];simp [Recs]
 |x::xs,cells,0,h=>by simpa using h
 |x::xs,cells,k+1,⟨_,_,h3⟩=>by
  have:=Recs.drop k h3;rw [List.drop_drop] at this;rwa [show (k+1) * n=n+k * n from by rw [Nat.add_mul];omega]
end recs
section
variable {I:Imm}{L:LH}{K:Value→M}
theorem AK {A B:M}(e:A=B)(h:B I L):A I L:=e ▸ h
theorem CA {b b':Bool}(h:K (.bool b) I L)(e:b=b'):K (.bool b') I L:=e ▸ h
end
theorem WP (A B:M):Gd (.bool true) true A B=A:=rfl
theorem WR (A B:M):Gd (.bool false) true A B=B:=rfl
theorem WQ (A B:M):Gd (.bool true) false A B=B:=rfl
theorem WS (A B:M):Gd (.bool false) false A B=A:=rfl
class LSub (L L':LH):Prop where
 sub:∀x∈L,x∈L'
instance (priority:=100) lsubRefl (L:LH):LSub L L:=⟨λ_ h=>h⟩
instance (priority:=110) lsubNil (L:LH):LSub [] L:=⟨λ_ h=>by cases h⟩
instance (priority:=90) lsubCons (L L':LH)(y:Nat×Obj)[h:LSub L L']:LSub L (y::L'):=⟨λx hx=>List.mem_cons_of_mem _ (h.sub x hx)⟩
instance (priority:=90) lsubApp (L A L':LH)[h:LSub L L']:LSub L (A++L'):=⟨λx hx=>List.mem_append_right _ (h.sub x hx)⟩
instance (priority:=80) lsubAppL (L A L':LH)[h:LSub L A]:LSub L (A++L'):=⟨λx hx=>List.mem_append_left _ (h.sub x hx)⟩
section readsC
variable {I I0 I1:Imm}{L L0 X:LH}{K:Value→M}{b off n:Nat}{v:Value}
theorem Cells.mono {vs:List Value}(h:Cells I0 L0 b off vs)(hI:Ext I0 I)(hL:∀x∈L0,x∈L):Cells I L b off vs:=λj u hu=>(h j u hu).mono hI hL
theorem Cells.sub {vs:List Value}{k m:Nat}(h:Cells I L b off vs):Cells I L b (off+k) ((vs.drop k).take m):=λj u hu=>by
 rw [List.getElem?_take] at hu;split at hu
 ·rw [List.getElem?_drop] at hu;have:=h (k+j) u hu;rwa [←Nat.add_assoc] at this
 ·cases hu
theorem rdC [hl:LSub L0 L](hc:Cell I0 L0 b off v)(hI:Ext I0 I)(hk:K v I L):Rv none (AB (.pointer (some ⟨b,off,none⟩))) K I L:=rd1 (hc.mono hI hl.sub) hk
theorem Av [hl:LSub L0 X](hc:Cell I0 L0 b off v)(hI:Ext I0 I1)(hk:K v I L):Rv (some (Stay I1 X)) (AB (.pointer (some ⟨b,off,none⟩))) K I L:=AOG (hc.mono hI hl.sub) hk
theorem FT [hl:LSub L0 L]{vs:List Value}(hc:Cells I0 L0 b off vs)(hI:Ext I0 I)(hn:vs.length=n)(hk:K (.agg vs.toArray) I L):Rv none (AD n (.pointer (some ⟨b,off,none⟩))) K I L:=rdN hn (hc.mono hI hl.sub) hk
theorem Bo [hl:LSub L0 X]{vs:List Value}(hc:Cells I0 L0 b off vs)(hI:Ext I0 I1)(hn:vs.length=n)(hk:K (.agg vs.toArray) I L):Rv (some (Stay I1 X)) (AD n (.pointer (some ⟨b,off,none⟩))) K I L:=AOF hn (hc.mono hI hl.sub) hk
theorem Bt [hl:LSub X L](hI:Ext I0 I)(hk:K v I L):BW (Stay I0 X) K v I L:=Vy hI hl.sub hk
theorem keepA [hl:LSub X L](hk:K v I L)(hI:Ext I0 I:=by repeat (first|exact Ext.refl _|assumption|refine Ext.trans ?_ (by assumption))):BW (Stay I0 X) K v I L:=Bt hI hk
theorem AZ {B:M→M}(h:B (Stay I L) I L):AY B I L:=draw _ (Stay.start I L) h
end readsC
def Dk {α:Type}[Inhabited α](l:List α)(i:Int):α:=l.getD i.toNat default
theorem AX {α:Type}[Inhabited α]{l:List α}{k:Nat}(h:k < l.length):Dk l (k:Int)=l[k]:=by
 simp [Dk,List.getD,h]
theorem Xn {α:Type}[Inhabited α]{l:List α}{i:Int}(h0:0≤i)(h1:i < l.length):l[i.toNat]? =some (Dk l i):=by
 have:i.toNat < l.length:=by omega
 simp [Dk,List.getD,this]
theorem HP (b off n:Nat)(k:IntKind)(len cap:Nat)(i:Int)(h0:0≤i)(h1:i < len):ixV n (.slice (some ⟨b,off,none⟩) len cap) (.int k i)=some (.pointer (some ⟨b,off+i.toNat * n,none⟩)):=by
 simp only [ixV];rw [if_pos ⟨h0,h1⟩]
theorem News.ix {I:Imm}{L:LH}{n m:Nat}{a:Option Addr}{cap:Nat}{cells:List Value}(h:News n (.slice a m cap) I L m cells)(k:IntKind){i:Int}(h0:0≤i)(h1:i < m):
  ∃b off,ixV n (.slice a m cap) (.int k i)=some (.pointer (some ⟨b,off,none⟩))∧∀I' L',Ext I I'→(∀x∈L,x∈L')→Cells I' L' b off ((cells.drop (i.toNat * n)).take n):=by
 rcases h with ⟨a',cap',h2,h3,_⟩|⟨b,off,cap',h2,hl,hc⟩|⟨s,h2,_⟩
 ·omega
 ·simp only [Value.slice.injEq] at h2;obtain ⟨rfl,_,rfl⟩:=h2;refine ⟨b,off+i.toNat * n,HP b off n k m cap i h0 h1,λI' L' hI hL j u hu=>?_⟩;rw [List.getElem?_take] at hu;split at hu
  ·rw [List.getElem?_drop] at hu;have:=(hc _ u hu).mono hI hL;rwa [←Nat.add_assoc] at this
  ·cases hu
 ·cases h2
def RL {α:Type}(R:Imm→α→List Value→Prop)(n:Nat)(I:Imm)(L:LH)(v:Value)(xs:List α):Prop:=
 ∃a cap cells,v= .slice a xs.length cap∧xs.length≤cap∧News n v I L xs.length cells∧Recs (R I) n xs cells
section rl
variable {α:Type}{R:Imm→α→List Value→Prop}{n:Nat}{I I':Imm}{L L':LH}{v:Value}{xs:List α}
theorem RL.len (h:RL R n I L v xs):lenV v=some (.int .i64 xs.length):=by
 obtain ⟨a,cap,cells,rfl,_⟩:=h;rfl
theorem RL.form (h:RL R n I L v xs):∃a cap,v= .slice a xs.length cap:=by
 obtain ⟨a,cap,cells,rfl,_⟩:=h;exact ⟨a,cap,rfl⟩
theorem News.mono {m:Nat}{news:List Value}(h:News n v I L m news)(hI:Ext I I')(hL:∀x∈L,x∈L'):News n v I' L' m news:=by
 rcases h with h|⟨b,off,cap,h1,h2,h3⟩|h
 ·exact .inl h
 ·exact .inr (.inl ⟨b,off,cap,h1,h2,λj u hu=>(h3 j u hu).mono hI hL⟩)
 ·exact .inr (.inr h)
theorem RL.mono (hR:∀x c,R I x c→R I' x c)(h:RL R n I L v xs)(hI:Ext I I')(hL:∀x∈L,x∈L'):RL R n I' L' v xs:=by
 obtain ⟨a,cap,cells,hv,hc,hn,hr⟩:=h;exact ⟨a,cap,cells,hv,hc,hn.mono hI hL,hr.imp hR⟩
theorem RL.ofI {cells:List Value}(h:SlI I n v cells xs.length)(hr:Recs (R I) n xs cells):RL R n I L v xs:=by
 have hn:=SlI.news (L:=L) h;obtain ⟨_,a,cap,hv,hle,_⟩:=h;exact ⟨a,cap,cells,hv,hle,hn,hr⟩
theorem RL.nil (a:Option Addr)(cap:Nat):RL R n I L (.slice a 0 cap) []:=⟨a,cap,[],rfl,Nat.zero_le _,.inl ⟨a,cap,rfl,rfl,rfl⟩,rfl⟩
theorem RL.ix [Inhabited α](h:RL R n I L v xs){i:Int}(h0:0≤i)(h1:i < xs.length):
  ∃b off c,ixV n v (.int .i64 i)=some (.pointer (some ⟨b,off,none⟩))∧c.length=n∧R I (Dk xs i) c∧∀I' L',Ext I I'→(∀x∈L,x∈L')→Cells I' L' b off c:=by
 obtain ⟨a,cap,cells,rfl,_,hn,hr⟩:=h;obtain ⟨b,off,hix,hc⟩:=News.ix hn .i64 h0 h1;obtain ⟨g1,g2⟩:=hr.get (Xn h0 h1);exact ⟨b,off,_,hix,g1,g2,hc⟩
theorem RL.part (h:RL R n I L v xs){lo hi:Nat}(h1:lo≤hi)(h2:hi≤xs.length)(blo bhi:Option Value)(hlo:Cz blo 0 hi=some lo)(hhi:∀cap,xs.length≤cap→Cz bhi xs.length cap=some hi):
  ∃v',BP n v blo bhi none=some v'∧RL R n I L v' ((xs.drop lo).take (hi - lo)):=by
 obtain ⟨a,cap,cells,rfl,hcap,hn,hr⟩:=h;have hb1:=hhi cap hcap;have hlen:((xs.drop lo).take (hi - lo)).length=hi - lo:=by rw [List.length_take,List.length_drop];omega
 refine ⟨.slice (if cap=lo then a else a.map (·.add (lo * n))) (hi - lo) (cap - lo),?_,_,cap - lo,(cells.drop (lo * n)).take ((hi - lo) * n),by rw [hlen],by rw [hlen];omega,?_,?_⟩
 ·simp only [BP];rw [if_neg (by simp)];simp only [Cz] at hb1 hlo ⊢;simp [hb1,hlo]
 ·rw [hlen];by_cases h0:hi - lo=0
  ·rw [h0];exact .inl ⟨_,_,rfl,rfl,by simp⟩
  ·rcases hn with ⟨a',cap',e1,e2,_⟩|⟨b,off,cap',e1,hl,hc⟩|⟨s,e1,_⟩
   ·omega
   ·simp only [Value.slice.injEq] at e1;obtain ⟨rfl,_,rfl⟩:=e1;refine .inr (.inl ⟨b,off+lo * n,cap - lo,by rw [if_neg (by omega)];simp [Be],?_,λj u hu=>?_⟩)
    ·rw [List.length_take,List.length_drop,hl];apply Nat.min_eq_left
     rw [←Nat.sub_mul];exact Nat.mul_le_mul_right n (by omega)
    ·rw [List.getElem?_take] at hu;split at hu
     ·rw [List.getElem?_drop] at hu;have:=hc _ u hu;rwa [←Nat.add_assoc] at this
     ·cases hu
   ·cases e1
 ·exact (hr.drop lo).take (hi - lo)
end rl
def Eb (w:World):Imm:=λb=>w.heap[b]?
def AJs (w:World):Om:=⟨w.tape,w.os,w.output,w.drawn⟩
theorem st_start (w:World):St (AJs w) w (Eb w) []:=⟨λ_ _ h=>h,λ_ _ h=>(List.not_mem_nil h).elim,List.nodup_nil,λ_ _ h=>(List.not_mem_nil h).elim,rfl,rfl,rfl,Nat.le_refl _⟩
theorem law_below {P:Program}{f:FuncId}{args:Array Value}{w:World}(h:∀ω,Cal P ω f args (λv I' _=>v= .bool true∧Ext (Eb w) I') (Eb w) []):
  Calls P f args w λe w'=>e= .returned (.bool true)∧RowKit.Below w.heap.size w w':=by
 refine (h (AJs w) w (st_start w)).mono ?_;rintro e w' ⟨v,I',L',rfl,hs,rfl,hI⟩;have hblk:∀k,k < w.heap.size→w'.heap[k]? =w.heap[k]? :=by
  intro k hk;have h1:Eb w k=some w.heap[k]:=Array.getElem?_eq_getElem hk;rw [hs.imm k _ (hI k _ h1)];exact h1.symm
 refine ⟨rfl,hs.os,hs.tape,hs.out,?_,hblk⟩;rcases Nat.eq_zero_or_pos w.heap.size with h0|h0
 ·omega
 ·have:=hblk (w.heap.size - 1) (by omega);rw [Array.getElem?_eq_getElem (by omega:w.heap.size - 1 < w.heap.size)] at this;have:=(Array.getElem?_eq_some_iff.1 this).1;omega
def TrR (rz:Nat)(P:Program)(w:World)(T:TypeId)(cs:List Value):Prop:=
 ∃(H:Type) (enc:TypeId×Value→H) (fuel:Nat) (d:DataW H) (ps:List MemPlace),DataW.trod enc P w 0 (λ_=>true) true fuel T cs=some (d,ps)∧(d.weights P T).all (·≤rz)=true
abbrev Tr:=TrR reachBytes
section
variable {rz:Nat}{P:Program}{w:World}{T:TypeId}{cs:List Value}
theorem Fo {k:IntKind}(hu:P.underlying T=some (.int k))(h:TrR rz P w T cs):∃n,cs=[.int k n]∧(Lit.int k n).wf=true:=by
 obtain ⟨H,enc,fuel,d,ps,h,_⟩:=h;cases fuel with
 |zero=>simp [DataW.trod] at h
 |succ fuel=>
  simp only [DataW.trod,hu] at h;split at h <;> simp_all
theorem UD (hu:P.underlying T=some .bool)(h:TrR rz P w T cs):∃b,cs=[.bool b]:=by
 obtain ⟨H,enc,fuel,d,ps,h,_⟩:=h;cases fuel with
 |zero=>simp [DataW.trod] at h
 |succ fuel=>
  simp only [DataW.trod,hu] at h;split at h <;> simp_all
theorem Gz {fs:Array Field}(hu:P.underlying T=some (.struct fs))(h:TrR rz P w T cs):cs.length=P.cellsOf T∧∀f∈fs.toList,TrR rz P w f.type ((cs.drop f.offset).take (P.cellsOf f.type)):=by
 obtain ⟨H,enc,fuel,d,ps,h,hw⟩:=h;cases fuel with
 |zero=>simp [DataW.trod] at h
 |succ fuel=>
  have h':(if cs.length=P.cellsOf T then (fs.toList.mapM λf=>DataW.trod enc P w 0 (λ_=>true) true fuel f.type ((cs.drop f.offset).take (P.cellsOf f.type))).map λxs=>(DataW.agg (xs.map (·.1)),xs.flatMap (·.2)) else none)=some (d,ps):=by
   rw [←h];simp only [DataW.trod,hu]
  split at h'
  ·rename_i hlen
   refine ⟨hlen,?_⟩;obtain ⟨xs,hxs,hd⟩:=Option.map_eq_some_iff.1 h';simp only [Prod.mk.injEq] at hd;obtain ⟨rfl,_⟩:=hd;simp only [DataW.weights,hu] at hw;have key:∀(l:List Field) (xs:List (DataW H×List MemPlace)),(l.mapM λf=>DataW.trod enc P w 0 (λ_=>true) true fuel f.type ((cs.drop f.offset).take (P.cellsOf f.type)))=some xs→
     (DataW.weightsEach P (l.map (·.type)) (xs.map (·.1))).all (·≤rz)=true→∀f∈l,TrR rz P w f.type ((cs.drop f.offset).take (P.cellsOf f.type)):=by
    intro l;induction l with
    |nil=>intro xs _ _ f hf;cases hf
    |cons g l ih=>
     intro xs hxs hw f hf;simp only [List.mapM_cons,Option.bind_eq_bind,Option.bind_eq_some_iff] at hxs;obtain ⟨y,hy,ys,hys,he⟩:=hxs;simp only [Option.pure_def,Option.some.injEq] at he;subst he;simp only [List.map_cons,DataW.weightsEach,List.all_append,Bool.and_eq_true] at hw;rcases List.mem_cons.1 hf with rfl|hf
     ·exact ⟨H,enc,fuel,y.1,y.2,hy,hw.1⟩
     ·exact ih ys hys hw.2 f hf
   exact key fs.toList xs hxs hw
  ·cases h'
theorem mapM_len {α β:Type}{f:α→Option β}:∀(l:List α) (r:List β),l.mapM f=some r→r.length=l.length
 |[],r,h=>by simp at h;subst h;rfl
 |x::l,r,h=>by
  simp only [List.mapM_cons,Option.bind_eq_bind,Option.bind_eq_some_iff] at h;obtain ⟨y,_,ys,hys,he⟩:=h;simp only [Option.pure_def,Option.some.injEq] at he;subst he;simp [mapM_len l ys hys]
theorem MH {α β:Type}{f:α→Option β}:∀(l:List α) (r:List β),l.mapM f=some r→∀(i:Nat) (x:α),l[i]? =some x→∃y,r[i]? =some y∧f x=some y
 |[],r,h,i,x,hx=>by simp at hx
 |z::l,r,h,i,x,hx=>by
  simp only [List.mapM_cons,Option.bind_eq_bind,Option.bind_eq_some_iff] at h;obtain ⟨y,hy,ys,hys,he⟩:=h;simp only [Option.pure_def,Option.some.injEq] at he;subst he;cases i with
  |zero=>simp at hx;subst hx;exact ⟨y,rfl,hy⟩
  |succ i=>simpa using MH l ys hys i x (by simpa using hx)
theorem YZ {e:TypeId}(hu:P.underlying T=some (.slice e))(h:TrR rz P w T cs):
  ∃a len cap,cs=[.slice a len cap]∧len≤cap∧len * P.bytesOf e≤rz∧
   ((a=none∧len=0∧cap=0)∨∃ad,a=some ad∧∀i,i < len→∃ec,w.cells? 0 (ad.add (i * P.cellsOf e)) (P.cellsOf e)=some ec∧TrR rz P w e ec):=by
 obtain ⟨H,enc,fuel,d,ps,h,hw⟩:=h;cases fuel with
 |zero=>simp [DataW.trod] at h
 |succ fuel=>
  simp only [DataW.trod,hu] at h;split at h <;> try (simp_all;done)
  ·exact ⟨none,0,0,rfl,Nat.le_refl _,by simp,.inl ⟨rfl,rfl,rfl⟩⟩
  ·rename_i e' ad len cap he
   simp only [Option.some.injEq,TypeDesc.slice.injEq] at he;subst he;split at h
   ·rename_i hc
    simp only [Option.bind_eq_some_iff] at h;obtain ⟨elems,hel,h⟩:=h;simp only [if_true,Option.map_eq_some_iff] at h;obtain ⟨rest,hrest,h⟩:=h;simp only [Prod.mk.injEq] at h;obtain ⟨rfl,_⟩:=h;simp only [DataW.weights,hu,List.all_cons,List.all_append,Bool.and_eq_true,decide_eq_true_eq,List.length_map] at hw;have hlen:elems.length=len:=by have:=mapM_len _ _ hel;simpa using this
    refine ⟨some ad,len,cap,rfl,hc.2.1,?_,.inr ⟨ad,rfl,?_⟩⟩
    ·refine Nat.le_trans ?_ hw.1;exact Nat.mul_le_mul_right _ (by omega)
    ·have key:∀(l:List Nat) (xs:List (DataW H×List MemPlace)),(l.mapM λi=>(w.cells? 0 (ad.add (i * P.cellsOf e)) (P.cellsOf e)).bind (DataW.trod enc P w 0 (λ_=>true) true fuel e))=some xs→
       (DataW.weightsAll P e (xs.map (·.1))).all (·≤rz)=true→∀i∈l,∃ec,w.cells? 0 (ad.add (i * P.cellsOf e)) (P.cellsOf e)=some ec∧TrR rz P w e ec:=by
      intro l;induction l with
      |nil=>intro xs _ _ f hf;cases hf
      |cons g l ih=>
       intro xs hxs hw i hi;simp only [List.mapM_cons,Option.bind_eq_bind,Option.bind_eq_some_iff] at hxs;obtain ⟨y,⟨ec,hec,hy⟩,ys,hys,he⟩:=hxs;simp only [Option.pure_def,Option.some.injEq] at he;subst he;simp only [List.map_cons,DataW.weightsAll,List.all_append,Bool.and_eq_true] at hw;rcases List.mem_cons.1 hi with rfl|hi
       ·exact ⟨ec,hec,H,enc,fuel,y.1,y.2,hy,hw.1⟩
       ·exact ih ys hys hw.2 i hi
     exact λi hi=>key (List.range len) elems hel hw.2.1 i (List.mem_range.2 hi)
   ·cases h
theorem AJJ {e:TypeId}(hu:P.underlying T=some (.slice e))(hn:0 < P.cellsOf e){v:Value}(h:TrR rz P w T [v]):
  ∃cells len,SlI (Eb w) (P.cellsOf e) v cells len∧len * P.bytesOf e≤rz∧∀i,i < len→TrR rz P w e ((cells.drop (i * P.cellsOf e)).take (P.cellsOf e)):=by
 obtain ⟨a,len,cap,hcs,hle,hb,h2⟩:=YZ hu h;simp only [List.cons.injEq,and_true] at hcs;subst hcs;clear h;have h:=h2;generalize hN:P.cellsOf e=n at *;rcases h with ⟨rfl,rfl,rfl⟩|⟨ad,rfl,h⟩
 ·exact ⟨[],0,SlI.nil _ _ _ _,by simp,λi hi=>by omega⟩
 ·by_cases h0:len=0
  ·subst h0;exact ⟨[],0,SlI.nil _ _ _ _,by simp,λi hi=>by omega⟩
  ·have hcell:∀i,i < len→∀j,j < n→∃u,w.cell? ((ad.add (i * n)).add j)=some u:=by
    intro i hi j hj;obtain ⟨ec,hec,_⟩:=h i hi;unfold World.cells? at hec;split at hec
    ·obtain ⟨y,_,hy⟩:=MH _ _ hec j j (List.getElem?_range hj);exact ⟨y,hy⟩
    ·cases hec
   obtain ⟨u0,hu0⟩:=hcell 0 (by omega) 0 hn;obtain ⟨b,off,sp⟩:=ad;have hsp:sp=none∧∃c T' fr,w.heap[b]? =some (.cells c T' fr):=by
    simp only [Addr.add,Nat.zero_mul,if_true] at hu0;unfold World.cell? at hu0;split at hu0
    ·rename_i c T' fr hb
     simp only at hu0 hb
     cases sp with
     |none=>exact ⟨rfl,c,T',fr,hb⟩
     |some s=>simp at hu0
    ·cases hu0
   obtain ⟨rfl,c,T',fr,hblk⟩:=hsp;have hget:∀i,i < len→∀j,j < n→∃u,c[off+i * n+j]? =some u:=by
    intro i hi j hj;obtain ⟨u,hu⟩:=hcell i hi j hj;rw [Be,Be] at hu;simp only [World.cell?,hblk] at hu;exact ⟨u,by simpa using hu⟩
   have hlast:=hget (len - 1) (by omega) (n - 1) (by omega);obtain ⟨ul,hul⟩:=hlast;have hsz:off+len * n≤c.size:=by
    have:=(Array.getElem?_eq_some_iff.1 hul).1;have e1:(len - 1) * n+n=len * n:=by rw [←Nat.succ_mul];congr 1;omega
    omega
   have hclen:((c.toList.drop off).take (len * n)).length=len * n:=by
    rw [List.length_take,List.length_drop,Array.length_toList];omega
   refine ⟨(c.toList.drop off).take (len * n),len,⟨hclen,_,cap,rfl,hle,λ_=>⟨b,off,c,T',fr,rfl,hblk,λj u hu=>?_⟩⟩,hb,λi hi=>?_⟩
   ·rw [List.getElem?_take] at hu;split at hu
    ·rw [List.getElem?_drop] at hu;simpa using hu
    ·cases hu
   ·obtain ⟨ec,hec,htr⟩:=h i hi;have:((((c.toList.drop off).take (len * n)).drop (i * n)).take n)=ec:=by
     unfold World.cells? at hec;split at hec
     ·apply List.ext_getElem?
      intro j;have hln:=mapM_len _ _ hec;simp only [List.length_range] at hln;have hin:i * n+n≤len * n:=by rw [←Nat.succ_mul];exact Nat.mul_le_mul_right n hi
      by_cases hj:j < n
      ·obtain ⟨y,hy,hcy⟩:=MH _ _ hec j j (List.getElem?_range hj);rw [hy,List.getElem?_take,if_pos hj,List.getElem?_drop,List.getElem?_take,if_pos (by omega),List.getElem?_drop];rw [Be,Be] at hcy;simp only [World.cell?,hblk] at hcy;simp only [Array.getElem?_toList];rw [show off+(i * n+j)=off+i * n+j from by omega];simpa using hcy
      ·rw [List.getElem?_take,if_neg hj];rw [List.getElem?_eq_none (by omega)]
     ·cases hec
    rw [this];exact htr
theorem Vi {α:Type}{R:α→List Value→Prop}{n:Nat}:∀(len:Nat) (cells:List Value),cells.length=len * n→(∀i,i < len→∃x,R x ((cells.drop (i * n)).take n))→∃xs:List α,xs.length=len∧Recs R n xs cells
 |0,cells,hl,_=>⟨[],rfl,List.eq_nil_of_length_eq_zero (by simpa using hl)⟩
 |len+1,cells,hl,h=>by
  obtain ⟨x,hx⟩:=h 0 (by omega);simp only [Nat.zero_mul,List.drop_zero] at hx;have hl':cells.length=len * n+n:=by rw [hl,Nat.add_mul];omega
  obtain ⟨xs,hxl,hR⟩:=Vi (R:=R) (n:=n) len (cells.drop n) (by rw [List.length_drop];omega) (λi hi=>by
   obtain ⟨y,hy⟩:=h (i+1) (by omega);refine ⟨y,?_⟩;rw [List.drop_drop];rwa [show n+i * n=(i+1) * n from by rw [Nat.add_mul];omega])
  exact ⟨x::xs,by simp [hxl],by rw [List.length_take];omega,hx,hR⟩
theorem Oo {α:Type}{R:α→List Value→Prop}{e:TypeId}(hu:P.underlying T=some (.slice e))(hn:0 < P.cellsOf e){v:Value}(h:TrR rz P w T [v])(hR:∀c,TrR rz P w e c→∃x,R x c):
  ∃cells,∃xs:List α,SlI (Eb w) (P.cellsOf e) v cells xs.length∧Recs R (P.cellsOf e) xs cells∧xs.length * P.bytesOf e≤rz:=by
 obtain ⟨cells,len,hS,hb,hT⟩:=AJJ hu hn h;obtain ⟨xs,hxl,hRR⟩:=Vi (R:=R) len cells hS.1 (λi hi=>hR _ (hT i hi));subst hxl;exact ⟨cells,xs,hS,hRR,hb⟩
theorem wf_u8 {n:Int}(h:(Lit.int .u8 n).wf=true):0≤n∧n≤255:=by
 have e1:IntKind.u8.min=0:=by decide
 have e2:IntKind.u8.max=255:=by decide
 simp only [Lit.wf,e1,e2,Bool.and_eq_true,decide_eq_true_eq] at h;exact h
theorem wf_i64 {n:Int}(h:(Lit.int .i64 n).wf=true): -9223372036854775808≤n∧n≤9223372036854775807:=by
 have e1:IntKind.i64.min= -9223372036854775808:=by decide
 have e2:IntKind.i64.max=9223372036854775807:=by decide
 simp only [Lit.wf,e1,e2,Bool.and_eq_true,decide_eq_true_eq] at h;exact h
theorem AOB {e:TypeId}(hu:P.underlying T=some (.slice e))(he:P.underlying e=some (.int .i64))(hn:P.cellsOf e=1)(hb:P.bytesOf e=8){v:Value}(h:TrR rz P w T [v]):
  ∃l,Ints (Eb w) v l∧l.length * 8≤rz∧∀x∈l, -9223372036854775808≤x∧x≤9223372036854775807:=by
 obtain ⟨cells,xs,hS,hR,hlen⟩:=Oo (R:=λ(x:Int) c=>c=[.int .i64 x]∧ -9223372036854775808≤x∧x≤9223372036854775807) hu (by omega) h (λc hc=>by
  obtain ⟨n,rfl,hwf⟩:=Fo he hc;exact ⟨n,rfl,wf_i64 hwf⟩)
 rw [hn] at hS hR;have key:cells=RQ xs∧∀x∈xs, -9223372036854775808≤x∧x≤9223372036854775807:=by
  clear hS hlen;induction xs generalizing cells with
  |nil=>exact ⟨hR,λx hx=>(List.not_mem_nil hx).elim⟩
  |cons x xs ih=>
   obtain ⟨h1,h2,h3⟩:=hR;obtain ⟨h4,h5⟩:=ih _ h3;refine ⟨?_,λy hy=>?_⟩
   ·rw [←List.take_append_drop 1 cells,h2.1,h4];rfl
   ·rcases List.mem_cons.1 hy with rfl|hy
    ·exact h2.2
    ·exact h5 y hy
 obtain ⟨rfl,hx⟩:=key;exact ⟨xs,hS,by rw [hb] at hlen;exact hlen,hx⟩
theorem IM {e:TypeId}(hu:P.underlying T=some (.slice e))(he:P.underlying e=some (.int .u8))(hn:P.cellsOf e=1)(hb:P.bytesOf e=1){v:Value}(h:TrR rz P w T [v]):
  ∃l,Bytes (Eb w) v l∧l.length≤rz:=by
 obtain ⟨cells,xs,hS,hR,hlen⟩:=Oo (R:=λ(x:UInt8) c=>c=[.int .u8 x.toNat]) hu (by omega) h (λc hc=>by
  obtain ⟨n,rfl,hwf⟩:=Fo he hc;obtain ⟨h1,h2⟩:=wf_u8 hwf;refine ⟨UInt8.ofNat n.toNat,?_⟩;simp;omega)
 rw [hn] at hS hR;refine ⟨xs,?_,by rw [hb] at hlen;omega⟩;have:cells=u8s xs:=by
  clear hS hlen;induction xs generalizing cells with
  |nil=>exact hR
  |cons x xs ih=>
   obtain ⟨h1,h2,h3⟩:=hR;have:=ih _ h3;rw [←List.take_append_drop 1 cells,h2,this];rfl
 subst this;exact hS
variable {r:Reach}{base:Nat}{v:Value}
theorem Wi {e:TypeId}(hu:P.underlying T=some (.slice e))(o:Value.okWide P w r base T v)(t:TrR rz P w T v.cells.toList):TrR rz P w T [v]:=by
 obtain ⟨a,len,cap,rfl⟩:=WideShapes.okWide_slice hu o;exact t
end
def MU (n:Int):Prop:= -9223372036854775808≤n∧n≤9223372036854775807
def str (l:List UInt8):Value:=.string ⟨l.toArray⟩
def StrV (_:Imm)(x:List UInt8)(c:List Value):Prop:=c=[.string ⟨x.toArray⟩]
theorem StrV.mono {I I':Imm}{x:List UInt8}{c:List Value}(h:StrV I x c)(hI:Ext I I'):StrV I' x c:=h
theorem Ints.len {I:Imm}{v:Value}{l:List Int}(h:Ints I v l):lenV v=some (.int .i64 l.length):=by
 obtain ⟨_,a,c,rfl,_⟩:=h;rfl
theorem Bytes.len {I:Imm}{v:Value}{l:List UInt8}(h:Bytes I v l):lenV v=some (.int .i64 l.length):=by
 obtain ⟨_,a,c,rfl,_⟩:=h;rfl
theorem Qj {α:Type}{R:α→List Value→Prop}{B:α→Prop}{n:Nat}(hB:∀x c,R x c→B x):∀{xs:List α} {cells:List Value},Recs R n xs cells→∀x∈xs,B x
 |[],_,_,x,hx=>by cases hx
 |y::ys,_,⟨_,h2,h3⟩,x,hx=>by
  rcases List.mem_cons.1 hx with rfl|hx
  ·exact hB _ _ h2
  ·exact Qj hB h3 x hx
section
variable {rz:Nat}{P:Program}{W:World}{T:TypeId}
theorem Bp {cs:List Value}{fs:Array Field}{f:Field}(i:Nat){n:Nat}(hu:P.underlying T=some (.struct fs))(h:TrR rz P W T cs)(hi:fs.toList[i]? =some f)(hc:P.cellsOf f.type=n):
  TrR rz P W f.type ((cs.drop f.offset).take n):=by
 have:=(Gz hu h).2 f (List.mem_of_getElem? hi);rwa [hc] at this
end
end Go.SL
namespace Go.Proofs.YtmmfcgbfbcamcaaGreatDoor
open Go.SL
structure TStamp where
 fWall:Int
 fLogic:Int
instance:Inhabited TStamp:=⟨⟨0,0⟩⟩
def QD (I:Imm)(x:TStamp)(c:List Value):Prop:=c=[.int .i64 x.fWall,.int .i64 x.fLogic]
def QE (rz:Nat)(x:TStamp):Prop:=MU x.fWall∧MU x.fLogic
theorem AEh:Tryz.prog.cellsOf 41=2:=by kernel_rfl
theorem KG {rz:Nat}{W:World}{cs:List Value}(h:TrR rz Tryz.prog W 41 cs):∃x,QE rz x∧QD (Eb W) x cs:=by
 have hl:=(Gz Tryz.underlying41 h).1;rw [AEh] at hl;obtain ⟨c0,c1,rfl⟩:∃c0 c1,cs=[c0,c1]:=by
  match cs,hl with
  |[c0,c1],_=>exact ⟨c0,c1,rfl⟩
 obtain ⟨n0,e0,w0⟩:=Fo Tryz.underlying3 (cs:=[c0]) (Bp 0 Tryz.underlying41 h rfl (n:=1) (by kernel_rfl));simp only [List.cons.injEq,and_true] at e0;subst e0;obtain ⟨n1,e1,w1⟩:=Fo Tryz.underlying3 (cs:=[c1]) (Bp 1 Tryz.underlying41 h rfl (n:=1) (by kernel_rfl));simp only [List.cons.injEq,and_true] at e1;subst e1;exact ⟨⟨n0,n1⟩,⟨wf_i64 w0,wf_i64 w1⟩,rfl⟩
structure TSpan where
 fFrom:List UInt8
 fTo:List UInt8
instance:Inhabited TSpan:=⟨⟨[],[]⟩⟩
def DO (I:Imm)(x:TSpan)(c:List Value):Prop:=∃v0 v1,c=[v0,v1]∧Bytes I v0 x.fFrom∧Bytes I v1 x.fTo
def AFx (rz:Nat)(x:TSpan):Prop:=x.fFrom.length≤rz∧x.fTo.length≤rz
theorem AIT:Tryz.prog.cellsOf 31=2:=by kernel_rfl
theorem Tv {rz:Nat}{W:World}{cs:List Value}(h:TrR rz Tryz.prog W 31 cs):∃x,AFx rz x∧DO (Eb W) x cs:=by
 have hl:=(Gz Tryz.underlying31 h).1;rw [AIT] at hl;obtain ⟨c0,c1,rfl⟩:∃c0 c1,cs=[c0,c1]:=by
  match cs,hl with
  |[c0,c1],_=>exact ⟨c0,c1,rfl⟩
 obtain ⟨n0,h0,w0⟩:=IM Tryz.underlying29 Tryz.underlying5 (by kernel_rfl) (by kernel_rfl) (v:=c0) (Bp 0 Tryz.underlying31 h rfl (n:=1) (by kernel_rfl));obtain ⟨n1,h1,w1⟩:=IM Tryz.underlying29 Tryz.underlying5 (by kernel_rfl) (by kernel_rfl) (v:=c1) (Bp 1 Tryz.underlying31 h rfl (n:=1) (by kernel_rfl));exact ⟨⟨n0,n1⟩,⟨w0,w1⟩,⟨_,_,rfl,h0,h1⟩⟩
structure TGot where
 fFound:Bool
 fValue:List UInt8
 fAt:TStamp
 fBy:Int
instance:Inhabited TGot:=⟨⟨false,[],default,0⟩⟩
structure TKV where
 fKey:List UInt8
 fValue:List UInt8
instance:Inhabited TKV:=⟨⟨[],[]⟩⟩
def TKVV (I:Imm)(x:TKV)(c:List Value):Prop:=∃v0 v1,c=[v0,v1]∧Bytes I v0 x.fKey∧Bytes I v1 x.fValue
theorem TKVV.mono {I I':Imm}{x:TKV}{c:List Value}(h:TKVV I x c)(hI:Ext I I'):TKVV I' x c:=by
 obtain ⟨v0,v1,rfl,h0,h1⟩:=h;exact ⟨v0,v1,rfl,h0.mono hI,h1.mono hI⟩
theorem TKVV.one {I:Imm}{x:TKV}{c:List Value}(h:TKVV I x c):∀u∈c,u.oneCell'=true:=by
 obtain ⟨v0,v1,rfl,h0,h1⟩:=h;obtain ⟨_,_,rfl⟩:=Bytes.form h0;obtain ⟨_,_,rfl⟩:=Bytes.form h1;exact AH rfl
structure TOp where
 fDel:Bool
 fKey:List UInt8
 fValue:List UInt8
instance:Inhabited TOp:=⟨⟨false,[],[]⟩⟩
def TOpV (I:Imm)(x:TOp)(c:List Value):Prop:=∃v0 v1,c=[.bool x.fDel,v0,v1]∧Bytes I v0 x.fKey∧Bytes I v1 x.fValue
theorem TOpV.mono {I I':Imm}{x:TOp}{c:List Value}(h:TOpV I x c)(hI:Ext I I'):TOpV I' x c:=by
 obtain ⟨v0,v1,rfl,h0,h1⟩:=h;exact ⟨v0,v1,rfl,h0.mono hI,h1.mono hI⟩
theorem TOpV.len {I:Imm}{x:TOp}{c:List Value}(h:TOpV I x c):c.length=3:=by
 obtain ⟨v0,v1,rfl,h0,h1⟩:=h;rfl
theorem TOpV.one {I:Imm}{x:TOp}{c:List Value}(h:TOpV I x c):∀u∈c,u.oneCell'=true:=by
 obtain ⟨v0,v1,rfl,h0,h1⟩:=h;obtain ⟨_,_,rfl⟩:=Bytes.form h0;obtain ⟨_,_,rfl⟩:=Bytes.form h1;exact AH rfl
structure TIntent where
 fKey:List UInt8
 fTxn:Int
 fAt:TStamp
 fDel:Bool
 fValue:List UInt8
instance:Inhabited TIntent:=⟨⟨[],0,default,false,[]⟩⟩
def TIntentV (I:Imm)(x:TIntent)(c:List Value):Prop:=∃v0 v1,c=[v0,.int .i64 x.fTxn,.int .i64 x.fAt.fWall,.int .i64 x.fAt.fLogic,.bool x.fDel,v1]∧Bytes I v0 x.fKey∧Bytes I v1 x.fValue
theorem TIntentV.mono {I I':Imm}{x:TIntent}{c:List Value}(h:TIntentV I x c)(hI:Ext I I'):TIntentV I' x c:=by
 obtain ⟨v0,v1,rfl,h0,h1⟩:=h;exact ⟨v0,v1,rfl,h0.mono hI,h1.mono hI⟩
theorem TIntentV.one {I:Imm}{x:TIntent}{c:List Value}(h:TIntentV I x c):∀u∈c,u.oneCell'=true:=by
 obtain ⟨v0,v1,rfl,h0,h1⟩:=h;obtain ⟨_,_,rfl⟩:=Bytes.form h0;obtain ⟨_,_,rfl⟩:=Bytes.form h1;exact AH rfl
structure TVersion where
 fKey:List UInt8
 fAt:TStamp
 fDel:Bool
 fValue:List UInt8
instance:Inhabited TVersion:=⟨⟨[],default,false,[]⟩⟩
def TVersionV (I:Imm)(x:TVersion)(c:List Value):Prop:=∃v0 v1,c=[v0,.int .i64 x.fAt.fWall,.int .i64 x.fAt.fLogic,.bool x.fDel,v1]∧Bytes I v0 x.fKey∧Bytes I v1 x.fValue
theorem TVersionV.mono {I I':Imm}{x:TVersion}{c:List Value}(h:TVersionV I x c)(hI:Ext I I'):TVersionV I' x c:=by
 obtain ⟨v0,v1,rfl,h0,h1⟩:=h;exact ⟨v0,v1,rfl,h0.mono hI,h1.mono hI⟩
theorem TVersionV.one {I:Imm}{x:TVersion}{c:List Value}(h:TVersionV I x c):∀u∈c,u.oneCell'=true:=by
 obtain ⟨v0,v1,rfl,h0,h1⟩:=h;obtain ⟨_,_,rfl⟩:=Bytes.form h0;obtain ⟨_,_,rfl⟩:=Bytes.form h1;exact AH rfl
structure TVer where
 fAt:TStamp
 fDel:Bool
 fValue:List UInt8
instance:Inhabited TVer:=⟨⟨default,false,[]⟩⟩
def TVerV (I:Imm)(x:TVer)(c:List Value):Prop:=c=[.int .i64 x.fAt.fWall,.int .i64 x.fAt.fLogic,.bool x.fDel,.string ⟨x.fValue.toArray⟩]
theorem TVerV.mono {I I':Imm}{x:TVer}{c:List Value}(h:TVerV I x c)(hI:Ext I I'):TVerV I' x c:=by
 obtain rfl:=h;exact rfl
structure TCmd where
 fKind:Int
 fTxn:Int
 fSeq:Int
 fAt:TStamp
 fTo:TStamp
 fBy:Int
 fYes:Bool
 fDel:Bool
 fKey:List UInt8
 fValue:List UInt8
 fSpan:TSpan
 fMost:Int
instance:Inhabited TCmd:=⟨⟨0,0,0,default,default,0,false,false,[],[],default,0⟩⟩
def TCmdV (I:Imm)(x:TCmd)(c:List Value):Prop:=∃v0 v1 v2 v3,c=[.int .i64 x.fKind,.int .i64 x.fTxn,.int .i64 x.fSeq,.int .i64 x.fAt.fWall,.int .i64 x.fAt.fLogic,.int .i64 x.fTo.fWall,.int .i64 x.fTo.fLogic,.int .i64 x.fBy,.bool x.fYes,.bool x.fDel,v0,v1,v2,v3,.int .i64 x.fMost]∧Bytes I v0 x.fKey∧Bytes I v1 x.fValue∧Bytes I v2 x.fSpan.fFrom∧Bytes I v3 x.fSpan.fTo
theorem TCmdV.mono {I I':Imm}{x:TCmd}{c:List Value}(h:TCmdV I x c)(hI:Ext I I'):TCmdV I' x c:=by
 obtain ⟨v0,v1,v2,v3,rfl,h0,h1,h2,h3⟩:=h;exact ⟨v0,v1,v2,v3,rfl,h0.mono hI,h1.mono hI,h2.mono hI,h3.mono hI⟩
theorem TCmdV.one {I:Imm}{x:TCmd}{c:List Value}(h:TCmdV I x c):∀u∈c,u.oneCell'=true:=by
 obtain ⟨v0,v1,v2,v3,rfl,h0,h1,h2,h3⟩:=h;obtain ⟨_,_,rfl⟩:=Bytes.form h0;obtain ⟨_,_,rfl⟩:=Bytes.form h1;obtain ⟨_,_,rfl⟩:=Bytes.form h2;obtain ⟨_,_,rfl⟩:=Bytes.form h3;exact AH rfl
def AFy (rz:Nat)(x:TCmd):Prop:=MU x.fKind∧MU x.fTxn∧MU x.fSeq∧QE rz x.fAt∧QE rz x.fTo∧MU x.fBy∧x.fKey.length≤rz∧x.fValue.length≤rz∧AFx rz x.fSpan∧MU x.fMost
theorem Tn:Tryz.prog.cellsOf 56=15:=by kernel_rfl
theorem AMO:Tryz.prog.bytesOf 56=176:=by kernel_rfl
theorem YP {rz:Nat}{W:World}{cs:List Value}(h:TrR rz Tryz.prog W 56 cs):∃x,AFy rz x∧TCmdV (Eb W) x cs:=by
 have hl:=(Gz Tryz.underlying56 h).1;rw [Tn] at hl;obtain ⟨c0,c1,c2,c3,c4,c5,c6,c7,c8,c9,c10,c11,c12,c13,c14,rfl⟩:∃c0 c1 c2 c3 c4 c5 c6 c7 c8 c9 c10 c11 c12 c13 c14,cs=[c0,c1,c2,c3,c4,c5,c6,c7,c8,c9,c10,c11,c12,c13,c14]:=by
  match cs,hl with
  |[c0,c1,c2,c3,c4,c5,c6,c7,c8,c9,c10,c11,c12,c13,c14],_=>exact ⟨c0,c1,c2,c3,c4,c5,c6,c7,c8,c9,c10,c11,c12,c13,c14,rfl⟩
 obtain ⟨n0,e0,w0⟩:=Fo Tryz.underlying3 (cs:=[c0]) (Bp 0 Tryz.underlying56 h rfl (n:=1) (by kernel_rfl));simp only [List.cons.injEq,and_true] at e0;subst e0;obtain ⟨n1,e1,w1⟩:=Fo Tryz.underlying3 (cs:=[c1]) (Bp 1 Tryz.underlying56 h rfl (n:=1) (by kernel_rfl));simp only [List.cons.injEq,and_true] at e1;subst e1;obtain ⟨n2,e2,w2⟩:=Fo Tryz.underlying3 (cs:=[c2]) (Bp 2 Tryz.underlying56 h rfl (n:=1) (by kernel_rfl));simp only [List.cons.injEq,and_true] at e2;subst e2;obtain ⟨n3,w3,e3⟩:=KG (cs:=[c3,c4]) (Bp 3 Tryz.underlying56 h rfl (n:=2) (by kernel_rfl));simp only [QD,List.cons.injEq,and_true] at e3;obtain ⟨rfl,rfl⟩:=e3;obtain ⟨n4,w4,e4⟩:=KG (cs:=[c5,c6]) (Bp 4 Tryz.underlying56 h rfl (n:=2) (by kernel_rfl));simp only [QD,List.cons.injEq,and_true] at e4;obtain ⟨rfl,rfl⟩:=e4;obtain ⟨n5,e5,w5⟩:=Fo Tryz.underlying3 (cs:=[c7]) (Bp 5 Tryz.underlying56 h rfl (n:=1) (by kernel_rfl));simp only [List.cons.injEq,and_true] at e5;subst e5;obtain ⟨n6,e6⟩:=UD Tryz.underlying4 (cs:=[c8]) (Bp 6 Tryz.underlying56 h rfl (n:=1) (by kernel_rfl));simp only [List.cons.injEq,and_true] at e6;subst e6;obtain ⟨n7,e7⟩:=UD Tryz.underlying4 (cs:=[c9]) (Bp 7 Tryz.underlying56 h rfl (n:=1) (by kernel_rfl));simp only [List.cons.injEq,and_true] at e7;subst e7;obtain ⟨n8,h8,w8⟩:=IM Tryz.underlying29 Tryz.underlying5 (by kernel_rfl) (by kernel_rfl) (v:=c10) (Bp 8 Tryz.underlying56 h rfl (n:=1) (by kernel_rfl))
 obtain ⟨n9,h9,w9⟩:=IM Tryz.underlying29 Tryz.underlying5 (by kernel_rfl) (by kernel_rfl) (v:=c11) (Bp 9 Tryz.underlying56 h rfl (n:=1) (by kernel_rfl));obtain ⟨n10,w10,u10_0,u10_1,e10,h10_0,h10_1⟩:=Tv (cs:=[c12,c13]) (Bp 10 Tryz.underlying56 h rfl (n:=2) (by kernel_rfl));simp only [List.cons.injEq,and_true] at e10;obtain ⟨rfl,rfl⟩:=e10;obtain ⟨n11,e11,w11⟩:=Fo Tryz.underlying3 (cs:=[c14]) (Bp 11 Tryz.underlying56 h rfl (n:=1) (by kernel_rfl));simp only [List.cons.injEq,and_true] at e11;subst e11;exact ⟨⟨n0,n1,n2,n3,n4,n5,n6,n7,n8,n9,n10,n11⟩,⟨wf_i64 w0,wf_i64 w1,wf_i64 w2,w3,w4,wf_i64 w5,w8,w9,w10,wf_i64 w11⟩,⟨_,_,_,_,rfl,h8,h9,h10_0,h10_1⟩⟩
structure TRes where
 fCode:Int
 fGot:TGot
 fRows:List TKV
 fAt:TStamp
 fBy:Int
 fState:Int
instance:Inhabited TRes:=⟨⟨0,default,[],default,0,0⟩⟩
def TResV (I:Imm)(x:TRes)(c:List Value):Prop:=∃v0 v1,c=[.int .i64 x.fCode,.bool x.fGot.fFound,v0,.int .i64 x.fGot.fAt.fWall,.int .i64 x.fGot.fAt.fLogic,.int .i64 x.fGot.fBy,v1,.int .i64 x.fAt.fWall,.int .i64 x.fAt.fLogic,.int .i64 x.fBy,.int .i64 x.fState]∧Bytes I v0 x.fGot.fValue∧RL TKVV 2 I [] v1 x.fRows
theorem TResV.mono {I I':Imm}{x:TRes}{c:List Value}(h:TResV I x c)(hI:Ext I I'):TResV I' x c:=by
 obtain ⟨v0,v1,rfl,h0,h1⟩:=h;exact ⟨v0,v1,rfl,h0.mono hI,RL.mono (λ_ _ h=>TKVV.mono h hI) h1 hI (λ_ h=>by cases h)⟩
theorem TResV.len {I:Imm}{x:TRes}{c:List Value}(h:TResV I x c):c.length=11:=by
 obtain ⟨v0,v1,rfl,h0,h1⟩:=h;rfl
theorem TResV.one {I:Imm}{x:TRes}{c:List Value}(h:TResV I x c):∀u∈c,u.oneCell'=true:=by
 obtain ⟨v0,v1,rfl,h0,h1⟩:=h;obtain ⟨_,_,rfl⟩:=Bytes.form h0;obtain ⟨_,_,rfl⟩:=RL.form h1;exact AH rfl
structure TMarkR where
 fKey:List UInt8
 fAt:TStamp
 fBy:Int
instance:Inhabited TMarkR:=⟨⟨[],default,0⟩⟩
structure TRecR where
 fTxn:Int
 fState:Int
 fAt:TStamp
instance:Inhabited TRecR:=⟨⟨0,0,default⟩⟩
structure TSeenR where
 fTxn:Int
 fSeq:Int
 fCode:Int
 fAt:TStamp
instance:Inhabited TSeenR:=⟨⟨0,0,0,default⟩⟩
structure TMk where
 fAt:TStamp
 fBy:Int
instance:Inhabited TMk:=⟨⟨default,0⟩⟩
structure TRc where
 fState:Int
 fAt:TStamp
instance:Inhabited TRc:=⟨⟨0,default⟩⟩
structure TSn where
 fSeq:Int
 fCode:Int
 fAt:TStamp
instance:Inhabited TSn:=⟨⟨0,0,default⟩⟩
end Go.Proofs.YtmmfcgbfbcamcaaGreatDoor
namespace Go.SL
abbrev blt:List UInt8→List UInt8→Bool:=Op.bytesLess
theorem HU (a:List UInt8):(⟨a.toArray⟩:ByteArray).toList=a:=by simp [Go.ByteArray.toList_mk]
theorem Iz (a:List UInt8):(⟨a.toArray⟩:ByteArray).size=a.length:=by simp [ByteArray.size]
section
variable (a b:List UInt8)
theorem sEq:Ao .eql (.string ⟨a.toArray⟩) (.string ⟨b.toArray⟩)=some (.bool (a==b)):=by simp only [Ao,HU]
theorem sNe:Ao .neq (.string ⟨a.toArray⟩) (.string ⟨b.toArray⟩)=some (.bool (!(a==b))):=by simp only [Ao,HU]
theorem sLt:Ao .lss (.string ⟨a.toArray⟩) (.string ⟨b.toArray⟩)=some (.bool (blt a b)):=by simp only [Ao,HU]
theorem sLe:Ao .leq (.string ⟨a.toArray⟩) (.string ⟨b.toArray⟩)=some (.bool (blt a b||a==b)):=by simp only [Ao,HU]
theorem sGt:Ao .gtr (.string ⟨a.toArray⟩) (.string ⟨b.toArray⟩)=some (.bool (!(blt a b||a==b))):=by simp only [Ao,HU]
theorem sGe:Ao .geq (.string ⟨a.toArray⟩) (.string ⟨b.toArray⟩)=some (.bool (!(blt a b))):=by simp only [Ao,HU]
theorem AMc:Vt (.string ⟨a.toArray⟩)=some (.int .i64 a.length):=by rw [AIC,Iz]
end
theorem UE (a b c d:Int):Bf .eql [(TypeDesc.int .i64,0),(TypeDesc.int .i64,1)] (.agg #[.int .i64 a,.int .i64 b]) (.agg #[.int .i64 c,.int .i64 d])=some (.bool ((a==c)&&(b==d))):=by
 simp [Bf,KA,eqD]
theorem KP (a b c d:Int):Bf .neq [(TypeDesc.int .i64,0),(TypeDesc.int .i64,1)] (.agg #[.int .i64 a,.int .i64 b]) (.agg #[.int .i64 c,.int .i64 d])=some (.bool !((a==c)&&(b==d))):=by
 simp [Bf,KA,eqD]
theorem RW (off n:Nat)(l:List Value):FG true off n (.agg l.toArray)=some (.agg ((l.drop off).take n).toArray):=by
 simp only [FG,if_true];congr 2
 apply Array.ext'
 simp [List.take_drop,Nat.add_comm]
theorem RU (off n:Nat)(l:List Value):FG false off n (.agg l.toArray)=l[off]? :=by
 simp [FG]
theorem WI (a:List UInt8):blt a []=false:=by cases a <;> rfl
theorem BM:∀a:List UInt8,blt a a=false
 |[]=>rfl
 |x::a=>by simp [Op.bytesLess,BM a]
theorem CG:∀{a b c:List UInt8},blt a b=true→blt b c=true→blt a c=true
 |_,[],_,h,_=>by rw [WI] at h;cases h
 |_,_::_,[],_,h=>by simp [Op.bytesLess] at h
 |[],_::_,_::_,_,_=>rfl
 |x::a,y::b,z::c,h1,h2=>by
  simp only [Op.bytesLess,Bool.or_eq_true,Bool.and_eq_true,decide_eq_true_eq,beq_iff_eq] at h1 h2 ⊢;rcases h1 with h1|⟨rfl,h1⟩
  ·rcases h2 with h2|⟨rfl,h2⟩
   ·exact .inl (UInt8.lt_trans h1 h2)
   ·exact .inl h1
  ·rcases h2 with h2|⟨rfl,h2⟩
   ·exact .inl h2
   ·exact .inr ⟨rfl,CG h1 h2⟩
theorem DG:∀(a b:List UInt8),blt a b=false→blt b a=false→a=b
 |[],[],_,_=>rfl
 |[],_::_,h,_=>by simp [Op.bytesLess] at h
 |_::_,[],_,h=>by simp [Op.bytesLess] at h
 |x::a,y::b,h1,h2=>by
  simp only [Op.bytesLess,Bool.or_eq_false_iff,Bool.and_eq_false_iff,decide_eq_false_iff_not,beq_eq_false_iff_ne,ne_eq] at h1 h2;have hxy:x=y:=by
   rw [←UInt8.toNat_inj];have a1:=h1.1;have a2:=h2.1;rw [UInt8.lt_iff_toNat_lt] at a1 a2;omega
  subst hxy;rw [DG a b (h1.2.resolve_left (by simp)) (h2.2.resolve_left (by simp))]
theorem CZ {a b:List UInt8}(h:blt a b=true):blt b a=false:=by
 cases hb:blt b a with
 |false=>rfl
 |true=>have:=CG h hb;rw [BM] at this;cases this
def EZ (a b:List UInt8):Int:=if blt a b then -1 else if blt b a then 1 else 0
theorem find_range_succ (p:Nat→Bool)(n:Nat):(List.range (n+1)).find? p=if p 0 then some 0 else ((List.range n).find? λi=>p (i+1)).map (·+1):=by
 rw [List.range_succ_eq_map,List.find?_cons];cases h:p 0
 ·simp only [List.find?_map,Bool.false_eq_true,if_false];rfl
 ·simp
def cmpL (a b:List UInt8):Int:=match (List.range (min a.length b.length)).find? λi=>a.getD i 0 != b.getD i 0 with
 |some i=>if a.getD i 0 < b.getD i 0 then -1 else 1
 |none=>if a.length < b.length then -1 else if a.length > b.length then 1 else 0
theorem QA (a:List UInt8)(i:Nat):(⟨a.toArray⟩:ByteArray)[i]! =a.getD i 0:=by
 by_cases h:i < a.length
 ·have hs:i < (⟨a.toArray⟩:ByteArray).size:=by rw [Iz];exact h
  rw [getElem!_pos (⟨a.toArray⟩:ByteArray) i hs];show a.toArray[i]'(by simpa using h)=_;simp [List.getD,h]
 ·have hs:¬i < (⟨a.toArray⟩:ByteArray).size:=by rw [Iz];exact h
  rw [getElem!_neg (⟨a.toArray⟩:ByteArray) i hs];simp [List.getD,List.getElem?_eq_none (Nat.le_of_not_lt h)];rfl
theorem AEd (a b:List UInt8):Extern.BytealgCompare.cmp ⟨a.toArray⟩ ⟨b.toArray⟩=cmpL a b:=by
 unfold Extern.BytealgCompare.cmp cmpL;simp only [Iz,QA];rfl
theorem Ob:∀a b:List UInt8,cmpL a b=EZ a b
 |[],[]=>rfl
 |[],_::_=>by simp [cmpL,EZ,Op.bytesLess]
 |_::_,[]=>by simp [cmpL,EZ,Op.bytesLess]
 |x::a,y::b=>by
  have ih:=Ob a b;unfold cmpL at ih ⊢;simp only [List.length_cons];rw [show min (a.length+1) (b.length+1)=min a.length b.length+1 from by omega,find_range_succ];simp only [List.getD_cons_zero,List.getD_cons_succ];by_cases hxy:x=y
  ·subst hxy;simp only [bne_self_eq_false,Bool.false_eq_true,if_false];have e:EZ (x::a) (x::b)=EZ a b:=by simp [EZ,Op.bytesLess]
   rw [e,←ih];cases (List.range (min a.length b.length)).find? λi=>a.getD i 0 != b.getD i 0 with
   |none=>simp
   |some i=>simp
  ·have hne:(x != y)=true:=by simpa using hxy
   simp only [hne,if_true,List.getD_cons_zero];by_cases hlt:x < y
   ·rw [if_pos hlt];simp [EZ,Op.bytesLess,hlt]
   ·rw [if_neg hlt];have hgt:y < x:=by
     rw [UInt8.lt_iff_toNat_lt] at hlt ⊢;have:x.toNat≠y.toNat:=λe=>hxy (UInt8.toNat_inj.1 e);omega
    have hyx:¬y=x:=λe=>hxy e.symm;simp [EZ,Op.bytesLess,hlt,hgt,hxy]
theorem AIV (a b:List UInt8):decide (EZ a b < 0)=blt a b:=by
 unfold EZ;cases blt a b <;> cases blt b a <;> rfl
theorem Pz (a b:List UInt8):decide (0 < EZ a b)=blt b a:=by
 unfold EZ;cases h1:blt a b
 ·cases blt b a <;> rfl
 ·rw [CZ h1];rfl
section
variable {P:Program}{ω:Om}{I:Imm}{L:LH}{K:Value→M}
theorem Xe {w:World}{b off:Nat}{v:Value}(hs:St ω w I L)(hc:Cell I L b off v):(load ⟨b,off,none⟩).run P w= .ok v w:=by
 have:=hc.cell hs;simp [this]
theorem He {w:World}(hs:St ω w I L):∀(l:List UInt8) (b off:Nat) (acc:ByteArray),Cells I L b off (u8s l)→(Extern.Bytes.loadBytes ⟨b,off,none⟩ l.length acc).run P w= .ok ⟨acc.data++l.toArray⟩ w
 |[],b,off,acc,_=>by
  have:(⟨acc.data++([]:List UInt8).toArray⟩:ByteArray)=acc:=by cases acc;simp
  rw [this];simp [Extern.Bytes.loadBytes]
 |x::l,b,off,acc,hc=>by
  have h0:Cell I L b off (.int .u8 x.toNat):=by simpa using hc 0 _ rfl
  have h1:Cells I L b (off+1) (u8s l):=λj u hu=>by
   have:=hc (j+1) u (by simpa [u8s] using hu);rwa [show off+(j+1)=off+1+j from by omega] at this
  simp only [List.length_cons,Extern.Bytes.loadBytes,Sem.run_bind,Xe (P:=P) hs h0,Result.andThen_ok];have e:(Addr.add ⟨b,off,none⟩ 1)=⟨b,off+1,none⟩:=Be _ _ _;rw [e,He hs l b (off+1) _ h1];congr 1
  have:((x.toNat:Int).toNat.toUInt8)=x:=by simp
  rw [this];cases acc
  simp [ByteArray.push]
theorem FR {w:World}{v:Value}{l:List UInt8}(hs:St ω w I L)(h:Bytes I v l):(Extern.Bytes.bytesOf v).run P w= .ok ⟨l.toArray⟩ w:=by
 obtain ⟨hl,a,cap,rfl,_,h⟩:=h;cases a with
 |none=>
  have h0:l.length=0:=by
   apply Classical.byContradiction
   intro h0;obtain ⟨b,off,cs,T,fr,e,_⟩:=h h0;cases e
  have:l=[]:=List.eq_nil_of_length_eq_zero h0;subst this;simp only [Extern.Bytes.bytesOf,Sem.run_pure];rfl
 |some a=>
  simp only [Extern.Bytes.bytesOf];by_cases h0:l.length=0
  ·have:l=[]:=List.eq_nil_of_length_eq_zero h0;subst this;simp only [List.length_nil,Extern.Bytes.loadBytes,Sem.run_pure];rfl
  ·obtain ⟨b,off,cs,T,fr,e,hb,hcs⟩:=h h0;simp only [Option.some.injEq] at e;subst e;rw [He hs l b off .empty (λj u hu=>Cell.imm hb (hcs j u hu))];congr 1
   simp [ByteArray.empty,ByteArray.emptyWithCapacity];rfl
theorem AIS {x y:Value}{a b:List UInt8}(hx:Bytes I x a)(hy:Bytes I y b)(hk:K (.int .i64 (EZ a b)) I L):QG P ω Extern.BytealgCompare.compare #[x,y] K I L:=by
 refine ⟨_,λw hs=>?_,hk⟩;show Sem.run P (do pure (goInt (Extern.BytealgCompare.cmp (←Extern.Bytes.bytesOf x) (←Extern.Bytes.bytesOf y)))) w=_;simp only [Sem.run_bind,FR (P:=P) hs hx,FR (P:=P) hs hy,Result.andThen_ok,Sem.run_pure,goInt];rw [AEd,Ob]
end
section
variable {I I0:Imm}{L L' X:LH}{K:Value→M}{b off n T:Nat}
theorem Cv {l:List Value}{T:Nat}{fr:Nat×Nat}[h:InL b X (.cells l.toArray T fr)](vs:List Value)(he:(l.drop off).take n=vs)(hl:vs.length=n)(hk:K (.agg vs.toArray) I L):Rv (some (Stay I0 X)) (AD n (.pointer (some ⟨b,off,none⟩))) K I L:=
 ADg hl (λI' L' hS j u hu=>Cell.own (hS.2 _ h.mem) (by
  subst he;rw [List.getElem?_take] at hu;split at hu
  ·rw [List.getElem?_drop] at hu;simpa using hu
  ·cases hu)) hk
theorem stP {l vs:List Value}(l':List Value)[h:InL b L (.cells l.toArray T (0,0))](he:l.take off++(vs++l.drop (off+n))=l')(hl:vs.length=n)(hleb:Nat.ble (off+n) l.length=true)(h1:vs.all (·.oneCell')=true)[u:UpL b L (.cells l.toArray T (0,0)) (.cells l'.toArray T (0,0)) L'](hk:K undef I L'):
  Sto n (.pointer (some ⟨b,off,none⟩)) (.agg vs.toArray) (gh K) I L:=by
 have hle:=Nat.le_of_ble_eq_true hleb;obtain ⟨L1,L2,rfl,rfl⟩:=u.up;refine ⟨b,off,l.toArray,T,L1,L2,rfl,by simp [Value.cells,hl],by simpa [Value.cells] using AH h1,by simpa using hle,rfl,?_⟩;simp only [Value.cells];rw [QH vs l.toArray off (by simp;omega)];subst he;refine Gh.done ?_;rw [hl];simpa using hk
theorem DF {v:Value}{l:List UInt8}{I0:Imm}(h:Bytes I0 v l)(hI:Ext I0 I)(hk:K (.string ⟨l.toArray⟩) I L):Rv none (bsR v) K I L:=⟨_,Bytes.str (h.mono hI),hk⟩
theorem Bd {v:Value}{l:List UInt8}{I1:Imm}{X:LH}(h:Bytes I0 v l)(hI:Ext I0 I1)(hk:K (.string ⟨l.toArray⟩) I L):Rv (some (Stay I1 X)) (bsR v) K I L:=
 ⟨_,λI' L' hS=>Bytes.str (h.mono (hI.trans hS.1)),hk⟩
theorem RP {l:List Int}{i:Int}(h0:0≤i)(h1:i < l.length):((RQ l).drop (i.toNat * 1)).take 1=[.int .i64 (Dk l i)]:=by
 have hk:i.toNat < l.length:=by omega
 rw [Nat.mul_one,List.drop_eq_getElem_cons (by simpa [RQ] using hk),List.take_succ_cons];simp [RQ,Dk,List.getD,hk]
theorem ints_at {v:Value}{l:List Int}{i:Int}(h:Ints I v l)(h0:0≤i)(h1:i < l.length):∃b off,ixV 1 v (.int .i64 i)=some (.pointer (some ⟨b,off,none⟩))∧∀I' L,Ext I I'→Cell I' L b off (.int .i64 (Dk l i)):=by
 obtain ⟨a,cap,rfl⟩:=Ints.form h;obtain ⟨b,off,hix,hc⟩:=News.ix (L:=[]) (SlI.news h) .i64 h0 h1;rw [RP h0 h1] at hc;exact ⟨b,off,hix,λI' L hI=>hc I' L hI (λ_ h=>by cases h) 0 _ rfl⟩
end
class MemB (x:Nat×Obj) (L:LH):Prop where
 mem:x∈L
instance memBRight (x:Nat×Obj)(A L:LH)[h:MemB x L]:MemB x (A++L):=⟨List.mem_append_right _ h.mem⟩
instance memBThere (x y:Nat×Obj)(L:LH)[h:MemB x L]:MemB x (y::L):=⟨List.mem_cons_of_mem _ h.mem⟩
instance memBHere (x:Nat×Obj)(L:LH):MemB x (x::L):=⟨List.mem_cons_self ..⟩
instance (priority:=70) lsubConsL (x:Nat×Obj)(X L:LH)[h:MemB x L][h':LSub X L]:LSub (x::X) L:=⟨λy hy=>by
 rcases List.mem_cons.1 hy with rfl|hy
 ·exact h.mem
 ·exact h'.sub y hy⟩
class DelB (b:Nat) (L:LH) (L':outParam LH):Prop where
 sub:∀x∈L',x∈L
instance delBThere (b:Nat)(x:Nat×Obj)(L L':LH)[h:DelB b L L']:DelB b (x::L) (x::L'):=⟨λy hy=>by
 rcases List.mem_cons.1 hy with rfl|hy
 ·exact List.mem_cons_self ..
 ·exact List.mem_cons_of_mem _ (h.sub y hy)⟩
instance delBHere (b:Nat)(o:Obj)(L:LH):DelB b ((b,o)::L) L:=⟨λy hy=>List.mem_cons_of_mem _ hy⟩
theorem AMp {I:Imm}{L X:LH}{B:M→M}(b:Nat)[h:DelB b L X](hB:B (Stay I X) I L):AY B I L:=draw _ ⟨Ext.refl I,h.sub⟩ hB
theorem Gq {I:Imm}{L X:LH}{B:M→M}{b off:Nat}[h:DelB b L X](hB:B (Stay I X) I L):NA [.pointer (some ⟨b,off,none⟩)] B I L:=draw _ ⟨Ext.refl I,h.sub⟩ hB
theorem Mk {I:Imm}{L X Y:LH}{B:M→M}{b off c off':Nat}[h:DelB b L X][h':DelB c X Y](hB:B (Stay I Y) I L):NA [.pointer (some ⟨b,off,none⟩),.pointer (some ⟨c,off',none⟩)] B I L:=draw _ ⟨Ext.refl I,λx hx=>h.sub x (h'.sub x hx)⟩ hB
class PickB (b:Nat) (L:LH) (o:outParam Obj) (R:outParam LH):Prop where
 perm:L.Perm ((b,o)::R)
instance pickBRight (b:Nat)(o:Obj)(A L R:LH)[h:PickB b L o R]:PickB b (A++L) o (A++R):=⟨(List.Perm.append_left A h.perm).trans List.perm_middle⟩
instance pickBThere (b:Nat)(o:Obj)(y:Nat×Obj)(L R:LH)[h:PickB b L o R]:PickB b (y::L) o (y::R):=⟨(List.Perm.cons y h.perm).trans (List.Perm.swap ..)⟩
instance pickBHere (b:Nat)(o:Obj)(R:LH):PickB b ((b,o)::R) o R:=⟨List.Perm.refl _⟩
theorem Cal.pick {P:Program}{ω:Om}{f:FuncId}{args:Array Value}{K:Value→M}{I:Imm}{L R:LH}(b:Nat){o:Obj}[h:PickB b L o R](hc:Cal P ω f args K I ((b,o)::R)):Cal P ω f args K I L:=λw hs=>hc w (hs.perm h.perm)
section
variable {α:Type}{R:Imm→α→List Value→Prop}{I:Imm}{T n bytes:Nat}{z:Array Value}{X6 L0 F:LH}{v:Value}{xs:List α}{x:α}{c cells:List Value}{K:Value→M}
theorem DD [SplitL X6 L0 F](hz:z.size=n)(hn:0 < n)(h6:SlO T n X6 v cells xs.length)(hR:Recs (R I) n xs cells)(hx:R I x c)(hcl:c.length=n)(h1:∀u∈c,u.oneCell'=true)(hb:(xs.length+1) * bytes≤150000000000000)(hl:xs.length+1≤150000000000000)
  (hk:∀X1 X6' v' cells',SlO T n X6' v' cells' (xs++[x]).length→Recs (R I) n (xs++[x]) cells'→K v' I (X6'++(X1++F))):
  Aq T n z 1 [(0,.agg c.toArray)] (gh λu=>App T n bytes z v u (gh K)) I L0:=by
 refine EH hz hn (by simpa [Value.cells] using hcl) (λX1 u hX1=>?_);refine DX (X:=X6) hz h6 (hX1.news (λx hx=>List.mem_append_left _ hx)) (λu hu=>h1 u (by simpa [Value.cells] using hu)) hb hl (λX' v' hX'=>?_);exact hk X1 X' v' _ (by simpa [Value.cells] using hX') (Recs.append hR (Recs.one (by simpa [Value.cells] using hcl) (by simpa [Value.cells] using hx)))
theorem GY {I0:Imm}{Y:LH}[SplitL X6 L0 F](hI0:Ext I0 I)(hY:∀y∈Y,y∈L0)(hz:z.size=n)(hn:0 < n)(h6:SlO T n X6 v cells xs.length)(hR:Recs (R I) n xs cells)(hx:R I x c)(hcl:c.length=n)(h1:∀u∈c,u.oneCell'=true)(hb:(xs.length+1) * bytes≤150000000000000)(hl:xs.length+1≤150000000000000)
  (hk:∀X1 X6' a' c' cells',SlO T n X6' (.slice a' (xs++[x]).length c') cells' (xs++[x]).length→Recs (R I) n (xs++[x]) cells'→K (.slice a' (xs++[x]).length c') I (X6'++(X1++F))):
  Aq T n z 1 [(0,.agg c.toArray)] (gh (BW (Stay I0 Y) λu=>App T n bytes z v u (gh K))) I L0:=by
 refine EH hz hn (by simpa [Value.cells] using hcl) (λX1 u hX1=>?_);refine Vy hI0 (λy hy=>List.mem_append_right _ (hY y hy)) ?_;refine DX (X:=X6) hz h6 (hX1.news (λx hx=>List.mem_append_left _ hx)) (λu hu=>h1 u (by simpa [Value.cells] using hu)) hb hl (λX' v' hX'=>?_);obtain ⟨a',c',rfl⟩:=hX'.form;have e:xs.length+1=(xs++[x]).length:=by simp
 rw [e] at hX' ⊢;exact hk X1 X' a' c' _ (by simpa [Value.cells] using hX') (Recs.append hR (Recs.one (by simpa [Value.cells] using hcl) (by simpa [Value.cells] using hx)))
theorem RL.ofO {A:M}{X F:LH}(hm:∀{I I':Imm} {x:α} {c:List Value},R I x c→Ext I I'→R I' x c)(h:SlO T n X v cells xs.length)(hR:Recs (R I) n xs cells)(hk:∀I',Ext I I'→RL R n I' [] v xs→Gh A I' F):Gh A I (X++F):=
 SlO.freeze h (λI' hI hS=>hk I' hI (RL.ofI hS (hR.imp λ_ _ h=>hm h hI)))
end
end Go.SL
namespace Go.Proofs.YtmmfcgbfbcamcaaGreatDoor
open Go.SL
theorem SSd:type_of% (And.intro @Cl<|And.intro @AEQ<|And.intro @ADt<|And.intro @ADu<|And.intro @AEH<|And.intro @AEi<|And.intro @AMc<|And.intro @ADz<|And.intro @AEB<|And.intro @Yb<|And.intro @UA<|And.intro @UB<|And.intro @Vn<|And.intro @Vo<|And.intro @AIm<|And.intro @AEW<|And.intro @SD<|And.intro @Rp<|And.intro @Rt<|And.intro @Rz<|And.intro @Rq<|And.intro @Ru<|And.intro @Rw<|And.intro @Rx<|And.intro @Ry<|And.intro @SC<|And.intro @WJ<|And.intro @SG<|And.intro @SF<|And.intro @sEq<|And.intro @sNe<|And.intro @sLt<|And.intro @sLe<|And.intro @sGt<|And.intro @sGe<|And.intro @UE<|And.intro @KP<|And.intro @RW<|And.intro @RU<|And.intro @Iu<|And.intro @Ir<|And.intro @Ix<|And.intro @Iw<|And.intro @KE<|And.intro @KD<|And.intro @LA<|And.intro @JC<|And.intro @WP<|And.intro @WR<|And.intro @WQ<|And.intro @WS<|And.intro @Oc<|And.intro (@List.getElem?_toArray Value)<|And.intro (@List.getElem?_cons_zero Value)<|And.intro (@List.getElem?_cons_succ Value)<|And.intro @Nat.zero_add<|And.intro @Nat.add_zero<|And.intro @Nat.zero_mul<|And.intro (@List.drop_succ_cons Value)<|And.intro (@List.drop_zero Value)<|And.intro (@List.take_succ_cons Value)<|And.intro (@List.take_zero Value)<|And.intro (@List.nil_append Value)<|And.intro (@List.cons_append Value)<|And.intro (@List.drop_nil Value)<|And.intro (@List.take_nil Value)<|And.intro @AJB<|And.intro @AJA<|And.intro @AIz<|And.intro @AIy<|And.intro @AIx<|And.intro @AIw<|And.intro @AIv<|And.intro @AIu<|And.intro @AIt<|And.intro @AFh<|And.intro @AFg<|And.intro @AFf<|And.intro @AFe<|And.intro @AFd<|And.intro @AFc<|And.intro @AFb<|And.intro @AFa<|And.intro @AFZ<|And.intro @AFY<|And.intro @AFX<|And.intro @AFW<|And.intro @AFV<|And.intro @AFU<|And.intro @AFT<|And.intro @AFS<|And.intro @AFR<|And.intro @AFQ<|And.intro @AFP<|And.intro @AFO<|And.intro @AFN<|And.intro @AFM<|And.intro @AFL<|And.intro @AFK<|And.intro @AFJ<|And.intro @AFI<|And.intro @AFH<|And.intro @AFG<|And.intro @AFF<|And.intro @AFE<|And.intro @AFD<|And.intro @AFC<|And.intro @AFB<|And.intro @AFA<|And.intro @AEz<|And.intro @AEy<|And.intro @AEx<|And.intro @AEw<|And.intro @AEv<|And.intro @AEu<|And.intro (@List.nil_append (Nat×Obj))<|(@List.cons_append (Nat×Obj))):=And.intro @Cl<|And.intro @AEQ<|And.intro @ADt<|And.intro @ADu<|And.intro @AEH<|And.intro @AEi<|And.intro @AMc<|And.intro @ADz<|And.intro @AEB<|And.intro @Yb<|And.intro @UA<|And.intro @UB<|And.intro @Vn<|And.intro @Vo<|And.intro @AIm<|And.intro @AEW<|And.intro @SD<|And.intro @Rp<|And.intro @Rt<|And.intro @Rz<|And.intro @Rq<|And.intro @Ru<|And.intro @Rw<|And.intro @Rx<|And.intro @Ry<|And.intro @SC<|And.intro @WJ<|And.intro @SG<|And.intro @SF<|And.intro @sEq<|And.intro @sNe<|And.intro @sLt<|And.intro @sLe<|And.intro @sGt<|And.intro @sGe<|And.intro @UE<|And.intro @KP<|And.intro @RW<|And.intro @RU<|And.intro @Iu<|And.intro @Ir<|And.intro @Ix<|And.intro @Iw<|And.intro @KE<|And.intro @KD<|And.intro @LA<|And.intro @JC<|And.intro @WP<|And.intro @WR<|And.intro @WQ<|And.intro @WS<|And.intro @Oc<|And.intro (@List.getElem?_toArray Value)<|And.intro (@List.getElem?_cons_zero Value)<|And.intro (@List.getElem?_cons_succ Value)<|And.intro @Nat.zero_add<|And.intro @Nat.add_zero<|And.intro @Nat.zero_mul<|And.intro (@List.drop_succ_cons Value)<|And.intro (@List.drop_zero Value)<|And.intro (@List.take_succ_cons Value)<|And.intro (@List.take_zero Value)<|And.intro (@List.nil_append Value)<|And.intro (@List.cons_append Value)<|And.intro (@List.drop_nil Value)<|And.intro (@List.take_nil Value)<|And.intro @AJB<|And.intro @AJA<|And.intro @AIz<|And.intro @AIy<|And.intro @AIx<|And.intro @AIw<|And.intro @AIv<|And.intro @AIu<|And.intro @AIt<|And.intro @AFh<|And.intro @AFg<|And.intro @AFf<|And.intro @AFe<|And.intro @AFd<|And.intro @AFc<|And.intro @AFb<|And.intro @AFa<|And.intro @AFZ<|And.intro @AFY<|And.intro @AFX<|And.intro @AFW<|And.intro @AFV<|And.intro @AFU<|And.intro @AFT<|And.intro @AFS<|And.intro @AFR<|And.intro @AFQ<|And.intro @AFP<|And.intro @AFO<|And.intro @AFN<|And.intro @AFM<|And.intro @AFL<|And.intro @AFK<|And.intro @AFJ<|And.intro @AFI<|And.intro @AFH<|And.intro @AFG<|And.intro @AFF<|And.intro @AFE<|And.intro @AFD<|And.intro @AFC<|And.intro @AFB<|And.intro @AFA<|And.intro @AEz<|And.intro @AEy<|And.intro @AEx<|And.intro @AEw<|And.intro @AEv<|And.intro @AEu<|And.intro (@List.nil_append (Nat×Obj))<|(@List.cons_append (Nat×Obj))
theorem SSg:type_of% (And.intro @Bool.not_true<|And.intro @Bool.not_false<|And.intro @Bool.and_self<|And.intro @Bool.true_and<|And.intro @decide_true<|And.intro @decide_false<|And.intro @LA<|And.intro @JC<|And.intro @WP<|And.intro @WR<|And.intro @WQ<|@WS):=And.intro @Bool.not_true<|And.intro @Bool.not_false<|And.intro @Bool.and_self<|And.intro @Bool.true_and<|And.intro @decide_true<|And.intro @decide_false<|And.intro @LA<|And.intro @JC<|And.intro @WP<|And.intro @WR<|And.intro @WQ<|@WS
section
variable {ω:Om}{I:Imm}{L:LH}{K:Value→M}
theorem Vw {a b:Int}(h:K (.int .i64 a) I L)(e:a=b):K (.int .i64 b) I L:=e ▸ h
theorem Γ {P Q:Prop}(k:Q)(h:Q→P:=by intro hq;first|(with_reducible refine AZ ?_;exact hq)|(with_reducible refine Gq ?_;exact hq)|(with_reducible refine Mk ?_;exact hq)|(with_reducible refine keepA ?_;exact hq)):P:=h k
theorem Δ {P Q:Prop}(k:Q)(h:Q→P:=by intro hq;first|(with_reducible refine rdb ?_;exact hq)|((with_reducible first|refine st1 ?_ ?_|refine rdB ?_ ?_);rfl;exact hq)|(with_reducible refine Ab ?_;exact hq)|((with_reducible refine Ck ?_ ?_);rfl;exact hq)|((with_reducible refine stB ?_ ?_ ?_ ?_);rfl;rfl;exact AH rfl;exact hq)|((with_reducible first|refine rdP _ rfl ?_ ?_|refine Cv _ rfl ?_ ?_);rfl;exact hq)|((with_reducible refine stP _ rfl ?_ ?_ ?_ ?_);rfl;rfl;rfl;exact hq)):P:=h k
theorem Φ {P Q:Prop}(k:Q)(h:Q→P:=by intro hq;first|(simp only [SSg,Int.reduceBEq,Int.reduceBNe,Int.reduceLT,Int.reduceLE,beq_self_eq_true,bne_self_eq_false];exact hq)):P:=h k
theorem Ψ {P Q:Prop}(k:Q)(h:Q→P:=by intro hq;first|(with_reducible refine call ?_;exact hq)):P:=h k
theorem O {P Q:Prop}(k:Q)(h:Q→P:=by intro hq;first|(simp only [SSd,Nat.reduceAdd];exact hq)):P:=h k
theorem Ξ {P A B C D:Prop}(k:A→C)(l:B→D)(h:(A→C)→(B→D)→P:=by intro h1 h2;with_reducible first|exact AV h1 h2|exact AF h1 h2):P:=h k l
theorem Θ {P:Prop}{α:Type}{Q:α→Prop}(k:∀x,Q x)(h:(∀x,Q x)→P:=by intro h;with_reducible exact AQ h):P:=h k
theorem Tc {v w:Value}{a b:List UInt8}(hv:Bytes I v a)(hw:Bytes I w b)(hk:K (.bool (a==b)) I L):CT ω 77 #[v,w] K I L:=by
 refine ANK ?_;unfold AJV;refine DF hv (Ext.refl _) (DF hw (Ext.refl _) ?_);try refine O ?_
 exact Gh.done hk
theorem MP {a:Int}(hk:K (.bool false) I L):CT ω 245 #[.int .i64 a] K I L:=by
 refine AKX ?_;unfold ZP;simp only [SSd,Nat.reduceAdd,bne_self_eq_false];exact Gh.done hk
def NQ (a b:Int):Int:=if a < b then -1 else if b < a then 1 else 0
theorem NT {a b:Int}(hk:K (.int .i64 (NQ a b)) I L):CT ω 220 #[.int .i64 a,.int .i64 b] K I L:=by
 refine AKm ?_;unfold sh220;refine call (MP ?_);refine call (MP ?_);repeat' (first|refine Γ ?_|refine Θ (λ_=>?_)|refine Δ ?_|(with_reducible first|refine AK (sh220.eq_1 ..) ?_|refine And.intro ?_ ?_)|refine Φ ?_|refine Ξ (λ_=>?_) (λ_=>?_)|refine O ?_|fail)
 all_goals (refine Gh.done (Vw hk ?_);unfold NQ;repeat' split)
 all_goals (simp_all <;> omega)
theorem AHw {bb off cap:Nat}{a b:Int}(h:Cells I L bb off [.int .i64 a,.int .i64 b])(hk:K (.int .i64 (if a≠0 then a else b)) I L):CT ω 219 #[.slice (some ⟨bb,off,none⟩) 2 cap] K I L:=by
 refine AKn ?_;unfold AAU;try refine O ?_
 refine loop (λm s I' L'=>I'=I∧L'=L∧∃k:Nat,k+m=2∧s=(.int .i64 0,.int .i64 k,())∧(0 < k→a=0)∧(1 < k→b=0)) 2 ⟨rfl,rfl,0,rfl,rfl,by omega,by omega⟩ ?_;rintro m s I' L' ⟨rfl,rfl,k,hkm,rfl,h1,h2⟩;unfold Ub;try refine O ?_
 refine AF (λhlt=>?_) (λhlt=>?_)
 ·simp at hlt;have hix:=HP bb off 1 .i64 2 cap k (by omega) (by omega);have hc:Cell I' L' bb (off+(k:Int).toNat * 1) (.int .i64 (Dk [a,b] (k:Int))):=by
   match k,hlt with
   |0,_=>exact h 0 _ rfl
   |1,_=>exact h 1 _ rfl
  simp only [hix,SSd,Nat.reduceAdd];refine rd1 hc ?_;simp only [SSd,Nat.reduceAdd,wrap_i64 ((k:Int)+1) (by omega)];refine AF (λh0=>Gh.done (Vw hk ?_)) (λh0=>Gh.done ⟨m - 1,by omega,rfl,rfl,k+1,by omega,by simp,?_,?_⟩)
  ·match k,h1,h2,hlt,h0 with
   |0,_,_,_,h0=>simp [Dk] at h0 ⊢;intro e;exact absurd e h0
   |1,h1,_,_,h0=>simp [Dk,h1]
  ·intro _;match k,h1,h2,hlt,h0 with
   |0,_,_,_,h0=>simpa [Dk] using h0
   |1,h1,_,_,h0=>exact h1 (by omega)
  ·intro _;match k,h1,h2,hlt,h0 with
   |0,_,_,_,h0=>omega
   |1,h1,_,_,h0=>simpa [Dk] using h0
 ·simp at hlt;have e1:=h1 (by omega);have e2:=h2 (by omega);exact Gh.done (Vw hk (by simp [e1,e2]))
def NE (a b:TStamp):Int:=if NQ a.fWall b.fWall≠0 then NQ a.fWall b.fWall else NQ a.fLogic b.fLogic
def bhd (a b:TStamp):Bool:=decide (b.fWall < a.fWall∨(a.fWall=b.fWall∧b.fLogic < a.fLogic))
theorem La (a b:TStamp):decide (NE a b > 0)=bhd a b:=by
 unfold NE bhd NQ;by_cases h1:a.fWall < b.fWall <;> by_cases h2:b.fWall < a.fWall <;> by_cases h3:a.fLogic < b.fLogic <;> by_cases h4:b.fLogic < a.fLogic <;> simp [h1,h2,h3,h4] <;> omega
abbrev sv (x:TStamp):Value:=.agg #[.int .i64 x.fWall,.int .i64 x.fLogic]
theorem DS {x y:TStamp}(hk:K (.int .i64 (NE x y)) I L):CT ω 158 #[sv x,sv y] K I L:=by
 refine ALW ?_;unfold sh158;repeat' (first|refine Γ ?_|refine Θ (λ_=>?_)|(refine Ψ ?_;refine (NT ?_))|refine Δ ?_|(with_reducible first|refine AK (sh158.eq_1 ..) ?_|refine And.intro ?_ ?_)|refine Φ ?_|refine Ξ (λ_=>?_) (λ_=>?_)|refine O ?_|fail)
 refine ⟨#[.int .i64 (NQ x.fWall y.fWall),.int .i64 (NQ x.fLogic y.fLogic)],by kernel_rfl,λbb=>?_⟩;refine Gh.done (call (AHw (λj u hu=>Cell.own (List.mem_cons_self ..) (by simpa using hu)) ?_));exact Gh.to L (Gh.done hk)
theorem DR {x y:TStamp}(hk:K (.int .i64 (NE x y)) I L):CT ω 42 #[sv x,sv y] K I L:=by
 refine ANc ?_;unfold sh42;repeat' (first|refine Γ ?_|refine Θ (λ_=>?_)|refine Δ ?_|(with_reducible first|refine AK (sh42.eq_1 ..) ?_|refine And.intro ?_ ?_)|refine Φ ?_|refine Ξ (λ_=>?_) (λ_=>?_)|refine O ?_|fail)
 all_goals (refine Gh.to L (Gh.done (Vw hk ?_));unfold NE NQ;simp_all <;> omega)
theorem BF {x y:TStamp}(hk:K (.bool (bhd x y)) I L):CT ω 213 #[sv x,sv y] K I L:=by
 rw [←La] at hk;refine AKt ?_;unfold sh213;repeat' (first|refine Γ ?_|refine Θ (λ_=>?_)|(refine Ψ ?_;refine (DS ?_))|refine Δ ?_|(with_reducible first|refine AK (sh213.eq_1 ..) ?_|refine And.intro ?_ ?_)|refine Φ ?_|refine Ξ (λ_=>?_) (λ_=>?_)|refine O ?_|fail)
 exact Gh.to L (Gh.done hk)
theorem Ah {x y:TStamp}(hk:K (.bool (bhd x y)) I L):CT ω 109 #[sv x,sv y] K I L:=by
 rw [←La] at hk;refine AMH ?_;unfold sh109;repeat' (first|refine Γ ?_|refine Θ (λ_=>?_)|(refine Ψ ?_;refine (DR ?_))|refine Δ ?_|(with_reducible first|refine AK (sh109.eq_1 ..) ?_|refine And.intro ?_ ?_)|refine Φ ?_|refine Ξ (λ_=>?_) (λ_=>?_)|refine O ?_|fail)
 exact Gh.to L (Gh.done hk)
def IG (n:Int):Bool:=decide (0≤n∧n≤9007199254740991)
def AN (s:TStamp):Bool:=IG s.fWall&&decide (0≤s.fLogic∧s.fLogic≤65535)
theorem WW {a:Int}(hk:K (.bool (IG a)) I L):CT ω 146 #[.int .i64 a] K I L:=by
 refine ALi ?_;unfold sh146;repeat' (first|refine Γ ?_|refine Θ (λ_=>?_)|refine Δ ?_|(with_reducible first|refine AK (sh146.eq_1 ..) ?_|refine And.intro ?_ ?_)|refine Φ ?_|refine Ξ (λ_=>?_) (λ_=>?_)|refine O ?_|fail)
 all_goals (refine Gh.done (CA hk ?_);simp_all [IG] <;> omega)
theorem So {a:Int}(hk:K (.bool (IG a)) I L):CT ω 122 #[.int .i64 a] K I L:=by
 refine ALu ?_;unfold sh122;repeat' (first|refine Γ ?_|refine Θ (λ_=>?_)|refine Δ ?_|(with_reducible first|refine AK (sh122.eq_1 ..) ?_|refine And.intro ?_ ?_)|refine Φ ?_|refine Ξ (λ_=>?_) (λ_=>?_)|refine O ?_|fail)
 all_goals (refine Gh.done (CA hk ?_);simp_all [IG] <;> omega)
theorem Bb {x:TStamp}(hk:K (.bool (AN x)) I L):CT ω 89 #[.agg #[.int .i64 x.fWall,.int .i64 x.fLogic]] K I L:=by
 refine ANC ?_;unfold sh89;repeat' (first|refine Γ ?_|refine Θ (λ_=>?_)|(refine Ψ ?_;refine (WW ?_))|refine Δ ?_|(with_reducible first|refine AK (sh89.eq_1 ..) ?_|refine And.intro ?_ ?_)|refine Φ ?_|refine Ξ (λ_=>?_) (λ_=>?_)|refine O ?_|fail)
 all_goals (refine Gh.to L (Gh.done (CA hk ?_));simp_all [AN] <;> omega)
theorem Bl {x:TStamp}(hk:K (.bool (AN x)) I L):CT ω 66 #[.agg #[.int .i64 x.fWall,.int .i64 x.fLogic]] K I L:=by
 refine ANO ?_;unfold sh66;repeat' (first|refine Γ ?_|refine Θ (λ_=>?_)|(refine Ψ ?_;refine (So ?_))|refine Δ ?_|(with_reducible first|refine AK (sh66.eq_1 ..) ?_|refine And.intro ?_ ?_)|refine Φ ?_|refine Ξ (λ_=>?_) (λ_=>?_)|refine O ?_|fail)
 all_goals (refine Gh.to L (Gh.done (CA hk ?_));simp_all [AN] <;> omega)
def BU (n:Int):Bool:=decide (1≤n∧n≤9007199254740991)
theorem Da {a:Int}(hk:K (.bool (BU a)) I L):CT ω 217 #[.int .i64 a] K I L:=by
 refine AKp ?_;unfold sh217;repeat' (first|refine Γ ?_|refine Θ (λ_=>?_)|refine Δ ?_|(with_reducible first|refine AK (sh217.eq_1 ..) ?_|refine And.intro ?_ ?_)|refine Φ ?_|refine Ξ (λ_=>?_) (λ_=>?_)|refine O ?_|fail)
 all_goals (refine Gh.done (CA hk ?_);simp_all [BU] <;> omega)
theorem EK {a:Int}(hk:K (.bool (BU a)) I L):CT ω 123 #[.int .i64 a] K I L:=by
 refine ALt ?_;unfold sh123;repeat' (first|refine Γ ?_|refine Θ (λ_=>?_)|refine Δ ?_|(with_reducible first|refine AK (sh123.eq_1 ..) ?_|refine And.intro ?_ ?_)|refine Φ ?_|refine Ξ (λ_=>?_) (λ_=>?_)|refine O ?_|fail)
 all_goals (refine Gh.done (CA hk ?_);simp_all [BU] <;> omega)
def Ai (n:Int):Bool:=n==0||BU n
theorem Fu {a:Int}(hk:K (.bool (Ai a)) I L):CT ω 108 #[.int .i64 a] K I L:=by
 refine AMI ?_;unfold sh108;repeat' (first|refine Γ ?_|refine Θ (λ_=>?_)|(refine Ψ ?_;refine (EK ?_))|refine Δ ?_|(with_reducible first|refine AK (sh108.eq_1 ..) ?_|refine And.intro ?_ ?_)|refine Φ ?_|refine Ξ (λ_=>?_) (λ_=>?_)|refine O ?_|fail)
 all_goals (refine Gh.done (CA hk ?_);simp_all [Ai] <;> omega)
theorem Mx {x:TStamp}{a:Int}(hk:K (.bool (AN x&&Ai a)) I L):CT ω 212 #[sv x,.int .i64 a] K I L:=by
 refine AKu ?_;unfold sh212;repeat' (first|refine Γ ?_|refine Θ (λ_=>?_)|(refine Ψ ?_;refine (Da ?_))|(refine Ψ ?_;refine (Bb ?_))|refine Δ ?_|(with_reducible first|refine AK (sh212.eq_1 ..) ?_|refine And.intro ?_ ?_)|refine Φ ?_|refine Ξ (λ_=>?_) (λ_=>?_)|refine O ?_|fail)
 all_goals (refine Gh.to L (Gh.done (CA hk ?_));simp_all [Ai] <;> omega)
def Aj (l:List UInt8):Bool:=decide (1≤l.length∧l.length≤110)
theorem Cx {v:Value}{l:List UInt8}(h:Bytes I v l)(hk:K (.bool (Aj l)) I L):CT ω 143 #[v] K I L:=by
 obtain ⟨a,c,rfl⟩:=Bytes.form h;refine ALl ?_;unfold sh143;repeat' (first|refine Γ ?_|refine Θ (λ_=>?_)|refine Δ ?_|(with_reducible first|refine AK (sh143.eq_1 ..) ?_|refine And.intro ?_ ?_)|refine Φ ?_|refine Ξ (λ_=>?_) (λ_=>?_)|refine O ?_|fail)
 all_goals (refine Gh.done (CA hk ?_);rw [Bool.eq_iff_iff];simp only [Aj,ne_eq,decide_eq_true_eq,decide_eq_false_iff_not,Bool.false_eq_true,iff_false] at *; omega)
theorem EL {v:Value}{l:List UInt8}(h:Bytes I v l)(hk:K (.bool (Aj l)) I L):CT ω 68 #[v] K I L:=by
 obtain ⟨a,c,rfl⟩:=Bytes.form h;refine ANM ?_;unfold sh68;repeat' (first|refine Γ ?_|refine Θ (λ_=>?_)|refine Δ ?_|(with_reducible first|refine AK (sh68.eq_1 ..) ?_|refine And.intro ?_ ?_)|refine Φ ?_|refine Ξ (λ_=>?_) (λ_=>?_)|refine O ?_|fail)
 all_goals (refine Gh.done (CA hk ?_);rw [Bool.eq_iff_iff];simp only [Aj,ne_eq,decide_eq_true_eq,decide_eq_false_iff_not,Bool.false_eq_true,iff_false] at *; omega)
def Bs (s:TStamp):TStamp×Int:=if AN s=false then (⟨0,0⟩,80) else if s.fLogic < 65535 then (⟨s.fWall,s.fLogic+1⟩,0) else if s.fWall=9007199254740991 then (⟨0,0⟩,82) else (⟨s.fWall+1,0⟩,0)
theorem Ju {p q:TStamp×Int}(h:K (.tuple #[sv p.1,.int .i64 p.2]) I L)(e:p=q):K (.tuple #[sv q.1,.int .i64 q.2]) I L:=e ▸ h
theorem CM {x:TStamp}(h:AN x=true):(0≤x.fWall∧x.fWall≤9007199254740991)∧0≤x.fLogic∧x.fLogic≤65535:=by
 simpa [AN,IG] using h
theorem MX {x:TStamp}(hk:K (.tuple #[sv (Bs x).1,.int .i64 (Bs x).2]) I L):CT ω 216 #[sv x] K I L:=by
 refine AKq ?_;unfold sh216;repeat' (first|refine Γ ?_|refine Θ (λ_=>?_)|(refine Ψ ?_;refine (Bb ?_))|refine Δ ?_|(with_reducible first|refine AK (sh216.eq_1 ..) ?_|refine And.intro ?_ ?_)|refine Φ ?_|refine Ξ (λ_=>?_) (λ_=>?_)|refine O ?_|fail)
 all_goals (refine Gh.to L (Gh.done ?_))
 ·exact Ju (q:=(⟨0,0⟩,80)) hk (by simp_all [Bs])
 ·rename_i e1 e2
  have hr:=CM (x:=x) (by simpa using e1);exact Ju (q:=(⟨0,0⟩,82)) hk (by simp_all [Bs])
 ·rename_i e1 e2 e3
  have hr:=CM (x:=x) (by simpa using e1);rw [wrap_i64 _ (by omega)];simp at e1 e2 e3;exact Ju (q:=(⟨x.fWall+1,0⟩,0)) hk (by
   have:x.fWall≠9007199254740991:=λe=>e2 e e3;simp [Bs,e1,e3,this])
 ·rename_i e1 e2 e3
  have hr:=CM (x:=x) (by simpa using e1);rw [wrap_i64 _ (by omega)];simp at e1 e2 e3;exact Ju (q:=(⟨x.fWall,x.fLogic+1⟩,0)) hk (by
   have:x.fLogic < 65535:=by omega
   simp [Bs,e1,this])
theorem Li {x:TStamp}(hk:K (.tuple #[sv (Bs x).1,.int .i64 (Bs x).2]) I L):CT ω 226 #[sv x] K I L:=by
 refine AKh ?_;unfold sh226;repeat' (first|refine Γ ?_|refine Θ (λ_=>?_)|(refine Ψ ?_;refine (Bl ?_))|refine Δ ?_|(with_reducible first|refine AK (sh226.eq_1 ..) ?_|refine And.intro ?_ ?_)|refine Φ ?_|refine Ξ (λ_=>?_) (λ_=>?_)|refine O ?_|fail)
 all_goals (refine Gh.to L (Gh.done ?_))
 ·exact Ju (q:=(⟨0,0⟩,80)) hk (by simp_all [Bs])
 ·rename_i e1 e2
  have hr:=CM (x:=x) (by simpa using e1);rw [wrap_i64 _ (by omega)];simp at e1 e2;exact Ju (q:=(⟨x.fWall,x.fLogic+1⟩,0)) hk (by simp [Bs,e1,e2])
 ·rename_i e1 e2 e3
  simp at e1 e2 e3;exact Ju (q:=(⟨0,0⟩,82)) hk (by
   have:¬(x.fLogic < 65535):=by omega
   simp [Bs,e1,this,e3])
 ·rename_i e1 e2 e3
  have hr:=CM (x:=x) (by simpa using e1);rw [wrap_i64 _ (by omega)];simp at e1 e2 e3;exact Ju (q:=(⟨x.fWall+1,0⟩,0)) hk (by
   have:¬(x.fLogic < 65535):=by omega
   simp [Bs,e1,this,e3])
def inB (p:TSpan)(k:List UInt8):Bool:= !(blt k p.fFrom)&&(p.fTo.length==0||blt k p.fTo)
theorem FA {p:TSpan}{c:List Value}{kv:Value}{k:List UInt8}(hp:DO I p c)(h:Bytes I kv k)(hk:K (.bool (inB p k)) I L):CT ω 46 #[.agg c.toArray,kv] K I L:=by
 obtain ⟨v0,v1,rfl,h0,h1⟩:=hp;refine ANa ?_;unfold sh46;repeat' (first|refine Γ ?_|refine Θ (λ_=>?_)|(refine DF h (Ext.refl _) ?_)|(refine DF h0 (Ext.refl _) ?_)|(refine DF h1 (Ext.refl _) ?_)|refine Δ ?_|(with_reducible first|refine AK (sh46.eq_1 ..) ?_|refine And.intro ?_ ?_)|refine Φ ?_|refine Ξ (λ_=>?_) (λ_=>?_)|(simp only [SSd,Nat.reduceAdd,Bytes.len h1]))
 all_goals (refine Gh.to L (Gh.done (CA hk ?_));simp_all [inB])
end
end Go.Proofs.YtmmfcgbfbcamcaaGreatDoor
