/- lemmas -/
import Derived.Test.YtkifgfanjcfedaaGreatDoorP4
import Derived.Test.YtkifgfanjcfedaaGreatDoorP2
import Derived.Test.YtkifgfanjcfedaaGreatDoorP3
import Derived.Laws.RangeString
set_option maxRecDepth 100000
set_option maxHeartbeats 4000000
set_option linter.unusedVariables false
set_option linter.unusedSimpArgs false
set_option linter.unusedSectionVars false
namespace Go.Proofs.YtkifgfanjcfedaaGreatDoor
open Go.SL
def sh205_9 (ω:Om)(p0 p2 p3:Value)(Kn0:(Unit)→M)(K:Value→M)(Pn:Value→M):M:=Lf 4 p3 λv41=>Pv (unV .not v41) λv42=>Gd v42 true (AQ Tryz.prog ω 43 #[p0,(zS [117,110,105,113,117,101])] Pn<|gh λv43=>Br v43 (sh205_10 ω p3 Kn0 K Pn) (sh205_11 ω p0 p2 p3 Kn0 K Pn)) (sh205_11 ω p0 p2 p3 Kn0 K Pn)
def sh205_7 (ω:Om)(p0 p2 p3:Value)(Kn0:(Unit)→M)(K:Value→M)(Pn:Value→M):M:=Lf 3 p3 λv34=>Pv (unV .not v34) λv35=>Gd v35 true (AQ Tryz.prog ω 43 #[p0,(zS [112,114,105,109,97,114,121])] Pn<|gh λv36=>Br v36 (sh205_8 ω p0 p3 Kn0 K Pn) (sh205_9 ω p0 p2 p3 Kn0 K Pn)) (sh205_9 ω p0 p2 p3 Kn0 K Pn)
def sh205_3 (ω:Om)(p0 p2 p3:Value)(Kn0:(Unit)→M)(K:Value→M)(Pn:Value→M):M:=Lf 2 p3 λv27=>Pv (unV .not v27) λv28=>Gd v28 true (AQ Tryz.prog ω 43 #[p0,(zS [110,111,116])] Pn<|gh λv29=>Br v29 (sh205_4 ω p0 p3 Kn0 K Pn) (sh205_7 ω p0 p2 p3 Kn0 K Pn)) (sh205_7 ω p0 p2 p3 Kn0 K Pn)
def sh205_2 (ω:Om)(p0 p2 p3:Value)(K:Value→M)(Pn:Value→M):M:=AQ Tryz.prog ω 93 #[p0] Pn<|gh λv25=>Am ((()):Unit) λs Kn0=>sh205_3 ω p0 p2 p3 Kn0 K Pn
def sh205_1 (ω:Om)(p0 p2 p3:Value)(K:Value→M)(Pn:Value→M):M:=Lf 1 p3 λv22=>Pv (AA .eql v22 I0) λv23=>Br v23 (AQ Tryz.prog ω 46 #[p0] Pn<|gh λv24=>sh205_2 ω p0 p2 p3 K Pn) (sh205_2 ω p0 p2 p3 K Pn)
def sh205 (ω:Om)(a0:Value)(K:Value→M)(Pn:Value→M):M:=New (.cells Zi 101 (0,0))<|gh λv1=>AQ Tryz.prog ω 96 #[a0] Pn<|gh λv2=>Pv (Ar Zi #[(0,1),(1,1),(2,1),(3,1),(4,1),(5,11)] [(0,v2)]) λv3=>New (.cells Zi 101 (0,0))<|gh λc_4=>Sto 16 c_4 v3<|gh λ_=>Pv (BI a0) λv5=>Lf 0 v5 λv7=>Pv (ixV 4 v7 I0) λv8=>Lf 0 v8 λv10=>Pv (AA .eql v10 (.int .i64 1)) λv11=>Br v11 (XN<|gh λv12=>Ep .string v12 (zS [105,110,116]) (.int .i64 1)<|gh λ_=>Ep .string v12 (zS [105,110,116,101,103,101,114]) (.int .i64 1)<|gh λ_=>Ep .string v12 (zS [98,105,103,105,110,116]) (.int .i64 1)<|gh λ_=>Ep .string v12 (zS [98,111,111,108]) (.int .i64 2)<|gh λ_=>Ep .string v12 (zS [98,111,111,108,101,97,110]) (.int .i64 2)<|gh λ_=>Ep .string v12 (zS [116,101,120,116]) (.int .i64 3)<|gh λ_=>Pv (BI a0) λv13=>Lf 0 v13 λv15=>Pv (ixV 4 v15 I0) λv16=>Lf 2 v16 λv18=>Rn (lkR .string I0 false v12 v18) λv19=>Pv (AO 1 c_4) λv20=>Sto 1 v20 v19<|gh λ_=>sh205_1 ω a0 v1 c_4 K Pn) (sh205_1 ω a0 v1 c_4 K Pn)
theorem ARi {ω:Om}{a0:Value}{K Pn:Value→M}{I:Imm}{L:LH}(h:sh205 ω a0 (λv=>Gh (K v)) (λv=>Gh (Pn v)) I L):CalP Tryz.prog ω 205 #[a0] K Pn I L:=
 zAR (cQp Tryz.func205 h (by kernel_rfl))
def QO (ω:Om)(p2 p7 p10:Value)(Kn0:(Value×Unit)→M)(K:Value→M):M:=Rn (AC 11 p7) λv9=>CW ω p2 #[v9]<|gh λv10=>Pv (AA .add p10 (.int .i64 1)) λv11=>Kn0 (v11,())
def ACI (ω:Om)(p0 p2:Value)(p8 p9 x10:Value)(Kn0:(Value×Unit)→M)(K:Value→M):M:=Pv (AA .lss x10 p9) λv2=>Br v2 (Pv (ixV 11 p8 x10) λv3=>Rn (AC 11 v3) λv4=>New (.cells Zb 37 (0,0))<|gh λx_5=>Sto 11 x_5 v4<|gh λ_=>Pv (AA .gtr x10 I0) λv6=>Br v6 (AY 9 1 Za 1 [(0,(zS [44,32]))]<|gh λv7=>CT ω 113 #[p0,v7]<|gh λv8=>QO ω p2 x_5 x10 Kn0 K) (QO ω p2 x_5 x10 Kn0 K)) (K (Value.tuple #[]))
def ANl (ω:Om)(a0 a1 a2:Value)(K:Value→M):M:=Pv (lenV a1) λv1=>Am ((I0,()):Value×Unit) λs Kn0=>ACI ω a0 a2 a1 v1 s.1 Kn0 K
variable {ω:Om}{K:Value→M}{I:Imm}{L:LH}{a0 a1 a2 a3 a4 a5 a6 a7 a8:Value}
theorem ARh (h:ANl ω a0 a1 a2 (λv=>Gh (K v)) I L):CT ω 206 #[a0,a1,a2] K I L:=zAI (cQc Tryz.func206 h (by kernel_rfl))
def AHT (ω:Om)(a0 a1:Value)(K:Value→M):M:=New (.cells (Value.cells a0) 37 (0,0))<|gh λx_1=>Rn (Aq a1) λv2=>Rn (AC 11 x_1) λv3=>CT ω 120 #[v2,v3,(.int .i64 1)]<|gh λv4=>K (Value.tuple #[])
theorem ARg (h:AHT ω a0 a1 (λv=>Gh (K v)) I L):CT ω 207 #[a0,a1] K I L:=zAI (cQc Tryz.func207 h (by kernel_rfl))
def AHS (ω:Om)(a0:Value)(K:Value→M):M:=Pv (BI a0) λv1=>Lf 0 v1 λv3=>Pv (Ie .eql v3 N0) λv4=>Br v4 (Rn (APg a0) λv5=>ExtE Tryz.prog ω Extern.AbiNoEscape.same #[v5]<|gh λv6=>Rn (APh Tryz.prog 111 v6) λv7=>Pv (BI a0) λv8=>Pv (AO 0 v8) λv9=>Sto 1 v9 v7<|gh λ_=>K (Value.tuple #[])) (Pv (BI a0) λv10=>Lf 0 v10 λv12=>Pv (Ie .neq v12 a0) λv13=>Br v13 (F /- ('no','refuse') -/) (K (Value.tuple #[])))
theorem AKA (h:AHS ω a0 (λv=>Gh (K v)) I L):CT ω 209 #[a0] K I L:=zAI (cQc Tryz.func209 h (by kernel_rfl))
def ANk (ω:Om)(a0 a1 a2:Value)(K:Value→M):M:=CT ω 225 #[a0,a1,a2,(.int .i64 (-1))]<|gh λv1=>K v1
theorem ARf (h:ANk ω a0 a1 a2 (λv=>Gh (K v)) I L):CT ω 210 #[a0,a1,a2] K I L:=zAI (cQc Tryz.func210 h (by kernel_rfl))
def ANj (ω:Om)(a0:Value)(K:Value→M):M:=CT ω 226 #[a0]<|gh λv1=>K v1
theorem ARe (h:ANj ω a0 (λv=>Gh (K v)) I L):CT ω 211 #[a0] K I L:=zAI (cQc Tryz.func211 h (by kernel_rfl))
def ANi (ω:Om)(a0 a1:Value)(K:Value→M):M:=Ci λS=>Pv (BI a0) λv1=>Lg S 1 v1 λv3=>Pv (AFs v3) λv4=>Pv (AA .mul (.int .i64 2) v4) λv5=>Pv (AA .add v5 a1) λv6=>ExtE Tryz.prog ω (Extern.BytealgMakeNoZero.makeNoZero #[3] #[71]) #[v6]<|gh<|Dh S λv7=>Pv (BI a0) λv8=>Lg S 1 v8 λv10=>Pv (lenV v10) λv11=>Pv (Hy 1 v7 none (some v11) none) λv12=>Pv (BI a0) λv13=>Lf 1 v13 λv15=>ATT 1 v12 v15<|gh λv16=>Pv (BI a0) λv17=>Pv (AO 1 v17) λv18=>Sto 1 v18 v12<|gh λ_=>K (Value.tuple #[])
theorem ARd (h:ANi ω a0 a1 (λv=>Gh (K v)) I L):CT ω 218 #[a0,a1] K I L:=zAI (cQc Tryz.func218 h (by kernel_rfl))
def ANh (ω:Om)(a0 a1:Value)(K:Value→M):M:=Pv (XC .u32 a1) λv1=>Pv (AA .leq v1 (.int .u32 127)) λv2=>Br v2 (Pv (XC .u8 a1) λv3=>AY 5 1 #[(.int .u8 0)] 1 [(0,v3)]<|gh λv4=>App 5 1 1 #[(.int .u8 0)] a0 v4<|gh λv5=>K v5) (CT ω 231 #[a0,a1]<|gh λv6=>K v6)
theorem ARc (h:ANh ω a0 a1 (λv=>Gh (K v)) I L):CT ω 219 #[a0,a1] K I L:=zAI (cQc Tryz.func219 h (by kernel_rfl))
def ANg (ω:Om)(a0:Value)(K:Value→M)(Pn:Value→M):M:=New (.cells Zb 37 (0,0))<|gh λv1=>AQ Tryz.prog ω 43 #[a0,(zS [110,111,116])] Pn<|gh λv2=>Br v2 (AQ Tryz.prog ω 220 #[a0] Pn<|gh λv3=>AY 37 11 Zb 1 [(0,v3)]<|gh λv4=>AQ Tryz.prog ω 202 #[(.int .i64 5),v4] Pn<|gh λv5=>Sto 11 v1 v5<|gh λ_=>Rn (AC 11 v1) λv6=>K v6) (AQ Tryz.prog ω 232 #[a0] Pn<|gh λv7=>Sto 11 v1 v7<|gh λ_=>Rn (AC 11 v1) λv8=>K v8)
theorem ARb {ω:Om}{a0:Value}{K Pn:Value→M}{I:Imm}{L:LH}(h:ANg ω a0 (λv=>Gh (K v)) (λv=>Gh (Pn v)) I L):CalP Tryz.prog ω 220 #[a0] K Pn I L:=
 zAR (cQp Tryz.func220 h (by kernel_rfl))
def ANf (ω:Om)(a0:Value)(K:Value→M):M:=Pv (lenV a0) λv1=>Pv (lenV a0) λv2=>Pv (Hy 1 a0 none (some v1) (some v2)) λv3=>K v3
theorem ARa (h:ANf ω a0 (λv=>Gh (K v)) I L):CT ω 221 #[a0] K I L:=zAI (cQc Tryz.func221 h (by kernel_rfl))
def sh222 (ω:Om)(a0:Value)(K:Value→M)(Pn:Value→M):M:=New (.cells Zb 37 (0,0))<|gh λv1=>AQ Tryz.prog ω 233 #[a0] Pn<|gh λv2=>Pv (exV v2 0) λv3=>Pv (exV v2 1) λv4=>New (.cells Zb 37 (0,0))<|gh λx_5=>Sto 11 x_5 v3<|gh λ_=>Br v4 (Rn (AC 11 x_5) λv6=>Sto 11 v1 v6<|gh λ_=>Rn (AC 11 v1) λv7=>K v7) (AQ Tryz.prog ω 43 #[a0,(zS [45])] Pn<|gh λv8=>Br v8 (AQ Tryz.prog ω 234 #[a0] Pn<|gh λv9=>AY 37 11 Zb 1 [(0,v9)]<|gh λv10=>AQ Tryz.prog ω 202 #[(.int .i64 4),v10] Pn<|gh λv11=>Sto 11 v1 v11<|gh λ_=>Rn (AC 11 v1) λv12=>K v12) (AQ Tryz.prog ω 234 #[a0] Pn<|gh λv13=>Sto 11 v1 v13<|gh λ_=>Rn (AC 11 v1) λv14=>K v14))
theorem ARZ {ω:Om}{a0:Value}{K Pn:Value→M}{I:Imm}{L:LH}(h:sh222 ω a0 (λv=>Gh (K v)) (λv=>Gh (Pn v)) I L):CalP Tryz.prog ω 222 #[a0] K Pn I L:=
 zAR (cQp Tryz.func222 h (by kernel_rfl))
def Vx (ω:Om)(p0 p8:Value)(p10 p11:Value)(K:Value→M):M:=Pv (Dt p0 (some p11) none) λv27=>CT ω 172 #[p10,v27]<|gh λv28=>CT ω 59 #[p10]<|gh λv29=>K v29
def ACG (ω:Om)(p0 p1:Value)(p2 p8:Value)(p10 p52:Value)(x11 x53:Value)(Kn0:(Value×Value×Unit)→M)(K:Value→M):M:=Pv (AA .lss x53 p52) λv17=>Br v17 (Pv (Dt p0 (some x11) none) λv18=>CT ω 240 #[v18,p1]<|gh λv19=>Pv (AA .add x11 v19) λv20=>Pv (Dt p0 (some x11) (some v20)) λv21=>CT ω 172 #[p10,v21]<|gh λv22=>CT ω 172 #[p10,p2]<|gh λv23=>Pv (Bv p1) λv24=>Pv (AA .add v20 v24) λv25=>Pv (AA .add x53 (.int .i64 1)) λv26=>Kn0 (v25,v26,())) (Vx ω p0 p8 p10 x11 K)
def ALm (ω:Om)(p0 p2:Value)(p8 p10:Value)(p77 x11 x78:Value)(Kn0:(Value×Value×Unit)→M)(K:Value→M):M:=Pv (AA .lss x78 p77) λv32=>Br v32 (Pv (Dt p0 (some x11) none) λv33=>CT ω 190 #[v33]<|gh λv34=>Pv (exV v34 0) λv35=>Pv (exV v34 1) λv36=>Pv (AA .add x11 v36) λv37=>Pv (Dt p0 (some x11) (some v37)) λv38=>CT ω 172 #[p10,v38]<|gh λv39=>CT ω 172 #[p10,p2]<|gh λv40=>Pv (AA .add x78 (.int .i64 1)) λv41=>Kn0 (v37,v41,())) (Vx ω p0 p8 p10 x11 K)
def QN (ω:Om)(p0 p1:Value)(p2 p3 p8:Value)(K:Value→M):M:=New (.cells Zt 111 (0,0))<|gh λb_7=>Pv (Bv p0) λv8=>Pv (Bv p2) λv9=>Pv (Bv p1) λv10=>Pv (AA .sub v9 v10) λv11=>Pv (AA .mul p3 v11) λv12=>Pv (AA .add v8 v12) λv13=>CT ω 192 #[b_7,v13]<|gh λv14=>Pv (Bv p1) λv15=>Pv (AA .gtr v15 I0) λv16=>Br v16 (Am ((I0,I0,()):Value×Value×Unit) λs Kn0=>ACG ω p0 p1 p2 p8 b_7 p3 s.1 s.2.1 Kn0 K) (CT ω 172 #[b_7,p2]<|gh λv30=>Pv (AA .sub p3 (.int .i64 1)) λv31=>Am ((I0,I0,()):Value×Value×Unit) λs Kn0=>ALm ω p0 p2 p8 b_7 v31 s.1 s.2.1 Kn0 K)
def ACH (ω:Om)(p0 p1:Value)(p2 p3:Value)(p8 p9:Value)(K:Value→M):M:=Pv (AA .lss p3 I0) λv5=>Gd v5 false (Pv (AA .lss p9 p3) λv6=>Br v6 (QN ω p0 p1 p2 p9 p8 K) (QN ω p0 p1 p2 p3 p8 K)) (QN ω p0 p1 p2 p9 p8 K)
def ANe (ω:Om)(a0 a1:Value)(a2 a3:Value)(K:Value→M):M:=Pv (Ah .eql a1 a2) λv1=>Gd v1 false (Pv (AA .eql a3 I0) λv2=>Br v2 (K a0) (CT ω 239 #[a0,a1]<|gh λv3=>Pv (AA .eql v3 I0) λv4=>Br v4 (K a0) (ACH ω a0 a1 a2 a3 Q0 v3 K))) (K a0)
theorem ARY (h:ANe ω a0 a1 a2 a3 (λv=>Gh (K v)) I L):CT ω 225 #[a0,a1,a2,a3] K I L:=zAI (cQc Tryz.func225 h (by kernel_rfl))
def ANd (ω:Om)(a0:Value)(K:Value→M):M:=Br a0 (K (zS [116,114,117,101])) (K (zS [102,97,108,115,101]))
theorem ARX (h:ANd ω a0 (λv=>Gh (K v)) I L):CT ω 226 #[a0] K I L:=zAI (cQc Tryz.func226 h (by kernel_rfl))
def sh232_4 (ω:Om)(p0 p2:Value)(p3 p6:Value)(K:Value→M)(Pn:Value→M):M:=AY 9 1 Za 1 [(0,(zS [110,117,108,108]))]<|gh λv19=>AQ Tryz.prog ω 95 #[p0,v19] Pn<|gh λv20=>Rn (AC 11 p3) λv21=>AY 37 11 Zb 1 [(0,v21)]<|gh λv22=>AQ Tryz.prog ω 202 #[p6,v22] Pn<|gh λv23=>Sto 11 p2 v23<|gh λ_=>Rn (AC 11 p2) λv24=>K v24
def sh232_7 (ω:Om)(p2 p3 p7:Value)(K:Value→M)(Pn:Value→M):M:=Br p7 (Rn (AC 11 p3) λv27=>AY 37 11 Zb 1 [(0,v27)]<|gh λv28=>AQ Tryz.prog ω 202 #[(.int .i64 5),v28] Pn<|gh λv29=>Sto 11 p2 v29<|gh λ_=>Rn (AC 11 p2) λv30=>K v30) (Rn (AC 11 p3) λv31=>Sto 11 p2 v31<|gh λ_=>Rn (AC 11 p2) λv32=>K v32)
def sh232_3 (ω:Om)(p0 p2 p3:Value)(K:Value→M)(Pn:Value→M):M:=AQ Tryz.prog ω 43 #[p0,(zS [105,115])] Pn<|gh λv17=>Br v17 (AQ Tryz.prog ω 43 #[p0,(zS [110,111,116])] Pn<|gh λv18=>Br v18 (sh232_4 ω p0 p2 p3 (.int .i64 7) K Pn) (sh232_4 ω p0 p2 p3 (.int .i64 6) K Pn)) (AQ Tryz.prog ω 43 #[p0,(zS [110,111,116])] Pn<|gh λv25=>AQ Tryz.prog ω 43 #[p0,(zS [105,110])] Pn<|gh λv26=>Br v26 (Ci λS=>Rs S (AC 11 p3) λv33=>(λI L=>(AY 37 11 Zb 1 [(0,v33)]<|gh λv34=>AQ Tryz.prog ω 99 #[p0] Pn<|gh<|Dh S λv35=>App 37 11 128 Zb v34 v35<|gh λv36=>AQ Tryz.prog ω 202 #[(.int .i64 24),v36] Pn<|gh λv37=>Sto 11 p3 v37<|gh λ_=>sh232_7 ω p2 p3 v25 K Pn) I L∧(AQ Tryz.prog ω 99 #[p0] Pn<|gh<|Dh S λv38=>AY 37 11 Zb 1 [(0,v33)]<|gh λv39=>App 37 11 128 Zb v39 v38<|gh λv40=>AQ Tryz.prog ω 202 #[(.int .i64 24),v40] Pn<|gh λv41=>Sto 11 p3 v41<|gh λ_=>sh232_7 ω p2 p3 v25 K Pn) I L)) (AQ Tryz.prog ω 43 #[p0,(zS [98,101,116,119,101,101,110])] Pn<|gh λv42=>Br v42 (AQ Tryz.prog ω 243 #[p0] Pn<|gh λv43=>New (.cells Zb 37 (0,0))<|gh λlow_44=>Sto 11 low_44 v43<|gh λ_=>AY 9 1 Za 1 [(0,(zS [97,110,100]))]<|gh λv45=>AQ Tryz.prog ω 95 #[p0,v45] Pn<|gh λv46=>Ci λS=>Rs S (AC 11 p3) λv47=>Rs S (AC 11 low_44) λv48=>AQ Tryz.prog ω 243 #[p0] Pn<|gh<|Dh S λv49=>AY 37 11 Zb 3 [(0,v47),(1,v48),(2,v49)]<|gh λv50=>AQ Tryz.prog ω 202 #[(.int .i64 25),v50] Pn<|gh λv51=>Sto 11 p3 v51<|gh λ_=>sh232_7 ω p2 p3 v25 K Pn) (AQ Tryz.prog ω 43 #[p0,(zS [108,105,107,101])] Pn<|gh λv52=>Br v52 (Ci λS=>Rs S (AC 11 p3) λv53=>AQ Tryz.prog ω 243 #[p0] Pn<|gh<|Dh S λv54=>AY 37 11 Zb 2 [(0,v53),(1,v54)]<|gh λv55=>AQ Tryz.prog ω 202 #[(.int .i64 23),v55] Pn<|gh λv56=>Sto 11 p3 v56<|gh λ_=>sh232_7 ω p2 p3 v25 K Pn) (Br v25 (AQ Tryz.prog ω 46 #[p0] Pn<|gh λv57=>sh232_7 ω p2 p3 v25 K Pn) (sh232_7 ω p2 p3 v25 K Pn)))))
def sh232_1 (ω:Om)(p0 p2:Value)(p3 p11:Value)(p12 x13:Value)(Kn0:(Value×Unit)→M)(K:Value→M)(Pn:Value→M):M:=Pv (AA .lss x13 p12) λv6=>Br v6 (Pv (ixV 1 p11 x13) λv7=>Rn (Aq v7) λv8=>AQ Tryz.prog ω 43 #[p0,v8] Pn<|gh λv9=>Br v9 (Ci λS=>Pv (AA .add (.int .i64 15) x13) λv10=>Rs S (AC 11 p3) λv11=>AQ Tryz.prog ω 243 #[p0] Pn<|gh<|Dh S λv12=>AY 37 11 Zb 2 [(0,v11),(1,v12)]<|gh λv13=>AQ Tryz.prog ω 202 #[v10,v13] Pn<|gh λv14=>Sto 11 p2 v14<|gh λ_=>Rn (AC 11 p2) λv15=>K v15) (Pv (AA .add x13 (.int .i64 1)) λv16=>Kn0 (v16,()))) (sh232_3 ω p0 p2 p3 K Pn)
def sh232 (ω:Om)(a0:Value)(K:Value→M)(Pn:Value→M):M:=New (.cells Zb 37 (0,0))<|gh λv1=>AQ Tryz.prog ω 243 #[a0] Pn<|gh λv2=>New (.cells Zb 37 (0,0))<|gh λx_3=>Sto 11 x_3 v2<|gh λ_=>AY 9 1 Za 6 [(0,(zS [61])),(1,(zS [60,62])),(2,(zS [60])),(3,(zS [60,61])),(4,(zS [62])),(5,(zS [62,61]))]<|gh λv4=>Pv (lenV v4) λv5=>Am ((I0,()):Value×Unit) λs Kn0=>sh232_1 ω a0 v1 x_3 v4 v5 s.1 Kn0 K Pn
theorem ARW {ω:Om}{a0:Value}{K Pn:Value→M}{I:Imm}{L:LH}(h:sh232 ω a0 (λv=>Gh (K v)) (λv=>Gh (Pn v)) I L):CalP Tryz.prog ω 232 #[a0] K Pn I L:=
 zAR (cQp Tryz.func232 h (by kernel_rfl))
def sh233_2 (ω:Om)(p0 p2:Value)(p3 p4:Value)(K:Value→M):M:=CT ω 93 #[p0]<|gh λv17=>Rn (AC 4 p4) λv18=>Pv (Ar Zb Zk [(0,(.int .i64 1)),(1,v18)]) λv19=>Sto 11 p2 v19<|gh λ_=>Rn (AC 11 p2) λv20=>K (Value.tuple #[v20,Bt])
def sh233 (ω:Om)(a0:Value)(K:Value→M):M:=New (.cells Zb 37 (0,0))<|gh λv1=>New (.cells Zq 34 (0,0))<|gh λv_2=>Pv (BI a0) λv3=>Lf 0 v3 λv5=>Pv (ixV 4 v5 I0) λv6=>Lf 0 v6 λv8=>Pv (AA .eql v8 (.int .i64 4)) λv9=>Br v9 (Pv (BI a0) λv10=>Lf 0 v10 λv12=>Pv (ixV 4 v12 I0) λv13=>Lf 2 v13 λv15=>Pv (Ar Zq Zn [(0,(.int .i64 3)),(3,v15)]) λv16=>Sto 4 v_2 v16<|gh λ_=>sh233_2 ω a0 v1 Bf v_2 K) (CT ω 45 #[a0,(zS [116,114,117,101])]<|gh λv21=>Br v21 (Pv (Ar Zq Zn [(0,(.int .i64 2)),(2,(.int .i64 1))]) λv22=>Sto 4 v_2 v22<|gh λ_=>sh233_2 ω a0 v1 Bf v_2 K) (CT ω 45 #[a0,(zS [102,97,108,115,101])]<|gh λv23=>Br v23 (Pv (Ar Zq Zn [(0,(.int .i64 2))]) λv24=>Sto 4 v_2 v24<|gh λ_=>sh233_2 ω a0 v1 Bf v_2 K) (CT ω 45 #[a0,(zS [110,117,108,108])]<|gh λv25=>Br v25 (Pv (Ar Zq Zn [(0,(.int .i64 4)),(1,Bt)]) λv26=>Sto 4 v_2 v26<|gh λ_=>sh233_2 ω a0 v1 Bf v_2 K) (Pv (Ar Zb Zk []) λv27=>Sto 11 v1 v27<|gh λ_=>Rn (AC 11 v1) λv28=>K (Value.tuple #[v28,Bf])))))
theorem ARV (h:sh233 ω a0 (λv=>Gh (K v)) I L):CT ω 233 #[a0] K I L:=zAI (cQc Tryz.func233 h (by kernel_rfl))
def ANc (ω:Om)(a0:Value)(K:Value→M)(Pn:Value→M):M:=New (.cells Zb 37 (0,0))<|gh λv1=>AQ Tryz.prog ω 152 #[a0,(.int .i64 3)] Pn<|gh λv2=>Pv (Iy false 3 1 v2) λv3=>Pv (Ar Zq Zn [(0,(.int .i64 1)),(2,v3)]) λv4=>Pv (Ar Zb Zk [(0,(.int .i64 1)),(1,v4)]) λv5=>Sto 11 v1 v5<|gh λ_=>Rn (AC 11 v1) λv6=>K v6
theorem ARU {ω:Om}{a0:Value}{K Pn:Value→M}{I:Imm}{L:LH}(h:ANc ω a0 (λv=>Gh (K v)) (λv=>Gh (Pn v)) I L):CalP Tryz.prog ω 234 #[a0] K Pn I L:=
 zAR (cQp Tryz.func234 h (by kernel_rfl))
def ALl (ω:Om)(p1 x0:Value)(x4 x5:Value)(Kn0:(Value×Value×Value×Unit)→M)(K:Value→M):M:=CT ω 240 #[x0,p1]<|gh λv9=>Pv (AA .eql v9 (.int .i64 (-1))) λv10=>Br v10 (K x5) (Pv (AA .add x5 (.int .i64 1)) λv11=>Pv (Bv p1) λv12=>Pv (AA .add v9 v12) λv13=>Pv (Dt x0 (some v13) none) λv14=>Kn0 (v14,x4,v11,()))
def ANb (ω:Om)(a0 a1:Value)(K:Value→M):M:=Pv (Bv a1) λv1=>Pv (AA .eql v1 I0) λv2=>Br v2 (CT ω 249 #[a0]<|gh λv3=>Pv (AA .add v3 (.int .i64 1)) λv4=>K v4) (Pv (Bv a1) λv5=>Pv (AA .eql v5 (.int .i64 1)) λv6=>Br v6 (Pv (ED a1 I0) λv7=>ExtE Tryz.prog ω Extern.BytealgCount.count #[a0,v7]<|gh λv8=>K v8) (Am ((a0,I0,I0,()):Value×Value×Value×Unit) λs Kn0=>ALl ω a1 s.1 s.2.1 s.2.2.1 Kn0 K))
theorem ART (h:ANb ω a0 a1 (λv=>Gh (K v)) I L):CT ω 239 #[a0,a1] K I L:=zAI (cQc Tryz.func239 h (by kernel_rfl))
def ANa (ω:Om)(a0 a1:Value)(K:Value→M):M:=CT ω 251 #[a0,a1]<|gh λv1=>K v1
theorem ARS (h:ANa ω a0 a1 (λv=>Gh (K v)) I L):CT ω 240 #[a0,a1] K I L:=zAI (cQc Tryz.func240 h (by kernel_rfl))
def ANZ (ω:Om)(a0:Value)(K:Value→M)(Pn:Value→M):M:=New (.cells Zb 37 (0,0))<|gh λv1=>XN<|gh λv2=>Ep .string v2 (zS [43]) (.int .i64 9)<|gh λ_=>Ep .string v2 (zS [45]) (.int .i64 10)<|gh λ_=>Ep .string v2 (zS [124,124]) (.int .i64 14)<|gh λ_=>AQ Tryz.prog ω 254 #[a0,(Value.func (Fn.func 255) #[a0] #[]),v2] Pn<|gh λv3=>Sto 11 v1 v3<|gh λ_=>Rn (AC 11 v1) λv4=>K v4
theorem ARR {ω:Om}{a0:Value}{K Pn:Value→M}{I:Imm}{L:LH}(h:ANZ ω a0 (λv=>Gh (K v)) (λv=>Gh (Pn v)) I L):CalP Tryz.prog ω 243 #[a0] K Pn I L:=
 zAR (cQp Tryz.func243 h (by kernel_rfl))
def ALk (ω:Om)(p0 p1 p4:Value)(K:Value→M):M:=ExtE Tryz.prog ω Extern.BytealgIndex.index #[p0,p1]<|gh λv13=>K v13
def ACD (ω:Om)(p0 p1:Value)(p4 p8:Value)(K:Value→M):M:=Pv (Dt p0 (some p8) none) λv40=>ExtE Tryz.prog ω Extern.BytealgIndex.index #[v40,p1]<|gh λv41=>Pv (AA .geq v41 I0) λv42=>Br v42 (Pv (AA .add v41 p8) λv43=>K v43) (K (.int .i64 (-1)))
def AHQ (ω:Om)(p0 p1:Value)(p4 p8:Value)(K:Value→M):M:=Pv (Dt p0 (some p8) none) λv50=>CT ω 260 #[v50,p1]<|gh λv51=>Pv (AA .lss v51 I0) λv52=>Br v52 (K (.int .i64 (-1))) (Pv (AA .add p8 v51) λv53=>K v53)
def QM (ω:Om)(p0 p1:Value)(p4 p5:Value)(p8 p9 p10:Value)(Kn0:(Value×Value×Value×Unit)→M)(K:Value→M):M:=Rn (Aq (.pointer (some ⟨2,0,none⟩))) λv44=>Pv (AA .gtr p5 v44) λv45=>Gd v45 true (Pv (AA .shr p8 (.int .u64 4)) λv46=>Pv (AA .add (.int .i64 4) v46) λv47=>Pv (AA .geq p10 v47) λv48=>Gd v48 true (Pv (AA .lss p8 p9) λv49=>Br v49 (AHQ ω p0 p1 p4 p8 K) (Kn0 (p4,p8,p10,()))) (Kn0 (p4,p8,p10,()))) (Kn0 (p4,p8,p10,()))
def Vw (ω:Om)(p0 p1:Value)(p4 p5:Value)(p7 p8:Value)(p9 p10:Value)(Kn0:(Value×Value×Value×Unit)→M)(K:Value→M):M:=Pv (AA .add p8 (.int .i64 1)) λv28=>Pv (ED p0 v28) λv29=>Pv (AA .eql v29 p7) λv30=>Gd v30 true (Pv (AA .add p8 p5) λv31=>Pv (Dt p0 (some p8) (some v31)) λv32=>Pv (Ah .eql v32 p1) λv33=>Br v33 (K p8) (Pv (AA .add p8 (.int .i64 1)) λv34=>Pv (AA .add p10 (.int .i64 1)) λv35=>Rn (Aq (.pointer (some ⟨2,0,none⟩))) λv36=>Pv (AA .leq p5 v36) λv37=>Gd v37 true (CT ω 259 #[v34]<|gh λv38=>Pv (AA .gtr v35 v38) λv39=>Br v39 (ACD ω p0 p1 p4 v34 K) (QM ω p0 p1 p4 p5 v34 p9 v35 Kn0 K)) (QM ω p0 p1 p4 p5 v34 p9 v35 Kn0 K))) (Pv (AA .add p8 (.int .i64 1)) λv54=>Pv (AA .add p10 (.int .i64 1)) λv55=>Rn (Aq (.pointer (some ⟨2,0,none⟩))) λv56=>Pv (AA .leq p5 v56) λv57=>Gd v57 true (CT ω 259 #[v54]<|gh λv58=>Pv (AA .gtr v55 v58) λv59=>Br v59 (ACD ω p0 p1 p4 v54 K) (QM ω p0 p1 p4 p5 v54 p9 v55 Kn0 K)) (QM ω p0 p1 p4 p5 v54 p9 v55 Kn0 K))
def ACE (ω:Om)(p0 p1:Value)(p4 p5:Value)(p6 p7:Value)(p8 p9 p10:Value)(Kn0:(Value×Value×Value×Unit)→M)(K:Value→M):M:=Pv (AA .add p8 (.int .i64 1)) λv22=>Pv (Dt p0 (some v22) (some p9)) λv23=>CT ω 188 #[v23,p6]<|gh λv24=>Pv (AA .lss v24 I0) λv25=>Br v25 (K (.int .i64 (-1))) (Pv (AA .add v24 (.int .i64 1)) λv26=>Pv (AA .add p8 v26) λv27=>Vw ω p0 p1 p4 p5 p7 v27 p9 p10 Kn0 K)
def ALj (ω:Om)(p0 p1:Value)(p5 p6:Value)(p7 p9:Value)(x4 x8 x10:Value)(Kn0:(Value×Value×Value×Unit)→M)(K:Value→M):M:=Pv (AA .lss x8 p9) λv19=>Br v19 (Pv (ED p0 x8) λv20=>Pv (AA .neq v20 p6) λv21=>Br v21 (ACE ω p0 p1 x4 p5 p6 p7 x8 p9 x10 Kn0 K) (Vw ω p0 p1 x4 p5 p7 x8 p9 x10 Kn0 K)) (K (.int .i64 (-1)))
def AHP (ω:Om)(p0 p1:Value)(p5 p6:Value)(p7 p9:Value)(x4 x8 x10:Value)(Kn0:(Value×Value×Value×Unit)→M)(K:Value→M):M:=Pv (AA .lss x8 p9) λv65=>Br v65 (Pv (ED p0 x8) λv66=>Pv (AA .neq v66 p6) λv67=>Br v67 (ACE ω p0 p1 x4 p5 p6 p7 x8 p9 x10 Kn0 K) (Vw ω p0 p1 x4 p5 p7 x8 p9 x10 Kn0 K)) (K (.int .i64 (-1)))
def ACF (ω:Om)(p0 p1:Value)(p4 p5:Value)(K:Value→M):M:=Pv (AA .eql p5 (.int .i64 1)) λv4=>Br v4 (Pv (ED p1 I0) λv5=>CT ω 188 #[p0,v5]<|gh λv6=>K v6) (Pv (Bv p0) λv7=>Pv (AA .geq p5 v7) λv8=>Br v8 (K (.int .i64 (-1))) (Rn (Aq (.pointer (some ⟨2,0,none⟩))) λv9=>Pv (AA .leq p5 v9) λv10=>Gd v10 true (Pv (Bv p0) λv11=>Pv (AA .leq v11 (.int .i64 64)) λv12=>Br v12 (ALk ω p0 p1 p4 K) (Pv (ED p1 I0) λv14=>Pv (ED p1 (.int .i64 1)) λv15=>Pv (Bv p0) λv16=>Pv (AA .sub v16 p5) λv17=>Pv (AA .add v17 (.int .i64 1)) λv18=>Am ((p4,I0,I0,()):Value×Value×Value×Unit) λs Kn0=>ALj ω p0 p1 p5 v14 v15 v18 s.1 s.2.1 s.2.2.1 Kn0 K)) (Pv (ED p1 I0) λv60=>Pv (ED p1 (.int .i64 1)) λv61=>Pv (Bv p0) λv62=>Pv (AA .sub v62 p5) λv63=>Pv (AA .add v63 (.int .i64 1)) λv64=>Am ((p4,I0,I0,()):Value×Value×Value×Unit) λs Kn0=>AHP ω p0 p1 p5 v60 v61 v64 s.1 s.2.1 s.2.2.1 Kn0 K)))
def ANX (ω:Om)(a0 a1:Value)(K:Value→M):M:=Pv (Bv a1) λv1=>Pv (AA .eql v1 I0) λv2=>Gd v2 false (Pv (Ah .eql a1 a0) λv3=>Br v3 (K I0) (ACF ω a0 a1 I0 v1 K)) (K I0)
theorem ARQ (h:ANX ω a0 a1 (λv=>Gh (K v)) I L):CT ω 251 #[a0,a1] K I L:=zAI (cQc Tryz.func251 h (by kernel_rfl))
def sh254_3 (ω:Om)(p6 p7:Value)(K:Value→M)(Pn:Value→M):M:=Rn (AC 11 p7) λv21=>Sto 11 p6 v21<|gh λ_=>Rn (AC 11 p6) λv22=>K v22
def sh254_1 (ω:Om)(p0 p1:Value)(p2 p6 p7:Value)(Kn0:(Unit)→M)(K:Value→M)(Pn:Value→M):M:=Pv (BI p0) λv4=>Lf 0 v4 λv6=>Pv (ixV 4 v6 I0) λv7=>Lf 0 v7 λv9=>Pv (AA .eql v9 (.int .i64 5)) λv10=>Br v10 (Pv (BI p0) λv11=>Lf 0 v11 λv13=>Pv (ixV 4 v13 I0) λv14=>Lf 2 v14 λv16=>Rn (lkR .string I0 true p2 v16) λv17=>Pv (exV v17 0) λv18=>Pv (exV v17 1) λv19=>Pv (unV .not v19) λv20=>Br v20 (sh254_3 ω p6 p7 K Pn) (AQ Tryz.prog ω 93 #[p0] Pn<|gh λv23=>Ci λS=>Rs S (AC 11 p7) λv24=>JA Tryz.prog ω p1 #[] Pn<|gh<|Dh S λv25=>AY 37 11 Zb 2 [(0,v24),(1,v25)]<|gh λv26=>AQ Tryz.prog ω 202 #[v18,v26] Pn<|gh λv27=>Sto 11 p7 v27<|gh λ_=>Kn0 (()))) (sh254_3 ω p6 p7 K Pn)
def sh254 (ω:Om)(a0 a1 a2:Value)(K:Value→M)(Pn:Value→M):M:=New (.cells Zb 37 (0,0))<|gh λv1=>JA Tryz.prog ω a1 #[] Pn<|gh λv2=>New (.cells Zb 37 (0,0))<|gh λx_3=>Sto 11 x_3 v2<|gh λ_=>Am ((()):Unit) λs Kn0=>sh254_1 ω a0 a1 a2 v1 x_3 Kn0 K Pn
theorem ARP {ω:Om}{a0 a1 a2:Value}{K Pn:Value→M}{I:Imm}{L:LH}(h:sh254 ω a0 a1 a2 (λv=>Gh (K v)) (λv=>Gh (Pn v)) I L):CalP Tryz.prog ω 254 #[a0,a1,a2] K Pn I L:=
 zAR (cQp Tryz.func254 h (by kernel_rfl))
def ANW (ω:Om)(a0:Value)(K:Value→M)(Pn:Value→M):M:=New (.cells Zb 37 (0,0))<|gh λv1=>XN<|gh λv2=>Ep .string v2 (zS [42]) (.int .i64 11)<|gh λ_=>Ep .string v2 (zS [47]) (.int .i64 12)<|gh λ_=>Ep .string v2 (zS [37]) (.int .i64 13)<|gh λ_=>AQ Tryz.prog ω 254 #[a0,(Value.func (Fn.func 262) #[a0] #[]),v2] Pn<|gh λv3=>Sto 11 v1 v3<|gh λ_=>Rn (AC 11 v1) λv4=>K v4
theorem ARO {ω:Om}{a0:Value}{K Pn:Value→M}{I:Imm}{L:LH}(h:ANW ω a0 (λv=>Gh (K v)) (λv=>Gh (Pn v)) I L):CalP Tryz.prog ω 255 #[a0] K Pn I L:=
 zAR (cQp Tryz.func255 h (by kernel_rfl))
def sh262_1 (ω:Om)(p0 p2 p6:Value)(K:Value→M)(Pn:Value→M):M:=AQ Tryz.prog ω 43 #[p0,(zS [46])] Pn<|gh λv40=>Br v40 (AQ Tryz.prog ω 96 #[p0] Pn<|gh λv41=>Pv (Ar Zb Zk [(0,(.int .i64 2)),(2,p6),(3,v41)]) λv42=>Sto 11 p2 v42<|gh λ_=>Rn (AC 11 p2) λv43=>K v43) (Pv (Ar Zb Zk [(0,(.int .i64 2)),(3,p6)]) λv44=>Sto 11 p2 v44<|gh λ_=>Rn (AC 11 p2) λv45=>K v45)
def sh262 (ω:Om)(a0:Value)(K:Value→M)(Pn:Value→M):M:=New (.cells Zb 37 (0,0))<|gh λv1=>AQ Tryz.prog ω 43 #[a0,(zS [45])] Pn<|gh λv2=>Br v2 (AQ Tryz.prog ω 262 #[a0] Pn<|gh λv3=>AY 37 11 Zb 1 [(0,v3)]<|gh λv4=>AQ Tryz.prog ω 202 #[(.int .i64 4),v4] Pn<|gh λv5=>Sto 11 v1 v5<|gh λ_=>Rn (AC 11 v1) λv6=>K v6) (AQ Tryz.prog ω 43 #[a0,(zS [40])] Pn<|gh λv7=>Br v7 (AQ Tryz.prog ω 148 #[a0] Pn<|gh λv8=>New (.cells Zb 37 (0,0))<|gh λx_9=>Sto 11 x_9 v8<|gh λ_=>AY 9 1 Za 1 [(0,(zS [41]))]<|gh λv10=>AQ Tryz.prog ω 95 #[a0,v10] Pn<|gh λv11=>Rn (AC 11 x_9) λv12=>Sto 11 v1 v12<|gh λ_=>Rn (AC 11 v1) λv13=>K v13) (AQ Tryz.prog ω 43 #[a0,(zS [99,97,115,101])] Pn<|gh λv14=>Br v14 (AQ Tryz.prog ω 266 #[a0] Pn<|gh λv15=>Sto 11 v1 v15<|gh λ_=>Rn (AC 11 v1) λv16=>K v16) (Pv (BI a0) λv17=>Lf 0 v17 λv19=>Pv (ixV 4 v19 I0) λv20=>Lf 0 v20 λv22=>Pv (AA .eql v22 (.int .i64 3)) λv23=>Br v23 (AQ Tryz.prog ω 234 #[a0] Pn<|gh λv24=>Sto 11 v1 v24<|gh λ_=>Rn (AC 11 v1) λv25=>K v25) (AQ Tryz.prog ω 233 #[a0] Pn<|gh λv26=>Pv (exV v26 0) λv27=>Pv (exV v26 1) λv28=>New (.cells Zb 37 (0,0))<|gh λx_29=>Sto 11 x_29 v27<|gh λ_=>Br v28 (Rn (AC 11 x_29) λv30=>Sto 11 v1 v30<|gh λ_=>Rn (AC 11 v1) λv31=>K v31) (AQ Tryz.prog ω 96 #[a0] Pn<|gh λv32=>AQ Tryz.prog ω 45 #[a0,(zS [40])] Pn<|gh λv33=>Br v33 (AQ Tryz.prog ω 267 #[a0,v32] Pn<|gh λv34=>Pv (exV v34 0) λv35=>Pv (exV v34 1) λv36=>New (.cells Zb 37 (0,0))<|gh λx_37=>Sto 11 x_37 v35<|gh λ_=>Br v36 (Rn (AC 11 x_37) λv38=>Sto 11 v1 v38<|gh λ_=>Rn (AC 11 v1) λv39=>K v39) (sh262_1 ω a0 v1 v32 K Pn)) (sh262_1 ω a0 v1 v32 K Pn))))))
theorem ARN {ω:Om}{a0:Value}{K Pn:Value→M}{I:Imm}{L:LH}(h:sh262 ω a0 (λv=>Gh (K v)) (λv=>Gh (Pn v)) I L):CalP Tryz.prog ω 262 #[a0] K Pn I L:=
 zAR (cQp Tryz.func262 h (by kernel_rfl))
def QL (ω:Om)(p0 p2 p3:Value)(K:Value→M)(Pn:Value→M):M:=AY 9 1 Za 1 [(0,(zS [101,110,100]))]<|gh λv28=>AQ Tryz.prog ω 95 #[p0,v28] Pn<|gh λv29=>Rn (AC 11 p3) λv30=>Sto 11 p2 v30<|gh λ_=>Rn (AC 11 p2) λv31=>K v31
def ACB (ω:Om)(p0 p2 p3:Value)(K:Value→M)(Pn:Value→M):M:=AQ Tryz.prog ω 43 #[p0,(zS [101,108,115,101])] Pn<|gh λv21=>Br v21 (Ci λS=>Lg S 10 p3 λv23=>AQ Tryz.prog ω 148 #[p0] Pn<|gh<|Dh S λv24=>AY 37 11 Zb 1 [(0,v24)]<|gh<|Dh S λv25=>App 37 11 128 Zb v23 v25<|gh λv26=>Pv (AO 10 p3) λv27=>Sto 1 v27 v26<|gh λ_=>QL ω p0 p2 p3 K Pn) (QL ω p0 p2 p3 K Pn)
def ACC (ω:Om)(p0 p2 p3:Value)(Kn0:(Unit)→M)(K:Value→M)(Pn:Value→M):M:=Lf 10 p3 λv5=>Pv (KH .eql v5 S0) λv6=>Gd v6 false (AQ Tryz.prog ω 45 #[p0,(zS [119,104,101,110])] Pn<|gh λv7=>Br v7 (AY 9 1 Za 1 [(0,(zS [119,104,101,110]))]<|gh λv8=>AQ Tryz.prog ω 95 #[p0,v8] Pn<|gh λv9=>AQ Tryz.prog ω 148 #[p0] Pn<|gh λv10=>New (.cells Zb 37 (0,0))<|gh λwhen_11=>Sto 11 when_11 v10<|gh λ_=>AY 9 1 Za 1 [(0,(zS [116,104,101,110]))]<|gh λv12=>AQ Tryz.prog ω 95 #[p0,v12] Pn<|gh λv13=>Ci λS=>Lg S 10 p3 λv15=>Rs S (AC 11 when_11) λv16=>AQ Tryz.prog ω 148 #[p0] Pn<|gh<|Dh S λv17=>AY 37 11 Zb 2 [(0,v16),(1,v17)]<|gh<|Dh S λv18=>App 37 11 128 Zb v15 v18<|gh λv19=>Pv (AO 10 p3) λv20=>Sto 1 v20 v19<|gh λ_=>Kn0 (())) (ACB ω p0 p2 p3 K Pn)) (AY 9 1 Za 1 [(0,(zS [119,104,101,110]))]<|gh λv32=>AQ Tryz.prog ω 95 #[p0,v32] Pn<|gh λv33=>AQ Tryz.prog ω 148 #[p0] Pn<|gh λv34=>New (.cells Zb 37 (0,0))<|gh λwhen_35=>Sto 11 when_35 v34<|gh λ_=>AY 9 1 Za 1 [(0,(zS [116,104,101,110]))]<|gh λv36=>AQ Tryz.prog ω 95 #[p0,v36] Pn<|gh λv37=>Ci λS=>Lg S 10 p3 λv39=>Rs S (AC 11 when_35) λv40=>AQ Tryz.prog ω 148 #[p0] Pn<|gh<|Dh S λv41=>AY 37 11 Zb 2 [(0,v40),(1,v41)]<|gh<|Dh S λv42=>App 37 11 128 Zb v39 v42<|gh λv43=>Pv (AO 10 p3) λv44=>Sto 1 v44 v43<|gh λ_=>Kn0 (()))
def ANV (ω:Om)(a0:Value)(K:Value→M)(Pn:Value→M):M:=New (.cells Zb 37 (0,0))<|gh λv1=>Pv (Ar Zb Zk [(0,(.int .i64 26))]) λv2=>New (.cells Zb 37 (0,0))<|gh λx_3=>Sto 11 x_3 v2<|gh λ_=>Am ((()):Unit) λs Kn0=>ACC ω a0 v1 x_3 Kn0 K Pn
theorem ARL {ω:Om}{a0:Value}{K Pn:Value→M}{I:Imm}{L:LH}(h:ANV ω a0 (λv=>Gh (K v)) (λv=>Gh (Pn v)) I L):CalP Tryz.prog ω 266 #[a0] K Pn I L:=
 zAR (cQp Tryz.func266 h (by kernel_rfl))
def sh267_3 (ω:Om)(p0 p4:Value)(p5 p7:Value)(K:Value→M)(Pn:Value→M):M:=AY 9 1 Za 1 [(0,(zS [41]))]<|gh λv27=>AQ Tryz.prog ω 95 #[p0,v27] Pn<|gh λv28=>Rn (AC 11 p7) λv29=>Sto 11 p4 v29<|gh λ_=>Rn (AC 11 p4) λv30=>K (Value.tuple #[v30,Bt])
def sh267_2 (ω:Om)(p0 p4:Value)(p5 p7:Value)(K:Value→M)(Pn:Value→M):M:=Pv (Ar Zb Zk [(0,(.int .i64 3))]) λv24=>AY 37 11 Zb 1 [(0,v24)]<|gh λv25=>Pv (AO 10 p7) λv26=>Sto 1 v26 v25<|gh λ_=>sh267_3 ω p0 p4 p5 p7 K Pn
def sh267_4 (ω:Om)(p0 p4:Value)(p5 p7:Value)(K:Value→M)(Pn:Value→M):M:=AQ Tryz.prog ω 43 #[p0,(zS [100,105,115,116,105,110,99,116])] Pn<|gh λv31=>Pv (AO 9 p7) λv32=>Sto 1 v32 v31<|gh λ_=>AQ Tryz.prog ω 148 #[p0] Pn<|gh λv33=>AY 37 11 Zb 1 [(0,v33)]<|gh λv34=>Pv (AO 10 p7) λv35=>Sto 1 v35 v34<|gh λ_=>sh267_3 ω p0 p4 p5 p7 K Pn
def sh267_1 (ω:Om)(p0 p1:Value)(p4 p5 p27:Value)(K:Value→M)(Pn:Value→M):M:=Br p27 (AY 9 1 Za 1 [(0,(zS [40]))]<|gh λv18=>AQ Tryz.prog ω 95 #[p0,v18] Pn<|gh λv19=>Pv (Ar Zb Zk [(0,(.int .i64 28)),(3,p1)]) λv20=>New (.cells Zb 37 (0,0))<|gh λx_21=>Sto 11 x_21 v20<|gh λ_=>Pv (Ah .eql p1 (zS [99,111,117,110,116])) λv22=>Gd v22 true (AQ Tryz.prog ω 43 #[p0,(zS [42])] Pn<|gh λv23=>Br v23 (sh267_2 ω p0 p4 p5 x_21 K Pn) (sh267_4 ω p0 p4 p5 x_21 K Pn)) (sh267_4 ω p0 p4 p5 x_21 K Pn)) (Pv (Ar Zb Zk []) λv36=>Sto 11 p4 v36<|gh λ_=>Rn (AC 11 p4) λv37=>K (Value.tuple #[v37,Bf]))
def sh267 (ω:Om)(a0 a1:Value)(K:Value→M)(Pn:Value→M):M:=New (.cells Zb 37 (0,0))<|gh λv1=>Pv (Ah .eql a1 (zS [99,111,97,108,101,115,99,101])) λv2=>Br v2 (AQ Tryz.prog ω 99 #[a0] Pn<|gh λv3=>AQ Tryz.prog ω 202 #[(.int .i64 27),v3] Pn<|gh λv4=>Sto 11 v1 v4<|gh λ_=>Rn (AC 11 v1) λv5=>K (Value.tuple #[v5,Bt])) (Pv (Ah .eql a1 (zS [108,101,110,103,116,104])) λv6=>Br v6 (AY 9 1 Za 1 [(0,(zS [40]))]<|gh λv7=>AQ Tryz.prog ω 95 #[a0,v7] Pn<|gh λv8=>AQ Tryz.prog ω 148 #[a0] Pn<|gh λv9=>AY 37 11 Zb 1 [(0,v9)]<|gh λv10=>AQ Tryz.prog ω 202 #[(.int .i64 8),v10] Pn<|gh λv11=>New (.cells Zb 37 (0,0))<|gh λx_12=>Sto 11 x_12 v11<|gh λ_=>AY 9 1 Za 1 [(0,(zS [41]))]<|gh λv13=>AQ Tryz.prog ω 95 #[a0,v13] Pn<|gh λv14=>Rn (AC 11 x_12) λv15=>Sto 11 v1 v15<|gh λ_=>Rn (AC 11 v1) λv16=>K (Value.tuple #[v16,Bt])) (Pv (Ah .eql a1 (zS [99,111,117,110,116])) λv17=>Br v17 (sh267_1 ω a0 a1 v1 Bf v17 K Pn) (Pv (Ah .eql a1 (zS [115,117,109])) λv38=>Br v38 (sh267_1 ω a0 a1 v1 Bf v38 K Pn) (Pv (Ah .eql a1 (zS [109,105,110])) λv39=>Br v39 (sh267_1 ω a0 a1 v1 Bf v39 K Pn) (Pv (Ah .eql a1 (zS [109,97,120])) λv40=>Br v40 (sh267_1 ω a0 a1 v1 Bf v40 K Pn) (Pv (Ah .eql a1 (zS [97,118,103])) λv41=>sh267_1 ω a0 a1 v1 Bf v41 K Pn))))))
theorem ARK {ω:Om}{a0 a1:Value}{K Pn:Value→M}{I:Imm}{L:LH}(h:sh267 ω a0 a1 (λv=>Gh (K v)) (λv=>Gh (Pn v)) I L):CalP Tryz.prog ω 267 #[a0,a1] K Pn I L:=
 zAR (cQp Tryz.func267 h (by kernel_rfl))
theorem APS (x0:Int)(x1:Int):Ar Zf #[(0,1),(1,1)] [(0,.int .i64 x0),(1,.int .i64 x1)]=some (.agg #[.int .i64 x0,.int .i64 x1]):=by kernel_rfl
theorem APR (x0:Int):Ar Zf #[(0,1),(1,1)] [(0,.int .i64 x0)]=some (.agg #[.int .i64 x0,(.int .i64 0)]):=by kernel_rfl
theorem APQ:Ar Zf #[(0,1),(1,1)] []=some (.agg Zf):=by kernel_rfl
theorem APP (x0:Int)(x1:Int):Ar #[(.int .i64 0),(Value.string (ByteArray.mk #[])),(.int .i64 0),(.int .i64 0)] Zn [(0,.int .i64 x0),(3,.int .i64 x1)]=some (.agg #[.int .i64 x0,(Value.string (ByteArray.mk #[])),(.int .i64 0),.int .i64 x1]):=by kernel_rfl
theorem APO (x0:Option Addr)(x1:Nat)(x2:Nat):Ar #[(.slice none 0 0),(.int .i64 0),(.bool false)] #[(0,1),(1,1),(2,1)] [(0,.slice x0 x1 x2)]=some (.agg #[.slice x0 x1 x2,(.int .i64 0),(.bool false)]):=by kernel_rfl
theorem APN (x0:Option Addr)(x1:Nat)(x2:Nat):Ar #[(.slice none 0 0)] #[(0,1)] [(0,.slice x0 x1 x2)]=some (.agg #[.slice x0 x1 x2]):=by kernel_rfl
theorem APM (x0:Option Addr)(x1:Nat)(x2:Nat):Ar #[(.pointer none),(.slice none 0 0),(.slice none 0 0)] #[(0,2),(2,1)] [(1,.slice x0 x1 x2)]=some (.agg #[(.pointer none),(.slice none 0 0),.slice x0 x1 x2]):=by kernel_rfl
theorem APL (x0:Int):Ar #[(.int .i64 0),(Value.string (ByteArray.mk #[])),(.int .i64 0),(.int .i64 0)] Zn [(3,.int .i64 x0)]=some (.agg #[(.int .i64 0),(Value.string (ByteArray.mk #[])),(.int .i64 0),.int .i64 x0]):=by kernel_rfl
theorem APK (x0:Int)(x1:Bool)(x2:Option Addr)(x3:Nat)(x4:Nat)(x5:Option Addr)(x6:Nat)(x7:Nat)(x8:Int)(x9:Int)(x10:Bool)(x11:Int)(x12:ByteArray)(x13:ByteArray)(x14:ByteArray)(x15:Int)(x16:Int)(x17:Bool)(x18:Option Addr)(x19:Nat)(x20:Nat)(x21:Option Addr)(x22:Nat)(x23:Nat)(x24:Int)(x25:Int)(x26:Bool)(x27:Int)(x28:ByteArray)(x29:ByteArray)(x30:ByteArray)(x31:Int)(x32:Int)(x33:Bool)(x34:Option Addr)(x35:Nat)(x36:Nat)(x37:Option Addr)(x38:Nat)(x39:Nat)(x40:Int)(x41:Int):Ar Zd Zj [(0,.int .i64 x0),(1,.agg #[.bool x1,.slice x2 x3 x4,.slice x5 x6 x7,.int .i64 x8,.int .i64 x9,.bool x10,.int .i64 x11,.string x12,.string x13,.string x14,.int .i64 x15,.int .i64 x16,.bool x17,.slice x18 x19 x20,.slice x21 x22 x23,.int .i64 x24,.int .i64 x25,.bool x26,.int .i64 x27,.string x28,.string x29,.string x30,.int .i64 x31,.int .i64 x32,.bool x33,.slice x34 x35 x36,.slice x37 x38 x39,.int .i64 x40,.int .i64 x41])]=some (.agg #[.int .i64 x0,.bool x1,.slice x2 x3 x4,.slice x5 x6 x7,.int .i64 x8,.int .i64 x9,.bool x10,.int .i64 x11,.string x12,.string x13,.string x14,.int .i64 x15,.int .i64 x16,.bool x17,.slice x18 x19 x20,.slice x21 x22 x23,.int .i64 x24,.int .i64 x25,.bool x26,.int .i64 x27,.string x28,.string x29,.string x30,.int .i64 x31,.int .i64 x32,.bool x33,.slice x34 x35 x36,.slice x37 x38 x39,.int .i64 x40,.int .i64 x41,(Value.string (ByteArray.mk #[])),(.slice none 0 0),(.slice none 0 0),(.slice none 0 0),(.int .i64 0),(.int .i64 0),(.bool false),(.int .i64 0),(Value.string (ByteArray.mk #[])),(Value.string (ByteArray.mk #[])),(Value.string (ByteArray.mk #[])),(.int .i64 0),(.int .i64 0),(.bool false),(.slice none 0 0),(.slice none 0 0),(.slice none 0 0),(Value.string (ByteArray.mk #[])),(Value.string (ByteArray.mk #[])),(.slice none 0 0),(.bool false)]):=by kernel_rfl
theorem AKt (x0:Int):Ar Zd Zj [(0,.int .i64 x0)]=some (.agg #[.int .i64 x0,(.bool false),(.slice none 0 0),(.slice none 0 0),(.int .i64 0),(.int .i64 0),(.bool false),(.int .i64 0),(Value.string (ByteArray.mk #[])),(Value.string (ByteArray.mk #[])),(Value.string (ByteArray.mk #[])),(.int .i64 0),(.int .i64 0),(.bool false),(.slice none 0 0),(.slice none 0 0),(.int .i64 0),(.int .i64 0),(.bool false),(.int .i64 0),(Value.string (ByteArray.mk #[])),(Value.string (ByteArray.mk #[])),(Value.string (ByteArray.mk #[])),(.int .i64 0),(.int .i64 0),(.bool false),(.slice none 0 0),(.slice none 0 0),(.int .i64 0),(.int .i64 0),(Value.string (ByteArray.mk #[])),(.slice none 0 0),(.slice none 0 0),(.slice none 0 0),(.int .i64 0),(.int .i64 0),(.bool false),(.int .i64 0),(Value.string (ByteArray.mk #[])),(Value.string (ByteArray.mk #[])),(Value.string (ByteArray.mk #[])),(.int .i64 0),(.int .i64 0),(.bool false),(.slice none 0 0),(.slice none 0 0),(.slice none 0 0),(Value.string (ByteArray.mk #[])),(Value.string (ByteArray.mk #[])),(.slice none 0 0),(.bool false)]):=by kernel_rfl
theorem AKs:Ar Zd Zj []=some (.agg Zd):=by kernel_rfl
theorem AKr (x0:ByteArray)(x1:Option Addr)(x2:Nat)(x3:Nat):Ar #[(Value.string (ByteArray.mk #[])),(.int .i64 0),(.slice none 0 0)] #[(0,1),(1,1),(2,1)] [(0,.string x0),(2,.slice x1 x2 x3)]=some (.agg #[.string x0,(.int .i64 0),.slice x1 x2 x3]):=by kernel_rfl
theorem AKq (x0:Int)(x1:Int):Ar Zh Zn [(0,.int .i64 x0),(1,.int .i64 x1)]=some (.agg #[.int .i64 x0,.int .i64 x1,(Value.string (ByteArray.mk #[])),(.int .i64 0)]):=by kernel_rfl
theorem AKp (x0:Int)(x1:ByteArray):Ar Zd Zj [(0,.int .i64 x0),(2,.string x1)]=some (.agg #[.int .i64 x0,(.bool false),(.slice none 0 0),(.slice none 0 0),(.int .i64 0),(.int .i64 0),(.bool false),(.int .i64 0),(Value.string (ByteArray.mk #[])),(Value.string (ByteArray.mk #[])),(Value.string (ByteArray.mk #[])),(.int .i64 0),(.int .i64 0),(.bool false),(.slice none 0 0),(.slice none 0 0),(.int .i64 0),(.int .i64 0),(.bool false),(.int .i64 0),(Value.string (ByteArray.mk #[])),(Value.string (ByteArray.mk #[])),(Value.string (ByteArray.mk #[])),(.int .i64 0),(.int .i64 0),(.bool false),(.slice none 0 0),(.slice none 0 0),(.int .i64 0),(.int .i64 0),.string x1,(.slice none 0 0),(.slice none 0 0),(.slice none 0 0),(.int .i64 0),(.int .i64 0),(.bool false),(.int .i64 0),(Value.string (ByteArray.mk #[])),(Value.string (ByteArray.mk #[])),(Value.string (ByteArray.mk #[])),(.int .i64 0),(.int .i64 0),(.bool false),(.slice none 0 0),(.slice none 0 0),(.slice none 0 0),(Value.string (ByteArray.mk #[])),(Value.string (ByteArray.mk #[])),(.slice none 0 0),(.bool false)]):=by kernel_rfl
theorem AKo (x0:ByteArray):Ar Zs Zn [(0,.string x0)]=some (.agg #[.string x0,(Value.string (ByteArray.mk #[])),(.slice none 0 0),(.bool false)]):=by kernel_rfl
theorem AKn (x0:Int)(x1:ByteArray)(x2:ByteArray)(x3:Option Addr)(x4:Nat)(x5:Nat)(x6:Bool):Ar Zd Zj [(0,.int .i64 x0),(9,.agg #[.string x1,.string x2,.slice x3 x4 x5,.bool x6])]=some (.agg #[.int .i64 x0,(.bool false),(.slice none 0 0),(.slice none 0 0),(.int .i64 0),(.int .i64 0),(.bool false),(.int .i64 0),(Value.string (ByteArray.mk #[])),(Value.string (ByteArray.mk #[])),(Value.string (ByteArray.mk #[])),(.int .i64 0),(.int .i64 0),(.bool false),(.slice none 0 0),(.slice none 0 0),(.int .i64 0),(.int .i64 0),(.bool false),(.int .i64 0),(Value.string (ByteArray.mk #[])),(Value.string (ByteArray.mk #[])),(Value.string (ByteArray.mk #[])),(.int .i64 0),(.int .i64 0),(.bool false),(.slice none 0 0),(.slice none 0 0),(.int .i64 0),(.int .i64 0),(Value.string (ByteArray.mk #[])),(.slice none 0 0),(.slice none 0 0),(.slice none 0 0),(.int .i64 0),(.int .i64 0),(.bool false),(.int .i64 0),(Value.string (ByteArray.mk #[])),(Value.string (ByteArray.mk #[])),(Value.string (ByteArray.mk #[])),(.int .i64 0),(.int .i64 0),(.bool false),(.slice none 0 0),(.slice none 0 0),(.slice none 0 0),.string x1,.string x2,.slice x3 x4 x5,.bool x6]):=by kernel_rfl
theorem AKm (x0:Int):Ar #[(.int .i64 0)] #[(0,1)] [(0,.int .i64 x0)]=some (.agg #[.int .i64 x0]):=by kernel_rfl
theorem AKl (x0:Int):Ar Zp #[(0,1),(1,1),(2,1),(3,11),(14,1),(15,11),(26,1),(27,1),(28,1)] [(7,.int .i64 x0)]=some (.agg #[(.bool false),(.slice none 0 0),(.slice none 0 0),(.int .i64 0),(.int .i64 0),(.bool false),(.int .i64 0),(Value.string (ByteArray.mk #[])),(Value.string (ByteArray.mk #[])),(Value.string (ByteArray.mk #[])),(.int .i64 0),(.int .i64 0),(.bool false),(.slice none 0 0),(.slice none 0 0),(.int .i64 0),(.int .i64 0),(.bool false),(.int .i64 0),(Value.string (ByteArray.mk #[])),(Value.string (ByteArray.mk #[])),(Value.string (ByteArray.mk #[])),(.int .i64 0),(.int .i64 0),(.bool false),(.slice none 0 0),(.slice none 0 0),.int .i64 x0,(.int .i64 0)]):=by kernel_rfl
theorem AKk (x0:ByteArray)(x1:Int)(x2:Int)(x3:Bool)(x4:Int)(x5:ByteArray)(x6:ByteArray)(x7:ByteArray)(x8:Int)(x9:Int)(x10:Bool)(x11:Option Addr)(x12:Nat)(x13:Nat):Ar Zm #[(0,1),(1,11)] [(0,.string x0),(1,.agg #[.int .i64 x1,.int .i64 x2,.bool x3,.int .i64 x4,.string x5,.string x6,.string x7,.int .i64 x8,.int .i64 x9,.bool x10,.slice x11 x12 x13])]=some (.agg #[.string x0,.int .i64 x1,.int .i64 x2,.bool x3,.int .i64 x4,.string x5,.string x6,.string x7,.int .i64 x8,.int .i64 x9,.bool x10,.slice x11 x12 x13]):=by kernel_rfl
theorem AKj:Ar Zb Zk []=some (.agg Zb):=by kernel_rfl
theorem AKi:Ar Zs Zn []=some (.agg Zs):=by kernel_rfl
theorem AKh (x0:Int):Ar Zh Zn [(1,.int .i64 x0)]=some (.agg #[(.int .i64 0),.int .i64 x0,(Value.string (ByteArray.mk #[])),(.int .i64 0)]):=by kernel_rfl
theorem AKg (x0:Int)(x1:Bool):Ar Zp #[(0,1),(1,1),(2,1),(3,11),(14,1),(15,11),(26,1),(27,1),(28,1)] [(7,.int .i64 x0),(0,.bool x1)]=some (.agg #[.bool x1,(.slice none 0 0),(.slice none 0 0),(.int .i64 0),(.int .i64 0),(.bool false),(.int .i64 0),(Value.string (ByteArray.mk #[])),(Value.string (ByteArray.mk #[])),(Value.string (ByteArray.mk #[])),(.int .i64 0),(.int .i64 0),(.bool false),(.slice none 0 0),(.slice none 0 0),(.int .i64 0),(.int .i64 0),(.bool false),(.int .i64 0),(Value.string (ByteArray.mk #[])),(Value.string (ByteArray.mk #[])),(Value.string (ByteArray.mk #[])),(.int .i64 0),(.int .i64 0),(.bool false),(.slice none 0 0),(.slice none 0 0),.int .i64 x0,(.int .i64 0)]):=by kernel_rfl
theorem AKf (x0:ByteArray):Ar Zm #[(0,1),(1,11)] [(0,.string x0)]=some (.agg #[.string x0,(.int .i64 0),(.int .i64 0),(.bool false),(.int .i64 0),(Value.string (ByteArray.mk #[])),(Value.string (ByteArray.mk #[])),(Value.string (ByteArray.mk #[])),(.int .i64 0),(.int .i64 0),(.bool false),(.slice none 0 0)]):=by kernel_rfl
theorem AKe (x0:Bool):Ar Zs Zn [(3,.bool x0)]=some (.agg #[(Value.string (ByteArray.mk #[])),(Value.string (ByteArray.mk #[])),(.slice none 0 0),.bool x0]):=by kernel_rfl
theorem AKd (x0:Bool):Ar Ze Zo [(0,.bool x0)]=some (.agg #[.bool x0,(Value.string (ByteArray.mk #[])),(.int .i64 0),(.int .i64 0),(.bool false),(.int .i64 0),(Value.string (ByteArray.mk #[])),(Value.string (ByteArray.mk #[])),(Value.string (ByteArray.mk #[])),(.int .i64 0),(.int .i64 0),(.bool false),(.slice none 0 0),(Value.string (ByteArray.mk #[]))]):=by kernel_rfl
theorem AKc (x0:Bool)(x1:ByteArray):Ar Ze Zo [(0,.bool x0),(1,.string x1)]=some (.agg #[.bool x0,.string x1,(.int .i64 0),(.int .i64 0),(.bool false),(.int .i64 0),(Value.string (ByteArray.mk #[])),(Value.string (ByteArray.mk #[])),(Value.string (ByteArray.mk #[])),(.int .i64 0),(.int .i64 0),(.bool false),(.slice none 0 0),(Value.string (ByteArray.mk #[]))]):=by kernel_rfl
theorem AKb:Ar Ze Zo []=some (.agg Ze):=by kernel_rfl
theorem AKa (x0:Int)(x1:Int)(x2:Bool)(x3:Int)(x4:ByteArray)(x5:ByteArray)(x6:ByteArray)(x7:Int)(x8:Int)(x9:Bool)(x10:Option Addr)(x11:Nat)(x12:Nat)(x13:Bool):Ar Zl #[(0,11),(11,1)] [(0,.agg #[.int .i64 x0,.int .i64 x1,.bool x2,.int .i64 x3,.string x4,.string x5,.string x6,.int .i64 x7,.int .i64 x8,.bool x9,.slice x10 x11 x12]),(1,.bool x13)]=some (.agg #[.int .i64 x0,.int .i64 x1,.bool x2,.int .i64 x3,.string x4,.string x5,.string x6,.int .i64 x7,.int .i64 x8,.bool x9,.slice x10 x11 x12,.bool x13]):=by kernel_rfl
theorem AKZ (x0:Int)(x1:Int)(x2:Bool)(x3:Int)(x4:ByteArray)(x5:ByteArray)(x6:ByteArray)(x7:Int)(x8:Int)(x9:Bool)(x10:Option Addr)(x11:Nat)(x12:Nat):Ar Ze Zo [(2,.agg #[.int .i64 x0,.int .i64 x1,.bool x2,.int .i64 x3,.string x4,.string x5,.string x6,.int .i64 x7,.int .i64 x8,.bool x9,.slice x10 x11 x12])]=some (.agg #[(.bool false),(Value.string (ByteArray.mk #[])),.int .i64 x0,.int .i64 x1,.bool x2,.int .i64 x3,.string x4,.string x5,.string x6,.int .i64 x7,.int .i64 x8,.bool x9,.slice x10 x11 x12,(Value.string (ByteArray.mk #[]))]):=by kernel_rfl
theorem AKY (x0:Int)(x1:Int)(x2:Bool)(x3:Int)(x4:ByteArray)(x5:ByteArray)(x6:ByteArray)(x7:Int)(x8:Int)(x9:Bool)(x10:Option Addr)(x11:Nat)(x12:Nat):Ar Zl #[(0,11),(11,1)] [(0,.agg #[.int .i64 x0,.int .i64 x1,.bool x2,.int .i64 x3,.string x4,.string x5,.string x6,.int .i64 x7,.int .i64 x8,.bool x9,.slice x10 x11 x12])]=some (.agg #[.int .i64 x0,.int .i64 x1,.bool x2,.int .i64 x3,.string x4,.string x5,.string x6,.int .i64 x7,.int .i64 x8,.bool x9,.slice x10 x11 x12,(.bool false)]):=by kernel_rfl
theorem AKX (x0:ByteArray)(x1:Int):Ar Zc #[(0,1),(1,1)] [(0,.string x0),(1,.int .i64 x1)]=some (.agg #[.string x0,.int .i64 x1]):=by kernel_rfl
theorem AKW (x0:Bool)(x1:ByteArray):Ar Zr #[(0,1),(1,1)] [(0,.bool x0),(1,.string x1)]=some (.agg #[.bool x0,.string x1]):=by kernel_rfl
theorem AKV:Ar Zg #[(0,1),(1,1),(2,1),(3,11)] []=some (.agg Zg):=by kernel_rfl
theorem AKU (x0:Int)(x1:Option Addr)(x2:Nat)(x3:Nat):Ar Zb Zk [(0,.int .i64 x0),(7,.slice x1 x2 x3)]=some (.agg #[.int .i64 x0,(.int .i64 0),(.bool false),(.int .i64 0),(Value.string (ByteArray.mk #[])),(Value.string (ByteArray.mk #[])),(Value.string (ByteArray.mk #[])),(.int .i64 0),(.int .i64 0),(.bool false),.slice x1 x2 x3]):=by kernel_rfl
theorem AKT:Ar Zi #[(0,1),(1,1),(2,1),(3,1),(4,1),(5,11)] []=some (.agg Zi):=by kernel_rfl
theorem AKS (x0:ByteArray):Ar Zg #[(0,1),(1,1),(2,1),(3,11)] [(0,.string x0)]=some (.agg #[.string x0,(Value.string (ByteArray.mk #[])),(.bool false),(.int .i64 0),(.int .i64 0),(.bool false),(.int .i64 0),(Value.string (ByteArray.mk #[])),(Value.string (ByteArray.mk #[])),(Value.string (ByteArray.mk #[])),(.int .i64 0),(.int .i64 0),(.bool false),(.slice none 0 0)]):=by kernel_rfl
theorem AKR (x0:ByteArray):Ar Zi #[(0,1),(1,1),(2,1),(3,1),(4,1),(5,11)] [(0,.string x0)]=some (.agg #[.string x0,(.int .i64 0),(.bool false),(.bool false),(.bool false),(.int .i64 0),(.int .i64 0),(.bool false),(.int .i64 0),(Value.string (ByteArray.mk #[])),(Value.string (ByteArray.mk #[])),(Value.string (ByteArray.mk #[])),(.int .i64 0),(.int .i64 0),(.bool false),(.slice none 0 0)]):=by kernel_rfl
theorem AKQ (x0:Int):Ar Zb Zk [(0,.int .i64 x0)]=some (.agg #[.int .i64 x0,(.int .i64 0),(.bool false),(.int .i64 0),(Value.string (ByteArray.mk #[])),(Value.string (ByteArray.mk #[])),(Value.string (ByteArray.mk #[])),(.int .i64 0),(.int .i64 0),(.bool false),(.slice none 0 0)]):=by kernel_rfl
theorem AKP (x0:Int)(x1:ByteArray):Ar Zq Zn [(0,.int .i64 x0),(3,.string x1)]=some (.agg #[.int .i64 x0,(.bool false),(.int .i64 0),.string x1]):=by kernel_rfl
theorem AKO (x0:Int)(x1:Int):Ar Zq Zn [(0,.int .i64 x0),(2,.int .i64 x1)]=some (.agg #[.int .i64 x0,(.bool false),.int .i64 x1,(Value.string (ByteArray.mk #[]))]):=by kernel_rfl
theorem AKN (x0:Int):Ar Zq Zn [(0,.int .i64 x0)]=some (.agg #[.int .i64 x0,(.bool false),(.int .i64 0),(Value.string (ByteArray.mk #[]))]):=by kernel_rfl
theorem AKM (x0:Int)(x1:Bool):Ar Zq Zn [(0,.int .i64 x0),(1,.bool x1)]=some (.agg #[.int .i64 x0,.bool x1,(.int .i64 0),(Value.string (ByteArray.mk #[]))]):=by kernel_rfl
theorem AKL (x0:Int)(x1:Int)(x2:Bool)(x3:Int)(x4:ByteArray):Ar Zb Zk [(0,.int .i64 x0),(1,.agg #[.int .i64 x1,.bool x2,.int .i64 x3,.string x4])]=some (.agg #[.int .i64 x0,.int .i64 x1,.bool x2,.int .i64 x3,.string x4,(Value.string (ByteArray.mk #[])),(Value.string (ByteArray.mk #[])),(.int .i64 0),(.int .i64 0),(.bool false),(.slice none 0 0)]):=by kernel_rfl
theorem AKK (x0:Int)(x1:ByteArray)(x2:ByteArray):Ar Zb Zk [(0,.int .i64 x0),(2,.string x1),(3,.string x2)]=some (.agg #[.int .i64 x0,(.int .i64 0),(.bool false),(.int .i64 0),(Value.string (ByteArray.mk #[])),.string x1,.string x2,(.int .i64 0),(.int .i64 0),(.bool false),(.slice none 0 0)]):=by kernel_rfl
theorem AKJ (x0:Int)(x1:ByteArray):Ar Zb Zk [(0,.int .i64 x0),(3,.string x1)]=some (.agg #[.int .i64 x0,(.int .i64 0),(.bool false),(.int .i64 0),(Value.string (ByteArray.mk #[])),(Value.string (ByteArray.mk #[])),.string x1,(.int .i64 0),(.int .i64 0),(.bool false),(.slice none 0 0)]):=by kernel_rfl
end Go.Proofs.YtkifgfanjcfedaaGreatDoor
namespace Go.SL
abbrev blt:List UInt8→List UInt8→Bool:=Op.bytesLess
theorem KA (a:List UInt8):(⟨a.toArray⟩:ByteArray).toList=a:=by simp [Go.ByteArray.toList_mk]
theorem Qz (a:List UInt8):(⟨a.toArray⟩:ByteArray).size=a.length:=by simp [ByteArray.size]
section
variable (a b:List UInt8)
theorem sEq:Ah .eql (.string ⟨a.toArray⟩) (.string ⟨b.toArray⟩)=some (.bool (a==b)):=by simp only [Ah,KA]
theorem sNe:Ah .neq (.string ⟨a.toArray⟩) (.string ⟨b.toArray⟩)=some (.bool (!(a==b))):=by simp only [Ah,KA]
theorem sLt:Ah .lss (.string ⟨a.toArray⟩) (.string ⟨b.toArray⟩)=some (.bool (blt a b)):=by simp only [Ah,KA]
theorem sLe:Ah .leq (.string ⟨a.toArray⟩) (.string ⟨b.toArray⟩)=some (.bool (blt a b||a==b)):=by simp only [Ah,KA]
theorem sGt:Ah .gtr (.string ⟨a.toArray⟩) (.string ⟨b.toArray⟩)=some (.bool (!(blt a b||a==b))):=by simp only [Ah,KA]
theorem sGe:Ah .geq (.string ⟨a.toArray⟩) (.string ⟨b.toArray⟩)=some (.bool (!(blt a b))):=by simp only [Ah,KA]
theorem AWP (h:a.length+b.length≤9223372036854775807):Ah .add (.string ⟨a.toArray⟩) (.string ⟨b.toArray⟩)=some (.string ⟨(a++b).toArray⟩):=by
 simp only [Ah,Qz];rw [if_pos h];have:(⟨a.toArray⟩:ByteArray)++⟨b.toArray⟩=⟨(a++b).toArray⟩:=by
  apply ByteArray.ext
  simp
 rw [this]
theorem WP:Bv (.string ⟨a.toArray⟩)=some (.int .i64 a.length):=by rw [AMb,Qz]
end
theorem Vf (a b c d:Int):Ig .eql [(TypeDesc.int .i64,0),(TypeDesc.int .i64,1)] (.agg #[.int .i64 a,.int .i64 b]) (.agg #[.int .i64 c,.int .i64 d])=some (.bool ((a==c)&&(b==d))):=by
 simp [Ig,MO,eqD]
theorem ABs (a b c d:Int):Ig .neq [(TypeDesc.int .i64,0),(TypeDesc.int .i64,1)] (.agg #[.int .i64 a,.int .i64 b]) (.agg #[.int .i64 c,.int .i64 d])=some (.bool !((a==c)&&(b==d))):=by
 simp [Ig,MO,eqD]
theorem Yi (off n:Nat)(l:List Value):Iy true off n (.agg l.toArray)=some (.agg ((l.drop off).take n).toArray):=by
 simp only [Iy,if_true];congr 2
 apply Array.ext'
 simp [List.take_drop,Nat.add_comm]
theorem Yh (off n:Nat)(l:List Value):Iy false off n (.agg l.toArray)=l[off]? :=by
 simp [Iy]
def cmpL (a b:List UInt8):Int:=match (List.range (min a.length b.length)).find? λi=>a.getD i 0 != b.getD i 0 with
 |some i=>if a.getD i 0 < b.getD i 0 then -1 else 1
 |none=>if a.length < b.length then -1 else if a.length > b.length then 1 else 0
theorem AWZ (a:List UInt8)(i:Nat):(⟨a.toArray⟩:ByteArray)[i]! =a.getD i 0:=by
 by_cases h:i < a.length
 ·have hs:i < (⟨a.toArray⟩:ByteArray).size:=by rw [Qz];exact h
  rw [getElem!_pos (⟨a.toArray⟩:ByteArray) i hs];show a.toArray[i]'(by simpa using h)=_;simp [List.getD,h]
 ·have hs:¬i < (⟨a.toArray⟩:ByteArray).size:=by rw [Qz];exact h
  rw [getElem!_neg (⟨a.toArray⟩:ByteArray) i hs];simp [List.getD,List.getElem?_eq_none (Nat.le_of_not_lt h)];rfl
section
variable {P:Program}{ω:Om}{I:Imm}{L:LH}{K:Value→M}
end
section
variable {I I0:Imm}{L L' X:LH}{K:Value→M}{b off n T:Nat}
theorem AIS {l:List Value}{T:Nat}{fr:Nat×Nat}[h:InL b X (.cells l.toArray T fr)](vs:List Value)(he:(l.drop off).take n=vs)(hl:vs.length=n)(hk:K (.agg vs.toArray) I L):Rv (some (Stay I0 X)) (AC n (.pointer (some ⟨b,off,none⟩))) K I L:=
 AQP hl (λI' L' hS j u hu=>Cell.own (hS.2 _ h.mem) (by
  subst he;rw [List.getElem?_take] at hu;split at hu
  ·rw [List.getElem?_drop] at hu;simpa using hu
  ·cases hu)) hk
theorem stP {l vs:List Value}(l':List Value)[h:InL b L (.cells l.toArray T (0,0))](he:l.take off++(vs++l.drop (off+n))=l')(hl:vs.length=n)(hleb:Nat.ble (off+n) l.length=true)(h1:vs.all (·.oneCell')=true)[u:UpL b L (.cells l.toArray T (0,0)) (.cells l'.toArray T (0,0)) L'](hk:K undef I L'):
  Sto n (.pointer (some ⟨b,off,none⟩)) (.agg vs.toArray) (gh K) I L:=by
 have hle:=Nat.le_of_ble_eq_true hleb;obtain ⟨L1,L2,rfl,rfl⟩:=u.up;refine ⟨b,off,l.toArray,T,L1,L2,rfl,by simp [Value.cells,hl],by simpa [Value.cells] using Au h1,by simpa using hle,rfl,?_⟩;simp only [Value.cells];rw [XQ vs l.toArray off (by simp;omega)];subst he;refine zAA ?_;rw [hl];simpa using hk
end
class MemB (x:Nat×Obj) (L:LH):Prop where
 mem:x∈L
instance memBRight (x:Nat×Obj)(A L:LH)[h:MemB x L]:MemB x (A++L):=⟨List.mem_append_right _ h.mem⟩
instance memBThere (x y:Nat×Obj)(L:LH)[h:MemB x L]:MemB x (y::L):=⟨List.mem_cons_of_mem _ h.mem⟩
instance memBHere (x:Nat×Obj)(L:LH):MemB x (x::L):=⟨List.mem_cons_self ..⟩
instance (priority:=70) lsubConsL (x:Nat×Obj)(X L:LH)[h:MemB x L][h':LSub X L]:LSub (x::X) L:=⟨λy hy=>by
 rcases List.mem_cons.1 hy with rfl|hy
 ·exact h.mem
 ·exact h'.sub y hy⟩
class DelB (b:Nat) (L:LH) (L':outParam LH):Prop where
 sub:∀x∈L',x∈L
instance delBThere (b:Nat)(x:Nat×Obj)(L L':LH)[h:DelB b L L']:DelB b (x::L) (x::L'):=⟨λy hy=>by
 rcases List.mem_cons.1 hy with rfl|hy
 ·exact List.mem_cons_self ..
 ·exact List.mem_cons_of_mem _ (h.sub y hy)⟩
instance delBHere (b:Nat)(o:Obj)(L:LH):DelB b ((b,o)::L) L:=⟨λy hy=>List.mem_cons_of_mem _ hy⟩
theorem Oz {I:Imm}{L X:LH}{B:M→M}{b off:Nat}[h:DelB b L X](hB:B (Stay I X) I L):AEN [.pointer (some ⟨b,off,none⟩)] B I L:=draw _ ⟨zAC I,h.sub⟩ hB
theorem Oy {I:Imm}{L X Y:LH}{B:M→M}{b off c off':Nat}[h:DelB b L X][h':DelB c X Y](hB:B (Stay I Y) I L):AEN [.pointer (some ⟨b,off,none⟩),.pointer (some ⟨c,off',none⟩)] B I L:=draw _ ⟨zAC I,λx hx=>h.sub x (h'.sub x hx)⟩ hB
class PickB (b:Nat) (L:LH) (o:outParam Obj) (R:outParam LH):Prop where
 perm:L.Perm ((b,o)::R)
instance pickBRight (b:Nat)(o:Obj)(A L R:LH)[h:PickB b L o R]:PickB b (A++L) o (A++R):=⟨(List.Perm.append_left A h.perm).trans List.perm_middle⟩
instance pickBThere (b:Nat)(o:Obj)(y:Nat×Obj)(L R:LH)[h:PickB b L o R]:PickB b (y::L) o (y::R):=⟨(List.Perm.cons y h.perm).trans (List.Perm.swap ..)⟩
instance pickBHere (b:Nat)(o:Obj)(R:LH):PickB b ((b,o)::R) o R:=⟨List.Perm.refl _⟩
section
variable {α:Type}{R:Imm→α→List Value→Prop}{I:Imm}{T n bytes:Nat}{z:Array Value}{X6 L0 F:LH}{v:Value}{xs:List α}{x:α}{c cells:List Value}{K:Value→M}
theorem Lc [SplitL X6 L0 F](hz:z.size=n)(hn:0 < n)(h6:SlO T n X6 v cells xs.length)(hR:Recs (R I) n xs cells)(hx:R I x c)(hcl:c.length=n)(h1:∀u∈c,u.oneCell'=true)(hb:(xs.length+1) * bytes≤150000000000000)(hl:xs.length+1≤150000000000000)
  (hk:∀X1 X6' v' cells',SlO T n X6' v' cells' (xs++[x]).length→Recs (R I) n (xs++[x]) cells'→K v' I (X6'++(X1++F))):
  AY T n z 1 [(0,.agg c.toArray)] (gh λu=>App T n bytes z v u (gh K)) I L0:=by
 refine GK hz hn (by simpa [Value.cells] using hcl) (λX1 u hX1=>?_);refine Ee (X:=X6) hz h6 (hX1.news (λx hx=>List.mem_append_left _ hx)) (λu hu=>h1 u (by simpa [Value.cells] using hu)) hb hl (λX' v' hX'=>?_);exact hk X1 X' v' _ (by simpa [Value.cells] using hX') (Recs.append hR (Recs.one (by simpa [Value.cells] using hcl) (by simpa [Value.cells] using hx)))
theorem YC [SplitL X6 L0 F]{w:Value}(hz:z.size=1)(h6:SlO T 1 X6 v cells xs.length)(hR:Recs (R I) 1 xs cells)(hx:R I x [w])(h1:w.oneCell'=true)(hb:(xs.length+1) * bytes≤150000000000000)(hl:xs.length+1≤150000000000000)
  (hk:∀X1 X6' v' cells',SlO T 1 X6' v' cells' (xs++[x]).length→Recs (R I) 1 (xs++[x]) cells'→K v' I (X6'++(X1++F))):
  AY T 1 z 1 [(0,w)] (gh λu=>App T 1 bytes z v u (gh K)) I L0:=by
 have hc:w.cells=#[w]:=by cases w <;> first|rfl|simp [Value.oneCell'] at h1
 refine GK hz (by omega) (by rw [hc];rfl) (λX1 u hX1=>?_);rw [hc] at hX1;refine Ee (X:=X6) hz h6 (hX1.news (λx hx=>List.mem_append_left _ hx)) (by simpa using h1) hb hl (λX' v' hX'=>?_);exact hk X1 X' v' _ (by simpa using hX') (Recs.append hR (Recs.one rfl hx))
theorem RL.ofO {A:M}{X F:LH}(hm:∀{I I':Imm} {x:α} {c:List Value},R I x c→Ext I I'→R I' x c)(h:SlO T n X v cells xs.length)(hR:Recs (R I) n xs cells)(hk:∀I',Ext I I'→RL R n I' [] v xs→Gh A I' F):Gh A I (X++F):=
 SlO.freeze h (λI' hI hS=>hk I' hI (RL.ofI hS (hR.imp λ_ _ h=>hm h hI)))
end
end Go.SL
namespace Go.Proofs.YtkifgfanjcfedaaGreatDoor
open Go.SL
theorem APY (k:Nat)(p:Value)(K:Value→M):Lf k p K=Pv (AO k p) λa=>Rn (Aq a) K:=rfl
theorem APX (S:M)(k:Nat)(p:Value)(K:Value→M):Lg S k p K=Pv (AO k p) λa=>Rs S (Aq a) K:=rfl
theorem SSd:type_of% (And.intro @APY <| And.intro @APX <| And.intro @Dz<|And.intro @AJf<|And.intro @AIv<|And.intro @AIw<|And.intro @AJL<|And.intro @AJz<|And.intro @WP<|And.intro @AJB<|And.intro @AJD<|And.intro @AGS<|And.intro @ABk<|And.intro @ABl<|And.intro @ADc<|And.intro @ADd<|And.intro @APF<|And.intro @AJq<|And.intro @ZR<|And.intro @ZI<|And.intro @ZK<|And.intro @ZP<|And.intro @ZJ<|And.intro @ZL<|And.intro @ZM<|And.intro @ZN<|And.intro @ZO<|And.intro @ZQ<|And.intro @AED<|And.intro @ZU<|And.intro @ZT<|And.intro @sEq<|And.intro @sNe<|And.intro @sLt<|And.intro @sLe<|And.intro @sGt<|And.intro @sGe<|And.intro @Vf<|And.intro @ABs<|And.intro @Yi<|And.intro @Yh<|And.intro @IB<|And.intro @OO<|And.intro @OT<|And.intro @OQ<|And.intro @Po<|And.intro @Pm<|And.intro @RD<|And.intro @OW<|And.intro @AEI<|And.intro @AEK<|And.intro @AEJ<|And.intro @AEL<|And.intro @VY<|And.intro (@List.getElem?_toArray Value)<|And.intro (@List.getElem?_cons_zero Value)<|And.intro (@List.getElem?_cons_succ Value)<|And.intro @Nat.zero_add<|And.intro @Nat.add_zero<|And.intro @Nat.zero_mul<|And.intro (@List.drop_succ_cons Value)<|And.intro (@List.drop_zero Value)<|And.intro (@List.take_succ_cons Value)<|And.intro (@List.take_zero Value)<|And.intro (@List.nil_append Value)<|And.intro (@List.cons_append Value)<|And.intro (@List.drop_nil Value)<|And.intro (@List.take_nil Value)<|And.intro @APS<|And.intro @APR<|And.intro @APQ<|And.intro @APP<|And.intro @APO<|And.intro @APN<|And.intro @APM<|And.intro @APL<|And.intro @APK<|And.intro @AKt<|And.intro @AKs<|And.intro @AKr<|And.intro @AKq<|And.intro @AKp<|And.intro @AKo<|And.intro @AKn<|And.intro @AKm<|And.intro @AKl<|And.intro @AKk<|And.intro @AKj<|And.intro @AKi<|And.intro @AKh<|And.intro @AKg<|And.intro @AKf<|And.intro @AKe<|And.intro @AKd<|And.intro @AKc<|And.intro @AKb<|And.intro @AKa<|And.intro @AKZ<|And.intro @AKY<|And.intro @AKX<|And.intro @AKW<|And.intro @AKV<|And.intro @AKU<|And.intro @AKT<|And.intro @AKS<|And.intro @AKR<|And.intro @AKQ<|And.intro @AKP<|And.intro @AKO<|And.intro @AKN<|And.intro @AKM<|And.intro @AKL<|And.intro @AKK<|And.intro @AKJ<|And.intro (@List.nil_append (Nat×Obj))<|(@List.cons_append (Nat×Obj))):=And.intro @APY <| And.intro @APX <| And.intro @Dz<|And.intro @AJf<|And.intro @AIv<|And.intro @AIw<|And.intro @AJL<|And.intro @AJz<|And.intro @WP<|And.intro @AJB<|And.intro @AJD<|And.intro @AGS<|And.intro @ABk<|And.intro @ABl<|And.intro @ADc<|And.intro @ADd<|And.intro @APF<|And.intro @AJq<|And.intro @ZR<|And.intro @ZI<|And.intro @ZK<|And.intro @ZP<|And.intro @ZJ<|And.intro @ZL<|And.intro @ZM<|And.intro @ZN<|And.intro @ZO<|And.intro @ZQ<|And.intro @AED<|And.intro @ZU<|And.intro @ZT<|And.intro @sEq<|And.intro @sNe<|And.intro @sLt<|And.intro @sLe<|And.intro @sGt<|And.intro @sGe<|And.intro @Vf<|And.intro @ABs<|And.intro @Yi<|And.intro @Yh<|And.intro @IB<|And.intro @OO<|And.intro @OT<|And.intro @OQ<|And.intro @Po<|And.intro @Pm<|And.intro @RD<|And.intro @OW<|And.intro @AEI<|And.intro @AEK<|And.intro @AEJ<|And.intro @AEL<|And.intro @VY<|And.intro (@List.getElem?_toArray Value)<|And.intro (@List.getElem?_cons_zero Value)<|And.intro (@List.getElem?_cons_succ Value)<|And.intro @Nat.zero_add<|And.intro @Nat.add_zero<|And.intro @Nat.zero_mul<|And.intro (@List.drop_succ_cons Value)<|And.intro (@List.drop_zero Value)<|And.intro (@List.take_succ_cons Value)<|And.intro (@List.take_zero Value)<|And.intro (@List.nil_append Value)<|And.intro (@List.cons_append Value)<|And.intro (@List.drop_nil Value)<|And.intro (@List.take_nil Value)<|And.intro @APS<|And.intro @APR<|And.intro @APQ<|And.intro @APP<|And.intro @APO<|And.intro @APN<|And.intro @APM<|And.intro @APL<|And.intro @APK<|And.intro @AKt<|And.intro @AKs<|And.intro @AKr<|And.intro @AKq<|And.intro @AKp<|And.intro @AKo<|And.intro @AKn<|And.intro @AKm<|And.intro @AKl<|And.intro @AKk<|And.intro @AKj<|And.intro @AKi<|And.intro @AKh<|And.intro @AKg<|And.intro @AKf<|And.intro @AKe<|And.intro @AKd<|And.intro @AKc<|And.intro @AKb<|And.intro @AKa<|And.intro @AKZ<|And.intro @AKY<|And.intro @AKX<|And.intro @AKW<|And.intro @AKV<|And.intro @AKU<|And.intro @AKT<|And.intro @AKS<|And.intro @AKR<|And.intro @AKQ<|And.intro @AKP<|And.intro @AKO<|And.intro @AKN<|And.intro @AKM<|And.intro @AKL<|And.intro @AKK<|And.intro @AKJ<|And.intro (@List.nil_append (Nat×Obj))<|(@List.cons_append (Nat×Obj))
theorem SSg:type_of% (And.intro @Bool.not_true<|And.intro @Bool.not_false<|And.intro @Bool.and_self<|And.intro @Bool.true_and<|And.intro @decide_true<|And.intro @decide_false<|And.intro @RD<|And.intro @OW<|And.intro @AEI<|And.intro @AEK<|And.intro @AEJ<|@AEL):=And.intro @Bool.not_true<|And.intro @Bool.not_false<|And.intro @Bool.and_self<|And.intro @Bool.true_and<|And.intro @decide_true<|And.intro @decide_false<|And.intro @RD<|And.intro @OW<|And.intro @AEI<|And.intro @AEK<|And.intro @AEJ<|@AEL
end Go.Proofs.YtkifgfanjcfedaaGreatDoor
namespace Go.SL
def Zw:Nat→List Value→List (Nat×Value)
 |_,[]=>[]
 |i,v::r=>(i,v)::Zw (i+1) r
theorem ADr:∀(vs:List Value) (cs:Array Value) (off k:Nat),off+k+vs.length≤cs.size→(vs.zipIdx k).foldl (λcs (c,j)=>cs.setIfInBounds (off+j) c) cs=wr cs (off+k) vs
 |[],cs,off,k,_=>rfl
 |v::vs,cs,off,k,h=>by
  simp only [List.zipIdx_cons,List.foldl_cons,wr];simp only [List.length_cons] at h;exact ADr vs (cs.setIfInBounds (off+k) v) off (k+1) (by simp;omega)
theorem Yl {n:Nat}:∀(vs:List Value) (k:Nat) (cells:Array Value),(∀v∈vs,v.cells.size=n)→(k+vs.length) * n≤cells.size→
  ∃r,Instr.fill (λi=>some (i * n,n)) cells (Zw k vs)=some r∧r.toList=cells.toList.take (k * n)++vs.flatMap (·.cells.toList)++cells.toList.drop ((k+vs.length) * n)
 |[],k,cells,_,h=>⟨cells,rfl,by simp⟩
 |v::vs,k,cells,hv,h=>by
  have hv0:=hv v (List.mem_cons_self ..);simp only [List.length_cons] at h;have e1:(k+1) * n=k * n+n:=by rw [Nat.add_mul,Nat.one_mul]
  have e2:(k+(vs.length+1)) * n=(k+1+vs.length) * n:=by congr 1;omega
  have e3:(k+1) * n≤(k+1+vs.length) * n:=Nat.mul_le_mul_right n (by omega);have hsz:k * n+v.cells.size≤cells.size:=by omega
  simp only [Zw,Instr.fill];rw [if_neg (by simp [hv0];omega)];have hf:v.cells.zipIdx.foldl (λcs (c,j)=>cs.setIfInBounds (k * n+j) c) cells=wr cells (k * n) v.cells.toList:=by
   rw [←Array.foldl_toList];simp only [Array.toList_zipIdx];exact ADr v.cells.toList cells (k * n) 0 (by simp;omega)
  rw [hf];obtain ⟨r,h1,h2⟩:=Yl vs (k+1) (wr cells (k * n) v.cells.toList) (λu hu=>hv u (List.mem_cons_of_mem _ hu)) (by rw [QG];omega);refine ⟨r,h1,?_⟩;rw [h2,XQ _ _ _ (by simp;omega)];have hlt:(cells.toList.take (k * n)).length=k * n:=by rw [List.length_take,Array.length_toList];omega
  have hvl:v.cells.toList.length=n:=by rw [Array.length_toList,hv0]
  have e4:k * n+n≤(k+1+vs.length) * n:=by omega
  have e5:(k+(vs.length+1)) * n=(k+1+vs.length) * n:=e2;rw [hvl];simp only [List.toList_toArray,List.flatMap_cons,List.length_cons,e5,e1];have a1:(cells.toList.take (k * n)++v.cells.toList++cells.toList.drop (k * n+n)).take (k * n+n)=cells.toList.take (k * n)++v.cells.toList:=by
   rw [List.take_append_of_le_length (by rw [List.length_append,hlt,hvl];exact Nat.le_refl _),List.take_of_length_le (by rw [List.length_append,hlt,hvl];exact Nat.le_refl _)]
  have a2:(cells.toList.take (k * n)++v.cells.toList++cells.toList.drop (k * n+n)).drop ((k+1+vs.length) * n)=cells.toList.drop ((k+1+vs.length) * n):=by
   rw [List.drop_append,List.drop_eq_nil_of_le (by rw [List.length_append,hlt,hvl];exact e4),List.nil_append,List.drop_drop,List.length_append,hlt,hvl];congr 1
   omega
  rw [a1,a2];simp only [List.append_assoc]
section
variable {I:Imm}{F:LH}{T n len:Nat}{z:Array Value}{parts:List (Nat×Value)}{K:Value→M}
theorem ATK (vs:List Value)(hp:parts=Zw 0 vs)(hl:vs.length=len)(hv:∀v∈vs,v.cells.size=n)
  (hk:∀X a,SlO T n X (.slice a len len) (vs.flatMap (·.cells.toList)) len→Gh (K (.slice a len len)) I (X++F)):AY T n z len parts (gh K) I F:=by
 subst hp hl;obtain ⟨r,h1,h2⟩:=Yl vs 0 ((Array.range (vs.length * n)).map (z[· % z.size]!)) hv (by simp);have h2:r=(vs.flatMap (·.cells.toList)).toArray:=by
  apply Array.ext'
  rw [h2];simp only [Nat.zero_mul,List.take_zero,List.nil_append,Nat.zero_add];rw [List.drop_eq_nil_of_le (by simp),List.append_nil]
 subst h2;have hlen:(vs.flatMap (·.cells.toList)).length=vs.length * n:=by
  clear h1 h2 hk;induction vs with
  |nil=>simp
  |cons v vs ih=>
   have h0:=ih (λu hu=>hv u (List.mem_cons_of_mem _ hu));rw [List.flatMap_cons,List.length_append,Array.length_toList,hv v (List.mem_cons_self ..),h0,List.length_cons,Nat.add_mul,Nat.one_mul,Nat.add_comm]
 refine ⟨_,h1,λb=>?_⟩;exact hk [(b,_)] _ ⟨hlen,.inr ⟨b,vs.length,_,rfl,rfl,by simp [hlen],Nat.le_refl _,λj u hu=>by simpa using hu⟩⟩
theorem AEC (vs:List Value)(hp:parts=Zw 0 vs)(hl:vs.length=len)(hv:∀v∈vs,v.cells.size=n)
  (hk:∀I' a,Ext I I'→SlI I' n (.slice a len len) (vs.flatMap (·.cells.toList)) len→Gh (K (.slice a len len)) I' F):AY T n z len parts (gh K) I F:=
 ATK vs hp hl hv λX a h=>SlO.freeze h λI' hI hS=>hk I' a hI hS
end
def ADi (α:Type):Setoid (List α):=⟨List.Perm,List.Perm.refl,List.Perm.symm,List.Perm.trans⟩
def MS (α:Type):Type:=Quotient (ADi α)
def ms {α:Type}(l:List α):MS α:=Quotient.mk (ADi α) l
def AOy {α:Type}(a b:MS α):MS α:=Quotient.liftOn₂ a b (λx y=>ms (x++y)) (λ_ _ _ _ h1 h2=>Quotient.sound (s:=ADi α) (List.Perm.append h1 h2))
instance {α:Type}:Std.Associative (AOy (α:=α)):=⟨λa b c=>by
 refine Quotient.inductionOn₃ a b c λx y z=>?_;show ms (x++y++z)=ms (x++(y++z));rw [List.append_assoc]⟩
instance {α:Type}:Std.Commutative (AOy (α:=α)):=⟨λa b=>by
 refine Quotient.inductionOn₂ a b λx y=>?_;exact Quotient.sound (s:=ADi α) List.perm_append_comm⟩
abbrev Key:=List UInt8
def JS (k:Key):Value:=.string ⟨k.toArray⟩
def KJ (e:MapEntry):Key:=match e.key with
 | .string s=>s.data.toList
 |_=>[]
def fnd (k:Key):List MapEntry→Nat→Option (Nat×Value)
 |[],_=>none
 |e::r,i=>if KJ e=k then some (i,e.val) else fnd k r (i+1)
def KN (m:Key→Option Value)(k:Key)(v:Option Value):Key→Option Value:=λq=>if q=k then v else m q
structure MapS (es:Array MapEntry)(clock:Nat)(m:Key→Option Value):Prop where
 str:∀e∈es.toList,∃s:ByteArray,e.key= .string s
 nod:(es.toList.map KJ).Nodup
 brn:∀e∈es.toList,e.born < clock
 bnd:(es.toList.map (·.born)).Nodup
 val:∀k,m k=(fnd k es.toList 0).map (·.2)
theorem AFw {a b:ByteArray}:(a==b)=decide (a.data.toList=b.data.toList):=by
 cases a with
 |mk a=>cases b with
  |mk b=>
   show (a==b)=_;rw [Bool.eq_iff_iff];simp only [beq_iff_eq,decide_eq_true_eq];exact ⟨λh=>by rw [h],λh=>by cases a;cases b;simpa using h⟩
theorem Pg {k:Key}:∀{l:List MapEntry} {i:Nat},(∀e∈l,∃s:ByteArray,e.key= .string s)→Instr.findNow .string (JS k) l i=some (fnd k l i)
 |[],_,_=>rfl
 |e::l,i,h=>by
  obtain ⟨s,hs⟩:=h e (List.mem_cons_self ..);have ih:=Pg (k:=k) (l:=l) (i:=i+1) (λx hx=>h x (List.mem_cons_of_mem _ hx));simp only [Instr.findNow,fnd,KJ,hs,JS,Instr.sameNow];rw [AFw];by_cases hk:s.data.toList=k
  ·have:decide ((⟨k.toArray⟩:ByteArray).data.toList=s.data.toList)=true:=by simp [hk]
   rw [this,if_pos hk]
  ·have:decide ((⟨k.toArray⟩:ByteArray).data.toList=s.data.toList)=false:=by simp;exact λh=>hk h.symm
   rw [this,if_neg hk];exact ih
theorem MapS.find {es:Array MapEntry}{clock:Nat}{m:Key→Option Value}(h:MapS es clock m)(k:Key):Instr.findNow .string (JS k) es.toList 0=some (fnd k es.toList 0):=Pg h.str
theorem MapS.empty:MapS #[] 0 (λ_=>none):=⟨λe h=>by simp at h,by simp,λe h=>by simp at h,by simp,λk=>rfl⟩
theorem fnd_none {k:Key}:∀{l:List MapEntry} {i:Nat},fnd k l i=none↔k ∉ l.map KJ
 |[],_=>by simp [fnd]
 |e::l,i=>by
  simp only [fnd,List.map_cons,List.mem_cons,not_or];by_cases h:KJ e=k
  ·simp [h]
  ·rw [if_neg h,fnd_none (l:=l)];exact ⟨λh'=>⟨λe'=>h e'.symm,h'⟩,λh'=>h'.2⟩
theorem Yf {k:Key}:∀{l:List MapEntry} {i j:Nat} {v:Value},fnd k l i=some (j,v)→∃n e,j=i+n∧l[n]? =some e∧KJ e=k∧e.val=v
 |[],_,_,_,h=>by simp [fnd] at h
 |e::l,i,j,v,h=>by
  simp only [fnd] at h;split at h
  ·rename_i hk
   simp only [Option.some.injEq,Prod.mk.injEq] at h;exact ⟨0,e,by omega,rfl,hk,h.2⟩
  ·obtain ⟨n,e',h1,h2,h3,h4⟩:=Yf h;exact ⟨n+1,e',by omega,by simpa using h2,h3,h4⟩
theorem Ls {k:Key}:∀{l:List MapEntry} {i j:Nat},(fnd k l i).map (·.2)=(fnd k l j).map (·.2)
 |[],_,_=>rfl
 |e::l,i,j=>by
  simp only [fnd];split
  ·rfl
  ·exact Ls
theorem TN {k:Key}:∀{l l':List MapEntry} {i:Nat},(fnd k (l++l') i).map (·.2)=match (fnd k l i).map (·.2) with
  |some v=>some v
  |none=>(fnd k l' 0).map (·.2)
 |[],l',i=>by simp only [List.nil_append,fnd,Option.map_none];exact Ls
 |e::l,l',i=>by
  simp only [List.cons_append,fnd];split
  ·rfl
  ·exact TN
theorem ADs {k q:Key}{v:Value}:∀{l:List MapEntry} {n:Nat} {e:MapEntry},l[n]? =some e→KJ e=k→(l.map KJ).Nodup→
  (fnd q (l.set n {e with key:=JS k,val:=v}) 0).map (·.2)=if q=k then some v else (fnd q l 0).map (·.2)
 |[],n,e,h,_,_=>by simp at h
 |x::l,0,e,h,hk,hn=>by
  simp only [List.getElem?_cons_zero,Option.some.injEq] at h;subst h;have hko:KJ {x with key:=JS k,val:=v}=k:=by simp [KJ,JS]
  simp only [List.set_cons_zero,fnd,hko,hk];by_cases h:k=q
  ·simp [h]
  ·rw [if_neg h,if_neg (λe=>h e.symm),if_neg h]
 |x::l,n+1,e,h,hk,hn=>by
  simp only [List.getElem?_cons_succ] at h;simp only [List.map_cons,List.nodup_cons] at hn;simp only [List.set_cons_succ,fnd];have hmem:k∈l.map KJ:=List.mem_map.2 ⟨e,List.mem_of_getElem? h,hk⟩;by_cases hx:KJ x=q
  ·rw [if_pos hx,if_pos hx,if_neg];intro e';rw [hx,e'] at hn;exact hn.1 hmem
  ·rw [if_neg hx,if_neg hx];have ih:=ADs (q:=q) (v:=v) h hk hn.2;rw [Ls (j:=0),ih,Ls (i:=0+1) (j:=0)]
theorem Xr {k:Key}{v:Value}:∀{l:List MapEntry} {n:Nat} {e:MapEntry},l[n]? =some e→KJ e=k→(l.set n {e with key:=JS k,val:=v}).map KJ=l.map KJ
 |[],n,e,h,_=>by simp at h
 |x::l,0,e,h,hk=>by
  simp only [List.getElem?_cons_zero,Option.some.injEq] at h;subst h;simp [KJ,JS] at hk ⊢;exact hk.symm
 |x::l,n+1,e,h,hk=>by
  simp only [List.getElem?_cons_succ] at h;simp only [List.set_cons_succ,List.map_cons,Xr h hk]
theorem Ul {k:Key}{v:Value}:∀{l:List MapEntry} {n:Nat} {e:MapEntry},l[n]? =some e→(l.set n {e with key:=JS k,val:=v}).map (·.born)=l.map (·.born)
 |[],n,e,h=>by simp at h
 |x::l,0,e,h=>by
  simp only [List.getElem?_cons_zero,Option.some.injEq] at h;subst h;simp
 |x::l,n+1,e,h=>by
  simp only [List.getElem?_cons_succ] at h;simp only [List.set_cons_succ,List.map_cons,Ul (k:=k) h]
def AMR (k:Key)(v:Value)(es:Array MapEntry)(clock:Nat):Obj:=match fnd k es.toList 0 with
 |some (i,_)=>.map (es.modify i λe=>{e with key:=JS k,val:=v}) clock
 |none=>.map (es.push {key:=JS k,val:=v,born:=clock}) (clock+1)
theorem TF {α:Type}{a:Array α}{i:Nat}{f:α→α}{x:α}(h:a.toList[i]? =some x):(a.modify i f).toList=a.toList.set i (f x):=by
 have hlt:i < a.size:=by
  have:=(List.getElem?_eq_some_iff.1 h).1;simpa using this
 apply List.ext_getElem?
 intro j;simp only [Array.getElem?_toList,Array.getElem?_modify];rw [List.getElem?_set];by_cases e:i=j
 ·subst e;simp only [Array.getElem?_toList] at h;rw [h];simp [hlt]
 ·simp [e]
theorem MapS.put {es:Array MapEntry}{clock:Nat}{m:Key→Option Value}(h:MapS es clock m)(k:Key)(v:Value):∃es' clock',AMR k v es clock= .map es' clock'∧MapS es' clock' (KN m k (some v)):=by
 unfold AMR;cases hf:fnd k es.toList 0 with
 |none=>
  refine ⟨_,_,rfl,?_⟩;have hn:=fnd_none.1 hf;have hl:(es.push {key:=JS k,val:=v,born:=clock}).toList=es.toList++[{key:=JS k,val:=v,born:=clock}]:=by simp
  have hko:KJ {key:=JS k,val:=v,born:=clock}=k:=by simp [KJ,JS]
  refine ⟨λe he=>?_,?_,λe he=>?_,?_,λq=>?_⟩
  ·rw [hl] at he;rcases List.mem_append.1 he with he|he
   ·exact h.str e he
   ·simp only [List.mem_singleton] at he;subst he;exact ⟨_,rfl⟩
  ·rw [hl,List.map_append,List.nodup_append];refine ⟨h.nod,by simp,λa ha b hb=>?_⟩;simp only [List.map_cons,List.map_nil,List.mem_singleton,hko] at hb;subst hb;exact λe=>hn (e ▸ ha)
  ·rw [hl] at he;rcases List.mem_append.1 he with he|he
   ·have:=h.brn e he;omega
   ·simp only [List.mem_singleton] at he;subst he;simp
  ·rw [hl,List.map_append,List.nodup_append];refine ⟨h.bnd,by simp,λa ha b hb=>?_⟩;simp only [List.map_cons,List.map_nil,List.mem_singleton] at hb;subst hb;obtain ⟨e,he,rfl⟩:=List.mem_map.1 ha;have:=h.brn e he;omega
  ·rw [hl,TN,←h.val q];unfold KN;by_cases e:q=k
   ·subst e;rw [if_pos rfl,h.val q,hf];simp [fnd,hko]
   ·rw [if_neg e];have hf0:fnd q [{key:=JS k,val:=v,born:=clock}] 0=none:=by
     simp only [fnd,hko];rw [if_neg (λe'=>e (Eq.symm e'))]
    rw [hf0];cases m q <;> rfl
 |some p=>
  obtain ⟨i,u⟩:=p;obtain ⟨n,e,h1,h2,h3,h4⟩:=Yf hf;obtain rfl:i=n:=by omega
  refine ⟨_,_,rfl,?_⟩;have hl:=TF (f:=λe=>{e with key:=JS k,val:=v}) h2;refine ⟨λx hx=>?_,?_,λx hx=>?_,?_,λq=>?_⟩
  ·rw [hl] at hx;rcases List.mem_or_eq_of_mem_set hx with hx|rfl
   ·exact h.str x hx
   ·exact ⟨_,rfl⟩
  ·rw [hl,Xr h2 h3];exact h.nod
  ·rw [hl] at hx;rcases List.mem_or_eq_of_mem_set hx with hx|rfl
   ·exact h.brn x hx
   ·exact h.brn e (List.mem_of_getElem? h2)
  ·rw [hl,Ul (k:=k) h2];exact h.bnd
  ·rw [hl,ADs h2 h3 h.nod,←h.val q];rfl
section rules
variable {I:Imm}{L:LH}{K:Value→M}{b:Nat}{es:Array MapEntry}{clock:Nat}{m:Key→Option Value}{k:Key}{v:Value}{S:M}
def lkV (zero:Value)(ok:Bool):Option Value→Value
 |some u=>if ok then .tuple #[u,.bool true] else u
 |none=>if ok then .tuple #[zero,.bool false] else zero
theorem AUg {zero:Value}{ok:Bool}(h:MapS es clock m):(match fnd k es.toList 0 with
  |some (_,u)=>if ok then .tuple #[u,.bool true] else u
  |none=>if ok then .tuple #[zero,.bool false] else zero)=lkV zero ok (m k):=by
 rw [h.val k];cases fnd k es.toList 0 <;> rfl
theorem AOz {zero:Value}{ok:Bool}(ha:MapAt I L b es clock)(h:MapS es clock m):lkR .string zero ok (.map (some b)) (JS k) I L (lkV zero ok (m k)):=
 ⟨es,_,.inr ⟨b,clock,rfl,ha⟩,h.find k,(AUg h).symm⟩
theorem lkm {zero:Value}{ok:Bool}[hin:InL b L (.map es clock)](h:MapS es clock m)(hk:K (lkV zero ok (m k)) I L):Rv none (lkR .string zero ok (.map (some b)) (JS k)) K I L:=
 ⟨_,AOz (.inl hin.mem) h,hk⟩
theorem QB {L':LH}{es':Array MapEntry}{clock':Nat}(h:MapS es clock m)(he:AMR k v es clock= .map es' clock')[u:UpL b L (.map es clock) (.map es' clock') L'](hk:K undef I L'):
  Ep .string (.map (some b)) (JS k) v K I L:=by
 obtain ⟨L1,L2,rfl,rfl⟩:=u.up;refine ⟨b,es,clock,L1,L2,_,rfl,rfl,h.find k,?_⟩;unfold AMR at he;cases hf:fnd k es.toList 0 with
 |none=>rw [hf] at he;simp only at he ⊢;rw [he];exact hk
 |some p=>obtain ⟨i,w⟩:=p;rw [hf] at he;simp only at he ⊢;rw [he];exact hk
theorem AIx (hk:∀b,K (.map (some b)) I ((b,.map #[] 0)::L)):XN K I L:=hk
end rules
theorem CalV.mono {P:Program}{ω:Om}{x:Value}{args:Array Value}{K K':Value→M}{I:Imm}{L:LH}(h:CalV P ω x args K I L)(hk:∀v I' L',K v I' L'→K' v I' L'):CalV P ω x args K' I L:=by
 match x,h with
 | .func (.func f) first cap,h=>
  simp only [CalV] at h ⊢;by_cases he:CX P f=true
  ·rw [if_pos he] at h ⊢;exact Cal.mono h hk
  ·rw [if_neg he] at h ⊢;cases hx:TS P f with
   |none=>rw [hx] at h;exact h.elim
   |some e=>
    rw [hx] at h;intro w hs;obtain ⟨v,w',I',L',h1,h2,h3⟩:=h w hs;exact ⟨v,w',I',L',h1,h2,hk _ _ _ h3⟩
 | .func (.yield l) first cap,h=>
  intro w hs;obtain ⟨f,tmps,assign,body,h1,h2⟩:=h w hs;exact ⟨f,tmps,assign,body,h1,RoundIn.mono h2 λe w' ⟨v,I',L',e1,e2,e3⟩=>⟨v,I',L',e1,e2,hk _ _ _ e3⟩⟩
section iter
variable {I:Imm}{L0:LH}{K:Value→M}{b r clock:Nat}{es:Array MapEntry}{m:Key→Option Value}{vis:List MapEntry}
end iter
abbrev Ih:=Int
def Ff (k:Ih):Value:=.int .i64 k
def GV (e:MapEntry):Ih:=match e.key with
 | .int _ n=>n
 |_=>0
def FX (k:Ih):List MapEntry→Nat→Option (Nat×Value)
 |[],_=>none
 |e::r,i=>if GV e=k then some (i,e.val) else FX k r (i+1)
def Ey (m:Ih→Option Value)(k:Ih)(v:Option Value):Ih→Option Value:=λq=>if q=k then v else m q
structure MapSi (es:Array MapEntry)(clock:Nat)(m:Ih→Option Value):Prop where
 str:∀e∈es.toList,∃s:Int,e.key= .int .i64 s
 nod:(es.toList.map GV).Nodup
 brn:∀e∈es.toList,e.born < clock
 bnd:(es.toList.map (·.born)).Nodup
 val:∀k,m k=(FX k es.toList 0).map (·.2)
theorem OC {k:Ih}:∀{l:List MapEntry} {i:Nat},(∀e∈l,∃s:Int,e.key= .int .i64 s)→Instr.findNow (.int .i64) (Ff k) l i=some (FX k l i)
 |[],_,_=>rfl
 |e::l,i,h=>by
  obtain ⟨s,hs⟩:=h e (List.mem_cons_self ..);have ih:=OC (k:=k) (l:=l) (i:=i+1) (λx hx=>h x (List.mem_cons_of_mem _ hx));simp only [Instr.findNow,FX,GV,hs,Ff,Instr.sameNow,if_true];by_cases hk:s=k
  ·have:(k==s)=true:=by simp [hk]
   rw [this,if_pos hk]
  ·have:(k==s)=false:=by simp;exact λh=>hk h.symm
   rw [this,if_neg hk];exact ih
theorem MapSi.find {es:Array MapEntry}{clock:Nat}{m:Ih→Option Value}(h:MapSi es clock m)(k:Ih):Instr.findNow (.int .i64) (Ff k) es.toList 0=some (FX k es.toList 0):=OC h.str
theorem MapSi.empty:MapSi #[] 0 (λ_=>none):=⟨λe h=>by simp at h,by simp,λe h=>by simp at h,by simp,λk=>rfl⟩
theorem fnd_nonei {k:Ih}:∀{l:List MapEntry} {i:Nat},FX k l i=none↔k ∉ l.map GV
 |[],_=>by simp [FX]
 |e::l,i=>by
  simp only [FX,List.map_cons,List.mem_cons,not_or];by_cases h:GV e=k
  ·simp [h]
  ·rw [if_neg h,fnd_nonei (l:=l)];exact ⟨λh'=>⟨λe'=>h e'.symm,h'⟩,λh'=>h'.2⟩
theorem VO {k:Ih}:∀{l:List MapEntry} {i j:Nat} {v:Value},FX k l i=some (j,v)→∃n e,j=i+n∧l[n]? =some e∧GV e=k∧e.val=v
 |[],_,_,_,h=>by simp [FX] at h
 |e::l,i,j,v,h=>by
  simp only [FX] at h;split at h
  ·rename_i hk
   simp only [Option.some.injEq,Prod.mk.injEq] at h;exact ⟨0,e,by omega,rfl,hk,h.2⟩
  ·obtain ⟨n,e',h1,h2,h3,h4⟩:=VO h;exact ⟨n+1,e',by omega,by simpa using h2,h3,h4⟩
theorem Jq {k:Ih}:∀{l:List MapEntry} {i j:Nat},(FX k l i).map (·.2)=(FX k l j).map (·.2)
 |[],_,_=>rfl
 |e::l,i,j=>by
  simp only [FX];split
  ·rfl
  ·exact Jq
theorem Pe {k:Ih}:∀{l l':List MapEntry} {i:Nat},(FX k (l++l') i).map (·.2)=match (FX k l i).map (·.2) with
  |some v=>some v
  |none=>(FX k l' 0).map (·.2)
 |[],l',i=>by simp only [List.nil_append,FX,Option.map_none];exact Jq
 |e::l,l',i=>by
  simp only [List.cons_append,FX];split
  ·rfl
  ·exact Pe
theorem Yg {k q:Ih}{v:Value}:∀{l:List MapEntry} {n:Nat} {e:MapEntry},l[n]? =some e→GV e=k→(l.map GV).Nodup→
  (FX q (l.set n {e with key:=Ff k,val:=v}) 0).map (·.2)=if q=k then some v else (FX q l 0).map (·.2)
 |[],n,e,h,_,_=>by simp at h
 |x::l,0,e,h,hk,hn=>by
  simp only [List.getElem?_cons_zero,Option.some.injEq] at h;subst h;have hko:GV {x with key:=Ff k,val:=v}=k:=by simp [GV,Ff]
  simp only [List.set_cons_zero,FX,hko,hk];by_cases h:k=q
  ·simp [h]
  ·rw [if_neg h,if_neg (λe=>h e.symm),if_neg h]
 |x::l,n+1,e,h,hk,hn=>by
  simp only [List.getElem?_cons_succ] at h;simp only [List.map_cons,List.nodup_cons] at hn;simp only [List.set_cons_succ,FX];have hmem:k∈l.map GV:=List.mem_map.2 ⟨e,List.mem_of_getElem? h,hk⟩;by_cases hx:GV x=q
  ·rw [if_pos hx,if_pos hx,if_neg];intro e';rw [hx,e'] at hn;exact hn.1 hmem
  ·rw [if_neg hx,if_neg hx];have ih:=Yg (q:=q) (v:=v) h hk hn.2;rw [Jq (j:=0),ih,Jq (i:=0+1) (j:=0)]
theorem Uk {k:Ih}{v:Value}:∀{l:List MapEntry} {n:Nat} {e:MapEntry},l[n]? =some e→GV e=k→(l.set n {e with key:=Ff k,val:=v}).map GV=l.map GV
 |[],n,e,h,_=>by simp at h
 |x::l,0,e,h,hk=>by
  simp only [List.getElem?_cons_zero,Option.some.injEq] at h;subst h;simp [GV,Ff] at hk ⊢;exact hk.symm
 |x::l,n+1,e,h,hk=>by
  simp only [List.getElem?_cons_succ] at h;simp only [List.set_cons_succ,List.map_cons,Uk h hk]
theorem SC {k:Ih}{v:Value}:∀{l:List MapEntry} {n:Nat} {e:MapEntry},l[n]? =some e→(l.set n {e with key:=Ff k,val:=v}).map (·.born)=l.map (·.born)
 |[],n,e,h=>by simp at h
 |x::l,0,e,h=>by
  simp only [List.getElem?_cons_zero,Option.some.injEq] at h;subst h;simp
 |x::l,n+1,e,h=>by
  simp only [List.getElem?_cons_succ] at h;simp only [List.set_cons_succ,List.map_cons,SC (k:=k) h]
def ADY (k:Ih)(v:Value)(es:Array MapEntry)(clock:Nat):Obj:=match FX k es.toList 0 with
 |some (i,_)=>.map (es.modify i λe=>{e with key:=Ff k,val:=v}) clock
 |none=>.map (es.push {key:=Ff k,val:=v,born:=clock}) (clock+1)
theorem MapSi.put {es:Array MapEntry}{clock:Nat}{m:Ih→Option Value}(h:MapSi es clock m)(k:Ih)(v:Value):∃es' clock',ADY k v es clock= .map es' clock'∧MapSi es' clock' (Ey m k (some v)):=by
 unfold ADY;cases hf:FX k es.toList 0 with
 |none=>
  refine ⟨_,_,rfl,?_⟩;have hn:=fnd_nonei.1 hf;have hl:(es.push {key:=Ff k,val:=v,born:=clock}).toList=es.toList++[{key:=Ff k,val:=v,born:=clock}]:=by simp
  have hko:GV {key:=Ff k,val:=v,born:=clock}=k:=by simp [GV,Ff]
  refine ⟨λe he=>?_,?_,λe he=>?_,?_,λq=>?_⟩
  ·rw [hl] at he;rcases List.mem_append.1 he with he|he
   ·exact h.str e he
   ·simp only [List.mem_singleton] at he;subst he;exact ⟨_,rfl⟩
  ·rw [hl,List.map_append,List.nodup_append];refine ⟨h.nod,by simp,λa ha b hb=>?_⟩;simp only [List.map_cons,List.map_nil,List.mem_singleton,hko] at hb;subst hb;exact λe=>hn (e ▸ ha)
  ·rw [hl] at he;rcases List.mem_append.1 he with he|he
   ·have:=h.brn e he;omega
   ·simp only [List.mem_singleton] at he;subst he;simp
  ·rw [hl,List.map_append,List.nodup_append];refine ⟨h.bnd,by simp,λa ha b hb=>?_⟩;simp only [List.map_cons,List.map_nil,List.mem_singleton] at hb;subst hb;obtain ⟨e,he,rfl⟩:=List.mem_map.1 ha;have:=h.brn e he;omega
  ·rw [hl,Pe,←h.val q];unfold Ey;by_cases e:q=k
   ·subst e;rw [if_pos rfl,h.val q,hf];simp [FX,hko]
   ·rw [if_neg e];have hf0:FX q [{key:=Ff k,val:=v,born:=clock}] 0=none:=by
     simp only [FX,hko];rw [if_neg (λe'=>e (Eq.symm e'))]
    rw [hf0];cases m q <;> rfl
 |some p=>
  obtain ⟨i,u⟩:=p;obtain ⟨n,e,h1,h2,h3,h4⟩:=VO hf;obtain rfl:i=n:=by omega
  refine ⟨_,_,rfl,?_⟩;have hl:=TF (f:=λe=>{e with key:=Ff k,val:=v}) h2;refine ⟨λx hx=>?_,?_,λx hx=>?_,?_,λq=>?_⟩
  ·rw [hl] at hx;rcases List.mem_or_eq_of_mem_set hx with hx|rfl
   ·exact h.str x hx
   ·exact ⟨_,rfl⟩
  ·rw [hl,Uk h2 h3];exact h.nod
  ·rw [hl] at hx;rcases List.mem_or_eq_of_mem_set hx with hx|rfl
   ·exact h.brn x hx
   ·exact h.brn e (List.mem_of_getElem? h2)
  ·rw [hl,SC (k:=k) h2];exact h.bnd
  ·rw [hl,Yg h2 h3 h.nod,←h.val q];rfl
section rules
variable {I:Imm}{L:LH}{K:Value→M}{b:Nat}{es:Array MapEntry}{clock:Nat}{m:Ih→Option Value}{k:Ih}{v:Value}{S:M}
theorem AQe {zero:Value}{ok:Bool}(h:MapSi es clock m):(match FX k es.toList 0 with
  |some (_,u)=>if ok then .tuple #[u,.bool true] else u
  |none=>if ok then .tuple #[zero,.bool false] else zero)=lkV zero ok (m k):=by
 rw [h.val k];cases FX k es.toList 0 <;> rfl
theorem AQf {zero:Value}{ok:Bool}(ha:MapAt I L b es clock)(h:MapSi es clock m):lkR (.int .i64) zero ok (.map (some b)) (Ff k) I L (lkV zero ok (m k)):=
 ⟨es,_,.inr ⟨b,clock,rfl,ha⟩,h.find k,(AQe h).symm⟩
theorem AUf {zero:Value}{ok:Bool}[hin:InL b L (.map es clock)](h:MapSi es clock m)(hk:K (lkV zero ok (m k)) I L):Rv none (lkR (.int .i64) zero ok (.map (some b)) (Ff k)) K I L:=
 ⟨_,AQf (.inl hin.mem) h,hk⟩
theorem GR {L':LH}{es':Array MapEntry}{clock':Nat}(h:MapSi es clock m)(he:ADY k v es clock= .map es' clock')[u:UpL b L (.map es clock) (.map es' clock') L'](hk:K undef I L'):
  Ep (.int .i64) (.map (some b)) (Ff k) v K I L:=by
 obtain ⟨L1,L2,rfl,rfl⟩:=u.up;refine ⟨b,es,clock,L1,L2,_,rfl,rfl,h.find k,?_⟩;unfold ADY at he;cases hf:FX k es.toList 0 with
 |none=>rw [hf] at he;simp only at he ⊢;rw [he];exact hk
 |some p=>obtain ⟨i,w⟩:=p;rw [hf] at he;simp only at he ⊢;rw [he];exact hk
end rules
section iter
variable {I:Imm}{L0:LH}{K:Value→M}{b r clock:Nat}{es:Array MapEntry}{m:Ih→Option Value}{vis:List MapEntry}
end iter
end Go.SL
namespace Go.Proofs.YtkifgfanjcfedaaGreatDoor
open Go.SL
class Foc (b:Nat) (L:LH) (o:outParam Obj) (C:outParam (Obj→LH)):Prop where
 foc:∃L1 L2,L=L1++(b,o)::L2∧C=λo'=>L1++(b,o')::L2
instance focRight (b:Nat)(A L:LH)(o:Obj)(C:Obj→LH)[h:Foc b L o C]:Foc b (A++L) o (λo'=>A++C o'):=by
 obtain ⟨L1,L2,rfl,rfl⟩:=h.foc;exact ⟨A++L1,L2,by simp,by simp⟩
instance focThere (b:Nat)(x:Nat×Obj)(L:LH)(o:Obj)(C:Obj→LH)[h:Foc b L o C]:Foc b (x::L) o (λo'=>x::C o'):=by
 obtain ⟨L1,L2,rfl,rfl⟩:=h.foc;exact ⟨x::L1,L2,rfl,rfl⟩
instance focHere (b:Nat)(L:LH)(o:Obj):Foc b ((b,o)::L) o (λo'=>(b,o')::L):=⟨[],L,rfl,rfl⟩
instance (priority:=95) lsubCC (L L':LH)(y:Nat×Obj)[h:LSub L L']:LSub (y::L) (y::L'):=⟨λx hx=>by
 rcases List.mem_cons.1 hx with rfl|hx
 ·exact List.mem_cons_self ..
 ·exact List.mem_cons_of_mem _ (h.sub x hx)⟩
instance (priority:=95) lsubAA (A L L':LH)[h:LSub L L']:LSub (A++L) (A++L'):=⟨λx hx=>by
 rcases List.mem_append.1 hx with hx|hx
 ·exact List.mem_append_left _ hx
 ·exact List.mem_append_right _ (h.sub x hx)⟩
instance delApp (b:Nat)(A L X:LH)[h:DelB b L X]:DelB b (A++L) (A++X):=⟨λx hx=>by
 rcases List.mem_append.1 hx with hx|hx
 ·exact List.mem_append_left _ hx
 ·exact List.mem_append_right _ (h.sub x hx)⟩
theorem CU {I:Imm}{L X:LH}{B:M→M}{b:Nat}[h:DelB b L X](hB:B (Stay I X) I L):Ci B I L:=draw _ ⟨zAC I,h.sub⟩ hB
section
variable {α:Type}{R:Imm→α→List Value→Prop}{I:Imm}{L:LH}{K:Value→M}
theorem Uo {R:α→List Value→Prop}{n:Nat}:∀{xs:List α} {cs:List (List Value)},(∀c∈cs,c.length=n)→xs.length=cs.length→(∀p∈xs.zip cs,R p.1 p.2)→Recs R n xs cs.flatten
 |[],[],_,_,_=>rfl
 |x::xs,c::cs,h1,h2,h3=>by
  have hc:=h1 c (List.mem_cons_self ..);rw [List.flatten_cons];exact Recs.append (Recs.one hc (h3 (x,c) (List.mem_cons_self ..))) (Uo (λd hd=>h1 d (List.mem_cons_of_mem _ hd)) (by simpa using h2) (λp hp=>h3 p (List.mem_cons_of_mem _ hp)))
theorem FP {T n len:Nat}{z:Array Value}{parts:List (Nat×Value)}(xs:List α)(cs:List (List Value))(hp:parts=Zw 0 (cs.map λc=>.agg c.toArray))(hl:cs.length=len)(hx:xs.length=cs.length)(hn:∀c∈cs,c.length=n)
  (hR:∀p∈xs.zip cs,R I p.1 p.2) (hm:∀{I I':Imm} {x:α} {c:List Value},Ext I I'→R I x c→R I' x c)
  (hk:∀I' a,Ext I I'→RL R n I' [] (.slice a len len) xs→Gh (K (.slice a len len)) I' L):AY T n z len parts (gh K) I L:=by
 refine AEC (cs.map λc=>.agg c.toArray) hp (by simp [hl]) (by simp only [List.mem_map];rintro v ⟨c,hc,rfl⟩;simpa [Value.cells] using hn c hc) (λI' a hI hS=>hk I' a hI ?_);subst hl;rw [←hx] at hS ⊢;refine RL.ofI hS ?_;have:(cs.map λc=>Value.agg c.toArray).flatMap (·.cells.toList)=cs.flatten:=by
  clear hS hp hn hR hx hk;induction cs with
  |nil=>rfl
  |cons c cs ih=>
   rw [List.map_cons,List.flatMap_cons,List.flatten_cons,ih];rfl
 rw [this];exact Uo hn hx λp hp=>hm hI (hR p hp)
theorem Eo {T len:Nat}{z:Array Value}{parts:List (Nat×Value)}(xs:List Bs)(hp:parts=Zw 0 (xs.map λc=>.string ⟨c.toArray⟩))(hl:xs.length=len)
  (hk:∀I' a,Ext I I'→StL I' (.slice a len len) xs→Gh (K (.slice a len len)) I' L):AY T 1 z len parts (gh K) I L:=by
 refine AEC (n:=1) (xs.map λc=>.string ⟨c.toArray⟩) hp (by simp [hl]) (by simp only [List.mem_map];rintro v ⟨c,hc,rfl⟩;rfl) (λI' a hI hS=>hk I' a hI ?_);subst hl;refine RL.ofI hS ?_;clear hS hp hk;induction xs with
 |nil=>rfl
 |cons c cs ih=>exact ⟨rfl,rfl,ih⟩
end
def TokV (_:Imm)(t:Tok)(c:List Value):Prop:=c=[.int .i64 t.kind,.int .i64 t.at',.string ⟨t.text.toArray⟩,.int .i64 t.num]
theorem TokV.mono {I I':Imm}{t:Tok}{c:List Value}(h:TokV I t c):TokV I' t c:=h
abbrev TL (I:Imm)(v:Value)(l:List Tok):Prop:=RL TokV 4 I [] v l
theorem TL.mono {I I':Imm}{v:Value}{l:List Tok}(h:TL I v l)(hI:Ext I I'):TL I' v l:=zAP (λ_ _ h=>TokV.mono h) h hI (λ_ h=>h)
def AEG (t:Tok):Prop:=t.kind≠6∧(t.kind=2→t.text∈wordsL)∧(t.kind=5→t.text∈signsL)∧(t.kind=3→0≤t.num∧t.num≤9223372036854775807)
def Toks:List Tok→Prop
 |[]=>False
 |[t]=>t.kind=6
 |t::u::l=>AEG t∧Toks (u::l)
theorem Toks.ne {l:List Tok}(h:Toks l):∃t r,l=t::r:=by
 match l,h with
 |t::r,_=>exact ⟨t,r,rfl⟩
theorem Toks.tail {l:List Tok}(h:Toks l)(hk:(hd l).kind≠6):Toks l.tail:=by
 match l,h with
 |[t],h=>exact absurd h hk
 |t::u::r,h=>exact h.2
theorem AJS {l:List Tok}{s:Bs}(h:isT l s=true):(hd l).kind≠6:=by
 simp only [isT,Bool.and_eq_true,Bool.or_eq_true,beq_iff_eq] at h;rcases h.1 with h|h <;> omega
theorem Toks.tailT {l:List Tok}{s:Bs}(h:Toks l)(hs:isT l s=true):Toks l.tail:=h.tail (AJS hs)
theorem AJU {l:List Tok}{k:Int}(h:isK l k=true):(hd l).kind=k:=by simpa [isK] using h
theorem Toks.tailK {l:List Tok}{k:Int}(h:Toks l)(hs:isK l k=true)(hk:k≠6:=by decide):Toks l.tail:=h.tail (by rw [AJU hs];exact hk)
theorem Toks.len {l:List Tok}(h:Toks l):l.tail.length+1=l.length:=by
 obtain ⟨t,r,rfl⟩:=h.ne;rfl
abbrev PBo (v:Value):Obj:=.cells [v].toArray 91 (0,0)
def GY (e:Nat):Value:=.iface 87 (.agg #[.int .i64 e])
abbrev AP (b:Nat):Value:=.pointer (some ⟨b,0,none⟩)
abbrev POk {α:Type}(g:Res α)(V:Imm→α→Value→Prop)(n:Nat)(K:Value→M)(C:Obj→LH)(I:Imm):Prop:=
 ∀x r,g= .ok x r→Toks r→r.length≤n→∀I' v' c,Ext I I'→TL I' v' r→V I' x c→K c I' (C (PBo v'))
abbrev PEr {α:Type}(g:Res α)(Pn:Value→M)(C:Obj→LH)(I:Imm):Prop:=∀e,g= .err e→∀I' v',Ext I I'→Pn (GY e) I' (C (PBo v'))
section
variable {ω:Om}{I:Imm}{L:LH}{K Pn:Value→M}{C:Obj→LH}{b:Nat}{v:Value}{l:List Tok}
theorem TL.hd (h:TL I v l)(hT:Toks l):∃bt off,ixV 4 v (.int .i64 0)=some (.pointer (some ⟨bt,off,none⟩))∧∀I' L',Ext I I'→Cells I' L' bt off [.int .i64 (hd l).kind,.int .i64 (hd l).at',.string ⟨(hd l).text.toArray⟩,.int .i64 (hd l).num]:=by
 obtain ⟨t,r,rfl⟩:=hT.ne;obtain ⟨bt,off,c,h1,_,h2,h3⟩:=zAS h (i:=0) (by omega) (by simp);refine ⟨bt,off,h1,λI' L' hI=>?_⟩;have:QD (t::r) 0=t:=rfl;rw [this] at h2;rw [show c=_ from h2] at h3;exact h3 I' L' hI (λ_ h=>by cases h)
theorem TL.tl (h:TL I v l)(hT:Toks l):∃v',Hy 4 v (some (.int .i64 1)) none none=some v'∧v'.oneCell'=true∧TL I v' l.tail:=by
 obtain ⟨t,r,rfl⟩:=hT.ne;obtain ⟨v',h1,h2⟩:=RL.part h (lo:=1) (hi:=(t::r).length) (by simp) (Nat.le_refl _) (some (.int .i64 1)) none (by simp [ER];omega) (λcap hc=>by simp [ER]);refine ⟨v',h1,?_,by simpa using h2⟩;obtain ⟨a,c,rfl⟩:=h2.form;rfl
theorem zqa {P Q:Prop}(k:Q)(h:Q→P:=by intro hq;first|(with_reducible refine Em ?_;exact hq)|(with_reducible refine Oz ?_;exact hq)|(with_reducible refine Oy ?_;exact hq)|(with_reducible refine keepA ?_;exact hq)):P:=h k
theorem zqr {P Q:Prop}(k:Q)(h:Q→P:=by intro hq;first|(with_reducible refine rdb ?_;exact hq)):P:=h k
theorem zqb {P Q:Prop}(k:Q)(h:Q→P:=by intro hq;first|((with_reducible first|refine st1 ?_ ?_|refine rdB ?_ ?_);rfl;exact hq)|(with_reducible refine EO ?_;exact hq)|((with_reducible refine SK ?_ ?_);rfl;exact hq)|((with_reducible refine stB ?_ ?_ ?_ ?_);rfl;rfl;exact Au rfl;exact hq)|((with_reducible first|refine rdP _ rfl ?_ ?_|refine AIS _ rfl ?_ ?_);rfl;exact hq)|((with_reducible refine stP _ rfl ?_ ?_ ?_ ?_);rfl;rfl;rfl;exact hq)):P:=h k
theorem zqc {P Q:Prop}(k:Q)(h:Q→P:=by intro hq;first|(simp only [SSg,Int.reduceBEq,Int.reduceBNe,Int.reduceLT,Int.reduceLE,beq_self_eq_true,bne_self_eq_false];exact hq)):P:=h k
theorem zqe {P Q:Prop}(k:Q)(h:Q→P:=by intro hq;first|(simp only [SSd,Nat.reduceAdd];exact hq)):P:=h k
theorem zqg {P A B C D:Prop}(k:A→C)(l:B→D)(h:(A→C)→(B→D)→P:=by intro h1 h2;with_reducible first|exact DN h1 h2|exact AB h1 h2):P:=h k l
theorem zqh {P:Prop}{α:Type}{Q:α→Prop}(k:∀x,Q x)(h:(∀x,Q x)→P:=by intro h;with_reducible exact Ac h):P:=h k
theorem zqi {P A B:Prop}(k:A)(l:B)(h:A→B→P:=by intro h1 h2;with_reducible exact And.intro h1 h2):P:=h k l
theorem Jo (s:Bs)[hF:Foc b L (PBo v) C](h:TL I v l)(hT:Toks l)(ht:isT l s=true→K (.bool true) I L)(hf:isT l s=false→K (.bool false) I L):CT ω 45 #[AP b,.string ⟨s.toArray⟩] K I L:=by
 obtain ⟨L1,L2,rfl,rfl⟩:=hF.foc;obtain ⟨bt,off,h1,h2⟩:=h.hd hT;refine AVb ?_;unfold AUH;have hk:∀{x:Bool} {L':LH},(isT l s=x)→SubP (L1++(b,PBo v)::L2) L'→Gh (K (.bool x)) I L':=by
  intro x L' hx hs;refine zAE (L1++(b,PBo v)::L2) (zAA ?_);cases x
  ·exact hf hx
  ·exact ht hx
 simp only [PBo];repeat' (first|refine zqa ?_|refine zqh (λ_=>?_)|(refine FK (h2 _ [] (zAC _)) (zAC _) rfl ?_)|refine zqr ?_|refine zqb ?_|refine zqi ?_ ?_|refine zqc ?_|refine zqg (λ_=>?_) (λ_=>?_)|(simp only [SSd,Nat.reduceAdd,h1]))
 all_goals (first|exact hk (by simp_all [isT]) inferInstance|skip)
theorem Ad [hF:Foc b L (PBo v) C](h:TL I v l)(hT:Toks l)(hp:Pn (GY (hd l).at') I L):CalP Tryz.prog ω 46 #[AP b] K Pn I L:=by
 obtain ⟨L1,L2,rfl,rfl⟩:=hF.foc;obtain ⟨bt,off,h1,h2⟩:=h.hd hT;refine AVa ?_;unfold AUG;have hp:Gh (Pn (GY (hd l).at')) I (L1++(b,PBo v)::L2):=zAA hp;simp only [PBo] at hp ⊢;repeat' (first|refine zqa ?_|refine zqh (λ_=>?_)|(refine rd1 ((h2 _ [] (zAC _) 1 _ rfl).mono (zAC _) (λ_ h=>by cases h)) ?_)|refine zqr ?_|refine zqb ?_|refine zqi ?_ ?_|refine zqc ?_|refine zqg (λ_=>?_) (λ_=>?_)|(simp only [SSd,Nat.reduceAdd,h1]))
 exact hp
theorem JG [hF:Foc b L (PBo v) C](h:TL I v l)(hT:Toks l)(hk:∀v',TL I v' l.tail→K (.agg #[.int .i64 (hd l).kind,.int .i64 (hd l).at',.string ⟨(hd l).text.toArray⟩,.int .i64 (hd l).num]) I (C (PBo v'))):
  CT ω 93 #[AP b] K I L:=by
 obtain ⟨L1,L2,rfl,rfl⟩:=hF.foc;obtain ⟨bt,off,h1,h2⟩:=h.hd hT;obtain ⟨v',h3,h4,h5⟩:=h.tl hT;have hk:Gh (K (.agg #[.int .i64 (hd l).kind,.int .i64 (hd l).at',.string ⟨(hd l).text.toArray⟩,.int .i64 (hd l).num])) I (L1++(b,PBo v')::L2):=zAA (hk v' h5);refine AVD ?_;unfold ATj;simp only [PBo] at hk ⊢;repeat' (first|refine zqa ?_|refine zqh (λ_=>?_)|(refine FK (h2 _ [] (zAC _)) (zAC _) rfl ?_)|((with_reducible refine st1 ?_ ?_);exact h4)|refine zqr ?_|refine zqb ?_|refine zqi ?_ ?_|refine zqc ?_|refine zqg (λ_=>?_) (λ_=>?_)|(simp only [SSd,Nat.reduceAdd,h1,h3]))
 exact zAE _ hk
end
section
variable {ω:Om}{I:Imm}{L:LH}{K Pn:Value→M}{C:Obj→LH}{b:Nat}{v:Value}{l:List Tok}
theorem Fa (s:Bs)[hF:Foc b L (PBo v) C](h:TL I v l)(hT:Toks l)(ht:isT l s=true→∀v',TL I v' l.tail→K (.bool true) I (C (PBo v')))(hf:isT l s=false→K (.bool false) I L):CT ω 43 #[AP b,.string ⟨s.toArray⟩] K I L:=by
 refine AVd ?_;unfold AUI;refine call (Jo s h hT (λhb=>?_) (λhb=>?_))
 ·try refine zqe ?_
  exact call (JG h hT (λv' hv=>zAA (ht hb v' hv)))
 ·try refine zqe ?_
  exact zAA (hf hb)
def GZ:List Bs→Pr Unit
 |[],l=>.ok () l
 |s::ss,l=>(AL s l).bind λ_ r=>GZ ss r
theorem UT (ws:List Bs){w:Value}(hw:StL I w ws)(hws:ws.length < 1000)[hF:Foc b L (PBo v) C](h:TL I v l)(hT:Toks l)
  (hok:∀r,GZ ws l= .ok () r→Toks r→r.length≤l.length→∀v',TL I v' r→K (.tuple #[]) I (C (PBo v'))) (herr:∀e,GZ ws l= .err e→∀v',Pn (GY e) I (C (PBo v'))):
  CalP Tryz.prog ω 95 #[AP b,w] K Pn I L:=by
 obtain ⟨L1,L2,rfl,rfl⟩:=hF.foc;refine AVB ?_;unfold ATh;simp only [zAM hw,SSd,Nat.reduceAdd];refine loop (λm s I' L'=>∃(k:Nat) (v':Value) (l':List Tok),k+m=ws.length∧s=(.int .i64 k,())∧I'=I∧L'=L1++(b,PBo v')::L2∧GZ ws l=GZ (ws.drop k) l'∧Toks l'∧l'.length≤l.length∧TL I v' l') ws.length ⟨0,v,l,by omega,rfl,rfl,rfl,rfl,hT,Nat.le_refl _,h⟩ ?_;rintro m s I' L' ⟨k,v',l',hkm,rfl,rfl,rfl,hg,hT',hlen,hTL⟩;unfold AGm;try refine zqe ?_
 refine AB (λhlt=>?_) (λhlt=>?_)
 ·simp at hlt;have hlt:k < ws.length:=by omega
  obtain ⟨bw,off,c,h1,_,h2,h3⟩:=zAS hw (i:=k) (by omega) (by omega);rw [Af hlt] at h2;obtain rfl:=h2;have hdr:ws.drop k=ws[k]::ws.drop (k+1):=List.drop_eq_getElem_cons hlt;rw [hdr] at hg;simp only [h1,SSd,Nat.reduceAdd];refine rd1 ((h3 _ [] (zAC _) (λ_ h=>h) 0 _ rfl).mono (zAC _) (λ_ h=>by cases h)) ?_;refine Aj (Fa ws[k] hTL hT' (λhb v2 hv2=>?_) (λhb=>?_))
  ·try refine zqe ?_
   unfold AAS;simp only [SSd,Nat.reduceAdd,wrap_i64 ((k:Int)+1) (by omega)];refine zAA ⟨m - 1,by omega,k+1,v2,l'.tail,by omega,rfl,rfl,rfl,?_,hT'.tailT hb,?_,hv2⟩
   ·rw [hg];simp only [GZ,AL,hb,if_true,Res.bind]
   ·have:=hT'.len;omega
  ·try refine zqe ?_
   refine AX (Ad hTL hT' (zAA (herr _ ?_ v')));rw [hg];simp [GZ,AL,hb,Res.bind,bad]
 ·simp at hlt;have:ws.drop k=[]:=List.drop_eq_nil_of_le (by omega);rw [this] at hg;exact zAA (hok l' hg hT' hlen v' hTL)
abbrev AWN (t:Tok):Value:=.agg #[.int .i64 t.kind,.int .i64 t.at',.string ⟨t.text.toArray⟩,.int .i64 t.num]
theorem WY (k:Int)(hk6:k≠6)[hF:Foc b L (PBo v) C](h:TL I v l)(hT:Toks l)
  (hok:isK l k=true→∀v',TL I v' l.tail→K (AWN (hd l)) I (C (PBo v'))) (herr:isK l k=false→Pn (GY (hd l).at') I L):
  CalP Tryz.prog ω 152 #[AP b,.int .i64 k] K Pn I L:=by
 obtain ⟨L1,L2,rfl,rfl⟩:=hF.foc;obtain ⟨bt,off,h1,h2⟩:=h.hd hT;refine ASV ?_;unfold AOS;repeat' (first|refine zqa ?_|refine zqh (λ_=>?_)|(refine rd1 ((h2 _ [] (zAC _) 0 _ rfl).mono (zAC _) (λ_ h=>by cases h)) ?_)|refine zqr ?_|refine zqb ?_|refine zqi ?_ ?_|refine zqc ?_|refine zqg (λ_=>?_) (λ_=>?_)|(simp only [SSd,Nat.reduceAdd,h1]))
 ·rename_i hb
  refine AX (Ad h hT (zAE (L1++(b,PBo v)::L2) (zAA (herr ?_))));simpa [isK] using hb
 ·rename_i hb
  have hb:isK l k=true:=by simpa [isK] using hb
  unfold Vz;refine Aj (JG h hT (λv' hv'=>?_));repeat' (first|refine zqa ?_|refine zqh (λ_=>?_)|refine zqr ?_|refine zqb ?_|refine zqi ?_ ?_|refine zqc ?_|refine zqg (λ_=>?_) (λ_=>?_)|refine zqe ?_|fail)
  exact zAE (L1++(b,PBo v')::L2) (zAA (hok hb v' hv'))
theorem AFR [hF:Foc b L (PBo v) C](h:TL I v l)(hT:Toks l)
  (hok:isK l 1=true→∀v',TL I v' l.tail→K (.string ⟨(hd l).text.toArray⟩) I (C (PBo v'))) (herr:isK l 1=false→Pn (GY (hd l).at') I L):
  CalP Tryz.prog ω 96 #[AP b] K Pn I L:=by
 refine AVA ?_;unfold ATg;refine AX (WY 1 (by decide) h hT (λhb v' hv'=>?_) (λhb=>zAA (herr hb)));try refine zqe ?_
 exact zAA (hok hb v' hv')
end
theorem MR {p:UInt8→Bool}(h:(List.range 256).all (λn=>p (UInt8.ofNat n))=true)(c:UInt8):p c=true:=by
 have:=List.all_eq_true.1 h c.toNat (List.mem_range.2 c.toNat_lt);simpa using this
theorem ixS (s:Bs){a:Nat}{c:UInt8}(h:s[a]? =some c):ED (.string ⟨s.toArray⟩) (.int .i64 (a:Nat))=some (.int .u8 c.toNat):=by
 obtain ⟨hlt,rfl⟩:=List.getElem?_eq_some_iff.1 h;have:(⟨s.toArray⟩:ByteArray)[a]? =some s[a]:=by
  rw [getElem?_pos _ _ (by simpa [ByteArray.size] using hlt)];rfl
 simp [ED,this]
theorem NJ (s:Bs)(a b:Nat):(⟨s.toArray⟩:ByteArray).extract a b=⟨((s.drop a).take (b - a)).toArray⟩:=by
 apply ByteArray.ext
 simp [ByteArray.data_extract]
theorem slS (s:Bs){a b:Nat}(h1:a≤b)(h2:b≤s.length):Dt (.string ⟨s.toArray⟩) (some (.int .i64 (a:Nat))) (some (.int .i64 (b:Nat)))=some (.string ⟨((s.drop a).take (b - a)).toArray⟩):=by
 have hs:(⟨s.toArray⟩:ByteArray).size=s.length:=rfl;simp [Dt,ER,hs,h1,h2,NJ]
theorem ATc (s:Bs){b:Nat}(h2:b≤s.length):Dt (.string ⟨s.toArray⟩) none (some (.int .i64 (b:Nat)))=some (.string ⟨(s.take b).toArray⟩):=by
 have hs:(⟨s.toArray⟩:ByteArray).size=s.length:=rfl;simp [Dt,ER,hs,h2,NJ]
theorem AAL (s:Bs){a:Nat}(h1:a≤s.length):Dt (.string ⟨s.toArray⟩) (some (.int .i64 (a:Nat))) none=some (.string ⟨(s.drop a).toArray⟩):=by
 have hs:(⟨s.toArray⟩:ByteArray).size=s.length:=rfl;have:List.take (s.length - a) (s.drop a)=s.drop a:=List.take_of_length_le (by simp);simp [Dt,ER,hs,h1,NJ,this]
section
variable {ω:Om}{I:Imm}{L:LH}{K Pn:Value→M}
theorem Fe (c:UInt8)(hk:K (.bool (BN c)) I L):CT ω 135 #[.int .u8 c.toNat] K I L:=by
 refine ASm ?_;unfold AOf;have ht:=MR (p:=λc=>(BN c==(((c.toNat:Int)==95)||(decide (97≤Ic .or .u8 c.toNat 32)&&decide (Ic .or .u8 c.toNat 32≤122))))) (by decide+kernel) c;have ht:=eq_of_beq ht;rw [ht] at hk;repeat' (first|refine zqa ?_|refine zqh (λ_=>?_)|refine zqr ?_|refine zqb ?_|refine zqi ?_ ?_|refine zqc ?_|refine zqg (λ_=>?_) (λ_=>?_)|refine zqe ?_|fail)
 all_goals (refine zAA ?_;simp_all)
theorem FY (c:UInt8)(hk:K (.bool (Az c)) I L):CT ω 140 #[.int .u8 c.toNat] K I L:=by
 refine ASh ?_;unfold AOb;have ht:=MR (p:=λc=>(Az c==(decide ((48:Int)≤c.toNat)&&decide ((c.toNat:Int)≤57)))) (by decide+kernel) c;have ht:=eq_of_beq ht;rw [ht] at hk;repeat' (first|refine zqa ?_|refine zqh (λ_=>?_)|refine zqr ?_|refine zqb ?_|refine zqi ?_ ?_|refine zqc ?_|refine zqg (λ_=>?_) (λ_=>?_)|refine zqe ?_|fail)
 all_goals (refine zAA ?_;simp_all)
def LC (l:Bs)(c:UInt8):Int:=match l.findIdx? (·==c) with
 |some i=>i
 |none=> -1
theorem XJ (l:Bs)(i:Nat)(h:i < l.length):(⟨l.toArray⟩:ByteArray)[i]! =l[i]:=by
 rw [getElem!_pos _ _ (by simpa [ByteArray.size] using h)];rfl
theorem Yk (l:Bs)(c:UInt8):(List.range (⟨l.toArray⟩:ByteArray).size).find? (λi=>(⟨l.toArray⟩:ByteArray)[i]! ==c)=l.findIdx? (·==c):=by
 have hs:(⟨l.toArray⟩:ByteArray).size=l.length:=rfl;cases h:l.findIdx? (·==c) with
 |none=>
  rw [List.find?_eq_none];intro i hi;rw [hs,List.mem_range] at hi;rw [XJ _ _ hi];have:=List.findIdx?_eq_none_iff.1 h l[i] (List.getElem_mem hi);simpa using this
 |some i=>
  obtain ⟨hi,h1,h2⟩:=List.findIdx?_eq_some_iff_getElem.1 h;rw [List.find?_range_eq_some];refine ⟨by rw [XJ _ _ hi];exact h1,by rw [hs];simpa using hi,λj hj=>?_⟩;rw [XJ _ _ (by omega)];have:=h2 j hj;simpa using this
theorem Kz (l:Bs)(c:UInt8)(hk:K (.int .i64 (LC l c)) I L):CT ω 133 #[.string ⟨l.toArray⟩,.int .u8 c.toNat] K I L:=by
 refine ASo ?_;unfold AOh;refine call ?_;refine AKB ?_;unfold AHU;refine ExtE.ret ⟨_,λw hs=>?_,zAA (zAA (zAA hk))⟩;show Sem.run _ (do
  let b ←Extern.Bytes.bytesOf (.string ⟨l.toArray⟩)
  let c ←Extern.Bytes.asByte (.int .u8 c.toNat)
  match (List.range b.size).find? λi=>b[i]! ==c with
  |some i=>pure (goInt i)
  |none=>pure (goInt (-1))) w=_
 have hc:((c.toNat:Int).toNat).toUInt8=c:=by simp
 simp only [Sem.run_bind,Extern.Bytes.bytesOf,Result.andThen_ok,Extern.Bytes.asByte,Sem.run_pure,hc,Yk];unfold LC;cases l.findIdx? (·==c) <;> rfl
end
abbrev LBo (s:Bs)(a:Nat)(w:Value):Obj:=.cells [.string ⟨s.toArray⟩,.int .i64 (a:Nat),w].toArray 145 (0,0)
theorem Uc:∀l:Bs,BL true l=match l.findIdx? (·==10) with
  |some n=>BL false (l.drop n)
  |none=>[]
 |[]=>rfl
 |c::r=>by
  have ih:=Uc r;simp only [BL,List.findIdx?_cons];by_cases hc:(c==10)=true
  ·have hc':c=10:=by simpa using hc
   subst hc';simp [BL,Hu]
  ·simp only [hc,Bool.false_eq_true,if_false];rw [ih];cases r.findIdx? (·==10) <;> rfl
def AVt:Bs:=[9,10,12,13,32]
theorem ANK (c:UInt8):decide ((0:Int)≤LC AVt c)=Hu c:=by
 have:=MR (p:=λc=>(decide ((0:Int)≤LC AVt c)==Hu c)) (by decide+kernel) c;exact eq_of_beq this
theorem LD {ω:Om}{I:Imm}{L:LH}{K:Value→M}(s p:Bs)(hs:s.length≤1000000000)(hp:p.length≤1000000000)(hk:K (.bool (p.isPrefixOf s)) I L):CT ω 134 #[.string ⟨s.toArray⟩,.string ⟨p.toArray⟩] K I L:=by
 refine ASn ?_;unfold AOg;refine call ?_;refine ARx ?_;unfold ANz;have hk':Gh (Gh (K (.bool (p.isPrefixOf s)))) I L:=zAA (zAA hk);try refine zqe ?_
 refine DN (λhb=>?_) (λhb=>?_)
 ·have hb:p.length≤s.length:=by simpa using hb
  simp only [ATc s hb,SSd,Nat.reduceAdd];have:(s.take p.length==p)=p.isPrefixOf s:=by
   rw [Bool.eq_iff_iff];simp only [beq_iff_eq,List.isPrefixOf_iff_prefix];constructor
   ·intro e;rw [←e];exact List.take_prefix _ _
   ·intro e;exact (List.prefix_iff_eq_take.1 e).symm
  rw [this];exact hk'
 ·have hb:¬p.length≤s.length:=by simpa using hb
  have:p.isPrefixOf s=false:=by
   cases h:p.isPrefixOf s with
   |false=>rfl
   |true=>exact absurd (List.isPrefixOf_iff_prefix.1 h).length_le hb
  rw [this] at hk';exact hk'
section
variable {ω:Om}{I:Imm}{L:LH}{K:Value→M}{C:Obj→LH}{b:Nat}{w:Value}{s:Bs}{a:Nat}
theorem TY {s:Bs}{a:Nat}(h:a < s.length):∃c,s[a]? =some c∧s.drop a=c::s.drop (a+1):=⟨s[a],List.getElem?_eq_getElem h,List.drop_eq_getElem_cons h⟩
theorem Uz [hF:Foc b L (LBo s a w) C](ha:a≤s.length)(hs:s.length≤900000000)(hk:∀a',a≤a'→a'≤s.length→s.drop a'=BL false (s.drop a)→K (.tuple #[]) I (C (LBo s a' w))):CT ω 91 #[AP b] K I L:=by
 obtain ⟨L1,L2,rfl,rfl⟩:=hF.foc;refine AVF ?_;unfold ATl;refine loop (λm _ I2 Lx=>∃a2,a≤a2∧a2+m=s.length∧I2=I∧Lx=L1++(b,LBo s a2 w)::L2∧BL false (s.drop a2)=BL false (s.drop a)) (s.length - a) ⟨a,Nat.le_refl _,by omega,rfl,rfl,rfl⟩ ?_;rintro m _ I2 Lx ⟨a2,h1,h2,rfl,rfl,hm⟩;unfold AGq;repeat' (first|refine zqa ?_|refine zqh (λ_=>?_)|refine zqr ?_|refine zqb ?_|refine zqi ?_ ?_|refine zqc ?_|refine zqg (λ_=>?_) (λ_=>?_)|refine zqe ?_|fail)
 ·rename_i hb
  have hb:a2 < s.length:=by simpa using hb
  obtain ⟨c,hc,hd⟩:=TY hb;simp only [ixS s hc,SSd,Nat.reduceAdd];refine call (Kz [9,10,12,13,32] c ?_);have hbi:decide ((0:Int)≤LC [9,10,12,13,32] c)=Hu c:=ANK c;simp only [hbi,SSd,Nat.reduceAdd];refine AB (λhbl=>?_) (λhbl=>?_)
  ·refine rdb ?_;simp only [wrap_i64 ((a2:Int)+1) (by omega),SSd,Nat.reduceAdd];refine st1 rfl ?_;refine zAA ⟨m - 1,by omega,a2+1,by omega,by omega,rfl,rfl,?_⟩;rw [←hm,hd];simp [BL,hbl]
  ·refine Em ?_;try refine zqe ?_
   refine EO ?_;try refine zqe ?_
   refine EO ?_;simp only [AAL s (Nat.le_of_lt hb),SSd,Nat.reduceAdd];refine call (LD (s.drop a2) [45,45] (by simp;omega) (by simp) ?_);refine AB (λhp=>?_) (λhp=>?_)
   ·have h45:∃r,s.drop a2=45::45::r:=by
     obtain ⟨r,hr⟩:=List.isPrefixOf_iff_prefix.1 hp;exact ⟨r,hr.symm⟩
    obtain ⟨r,hr⟩:=h45;have hskip:BL false (s.drop a2)=BL true (s.drop a2):=by
     rw [hr];simp [BL,Hu]
    rw [Uc] at hskip;refine Em ?_;try refine zqe ?_
    refine EO ?_;try refine zqe ?_
    refine EO ?_;simp only [AAL s (Nat.le_of_lt hb),SSd,Nat.reduceAdd];refine call (Kz (s.drop a2) 10 ?_);cases hf:(s.drop a2).findIdx? (·==10) with
    |none=>
     rw [hf] at hskip;have hi:LC (s.drop a2) 10= -1:=by simp only [LC,hf]
     rw [hi];repeat' (first|refine zqa ?_|refine zqh (λ_=>?_)|refine zqr ?_|refine zqb ?_|refine zqi ?_ ?_|refine zqc ?_|refine zqg (λ_=>?_) (λ_=>?_)|refine zqe ?_|fail)
     exact zAA (hk s.length ha (Nat.le_refl _) (by rw [←hm,hskip];simp))
    |some n=>
     rw [hf] at hskip;obtain ⟨hn,hn1,hn2⟩:=List.findIdx?_eq_some_iff_getElem.1 hf;have hi:LC (s.drop a2) 10=n:=by simp only [LC,hf]
     have hn0:n≠0:=by
      rintro rfl;rw [hr] at hf;simp [List.findIdx?_cons] at hf
     have hlt:n < s.length - a2:=by simpa using hn
     rw [hi];have hneg:decide ((n:Int) < 0)=false:=by simp
     simp only [hneg,SSd,Nat.reduceAdd];refine rdb ?_;simp only [wrap_i64 ((a2:Int)+n) (by omega),SSd,Nat.reduceAdd];refine st1 rfl ?_;refine zAA ⟨m - n,by omega,a2+n,by omega,by omega,rfl,by simp,?_⟩;rw [←hm,hskip];simp
   ·refine zAA (hk a2 h1 (by omega) ?_);rw [←hm,hd];rw [hd] at hp;have:(c==45&&(s.drop (a2+1)).head? ==some 45)=false:=by
     cases hx:(c==45&&(s.drop (a2+1)).head? ==some 45) with
     |false=>rfl
     |true=>
      simp only [Bool.and_eq_true,beq_iff_eq] at hx;obtain ⟨rfl,hx⟩:=hx;cases hy:s.drop (a2+1) with
      |nil=>rw [hy] at hx;simp at hx
      |cons d r=>
       rw [hy] at hx hp;simp at hx;subst hx;simp [List.isPrefixOf] at hp
    simp only [BL,hbl,this,Bool.false_eq_true,if_false]
 ·rename_i hb
  have hb:¬a2 < s.length:=by simpa using hb
  refine zAA (hk a2 h1 (by omega) ?_);rw [←hm];have:s.drop a2=[]:=List.drop_eq_nil_of_le (by omega);rw [this];rfl
end
abbrev BuB (p v:Value):Obj:=.cells [p,v].toArray 111 (0,0)
def BuP (b:Nat)(p:Value):Prop:=p= .pointer none∨p=AP b
theorem ANJ:liesAt Tryz.prog Tryz.prog.depth 111 (2 / Tryz.prog.cellsOf 111) 0 111 1=true:=by kernel_rfl
section
variable {ω:Om}{I:Imm}{L:LH}{K:Value→M}{C:Obj→LH}{b:Nat}{p v:Value}
theorem GH [hF:Foc b L (BuB p v) C](hp:BuP b p)(hk:K (.tuple #[]) I (C (BuB (AP b) v))):CT ω 209 #[AP b] K I L:=by
 obtain ⟨L1,L2,rfl,rfl⟩:=hF.foc;refine AKA ?_;unfold AHS;rcases hp with rfl|rfl
 ·have e1:Ie .eql (.pointer none) (.pointer none)=some (.bool true):=rfl;simp only [e1,SSd,Nat.reduceAdd];refine rdb ?_;simp only [e1,SSd,Nat.reduceAdd];refine ⟨_,⟨b,0,[.pointer none,v].toArray,111,(0,0),rfl,.inr (by simp),by simp,rfl⟩,?_⟩;refine YU (zAA ?_);refine ⟨_,⟨b,0,[.pointer none,v].toArray,111,(0,0),rfl,.inr (by simp),ANJ,rfl⟩,?_⟩;repeat' (first|refine zqa ?_|refine zqh (λ_=>?_)|refine zqr ?_|refine zqb ?_|refine zqi ?_ ?_|refine zqc ?_|refine zqg (λ_=>?_) (λ_=>?_)|refine zqe ?_|fail)
  exact zAE _ (zAA hk)
 ·try refine zqe ?_
  refine rdb ?_;have e2:Ie .neq (AP b) (AP b)=some (.bool false):=by simp [Ie]
  simp only [IB,SSd,Nat.reduceAdd];refine rdb ?_;simp only [e2,SSd,Nat.reduceAdd];exact zAA hk
theorem II {X F:LH}{cells:List Value}{n:Nat}[hs:SplitL X L F][hF:Foc b F (BuB p v) C](hp:BuP b p)(hX:SlO 5 1 X v cells n)(hn:n≤1000000000)(c:UInt8)
  (hk:∀X' v',SlO 5 1 X' v' (cells++[.int .u8 c.toNat]) (n+1)→K .nilIface I (X'++C (BuB (AP b) v'))):CT ω 195 #[AP b,.int .u8 c.toNat] K I L:=by
 obtain ⟨L1,L2,rfl,rfl⟩:=hF.foc;refine zAQ X ?_;refine ARs ?_;unfold ANu;refine call (GH hp ?_);try refine zqe ?_
 refine rdb ?_;refine GK rfl (by omega) rfl (λX1 u hX1=>?_);refine Ee (X:=X) rfl hX (hX1.news (λx hx=>List.mem_append_left _ hx)) (by simp [Value.cells,Value.oneCell']) (by omega) (by omega) (λX2 v2 hX2=>?_);have hX2:SlO 5 1 X2 v2 (cells++[.int .u8 c.toNat]) (n+1):=by simpa [Value.cells] using hX2
 obtain ⟨a2,k2,rfl⟩:=hX2.form;repeat' (first|refine zqa ?_|refine zqh (λ_=>?_)|refine zqr ?_|refine zqb ?_|refine zqi ?_ ?_|refine zqc ?_|refine zqg (λ_=>?_) (λ_=>?_)|refine zqe ?_|fail)
 exact zAE (X2++(L1++(b,BuB (AP b) (.slice a2 (n+1) k2))::L2)) (zAA (hk X2 _ hX2))
theorem byteCells_snoc (l:Bs)(c:UInt8):Lib.byteCells (l++[c])=Lib.byteCells l++[.int .u8 c.toNat]:=by rw [Lib.byteCells_append];rfl
theorem Jz {X F:LH}{l:Bs}[hs:SplitL X L F][hF:Foc b F (BuB p v) C](hX:SlO 5 1 X v (Lib.byteCells l) l.length)(hn:l.length≤1000000000)(hv:l=[]→v= .slice none 0 0∨∃a k,v= .slice (some a) 0 (k+1))
  (hk:∀X',K (.string ⟨l.toArray⟩) I (X'++C (BuB p v))):CT ω 59 #[AP b] K I L:=by
 obtain ⟨L1,L2,rfl,rfl⟩:=hF.foc;refine zAQ X ?_;refine API ?_;unfold APt;obtain ⟨a,cap,rfl⟩:=hX.form;have hlenV:lenV (.slice a l.length cap)=some (.int .i64 l.length):=rfl;refine Em ?_;try refine zqe ?_
 refine EO ?_;by_cases hl:l=[]
 ·subst hl;have hp:∃p,AET (.slice a 0 cap)=some (.pointer p):=by
   rcases hv rfl with h|⟨a',k',h⟩
   ·simp only [List.length_nil,Value.slice.injEq] at h;obtain ⟨rfl,_,rfl⟩:=h;exact ⟨none,rfl⟩
   ·simp only [List.length_nil,Value.slice.injEq] at h;obtain ⟨rfl,_,rfl⟩:=h;exact ⟨some a',rfl⟩
  obtain ⟨q,hq⟩:=hp;simp only [List.length_nil,hq,SSd,Nat.reduceAdd];refine EO ?_;try refine zqe ?_
  exact .inl ⟨q,rfl,rfl,zAA (zAA (hk X))⟩
 ·have hpos:0 < l.length:=List.length_pos_iff.2 hl;obtain ⟨hcl,hX⟩:=hX;rcases hX with ⟨_,h0,_⟩|⟨bb,cap',cs,rfl,e,hcs,hle,hcell⟩
  ·omega
  ·simp only [Value.slice.injEq] at e;obtain ⟨rfl,_,rfl⟩:=e;obtain ⟨k,rfl⟩:∃k,cap=k+1:=⟨cap - 1,by omega⟩;have hq:AET (.slice (some ⟨bb,0,none⟩) l.length (k+1))=some (.pointer (some ⟨bb,0,none⟩)):=rfl;simp only [hq,SSd,Nat.reduceAdd];refine EO ?_;try refine zqe ?_
   refine .inr ⟨bb,cs,(0,0),l,[],L1++(b,BuB p (.slice (some ⟨bb,0,none⟩) l.length (k+1)))::L2,rfl,rfl,hl,by omega,by omega,rfl,λj u hu=>hcell j _ ?_,zAA (zAA (hk [_]))⟩;simp [Lib.byteCells,hu]
end
section
variable {P:Program}{ω:Om}{K:Value→M}{I:Imm}{L:LH}
theorem FT {f:FuncId}{args:Array Value}(he:CX P f=true)(h:Cal P ω f args K I L):CalV P ω (.func (.func f) #[] #[]) args K I L:=by
 unfold CalV;simp only [he,if_true];simpa using h
theorem Fj {x:Value}{args:Array Value}(h:CalV P ω x args K I L):CalV P ω x args (SL.gh K) I L:=CalV.mono h (λ_ _ _ h=>zAA h)
end
def FnB (ω:Om)(fv:Value)(p:UInt8→Bool):Prop:=∀(c:UInt8) (K:Value→M) (I:Imm) (L:LH),K (.bool (p c)) I L→CW ω fv #[.int .u8 c.toNat] K I L
section
variable {ω:Om}{I:Imm}{L:LH}{K:Value→M}{C:Obj→LH}{b:Nat}{w:Value}{s:Bs}{a:Nat}
theorem AFh:FnB ω (.func (.func 140) #[] #[]) Az:=by
 intro c K I L hk;exact FT (by kernel_rfl) (FY c hk)
theorem AGB:FnB ω (.func (.func 139) #[] #[]) (λc=>BN c||Az c):=by
 intro c K I L hk;refine FT (by kernel_rfl) ?_;refine ASi ?_;show AHb ω (.int .u8 c.toNat) _ I L;unfold AHb;refine call (Fe c ?_);refine DN (λh=>?_) (λh=>?_)
 ·refine call (FY c (zAA ?_));simpa [show BN c=false from by simpa using h] using hk
 ·refine zAA ?_;have:BN c=true:=by simpa using h
  simpa [this] using hk
theorem RN {fv:Value}{p:UInt8→Bool}(hf:FnB ω fv p)[hF:Foc b L (LBo s a w) C](ha:a≤s.length)(hs:s.length≤900000000)
  (hk:∀a',a≤a'→a'≤s.length→s.drop a'=(s.drop a).dropWhile p→K (.string ⟨((s.drop a).takeWhile p).toArray⟩) I (C (LBo s a' w))):CT ω 138 #[AP b,fv] K I L:=by
 obtain ⟨L1,L2,rfl,rfl⟩:=hF.foc;refine ASj ?_;unfold AOc;try refine zqe ?_
 refine rdb ?_;refine loop (λm _ I2 Lx=>∃a2,a≤a2∧a2+m=s.length∧I2=I∧Lx=L1++(b,LBo s a2 w)::L2∧(s.drop a).takeWhile p=(s.drop a).take (a2 - a)++(s.drop a2).takeWhile p∧(s.drop a).dropWhile p=(s.drop a2).dropWhile p) (s.length - a) ⟨a,Nat.le_refl _,by omega,rfl,rfl,by simp,rfl⟩ ?_;rintro m _ I2 Lx ⟨a2,h1,h2,rfl,rfl,ht,hd⟩;unfold ACo;have fin:(s.drop a2).takeWhile p=[]→Qb ω (AP b) (.string ⟨#[]⟩) (.int .i64 a) (λv=>Gh (K v)) I2 (L1++(b,LBo s a2 w)::L2):=by
  intro he;rw [he,List.append_nil] at ht;have hdw:(s.drop a2).dropWhile p=s.drop a2:=by
   have:=List.takeWhile_append_dropWhile (p:=p) (l:=s.drop a2);rw [he] at this;simpa using this
  unfold Qb;refine Em ?_;try refine zqe ?_
  refine EO ?_;try refine zqe ?_
  refine EO ?_;simp only [slS s h1 (show a2≤s.length by omega),SSd,Nat.reduceAdd];rw [←ht];exact zAA (hk a2 h1 (by omega) (by rw [hd,hdw]))
 refine Em ?_;try refine zqe ?_
 refine EO ?_;try refine zqe ?_
 refine EO ?_;try refine zqe ?_
 refine DN (λhb=>?_) (λhb=>?_)
 ·have hb:a2 < s.length:=by simpa using hb
  obtain ⟨c,hc,hdc⟩:=TY hb;try refine zqe ?_
  refine EO ?_;try refine zqe ?_
  refine EO ?_;simp only [ixS s hc,SSd,Nat.reduceAdd];refine Fj (hf c _ _ _ ?_);refine AB (λhp=>?_) (λhp=>?_)
  ·try refine zqe ?_
   refine rdb ?_;simp only [wrap_i64 ((a2:Int)+1) (by omega),SSd,Nat.reduceAdd];refine st1 rfl ?_;refine zAA ⟨m - 1,by omega,a2+1,by omega,by omega,rfl,rfl,?_,?_⟩
   ·rw [ht,hdc,List.takeWhile_cons_of_pos hp];have e:a2+1 - a=(a2 - a)+1:=by omega
    rw [e,List.take_add_one];have:(s.drop a)[a2 - a]? =some c:=by rw [List.getElem?_drop];rw [show a+(a2 - a)=a2 by omega];exact hc
    rw [this];simp
   ·rw [hd,hdc,List.dropWhile_cons_of_pos hp]
  ·exact fin (by rw [hdc,List.takeWhile_cons_of_neg (by simpa using hp)])
 ·have hb:¬a2 < s.length:=by simpa using hb
  exact fin (by rw [List.drop_eq_nil_of_le (by omega)];rfl)
end
section
variable {ω:Om}{I:Imm}{L:LH}{K:Value→M}{C:Obj→LH}{b:Nat}{w:Value}{s:Bs}{a:Nat}
theorem ANT (c q:UInt8):((c.toNat:Int) != q.toNat)=(c != q):=by
 have:((c.toNat:Int)=q.toNat)↔c=q:=by
  constructor
  ·intro h;exact UInt8.toNat_inj.1 (by omega)
  ·rintro rfl;rfl
 rw [Bool.eq_iff_iff];simp [this]
theorem XZ (c q:UInt8):((c.toNat:Int)==q.toNat)=(c==q):=by
 have:=ANT c q;simp only [bne] at this;exact Bool.not_inj this
theorem JJ (q c:UInt8)(r:Bs):CG q (c::r)=if c==0 then none else if c != q then (CG q r).map λx=>(c::x.1,x.2) else match r with
  |[]=>some ([],[])
  |d::r'=>if d==q then (CG q r').map λx=>(q::x.1,x.2) else some ([],d::r'):=by
 cases r with
 |nil=>rfl
 |cons d r=>rfl
theorem YD (q:UInt8)(hq0:q≠0)[hF:Foc b L (LBo s a w) C](ha:a < s.length)(hs:s.length≤900000000)
  (hno:CG q (s.drop (a+1))=none→∀x,K (.tuple #[.string ⟨(x:Bs).toArray⟩,.bool false]) I L)
  (hyes:∀t r,CG q (s.drop (a+1))=some (t,r)→∀a',a < a'→a'≤s.length→s.drop a'=r→K (.tuple #[.string ⟨t.toArray⟩,.bool true]) I (C (LBo s a' w))):
  CT ω 142 #[AP b,.int .u8 q.toNat] K I L:=by
 obtain ⟨L1,L2,rfl,rfl⟩:=hF.foc;refine ASf ?_;unfold AOZ;refine Ac (λbb=>?_);try refine zqe ?_
 refine rdb ?_;simp only [wrap_i64 ((a:Int)+1) (by omega),SSd,Nat.reduceAdd];refine loop (λm st I2 Lx=>∃(i:Nat) (X:LH) (p v:Value) (acc:Bs),a < i∧i+m=s.length+1∧i≤s.length∧I2=I∧st=(.string ⟨#[]⟩,.bool false,.int .i64 i,())∧Lx=X++((bb,BuB p v)::(L1++(b,LBo s a w)::L2))∧BuP bb p∧SlO 5 1 X v (Lib.byteCells acc) acc.length∧(acc=[]→v= .slice none 0 0)∧acc.length≤i∧
   CG q (s.drop (a+1))=(CG q (s.drop i)).map λx=>(acc++x.1,x.2)) (s.length - a)
  ⟨a+1,[],.pointer none,.slice none 0 0,[],by omega,by omega,by omega,rfl,rfl,rfl,.inl rfl,SlO.none _ _,λ_=>rfl,by simp,by simp⟩ ?_
 rintro m st I2 Lx ⟨i,X,p,v,acc,h1,h2,h2',rfl,rfl,rfl,hp,hX,hv,hal,hm⟩;unfold ACn;try refine zqe ?_
 refine rdb ?_;try refine zqe ?_
 refine AB (λhb=>?_) (λhb=>?_);rotate_left
 ·have hb:¬i < s.length:=by simpa using hb
  have:s.drop i=[]:=List.drop_eq_nil_of_le (by omega);rw [this] at hm;exact zAE (L1++(b,LBo s a w)::L2) (zAA (hno (by rw [hm];rfl) []))
 have hb:i < s.length:=by simpa using hb
 obtain ⟨c,hc,hdc⟩:=TY hb;try refine zqe ?_
 refine rdb ?_;simp only [ixS s hc,SSd,Nat.reduceAdd];have hz:((c.toNat:Int)==0)=(c==0):=XZ c 0;try simp only [hz,ANT,SSd,Nat.reduceAdd]
 refine AB (λh0=>?_) (λh0=>?_)
 ·refine zAE (L1++(b,LBo s a w)::L2) (zAA (hno ?_ []));rw [hm,hdc];simp only [JJ,h0,if_true,Option.map_none]
 refine AB (λhne=>?_) (λhne=>?_)
 ·refine call (II hp hX (by omega) c (λX' v' hX'=>?_));unfold Qa;try simp only [wrap_i64 ((i:Int)+1) (by omega),SSd,Nat.reduceAdd]
  refine zAA ⟨m - 1,by omega,i+1,X',AP bb,v',acc++[c],by omega,by omega,by omega,rfl,rfl,rfl,.inr rfl,?_,by simp,by simp;omega,?_⟩
  ·rw [byteCells_snoc];simpa using hX'
  ·rw [hm,hdc];simp only [JJ,h0,hne,Bool.false_eq_true,if_false,if_true];cases CG q (s.drop (i+1)) <;> simp
 ·simp only [wrap_i64 ((i:Int)+1) (by omega),SSd,Nat.reduceAdd];refine rdb ?_;try refine zqe ?_
  have hcq:c=q:=by simpa using hne
  have fin:CG q (s.drop i)=some ([],s.drop (i+1))→QZ ω (AP b) (.string ⟨#[]⟩) (.bool false) (AP bb) (.int .i64 i) (λv=>Gh (K v)) I2 (X++((bb,BuB p v)::(L1++(b,LBo s a w)::L2))):=by
   intro hf;unfold QZ;simp only [wrap_i64 ((i:Int)+1) (by omega),SSd,Nat.reduceAdd];refine st1 rfl ?_;rw [show ((i:Int)+1)=((i+1:Nat):Int) from rfl];refine call (Jz (p:=p) (v:=v) (X:=X) hX (by omega) (λh=>.inl (hv h)) (λX'=>?_));try refine zqe ?_
   refine zAE (L1++(b,LBo s (i+1) w)::L2) (zAA (hyes acc _ (by rw [hm,hf];simp) (i+1) (by omega) (by omega) rfl))
  refine DN (λhb2=>?_) (λhb2=>?_)
  ·have hb2:i+1 < s.length:=by
    have:=of_decide_eq_true hb2;omega
   obtain ⟨d,hd,hdd⟩:=TY hb2;refine rdb ?_;rw [show ((i:Int)+1)=((i+1:Nat):Int) from rfl,ixS s hd];simp only [XZ,SSd,Nat.reduceAdd];refine AB (λhq=>?_) (λhq=>?_)
   ·have hdq:d=q:=by simpa using hq
    unfold ACm;refine call (II hp hX (by omega) q (λX' v' hX'=>?_));unfold Qa;simp only [wrap_i64 ((i:Int)+1) (by omega),wrap_i64 ((i:Int)+1+1) (by omega),SSd,Nat.reduceAdd];refine zAA ⟨m - 2,by omega,i+2,X',AP bb,v',acc++[q],by omega,by omega,by omega,rfl,rfl,rfl,.inr rfl,?_,by simp,by simp;omega,?_⟩
    ·rw [byteCells_snoc];simpa using hX'
    ·rw [hm,hdc,hdd];have h0':(c==0)=false:=by simpa using h0
     have hne':(c != q)=false:=by simpa using hne
     simp only [JJ,h0',hne',hq,Bool.false_eq_true,if_false,if_true];cases CG q (s.drop (i+2)) <;> simp
   ·refine fin ?_;rw [hdc,hdd];have h0':(c==0)=false:=by simpa using h0
    have hne':(c != q)=false:=by simpa using hne
    simp only [JJ,h0',hne',hq,Bool.false_eq_true,if_false]
  ·refine fin ?_;have hb2:¬i+1 < s.length:=by
    have h:¬((i:Int)+1 < s.length):=by simpa using hb2
    omega
   have:s.drop (i+1)=[]:=List.drop_eq_nil_of_le (by omega);rw [hdc,this];have h0':(c==0)=false:=by simpa using h0
   have hne':(c != q)=false:=by simpa using hne
   simp only [JJ,h0',hne',Bool.false_eq_true,if_false]
end
abbrev AGM (k:Int)(a:Nat)(t:Bs)(n:Int):Value:=.agg #[.int .i64 k,.int .i64 (a:Nat),.string ⟨t.toArray⟩,.int .i64 n]
section
variable {ω:Om}{I:Imm}{L:LH}{K:Value→M}{C:Obj→LH}{b:Nat}{w:Value}{s:Bs}{a:Nat}
theorem ADt {α:Type}{p:α→Bool}:∀{l:List α} {i:Nat} (h:i < l.length),(∀j (hj:j < i),p (l[j]'(by omega))=false)→p l[i]=true→l.find? p=some l[i]
 |x::l,0,_,_,h=>by simp at h;simp [h]
 |x::l,i+1,hi,h0,h=>by
  have:=h0 0 (by omega);simp at this;simp only [List.find?_cons,this];simp only [List.getElem_cons_succ] at h ⊢;exact ADt (l:=l) (by simpa using hi) (λj hj=>by simpa using h0 (j+1) (by omega)) h
theorem AGf:∀{x:Bs},x∈signsL→x.length≤2:=by
 intro x hx;simp only [signsL,List.mem_cons,List.not_mem_nil,or_false] at hx;rcases hx with rfl|rfl|rfl|rfl|rfl|rfl|rfl|rfl|rfl|rfl|rfl|rfl|rfl|rfl|rfl|rfl|rfl|rfl <;> decide
theorem AEl [hF:Foc b L (LBo s a w) C](ha:a < s.length)(hs:s.length≤900000000)(m0:Nat)
  (hno:Il (s.drop a)=none→∀I',Ext I I'→K (.tuple #[AGM 5 m0 [] 0,.int .i64 171]) I' L)
  (hyes:∀x,Il (s.drop a)=some x→a+x.length≤s.length→∀I',Ext I I'→K (.tuple #[AGM 5 m0 (if x=[33,61] then [60,62] else x) 0,.int .i64 0]) I' (C (LBo s (a+x.length) w))):
  CT ω 143 #[AP b,AGM 0 m0 [] 0] K I L:=by
 obtain ⟨L1,L2,rfl,rfl⟩:=hF.foc;refine ASe ?_;unfold AOY;refine Ac (λb1=>?_);refine Ac (λb2=>?_);repeat' (first|refine zqa ?_|refine zqh (λ_=>?_)|refine zqr ?_|refine zqb ?_|refine zqi ?_ ?_|refine zqc ?_|refine zqg (λ_=>?_) (λ_=>?_)|refine zqe ?_|fail)
 refine Eo signsL rfl rfl (λI1 av hI1 hw=>zAA ?_);have hlen:signsL.length=18:=rfl;try refine zqe ?_
 refine loop (λm st I2 Lx=>∃i:Nat,i+m=18∧I2=I1∧st=(.int .i64 0,.int .i64 i,())∧Lx=(b2,.cells [.int .i64 0,.int .i64 0,.string ⟨#[]⟩,.int .i64 0].toArray 93 (0,0))::(b1,.cells [.int .i64 5,.int .i64 (m0:Nat),.string ⟨#[]⟩,.int .i64 0].toArray 93 (0,0))::(L1++(b,LBo s a w)::L2)∧∀j (hj:j < signsL.length),j < i→(signsL[j]).isPrefixOf (s.drop a)=false) 18
  ⟨0,rfl,rfl,rfl,rfl,λj _ hj=>by omega⟩ ?_
 rintro m st I2 Lx ⟨i,h1,rfl,rfl,rfl,hall⟩;unfold ACl;try refine zqe ?_
 refine AB (λhb=>?_) (λhb=>?_);rotate_left
 ·have hb:¬i < 18:=by
   have:¬((i:Int) < 18):=by simpa using hb
   omega
  unfold ACk;repeat' (first|refine zqa ?_|refine zqh (λ_=>?_)|refine zqr ?_|refine zqb ?_|refine zqi ?_ ?_|refine zqc ?_|refine zqg (λ_=>?_) (λ_=>?_)|refine zqe ?_|fail)
  refine zAE (L1++(b,LBo s a w)::L2) (zAA (hno ?_ I2 hI1));rw [Il,List.find?_eq_none];intro x hx;obtain ⟨j,hj,rfl⟩:=List.mem_iff_getElem.1 hx;simp [hall j hj (by omega)]
 have hb:i < signsL.length:=by
  have:((i:Int) < 18):=by simpa using hb
  omega
 obtain ⟨bw,off,cw,hi1,_,hi2,hi3⟩:=zAS hw (i:=i) (by omega) (by omega);rw [Af hb] at hi2;obtain rfl:=hi2;have hi1:ixV 1 (.slice av 18 18) (.int .i64 i)=_:=hi1;simp only [hi1,SSd,Nat.reduceAdd];refine rd1 ((hi3 _ [] (zAC _) (λ_ h=>h) 0 _ rfl).mono (zAC _) (λ_ h=>by cases h)) ?_;refine Em ?_;try refine zqe ?_
 refine EO ?_;try refine zqe ?_
 refine EO ?_;simp only [AAL s (Nat.le_of_lt ha),SSd,Nat.reduceAdd];have hle:=AGf (List.getElem_mem hb);refine call (LD (s.drop a) signsL[i] (by simp;omega) (by omega) ?_);refine AB (λhp=>?_) (λhp=>?_)
 ·have hf:Il (s.drop a)=some signsL[i]:=ADt (p:=λ(x:Bs)=>x.isPrefixOf (s.drop a)) hb (λj hj=>hall j (by omega) hj) hp;have hpl:=(List.isPrefixOf_iff_prefix.1 hp).length_le;have hpl:a+(signsL[i]).length≤s.length:=by simp at hpl;omega
  try refine zqe ?_
  refine rdb ?_;simp only [wrap_i64 ((a:Int)+(signsL[i]).length) (by omega),SSd,Nat.reduceAdd];refine st1 rfl ?_;rw [show ((a:Int)+((signsL[i]).length:Nat))=((a+(signsL[i]).length:Nat):Int) from rfl];have hfin:=hyes _ hf hpl I2 hI1;have fin:∀t:Bs,t=(if signsL[i]=[33,61] then [60,62] else signsL[i])→QY ω (AP b1) (AP b2) (.int .i64 0) (λv=>Gh (K v)) I2 ((b2,.cells [.int .i64 0,.int .i64 0,.string ⟨#[]⟩,.int .i64 0].toArray 93 (0,0))::(b1,.cells [.int .i64 5,.int .i64 (m0:Nat),.string ⟨t.toArray⟩,.int .i64 0].toArray 93 (0,0))::(L1++(b,LBo s (a+(signsL[i]).length) w)::L2)):=by
   intro t ht;rw [←ht] at hfin;unfold QY;repeat' (first|refine zqa ?_|refine zqh (λ_=>?_)|refine zqr ?_|refine zqb ?_|refine zqi ?_ ?_|refine zqc ?_|refine zqg (λ_=>?_) (λ_=>?_)|refine zqe ?_|fail)
   exact zAE (L1++(b,LBo s (a+(signsL[i]).length) w)::L2) (zAA hfin)
  refine st1 rfl ?_;refine AB (λhe=>?_) (λhe=>?_)
  ·refine st1 rfl ?_;exact fin [60,62] (by rw [if_pos (by simpa using he)])
  ·exact fin _ (by rw [if_neg (by simpa using he)])
 ·simp only [wrap_i64 ((i:Int)+1) (by omega),SSd,Nat.reduceAdd];refine zAA ⟨m - 1,by omega,i+1,by omega,rfl,rfl,rfl,λj hj hji=>?_⟩;rcases Nat.lt_or_eq_of_le (Nat.le_of_lt_succ hji) with hlt|rfl
  ·exact hall j hj hlt
  ·simpa using hp
end
def AWK (v:Value):Prop:=v= .slice none 0 0∨∃a m k,v= .slice (some a) m (k+1)
theorem SlO.buf {T n len:Nat}{X:LH}{v:Value}{cells:List Value}(h:SlO T n X v cells len)(h0:0 < len):AWK v:=by
 obtain ⟨_,h8⟩:=h;rcases h8 with ⟨_,h1,_⟩|⟨b8,k8,_,_,h8,_,hle,_⟩
 ·omega
 ·obtain ⟨k,rfl⟩:∃k,k8=k+1:=⟨k8 - 1,by omega⟩;exact .inr ⟨_,_,_,h8⟩
theorem ATJ:Tryz.prog.underlying 71=some (.slice 5):=by kernel_rfl
section
variable {ω:Om}{I:Imm}{L:LH}{K:Value→M}{C:Obj→LH}{b:Nat}{p v:Value}
theorem VL [hF:Foc b L (BuB p (.slice none 0 0)) C](hp:BuP b p){n:Nat}(hn:0 < n)(hn2:n≤100000000000)
  (hk:∀X' v',SlO 5 1 X' v' [] 0→AWK v'→K (.tuple #[]) I (X'++C (BuB (AP b) v'))):CT ω 192 #[AP b,.int .i64 (n:Nat)] K I L:=by
 obtain ⟨L1,L2,rfl,rfl⟩:=hF.foc;refine ARv ?_;unfold ANx;refine call (GH hp ?_);have h1:decide ((n:Int) < 0)=false:=by simp
 simp only [h1,SSd,Nat.reduceAdd];unfold ACP;have h2:decide ((0:Int) < (n:Int))=true:=by simpa using hn
 repeat' (first|refine zqa ?_|refine zqh (λ_=>?_)|refine zqr ?_|refine zqb ?_|refine zqi ?_ ?_|refine zqc ?_|refine zqg (λ_=>?_) (λ_=>?_)|(simp only [SSd,Nat.reduceAdd,h2,wrap_i64 ((0:Int)) (by omega)]))
 rotate_left
 ·rename_i hx
  have hx:=of_decide_eq_false hx;exact absurd (show IntKind.i64.wrap (((0:Nat):Int) - ((0:Nat):Int)) < (n:Int) from by rw [show IntKind.i64.wrap (((0:Nat):Int) - ((0:Nat):Int))=0 from rfl];omega) hx
 refine call ?_;refine ARd ?_;unfold ANi;refine Em ?_;try refine zqe ?_
 refine EO ?_;have e1:IntKind.i64.wrap (2 * ((0:Nat):Int))=0:=rfl;have e2:IntKind.i64.wrap (0+(n:Int))=n:=by rw [Int.zero_add];exact wrap_i64 (n:Int) (by omega)
 simp only [e1,e2,SSd,Nat.reduceAdd];refine AWR ATJ (by omega) (λb' cs hcs=>zAA ?_);refine CS (zAC _) ?_;try refine zqe ?_
 refine EO ?_;have e3:Hy 1 (.slice (some ⟨b',0,none⟩) n cs.size) none (some (.int .i64 ((0:Nat):Int))) none=some (.slice (some ⟨b',0,none⟩) 0 cs.size):=by
  simp [Hy,ER,Addr.add]
 simp only [e3,SSd,Nat.reduceAdd];refine rdb ?_;refine ⟨_,0,cs.size,0,[],rfl,.inl ⟨_,_,rfl,rfl,rfl⟩,.inl ⟨rfl,?_⟩⟩;refine zAA ?_;try refine zqe ?_
 refine st1 rfl ?_;refine zAA (zAA (hk [(b',.cells cs 5 (0,0))] _ ⟨rfl,.inr ⟨b',cs.size,cs,rfl,rfl,by simp,by omega,λj u hu=>by simp at hu⟩⟩ ?_));obtain ⟨k,hk0⟩:∃k,cs.size=k+1:=⟨cs.size - 1,by omega⟩;rw [hk0];exact .inr ⟨_,_,_,rfl⟩
theorem Es {X F:LH}{l:Bs}[hs:SplitL X L F][hF:Foc b F (BuB p v) C](hp:BuP b p)(hX:SlO 5 1 X v (Lib.byteCells l) l.length)(hn:l.length≤1000000000)(t:Bs)(ht:t.length≤1000000000)
  (hk:∀X' v',SlO 5 1 X' v' (Lib.byteCells (l++t)) (l++t).length→K (.tuple #[.int .i64 t.length,.nilIface]) I (X'++C (BuB (AP b) v'))):CT ω 172 #[AP b,.string ⟨t.toArray⟩] K I L:=by
 obtain ⟨L1,L2,rfl,rfl⟩:=hF.foc;refine zAQ X ?_;refine AKC ?_;unfold AHW;refine call (GH hp ?_);try refine zqe ?_
 refine rdb ?_;refine Ee (X:=X) (n:=1) (m:=t.length) rfl hX (news:=Lib.byteCells t) (.inr (.inr ⟨⟨t.toArray⟩,rfl,rfl,rfl,rfl⟩)) (λu hu=>?_) (by omega) (by omega) (λX2 v2 hX2=>?_)
 ·obtain ⟨c,_,rfl⟩:=List.mem_map.1 hu;rfl
 have hX2:SlO 5 1 X2 v2 (Lib.byteCells (l++t)) (l++t).length:=by rw [Lib.byteCells_append];simpa using hX2
 obtain ⟨a2,k2,rfl⟩:=hX2.form;repeat' (first|refine zqa ?_|refine zqh (λ_=>?_)|refine zqr ?_|refine zqb ?_|refine zqi ?_ ?_|refine zqc ?_|refine zqg (λ_=>?_) (λ_=>?_)|refine zqe ?_|fail)
 exact zAE (X2++(L1++(b,BuB (AP b) (.slice a2 (l++t).length k2))::L2)) (zAA (hk X2 _ hX2))
theorem RG {X F:LH}{l:Bs}[hs:SplitL X L F][hF:Foc b F (BuB p v) C](hp:BuP b p)(hX:SlO 5 1 X v (Lib.byteCells l) l.length)(hn:l.length≤1000000000)(c:UInt8)(hc:c.toNat < 128)
  (hk:∀X' v' x,SlO 5 1 X' v' (Lib.byteCells (l++[c])) (l++[c]).length→K (.tuple #[x,.nilIface]) I (X'++C (BuB (AP b) v'))):CT ω 193 #[AP b,.int .i32 c.toNat] K I L:=by
 obtain ⟨L1,L2,rfl,rfl⟩:=hF.foc;refine zAQ X ?_;refine ARu ?_;unfold ANw;refine call (GH hp ?_);obtain ⟨a1,k1,rfl⟩:=hX.form;try refine zqe ?_
 refine rdb ?_;try refine zqe ?_
 refine rdb ?_;refine call ?_;refine ARc ?_;unfold ANh;have e1:IntKind.u32.wrap (c.toNat:Int)=c.toNat:=IntWalk.u32_in _ (by omega);have e2:IntKind.u8.wrap (c.toNat:Int)=c.toNat:=IntWalk.u8_in _ (by omega);have e3:decide ((c.toNat:Int)≤127)=true:=by simp;omega
 simp only [e1,e2,e3,SSd,Nat.reduceAdd];refine GK rfl (by omega) rfl (λX1 u hX1=>?_);refine Ee (X:=X) rfl hX (hX1.news (λx hx=>List.mem_append_left _ hx)) (by simp [Value.cells,Value.oneCell']) (by omega) (by omega) (λX2 v2 hX2=>?_);have hX2:SlO 5 1 X2 v2 (Lib.byteCells (l++[c])) (l++[c]).length:=by rw [byteCells_snoc];simpa [Value.cells] using hX2
 obtain ⟨a2,k2,rfl⟩:=hX2.form;refine zAA ?_;repeat' (first|refine zqa ?_|refine zqh (λ_=>?_)|refine zqr ?_|refine zqb ?_|refine zqi ?_ ?_|refine zqc ?_|refine zqg (λ_=>?_) (λ_=>?_)|refine zqe ?_|fail)
 exact zAE (X2++(L1++(b,BuB (AP b) (.slice a2 (l++[c]).length k2))::L2)) (zAA (hk X2 _ _ hX2))
end
theorem WZ {I:Imm}{K:Value→M}{s:Bs}{i b:Nat}{L1 L2:LH}(hasc:∀c∈s,c.toNat < 128)
  (hmore:∀c,s[i]? =some c→c.toNat < 128→K (.tuple #[.bool true,.int .i64 (i:Nat),.int .i32 c.toNat]) I (L1++(b,.stringIter ⟨s.toArray⟩ (i+1))::L2))
  (hend:s.length≤i→K (.tuple #[.bool false]) I (L1++(b,.stringIter ⟨s.toArray⟩ i)::L2)):AGA (AP b) K I (L1++(b,.stringIter ⟨s.toArray⟩ i)::L2):=by
 refine ⟨b,⟨s.toArray⟩,i,L1,L2,rfl,rfl,?_⟩;have hsz:(⟨s.toArray⟩:ByteArray).size=s.length:=rfl;rw [hsz];split
 ·rename_i hlt
  have ha:s[i].toNat < 128:=hasc _ (List.getElem_mem hlt);have hd:Utf8.decode (⟨s.toArray⟩:ByteArray) i=(s[i].toNat,1):=decode_ascii ⟨s.toArray⟩ i hlt ha;rw [hd];exact hmore s[i] (List.getElem?_eq_getElem hlt) ha
 ·exact hend (by omega)
def FnR (ω:Om)(fv:Value)(f:UInt8→UInt8):Prop:=∀(c:UInt8) (K:Value→M) (I:Imm) (L:LH),c.toNat < 128→K (.int .i32 (f c).toNat) I L→CW ω fv #[.int .i32 c.toNat] K I L
theorem AJH (c:UInt8)(h:c.toNat < 128):(Ef c).toNat < 128:=by
 have:=MR (p:=λc=>decide (c.toNat < 128→(Ef c).toNat < 128)) (by decide+kernel) c;exact of_decide_eq_true this h
section
variable {ω:Om}{I:Imm}{L:LH}{K:Value→M}{C:Obj→LH}{b:Nat}{p v:Value}
theorem VG:FnR ω (.func (.func 137) #[] #[]) Ef:=by
 intro c K I L hc hk;refine FT (by kernel_rfl) ?_;refine ASk ?_;unfold AOd;have ht:=MR (p:=λc=>decide (c.toNat < 128→((Ef c).toNat:Int)=if (65:Int)≤c.toNat∧(c.toNat:Int)≤90 then IntKind.i32.wrap (IntKind.i32.wrap ((c.toNat:Int)+97) - 65) else (c.toNat:Int))) (by decide+kernel) c;have ht:=of_decide_eq_true ht hc;rw [ht] at hk;try refine zqe ?_
 refine DN (λh1=>?_) (λh1=>?_)
 ·refine AB (λh2=>?_) (λh2=>?_)
  ·unfold ACp;rw [if_pos ⟨by simpa using h1,by simpa using h2⟩] at hk;try refine zqe ?_
   exact zAA hk
  ·rw [if_neg (λh=>by simp [h.2] at h2)] at hk;exact zAA hk
 ·rw [if_neg (λh=>by simp [h.1] at h1)] at hk;exact zAA hk
theorem WQ {c:Nat}(hc:c < 128)(hk:K (.int .i64 1) I L):CT ω 191 #[.int .i32 (c:Nat)] K I L:=by
 refine ARw ?_;unfold ANy;have h1:decide ((c:Int) < 0)=false:=by simp
 have h2:decide ((c:Int)≤127)=true:=by simp;omega
 simp only [h1,h2,SSd,Nat.reduceAdd];exact zAA hk
theorem Yy {a:Option Addr}{m k:Nat}[hF:Foc b L (BuB p (.slice a m k)) C](hk:K (.int .i64 (k:Nat)) I L):CT ω 194 #[AP b] K I L:=by
 obtain ⟨L1,L2,rfl,rfl⟩:=hF.foc;refine ARt ?_;unfold ANv;repeat' (first|refine zqa ?_|refine zqh (λ_=>?_)|refine zqr ?_|refine zqb ?_|refine zqi ?_ ?_|refine zqc ?_|refine zqg (λ_=>?_) (λ_=>?_)|refine zqe ?_|fail)
 exact zAA hk
theorem map_rest {X:LH}{acc r:Bs}{bs:Nat}{it:Obj}{z:Value}(hlen:acc.length+r.length≤900000000)(h0:0 < acc.length)(hasc:∀c∈r,c.toNat < 128)(hp:BuP b p)(hX:SlO 5 1 X v (Lib.byteCells acc) acc.length)(hk:K (.string ⟨(acc++r.map Ef).toArray⟩) I L):
  NV ω (.func (.func 137) #[] #[]) (.string ⟨r.toArray⟩) z (AP b) (λv=>Gh (K v)) I (X++((bs,it)::(b,BuB p v)::L)):=by
 have hF:=VG (ω:=ω);unfold NV;obtain ⟨a,m,k,rfl⟩:∃a m k,v= .slice (some a) m (k+1):=by
  rcases SlO.buf hX h0 with rfl|h
  ·obtain ⟨_,h8⟩:=hX;rcases h8 with ⟨_,h1,_⟩|⟨b8,k8,_,_,h8,_⟩
   ·omega
   ·cases h8
  ·exact h
 refine call (Yy ?_);have e0:(((k+1:Nat):Int)==0)=false:=by simp;omega
 simp only [e0,SSd,Nat.reduceAdd];refine ⟨⟨r.toArray⟩,rfl,λb2=>?_⟩;refine zAE (X++((b2,.stringIter ⟨r.toArray⟩ 0)::(bs,it)::(b,BuB p (.slice (some a) m (k+1)))::L)) (zAA ?_);refine loop (λm st I2 Lx=>∃(j:Nat) (X:LH) (p v:Value),j+m=r.length∧I2=I∧Lx=X++((b2,.stringIter ⟨r.toArray⟩ j)::(bs,it)::(b,BuB p v)::L)∧BuP b p∧SlO 5 1 X v (Lib.byteCells (acc++(r.take j).map Ef)) (acc++(r.take j).map Ef).length) r.length ⟨0,X,p,_,by omega,rfl,rfl,hp,by simpa using hX⟩ ?_;clear hX hp;rintro m2 st I2 Lx ⟨j,X,p,v,h1,rfl,rfl,hp,hX⟩;have hjl:(acc++(r.take j).map Ef).length≤900000000:=by simp;omega
 unfold ACq;refine WZ hasc (λc hc hca=>zAA ?_) (λhe=>zAA ?_)
 ·obtain ⟨hlt,hce⟩:=List.getElem?_eq_some_iff.1 hc;try refine zqe ?_
  refine Fj (hF c _ _ _ hca ?_);have hll:=AJH c hca;have e1:decide ((0:Int)≤((Ef c).toNat:Int))=true:=by simp
  have e2:decide (((Ef c).toNat:Int) < 128)=true:=by simp;omega
  have e3:IntKind.u8.wrap ((Ef c).toNat:Int)=(Ef c).toNat:=IntWalk.u8_in _ (by omega);simp only [e1,e2,e3,SSd,Nat.reduceAdd];refine call (II hp hX (by omega) (Ef c) (λX' v' hX'=>?_));refine zAA ⟨m2 - 1,by omega,j+1,X',AP b,v',by omega,rfl,rfl,.inr rfl,?_⟩;have et:r.take (j+1)=r.take j++[c]:=by rw [List.take_add_one,hc];rfl
  rw [et,List.map_append,←List.append_assoc];rw [show (List.map Ef [c])=[Ef c] from rfl,byteCells_snoc];simpa [Nat.add_assoc] using hX'
 ·try refine zqe ?_
  unfold Xn;refine call (Jz (p:=p) (v:=v) (X:=X) hX (by omega) (λh=>by simp at h;exact absurd h.1 (List.length_pos_iff.1 h0)) (λX'=>?_));have et:r.take j=r:=List.take_of_length_le (by omega);rw [et];exact zAE L (zAA hk)
theorem AJE (s:Bs)(hs:s.length≤900000000)(hasc:∀c∈s,c.toNat < 128)(hk:K (.string ⟨(s.map Ef).toArray⟩) I L):CT ω 136 #[.func (.func 137) #[] #[],.string ⟨s.toArray⟩] K I L:=by
 have hF:=VG (ω:=ω);refine ASl ?_;unfold AOe;refine Ac (λbb=>?_);refine ⟨⟨s.toArray⟩,rfl,λbs=>zAA ?_⟩;refine loop (λm st I2 Lx=>∃i,i+m=s.length∧I2=I∧st=(.string ⟨s.toArray⟩,())∧Lx=(bs,.stringIter ⟨s.toArray⟩ i)::(bb,BuB (.pointer none) (.slice none 0 0))::L∧(s.take i).map Ef=s.take i) s.length ⟨0,by omega,rfl,rfl,rfl,rfl⟩ ?_;rintro m st I2 Lx ⟨i,h1,rfl,rfl,rfl,hfix⟩;unfold ACs;refine WZ (L1:=[]) hasc (λc hc hca=>zAA ?_) (λhe=>zAA ?_)
 ·obtain ⟨hlt,hce⟩:=List.getElem?_eq_some_iff.1 hc;try refine zqe ?_
  refine Fj (hF c _ _ _ hca ?_);have hll:=AJH c hca;have e0:((c.toNat:Int) != 65533)=true:=by simp;omega
  have e0':((c.toNat:Int)==65533)=false:=by simp;omega
  simp only [XZ,e0,e0',SSd,Nat.reduceAdd];refine DN (λhe=>?_) (λhe=>?_)
  ·have he:Ef c=c:=by simpa using he
   refine zAA ⟨m - 1,by omega,i+1,by omega,rfl,trivial,rfl,?_⟩;rw [List.take_add_one,hc];simp [hfix,he]
  ·unfold Rw;refine call (WQ hca ?_);unfold Qc;have e4:IntKind.i64.wrap ((s.length:Int)+4)=((s.length+4:Nat):Int):=wrap_i64 _ (by omega);simp only [e4,SSd,Nat.reduceAdd];refine call (VL (.inl rfl) (by omega) (by omega) (λX1 v1 hX1 hb1=>?_));simp only [ATc s (Nat.le_of_lt hlt),SSd,Nat.reduceAdd];refine call (Es (X:=X1) (l:=[]) (.inr rfl) hX1 (by simp) (s.take i) (by simp;omega) (λX2 v2 hX2=>?_));have e5:decide ((0:Int)≤((Ef c).toNat:Int))=true:=by simp
   simp only [e5,SSd,Nat.reduceAdd];refine call (RG (X:=X2) (l:=[]++s.take i) (.inr rfl) hX2 (by simp;omega) (Ef c) hll (λX3 v3 x hX3=>?_));unfold WB;have e6:IntKind.i64.wrap ((i:Int)+1)=((i+1:Nat):Int):=wrap_i64 _ (by omega);simp only [e6,SSd,Nat.reduceAdd];simp only [AAL s (show i+1≤s.length by omega),SSd,Nat.reduceAdd];refine map_rest (X:=X3) (acc:=[]++s.take i++[Ef c]) (r:=s.drop (i+1)) (by simp;omega) (by simp) (λd hd=>hasc d (List.mem_of_mem_drop hd)) (.inr rfl) hX3 ?_;have e7:s.map Ef=[]++s.take i++[Ef c]++(s.drop (i+1)).map Ef:=by
    conv=>lhs;rw [←List.take_append_drop i s]
    rw [List.map_append,hfix,List.drop_eq_getElem_cons hlt,hce];simp
   rw [←e7];exact hk
 ·try refine zqe ?_
  unfold NV;have hi:i=s.length:=by omega
  subst hi;refine call (Yy ?_);try refine zqe ?_
  rw [List.take_length] at hfix;rw [hfix] at hk;exact zAE L (zAA hk)
end
end Go.Proofs.YtkifgfanjcfedaaGreatDoor
