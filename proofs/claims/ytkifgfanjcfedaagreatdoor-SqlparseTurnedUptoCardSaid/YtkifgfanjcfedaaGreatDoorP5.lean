/-
  Lemmas, part 5: laid together by a program.
-/
import Derived.Test.YtkifgfanjcfedaaGreatDoorP4
import Derived.Test.YtkifgfanjcfedaaGreatDoorP2
import Derived.Laws.RangeString
set_option maxRecDepth 100000
set_option maxHeartbeats 4000000
set_option linter.unusedVariables false
set_option linter.unusedSimpArgs false
set_option linter.unusedSectionVars false
namespace Go.Proofs.YtkifgfanjcfedaaGreatDoor
open Go.SL
def ABN (ω:Om)(p0 p1:Value)(p4 x5:Value)(Kn0:(Value×Unit)→M)(K:Value→M)(Pn:Value→M):M:=AQ Tryz.prog ω 43 #[p0,(Value.string (ByteArray.mk #[44]))] Pn<|gh fun v3=>Br v3 (Il Tryz.prog ω p1 #[] Pn<|gh fun v4=>AX 9 1 Za 1 [(0,v4)]<|gh fun v5=>App 9 1 16 Za x5 v5<|gh fun v6=>Kn0 (v6,())) (ABM ω p4 x5 K Pn)
def ALt (ω:Om)(a0 a1:Value)(K:Value→M)(Pn:Value→M):M:=Il Tryz.prog ω a1 #[] Pn<|gh fun v1=>AX 9 1 Za 1 [(0,v1)]<|gh fun v2=>Am ((v2,()):Value×Unit) fun s Kn0=>ABN ω a0 a1 S0 s.1 Kn0 K Pn
theorem APS {ω:Om}{a0 a1:Value}{K Pn:Value→M}{I:Imm}{L:LH}(h:ALt ω a0 a1 (fun v=>Gh (K v)) (fun v=>Gh (Pn v)) I L):CalP Tryz.prog ω 204 #[a0,a1] K Pn I L:=
 CalP.gh (cQp Tryz.func204 h (by kernel_rfl))
def sh205_4 (ω:Om)(p0 p3:Value)(Kn0:(Unit)→M)(K:Value→M)(Pn:Value→M):M:=AX 9 1 Za 1 [(0,(Value.string (ByteArray.mk #[110,117,108,108])))]<|gh fun v30=>AQ Tryz.prog ω 95 #[p0,v30] Pn<|gh fun v31=>Pv (AL 2 p3) fun v32=>Sto 1 v32 Bt<|gh fun _=>Kn0 (())
def sh205_8 (ω:Om)(p0 p3:Value)(Kn0:(Unit)→M)(K:Value→M)(Pn:Value→M):M:=AX 9 1 Za 1 [(0,(Value.string (ByteArray.mk #[107,101,121])))]<|gh fun v37=>AQ Tryz.prog ω 95 #[p0,v37] Pn<|gh fun v38=>Pv (AL 3 p3) fun v39=>Sto 1 v39 Bt<|gh fun _=>Kn0 (())
def sh205_10 (ω:Om)(p3:Value)(Kn0:(Unit)→M)(K:Value→M)(Pn:Value→M):M:=Pv (AL 4 p3) fun v44=>Sto 1 v44 Bt<|gh fun _=>Kn0 (())
def sh205_12 (ω:Om)(p0 p3:Value)(Kn0:(Unit)→M)(K:Value→M)(Pn:Value→M):M:=AQ Tryz.prog ω 222 #[p0] Pn<|gh fun v50=>Pv (AL 5 p3) fun v51=>Sto 11 v51 v50<|gh fun _=>Kn0 (())
def sh205_13 (ω:Om)(p2 p3:Value)(K:Value→M)(Pn:Value→M):M:=Rn (AC 16 p3) fun v52=>Sto 16 p2 v52<|gh fun _=>Rn (AC 16 p2) fun v53=>K v53
def sh205_11 (ω:Om)(p0 p2 p3:Value)(Kn0:(Unit)→M)(K:Value→M)(Pn:Value→M):M:=Pv (AL 5 p3) fun v45=>Lf 0 v45 fun v47=>Pv (AA .eql v47 I0) fun v48=>Gd v48 true (AQ Tryz.prog ω 43 #[p0,(Value.string (ByteArray.mk #[100,101,102,97,117,108,116]))] Pn<|gh fun v49=>Br v49 (sh205_12 ω p0 p3 Kn0 K Pn) (sh205_13 ω p2 p3 K Pn)) (sh205_13 ω p2 p3 K Pn)
def sh205_9 (ω:Om)(p0 p2 p3:Value)(Kn0:(Unit)→M)(K:Value→M)(Pn:Value→M):M:=Lf 4 p3 fun v41=>Pv (unV .not v41) fun v42=>Gd v42 true (AQ Tryz.prog ω 43 #[p0,(Value.string (ByteArray.mk #[117,110,105,113,117,101]))] Pn<|gh fun v43=>Br v43 (sh205_10 ω p3 Kn0 K Pn) (sh205_11 ω p0 p2 p3 Kn0 K Pn)) (sh205_11 ω p0 p2 p3 Kn0 K Pn)
def sh205_7 (ω:Om)(p0 p2 p3:Value)(Kn0:(Unit)→M)(K:Value→M)(Pn:Value→M):M:=Lf 3 p3 fun v34=>Pv (unV .not v34) fun v35=>Gd v35 true (AQ Tryz.prog ω 43 #[p0,(Value.string (ByteArray.mk #[112,114,105,109,97,114,121]))] Pn<|gh fun v36=>Br v36 (sh205_8 ω p0 p3 Kn0 K Pn) (sh205_9 ω p0 p2 p3 Kn0 K Pn)) (sh205_9 ω p0 p2 p3 Kn0 K Pn)
def sh205_3 (ω:Om)(p0 p2 p3:Value)(Kn0:(Unit)→M)(K:Value→M)(Pn:Value→M):M:=Lf 2 p3 fun v27=>Pv (unV .not v27) fun v28=>Gd v28 true (AQ Tryz.prog ω 43 #[p0,(Value.string (ByteArray.mk #[110,111,116]))] Pn<|gh fun v29=>Br v29 (sh205_4 ω p0 p3 Kn0 K Pn) (sh205_7 ω p0 p2 p3 Kn0 K Pn)) (sh205_7 ω p0 p2 p3 Kn0 K Pn)
def sh205_2 (ω:Om)(p0 p2 p3:Value)(K:Value→M)(Pn:Value→M):M:=AQ Tryz.prog ω 93 #[p0] Pn<|gh fun v25=>Am ((()):Unit) fun s Kn0=>sh205_3 ω p0 p2 p3 Kn0 K Pn
def sh205_1 (ω:Om)(p0 p2 p3:Value)(K:Value→M)(Pn:Value→M):M:=Lf 1 p3 fun v22=>Pv (AA .eql v22 I0) fun v23=>Br v23 (AQ Tryz.prog ω 46 #[p0] Pn<|gh fun v24=>sh205_2 ω p0 p2 p3 K Pn) (sh205_2 ω p0 p2 p3 K Pn)
def sh205 (ω:Om)(a0:Value)(K:Value→M)(Pn:Value→M):M:=New (.cells Zi 101 (0,0))<|gh fun v1=>AQ Tryz.prog ω 96 #[a0] Pn<|gh fun v2=>Pv (Aq Zi #[(0,1),(1,1),(2,1),(3,1),(4,1),(5,11)] [(0,v2)]) fun v3=>New (.cells Zi 101 (0,0))<|gh fun c_4=>Sto 16 c_4 v3<|gh fun _=>Pv (BI a0) fun v5=>Lf 0 v5 fun v7=>Pv (ixV 4 v7 I0) fun v8=>Lf 0 v8 fun v10=>Pv (AA .eql v10 (.int .i64 1)) fun v11=>Br v11 (WJ<|gh fun v12=>ER .string v12 (Value.string (ByteArray.mk #[105,110,116])) (.int .i64 1)<|gh fun _=>ER .string v12 (Value.string (ByteArray.mk #[105,110,116,101,103,101,114])) (.int .i64 1)<|gh fun _=>ER .string v12 (Value.string (ByteArray.mk #[98,105,103,105,110,116])) (.int .i64 1)<|gh fun _=>ER .string v12 (Value.string (ByteArray.mk #[98,111,111,108])) (.int .i64 2)<|gh fun _=>ER .string v12 (Value.string (ByteArray.mk #[98,111,111,108,101,97,110])) (.int .i64 2)<|gh fun _=>ER .string v12 (Value.string (ByteArray.mk #[116,101,120,116])) (.int .i64 3)<|gh fun _=>Pv (BI a0) fun v13=>Lf 0 v13 fun v15=>Pv (ixV 4 v15 I0) fun v16=>Lf 2 v16 fun v18=>Rn (lkR .string I0 false v12 v18) fun v19=>Pv (AL 1 c_4) fun v20=>Sto 1 v20 v19<|gh fun _=>sh205_1 ω a0 v1 c_4 K Pn) (sh205_1 ω a0 v1 c_4 K Pn)
theorem APR {ω:Om}{a0:Value}{K Pn:Value→M}{I:Imm}{L:LH}(h:sh205 ω a0 (fun v=>Gh (K v)) (fun v=>Gh (Pn v)) I L):CalP Tryz.prog ω 205 #[a0] K Pn I L:=
 CalP.gh (cQp Tryz.func205 h (by kernel_rfl))
def PZ (ω:Om)(p2 p7 p10:Value)(Kn0:(Value×Unit)→M)(K:Value→M):M:=Rn (AC 11 p7) fun v9=>CW ω p2 #[v9]<|gh fun v10=>Pv (AA .add p10 (.int .i64 1)) fun v11=>Kn0 (v11,())
def ABL (ω:Om)(p0 p2:Value)(p8 p9 x10:Value)(Kn0:(Value×Unit)→M)(K:Value→M):M:=Pv (AA .lss x10 p9) fun v2=>Br v2 (Pv (ixV 11 p8 x10) fun v3=>Rn (AC 11 v3) fun v4=>New (.cells Zb 37 (0,0))<|gh fun x_5=>Sto 11 x_5 v4<|gh fun _=>Pv (AA .gtr x10 I0) fun v6=>Br v6 (AX 9 1 Za 1 [(0,(Value.string (ByteArray.mk #[44,32])))]<|gh fun v7=>CT ω 113 #[p0,v7]<|gh fun v8=>PZ ω p2 x_5 x10 Kn0 K) (PZ ω p2 x_5 x10 Kn0 K)) (K (Value.tuple #[]))
def ALs (ω:Om)(a0 a1 a2:Value)(K:Value→M):M:=Pv (lenV a1) fun v1=>Am ((I0,()):Value×Unit) fun s Kn0=>ABL ω a0 a2 a1 v1 s.1 Kn0 K
variable {ω:Om}{K:Value→M}{I:Imm}{L:LH}{a0 a1 a2 a3 a4 a5 a6 a7 a8:Value}
theorem APQ (h:ALs ω a0 a1 a2 (fun v=>Gh (K v)) I L):CT ω 206 #[a0,a1,a2] K I L:=Cal.gh (cQc Tryz.func206 h (by kernel_rfl))
def AGI (ω:Om)(a0 a1:Value)(K:Value→M):M:=New (.cells (Value.cells a0) 37 (0,0))<|gh fun x_1=>Rn (Ap a1) fun v2=>Rn (AC 11 x_1) fun v3=>CT ω 120 #[v2,v3,(.int .i64 1)]<|gh fun v4=>K (Value.tuple #[])
theorem APP (h:AGI ω a0 a1 (fun v=>Gh (K v)) I L):CT ω 207 #[a0,a1] K I L:=Cal.gh (cQc Tryz.func207 h (by kernel_rfl))
def AGH (ω:Om)(a0:Value)(K:Value→M):M:=Pv (BI a0) fun v1=>Lf 0 v1 fun v3=>Pv (IV .eql v3 N0) fun v4=>Br v4 (Rn (ANl a0) fun v5=>ExtE Tryz.prog ω Extern.AbiNoEscape.same #[v5]<|gh fun v6=>Rn (ANm Tryz.prog 111 v6) fun v7=>Pv (BI a0) fun v8=>Pv (AL 0 v8) fun v9=>Sto 1 v9 v7<|gh fun _=>K (Value.tuple #[])) (Pv (BI a0) fun v10=>Lf 0 v10 fun v12=>Pv (IV .neq v12 a0) fun v13=>Br v13 (F /- ('no','refuse') -/) (K (Value.tuple #[])))
theorem AIZ (h:AGH ω a0 (fun v=>Gh (K v)) I L):CT ω 209 #[a0] K I L:=Cal.gh (cQc Tryz.func209 h (by kernel_rfl))
def ALr (ω:Om)(a0 a1 a2:Value)(K:Value→M):M:=CT ω 225 #[a0,a1,a2,(.int .i64 (-1))]<|gh fun v1=>K v1
theorem APO (h:ALr ω a0 a1 a2 (fun v=>Gh (K v)) I L):CT ω 210 #[a0,a1,a2] K I L:=Cal.gh (cQc Tryz.func210 h (by kernel_rfl))
def ALq (ω:Om)(a0:Value)(K:Value→M):M:=CT ω 226 #[a0]<|gh fun v1=>K v1
theorem APN (h:ALq ω a0 (fun v=>Gh (K v)) I L):CT ω 211 #[a0] K I L:=Cal.gh (cQc Tryz.func211 h (by kernel_rfl))
def ALp (ω:Om)(a0 a1:Value)(K:Value→M):M:=CP fun S=>Pv (BI a0) fun v1=>Lg S 1 v1 fun v3=>Pv (AEf v3) fun v4=>Pv (AA .mul (.int .i64 2) v4) fun v5=>Pv (AA .add v5 a1) fun v6=>ExtE Tryz.prog ω (Extern.BytealgMakeNoZero.makeNoZero #[3] #[71]) #[v6]<|gh<|Cm S fun v7=>Pv (BI a0) fun v8=>Lg S 1 v8 fun v10=>Pv (lenV v10) fun v11=>Pv (Hu 1 v7 none (some v11) none) fun v12=>Pv (BI a0) fun v13=>Lf 1 v13 fun v15=>ARA 1 v12 v15<|gh fun v16=>Pv (BI a0) fun v17=>Pv (AL 1 v17) fun v18=>Sto 1 v18 v12<|gh fun _=>K (Value.tuple #[])
theorem APM (h:ALp ω a0 a1 (fun v=>Gh (K v)) I L):CT ω 218 #[a0,a1] K I L:=Cal.gh (cQc Tryz.func218 h (by kernel_rfl))
def ALo (ω:Om)(a0 a1:Value)(K:Value→M):M:=Pv (WA .u32 a1) fun v1=>Pv (AA .leq v1 (.int .u32 127)) fun v2=>Br v2 (Pv (WA .u8 a1) fun v3=>AX 5 1 #[(.int .u8 0)] 1 [(0,v3)]<|gh fun v4=>App 5 1 1 #[(.int .u8 0)] a0 v4<|gh fun v5=>K v5) (CT ω 231 #[a0,a1]<|gh fun v6=>K v6)
theorem APL (h:ALo ω a0 a1 (fun v=>Gh (K v)) I L):CT ω 219 #[a0,a1] K I L:=Cal.gh (cQc Tryz.func219 h (by kernel_rfl))
def ALn (ω:Om)(a0:Value)(K:Value→M)(Pn:Value→M):M:=New (.cells Zb 37 (0,0))<|gh fun v1=>AQ Tryz.prog ω 43 #[a0,(Value.string (ByteArray.mk #[110,111,116]))] Pn<|gh fun v2=>Br v2 (AQ Tryz.prog ω 220 #[a0] Pn<|gh fun v3=>AX 37 11 Zb 1 [(0,v3)]<|gh fun v4=>AQ Tryz.prog ω 202 #[(.int .i64 5),v4] Pn<|gh fun v5=>Sto 11 v1 v5<|gh fun _=>Rn (AC 11 v1) fun v6=>K v6) (AQ Tryz.prog ω 232 #[a0] Pn<|gh fun v7=>Sto 11 v1 v7<|gh fun _=>Rn (AC 11 v1) fun v8=>K v8)
theorem APK {ω:Om}{a0:Value}{K Pn:Value→M}{I:Imm}{L:LH}(h:ALn ω a0 (fun v=>Gh (K v)) (fun v=>Gh (Pn v)) I L):CalP Tryz.prog ω 220 #[a0] K Pn I L:=
 CalP.gh (cQp Tryz.func220 h (by kernel_rfl))
def ALm (ω:Om)(a0:Value)(K:Value→M):M:=Pv (lenV a0) fun v1=>Pv (lenV a0) fun v2=>Pv (Hu 1 a0 none (some v1) (some v2)) fun v3=>K v3
theorem APJ (h:ALm ω a0 (fun v=>Gh (K v)) I L):CT ω 221 #[a0] K I L:=Cal.gh (cQc Tryz.func221 h (by kernel_rfl))
def sh222 (ω:Om)(a0:Value)(K:Value→M)(Pn:Value→M):M:=New (.cells Zb 37 (0,0))<|gh fun v1=>AQ Tryz.prog ω 233 #[a0] Pn<|gh fun v2=>Pv (exV v2 0) fun v3=>Pv (exV v2 1) fun v4=>New (.cells Zb 37 (0,0))<|gh fun x_5=>Sto 11 x_5 v3<|gh fun _=>Br v4 (Rn (AC 11 x_5) fun v6=>Sto 11 v1 v6<|gh fun _=>Rn (AC 11 v1) fun v7=>K v7) (AQ Tryz.prog ω 43 #[a0,(Value.string (ByteArray.mk #[45]))] Pn<|gh fun v8=>Br v8 (AQ Tryz.prog ω 234 #[a0] Pn<|gh fun v9=>AX 37 11 Zb 1 [(0,v9)]<|gh fun v10=>AQ Tryz.prog ω 202 #[(.int .i64 4),v10] Pn<|gh fun v11=>Sto 11 v1 v11<|gh fun _=>Rn (AC 11 v1) fun v12=>K v12) (AQ Tryz.prog ω 234 #[a0] Pn<|gh fun v13=>Sto 11 v1 v13<|gh fun _=>Rn (AC 11 v1) fun v14=>K v14))
theorem API {ω:Om}{a0:Value}{K Pn:Value→M}{I:Imm}{L:LH}(h:sh222 ω a0 (fun v=>Gh (K v)) (fun v=>Gh (Pn v)) I L):CalP Tryz.prog ω 222 #[a0] K Pn I L:=
 CalP.gh (cQp Tryz.func222 h (by kernel_rfl))
def VK (ω:Om)(p0 p8:Value)(p10 p11:Value)(K:Value→M):M:=Pv (DK p0 (some p11) none) fun v27=>CT ω 172 #[p10,v27]<|gh fun v28=>CT ω 59 #[p10]<|gh fun v29=>K v29
def ABH (ω:Om)(p0 p1:Value)(p2 p8:Value)(p10 p52:Value)(x11 x53:Value)(Kn0:(Value×Value×Unit)→M)(K:Value→M):M:=Pv (AA .lss x53 p52) fun v17=>Br v17 (Pv (DK p0 (some x11) none) fun v18=>CT ω 240 #[v18,p1]<|gh fun v19=>Pv (AA .add x11 v19) fun v20=>Pv (DK p0 (some x11) (some v20)) fun v21=>CT ω 172 #[p10,v21]<|gh fun v22=>CT ω 172 #[p10,p2]<|gh fun v23=>Pv (Ba p1) fun v24=>Pv (AA .add v20 v24) fun v25=>Pv (AA .add x53 (.int .i64 1)) fun v26=>Kn0 (v25,v26,())) (VK ω p0 p8 p10 x11 K)
def AKG (ω:Om)(p0 p2:Value)(p8 p10:Value)(p77 x11 x78:Value)(Kn0:(Value×Value×Unit)→M)(K:Value→M):M:=Pv (AA .lss x78 p77) fun v32=>Br v32 (Pv (DK p0 (some x11) none) fun v33=>CT ω 190 #[v33]<|gh fun v34=>Pv (exV v34 0) fun v35=>Pv (exV v34 1) fun v36=>Pv (AA .add x11 v36) fun v37=>Pv (DK p0 (some x11) (some v37)) fun v38=>CT ω 172 #[p10,v38]<|gh fun v39=>CT ω 172 #[p10,p2]<|gh fun v40=>Pv (AA .add x78 (.int .i64 1)) fun v41=>Kn0 (v37,v41,())) (VK ω p0 p8 p10 x11 K)
def PY (ω:Om)(p0 p1:Value)(p2 p3 p8:Value)(K:Value→M):M:=New (.cells Zt 111 (0,0))<|gh fun b_7=>Pv (Ba p0) fun v8=>Pv (Ba p2) fun v9=>Pv (Ba p1) fun v10=>Pv (AA .sub v9 v10) fun v11=>Pv (AA .mul p3 v11) fun v12=>Pv (AA .add v8 v12) fun v13=>CT ω 192 #[b_7,v13]<|gh fun v14=>Pv (Ba p1) fun v15=>Pv (AA .gtr v15 I0) fun v16=>Br v16 (Am ((I0,I0,()):Value×Value×Unit) fun s Kn0=>ABH ω p0 p1 p2 p8 b_7 p3 s.1 s.2.1 Kn0 K) (CT ω 172 #[b_7,p2]<|gh fun v30=>Pv (AA .sub p3 (.int .i64 1)) fun v31=>Am ((I0,I0,()):Value×Value×Unit) fun s Kn0=>AKG ω p0 p2 p8 b_7 v31 s.1 s.2.1 Kn0 K)
def ABJ (ω:Om)(p0 p1:Value)(p2 p3:Value)(p8 p9:Value)(K:Value→M):M:=Pv (AA .lss p3 I0) fun v5=>Gd v5 false (Pv (AA .lss p9 p3) fun v6=>Br v6 (PY ω p0 p1 p2 p9 p8 K) (PY ω p0 p1 p2 p3 p8 K)) (PY ω p0 p1 p2 p9 p8 K)
def ALl (ω:Om)(a0 a1:Value)(a2 a3:Value)(K:Value→M):M:=Pv (Ag .eql a1 a2) fun v1=>Gd v1 false (Pv (AA .eql a3 I0) fun v2=>Br v2 (K a0) (CT ω 239 #[a0,a1]<|gh fun v3=>Pv (AA .eql v3 I0) fun v4=>Br v4 (K a0) (ABJ ω a0 a1 a2 a3 Q0 v3 K))) (K a0)
theorem APH (h:ALl ω a0 a1 a2 a3 (fun v=>Gh (K v)) I L):CT ω 225 #[a0,a1,a2,a3] K I L:=Cal.gh (cQc Tryz.func225 h (by kernel_rfl))
def ALk (ω:Om)(a0:Value)(K:Value→M):M:=Br a0 (K (Value.string (ByteArray.mk #[116,114,117,101]))) (K (Value.string (ByteArray.mk #[102,97,108,115,101])))
theorem APG (h:ALk ω a0 (fun v=>Gh (K v)) I L):CT ω 226 #[a0] K I L:=Cal.gh (cQc Tryz.func226 h (by kernel_rfl))
def sh232_4 (ω:Om)(p0 p2:Value)(p3 p6:Value)(K:Value→M)(Pn:Value→M):M:=AX 9 1 Za 1 [(0,(Value.string (ByteArray.mk #[110,117,108,108])))]<|gh fun v19=>AQ Tryz.prog ω 95 #[p0,v19] Pn<|gh fun v20=>Rn (AC 11 p3) fun v21=>AX 37 11 Zb 1 [(0,v21)]<|gh fun v22=>AQ Tryz.prog ω 202 #[p6,v22] Pn<|gh fun v23=>Sto 11 p2 v23<|gh fun _=>Rn (AC 11 p2) fun v24=>K v24
def sh232_7 (ω:Om)(p2 p3 p7:Value)(K:Value→M)(Pn:Value→M):M:=Br p7 (Rn (AC 11 p3) fun v27=>AX 37 11 Zb 1 [(0,v27)]<|gh fun v28=>AQ Tryz.prog ω 202 #[(.int .i64 5),v28] Pn<|gh fun v29=>Sto 11 p2 v29<|gh fun _=>Rn (AC 11 p2) fun v30=>K v30) (Rn (AC 11 p3) fun v31=>Sto 11 p2 v31<|gh fun _=>Rn (AC 11 p2) fun v32=>K v32)
def sh232_3 (ω:Om)(p0 p2 p3:Value)(K:Value→M)(Pn:Value→M):M:=AQ Tryz.prog ω 43 #[p0,(Value.string (ByteArray.mk #[105,115]))] Pn<|gh fun v17=>Br v17 (AQ Tryz.prog ω 43 #[p0,(Value.string (ByteArray.mk #[110,111,116]))] Pn<|gh fun v18=>Br v18 (sh232_4 ω p0 p2 p3 (.int .i64 7) K Pn) (sh232_4 ω p0 p2 p3 (.int .i64 6) K Pn)) (AQ Tryz.prog ω 43 #[p0,(Value.string (ByteArray.mk #[110,111,116]))] Pn<|gh fun v25=>AQ Tryz.prog ω 43 #[p0,(Value.string (ByteArray.mk #[105,110]))] Pn<|gh fun v26=>Br v26 (CP fun S=>Rs S (AC 11 p3) fun v33=>(fun I L=>(AX 37 11 Zb 1 [(0,v33)]<|gh fun v34=>AQ Tryz.prog ω 99 #[p0] Pn<|gh<|Cm S fun v35=>App 37 11 128 Zb v34 v35<|gh fun v36=>AQ Tryz.prog ω 202 #[(.int .i64 24),v36] Pn<|gh fun v37=>Sto 11 p3 v37<|gh fun _=>sh232_7 ω p2 p3 v25 K Pn) I L∧(AQ Tryz.prog ω 99 #[p0] Pn<|gh<|Cm S fun v38=>AX 37 11 Zb 1 [(0,v33)]<|gh fun v39=>App 37 11 128 Zb v39 v38<|gh fun v40=>AQ Tryz.prog ω 202 #[(.int .i64 24),v40] Pn<|gh fun v41=>Sto 11 p3 v41<|gh fun _=>sh232_7 ω p2 p3 v25 K Pn) I L)) (AQ Tryz.prog ω 43 #[p0,(Value.string (ByteArray.mk #[98,101,116,119,101,101,110]))] Pn<|gh fun v42=>Br v42 (AQ Tryz.prog ω 243 #[p0] Pn<|gh fun v43=>New (.cells Zb 37 (0,0))<|gh fun low_44=>Sto 11 low_44 v43<|gh fun _=>AX 9 1 Za 1 [(0,(Value.string (ByteArray.mk #[97,110,100])))]<|gh fun v45=>AQ Tryz.prog ω 95 #[p0,v45] Pn<|gh fun v46=>CP fun S=>Rs S (AC 11 p3) fun v47=>Rs S (AC 11 low_44) fun v48=>AQ Tryz.prog ω 243 #[p0] Pn<|gh<|Cm S fun v49=>AX 37 11 Zb 3 [(0,v47),(1,v48),(2,v49)]<|gh fun v50=>AQ Tryz.prog ω 202 #[(.int .i64 25),v50] Pn<|gh fun v51=>Sto 11 p3 v51<|gh fun _=>sh232_7 ω p2 p3 v25 K Pn) (AQ Tryz.prog ω 43 #[p0,(Value.string (ByteArray.mk #[108,105,107,101]))] Pn<|gh fun v52=>Br v52 (CP fun S=>Rs S (AC 11 p3) fun v53=>AQ Tryz.prog ω 243 #[p0] Pn<|gh<|Cm S fun v54=>AX 37 11 Zb 2 [(0,v53),(1,v54)]<|gh fun v55=>AQ Tryz.prog ω 202 #[(.int .i64 23),v55] Pn<|gh fun v56=>Sto 11 p3 v56<|gh fun _=>sh232_7 ω p2 p3 v25 K Pn) (Br v25 (AQ Tryz.prog ω 46 #[p0] Pn<|gh fun v57=>sh232_7 ω p2 p3 v25 K Pn) (sh232_7 ω p2 p3 v25 K Pn)))))
def sh232_1 (ω:Om)(p0 p2:Value)(p3 p11:Value)(p12 x13:Value)(Kn0:(Value×Unit)→M)(K:Value→M)(Pn:Value→M):M:=Pv (AA .lss x13 p12) fun v6=>Br v6 (Pv (ixV 1 p11 x13) fun v7=>Rn (Ap v7) fun v8=>AQ Tryz.prog ω 43 #[p0,v8] Pn<|gh fun v9=>Br v9 (CP fun S=>Pv (AA .add (.int .i64 15) x13) fun v10=>Rs S (AC 11 p3) fun v11=>AQ Tryz.prog ω 243 #[p0] Pn<|gh<|Cm S fun v12=>AX 37 11 Zb 2 [(0,v11),(1,v12)]<|gh fun v13=>AQ Tryz.prog ω 202 #[v10,v13] Pn<|gh fun v14=>Sto 11 p2 v14<|gh fun _=>Rn (AC 11 p2) fun v15=>K v15) (Pv (AA .add x13 (.int .i64 1)) fun v16=>Kn0 (v16,()))) (sh232_3 ω p0 p2 p3 K Pn)
def sh232 (ω:Om)(a0:Value)(K:Value→M)(Pn:Value→M):M:=New (.cells Zb 37 (0,0))<|gh fun v1=>AQ Tryz.prog ω 243 #[a0] Pn<|gh fun v2=>New (.cells Zb 37 (0,0))<|gh fun x_3=>Sto 11 x_3 v2<|gh fun _=>AX 9 1 Za 6 [(0,(Value.string (ByteArray.mk #[61]))),(1,(Value.string (ByteArray.mk #[60,62]))),(2,(Value.string (ByteArray.mk #[60]))),(3,(Value.string (ByteArray.mk #[60,61]))),(4,(Value.string (ByteArray.mk #[62]))),(5,(Value.string (ByteArray.mk #[62,61])))]<|gh fun v4=>Pv (lenV v4) fun v5=>Am ((I0,()):Value×Unit) fun s Kn0=>sh232_1 ω a0 v1 x_3 v4 v5 s.1 Kn0 K Pn
theorem APF {ω:Om}{a0:Value}{K Pn:Value→M}{I:Imm}{L:LH}(h:sh232 ω a0 (fun v=>Gh (K v)) (fun v=>Gh (Pn v)) I L):CalP Tryz.prog ω 232 #[a0] K Pn I L:=
 CalP.gh (cQp Tryz.func232 h (by kernel_rfl))
def sh233_2 (ω:Om)(p0 p2:Value)(p3 p4:Value)(K:Value→M):M:=CT ω 93 #[p0]<|gh fun v17=>Rn (AC 4 p4) fun v18=>Pv (Aq Zb Zk [(0,(.int .i64 1)),(1,v18)]) fun v19=>Sto 11 p2 v19<|gh fun _=>Rn (AC 11 p2) fun v20=>K (Value.tuple #[v20,Bt])
def sh233 (ω:Om)(a0:Value)(K:Value→M):M:=New (.cells Zb 37 (0,0))<|gh fun v1=>New (.cells Zq 34 (0,0))<|gh fun v_2=>Pv (BI a0) fun v3=>Lf 0 v3 fun v5=>Pv (ixV 4 v5 I0) fun v6=>Lf 0 v6 fun v8=>Pv (AA .eql v8 (.int .i64 4)) fun v9=>Br v9 (Pv (BI a0) fun v10=>Lf 0 v10 fun v12=>Pv (ixV 4 v12 I0) fun v13=>Lf 2 v13 fun v15=>Pv (Aq Zq Zn [(0,(.int .i64 3)),(3,v15)]) fun v16=>Sto 4 v_2 v16<|gh fun _=>sh233_2 ω a0 v1 Bf v_2 K) (CT ω 45 #[a0,(Value.string (ByteArray.mk #[116,114,117,101]))]<|gh fun v21=>Br v21 (Pv (Aq Zq Zn [(0,(.int .i64 2)),(2,(.int .i64 1))]) fun v22=>Sto 4 v_2 v22<|gh fun _=>sh233_2 ω a0 v1 Bf v_2 K) (CT ω 45 #[a0,(Value.string (ByteArray.mk #[102,97,108,115,101]))]<|gh fun v23=>Br v23 (Pv (Aq Zq Zn [(0,(.int .i64 2))]) fun v24=>Sto 4 v_2 v24<|gh fun _=>sh233_2 ω a0 v1 Bf v_2 K) (CT ω 45 #[a0,(Value.string (ByteArray.mk #[110,117,108,108]))]<|gh fun v25=>Br v25 (Pv (Aq Zq Zn [(0,(.int .i64 4)),(1,Bt)]) fun v26=>Sto 4 v_2 v26<|gh fun _=>sh233_2 ω a0 v1 Bf v_2 K) (Pv (Aq Zb Zk []) fun v27=>Sto 11 v1 v27<|gh fun _=>Rn (AC 11 v1) fun v28=>K (Value.tuple #[v28,Bf])))))
theorem APE (h:sh233 ω a0 (fun v=>Gh (K v)) I L):CT ω 233 #[a0] K I L:=Cal.gh (cQc Tryz.func233 h (by kernel_rfl))
def ALj (ω:Om)(a0:Value)(K:Value→M)(Pn:Value→M):M:=New (.cells Zb 37 (0,0))<|gh fun v1=>AQ Tryz.prog ω 152 #[a0,(.int .i64 3)] Pn<|gh fun v2=>Pv (Ij false 3 1 v2) fun v3=>Pv (Aq Zq Zn [(0,(.int .i64 1)),(2,v3)]) fun v4=>Pv (Aq Zb Zk [(0,(.int .i64 1)),(1,v4)]) fun v5=>Sto 11 v1 v5<|gh fun _=>Rn (AC 11 v1) fun v6=>K v6
theorem APD {ω:Om}{a0:Value}{K Pn:Value→M}{I:Imm}{L:LH}(h:ALj ω a0 (fun v=>Gh (K v)) (fun v=>Gh (Pn v)) I L):CalP Tryz.prog ω 234 #[a0] K Pn I L:=
 CalP.gh (cQp Tryz.func234 h (by kernel_rfl))
def AKF (ω:Om)(p1 x0:Value)(x4 x5:Value)(Kn0:(Value×Value×Value×Unit)→M)(K:Value→M):M:=CT ω 240 #[x0,p1]<|gh fun v9=>Pv (AA .eql v9 (.int .i64 (-1))) fun v10=>Br v10 (K x5) (Pv (AA .add x5 (.int .i64 1)) fun v11=>Pv (Ba p1) fun v12=>Pv (AA .add v9 v12) fun v13=>Pv (DK x0 (some v13) none) fun v14=>Kn0 (v14,x4,v11,()))
def ALi (ω:Om)(a0 a1:Value)(K:Value→M):M:=Pv (Ba a1) fun v1=>Pv (AA .eql v1 I0) fun v2=>Br v2 (CT ω 249 #[a0]<|gh fun v3=>Pv (AA .add v3 (.int .i64 1)) fun v4=>K v4) (Pv (Ba a1) fun v5=>Pv (AA .eql v5 (.int .i64 1)) fun v6=>Br v6 (Pv (DN a1 I0) fun v7=>ExtE Tryz.prog ω Extern.BytealgCount.count #[a0,v7]<|gh fun v8=>K v8) (Am ((a0,I0,I0,()):Value×Value×Value×Unit) fun s Kn0=>AKF ω a1 s.1 s.2.1 s.2.2.1 Kn0 K))
theorem APC (h:ALi ω a0 a1 (fun v=>Gh (K v)) I L):CT ω 239 #[a0,a1] K I L:=Cal.gh (cQc Tryz.func239 h (by kernel_rfl))
def ALh (ω:Om)(a0 a1:Value)(K:Value→M):M:=CT ω 251 #[a0,a1]<|gh fun v1=>K v1
theorem APB (h:ALh ω a0 a1 (fun v=>Gh (K v)) I L):CT ω 240 #[a0,a1] K I L:=Cal.gh (cQc Tryz.func240 h (by kernel_rfl))
def ALg (ω:Om)(a0:Value)(K:Value→M)(Pn:Value→M):M:=New (.cells Zb 37 (0,0))<|gh fun v1=>WJ<|gh fun v2=>ER .string v2 (Value.string (ByteArray.mk #[43])) (.int .i64 9)<|gh fun _=>ER .string v2 (Value.string (ByteArray.mk #[45])) (.int .i64 10)<|gh fun _=>ER .string v2 (Value.string (ByteArray.mk #[124,124])) (.int .i64 14)<|gh fun _=>AQ Tryz.prog ω 254 #[a0,(Value.func (Fn.func 255) #[a0] #[]),v2] Pn<|gh fun v3=>Sto 11 v1 v3<|gh fun _=>Rn (AC 11 v1) fun v4=>K v4
theorem APA {ω:Om}{a0:Value}{K Pn:Value→M}{I:Imm}{L:LH}(h:ALg ω a0 (fun v=>Gh (K v)) (fun v=>Gh (Pn v)) I L):CalP Tryz.prog ω 243 #[a0] K Pn I L:=
 CalP.gh (cQp Tryz.func243 h (by kernel_rfl))
def AKE (ω:Om)(p0 p1 p4:Value)(K:Value→M):M:=ExtE Tryz.prog ω Extern.BytealgIndex.index #[p0,p1]<|gh fun v13=>K v13
def ABE (ω:Om)(p0 p1:Value)(p4 p8:Value)(K:Value→M):M:=Pv (DK p0 (some p8) none) fun v40=>ExtE Tryz.prog ω Extern.BytealgIndex.index #[v40,p1]<|gh fun v41=>Pv (AA .geq v41 I0) fun v42=>Br v42 (Pv (AA .add v41 p8) fun v43=>K v43) (K (.int .i64 (-1)))
def AGB (ω:Om)(p0 p1:Value)(p4 p8:Value)(K:Value→M):M:=Pv (DK p0 (some p8) none) fun v50=>CT ω 260 #[v50,p1]<|gh fun v51=>Pv (AA .lss v51 I0) fun v52=>Br v52 (K (.int .i64 (-1))) (Pv (AA .add p8 v51) fun v53=>K v53)
def PW (ω:Om)(p0 p1:Value)(p4 p5:Value)(p8 p9 p10:Value)(Kn0:(Value×Value×Value×Unit)→M)(K:Value→M):M:=Rn (Ap (.pointer (some ⟨2,0,none⟩))) fun v44=>Pv (AA .gtr p5 v44) fun v45=>Gd v45 true (Pv (AA .shr p8 (.int .u64 4)) fun v46=>Pv (AA .add (.int .i64 4) v46) fun v47=>Pv (AA .geq p10 v47) fun v48=>Gd v48 true (Pv (AA .lss p8 p9) fun v49=>Br v49 (AGB ω p0 p1 p4 p8 K) (Kn0 (p4,p8,p10,()))) (Kn0 (p4,p8,p10,()))) (Kn0 (p4,p8,p10,()))
def VJ (ω:Om)(p0 p1:Value)(p4 p5:Value)(p7 p8:Value)(p9 p10:Value)(Kn0:(Value×Value×Value×Unit)→M)(K:Value→M):M:=Pv (AA .add p8 (.int .i64 1)) fun v28=>Pv (DN p0 v28) fun v29=>Pv (AA .eql v29 p7) fun v30=>Gd v30 true (Pv (AA .add p8 p5) fun v31=>Pv (DK p0 (some p8) (some v31)) fun v32=>Pv (Ag .eql v32 p1) fun v33=>Br v33 (K p8) (Pv (AA .add p8 (.int .i64 1)) fun v34=>Pv (AA .add p10 (.int .i64 1)) fun v35=>Rn (Ap (.pointer (some ⟨2,0,none⟩))) fun v36=>Pv (AA .leq p5 v36) fun v37=>Gd v37 true (CT ω 259 #[v34]<|gh fun v38=>Pv (AA .gtr v35 v38) fun v39=>Br v39 (ABE ω p0 p1 p4 v34 K) (PW ω p0 p1 p4 p5 v34 p9 v35 Kn0 K)) (PW ω p0 p1 p4 p5 v34 p9 v35 Kn0 K))) (Pv (AA .add p8 (.int .i64 1)) fun v54=>Pv (AA .add p10 (.int .i64 1)) fun v55=>Rn (Ap (.pointer (some ⟨2,0,none⟩))) fun v56=>Pv (AA .leq p5 v56) fun v57=>Gd v57 true (CT ω 259 #[v54]<|gh fun v58=>Pv (AA .gtr v55 v58) fun v59=>Br v59 (ABE ω p0 p1 p4 v54 K) (PW ω p0 p1 p4 p5 v54 p9 v55 Kn0 K)) (PW ω p0 p1 p4 p5 v54 p9 v55 Kn0 K))
def ABF (ω:Om)(p0 p1:Value)(p4 p5:Value)(p6 p7:Value)(p8 p9 p10:Value)(Kn0:(Value×Value×Value×Unit)→M)(K:Value→M):M:=Pv (AA .add p8 (.int .i64 1)) fun v22=>Pv (DK p0 (some v22) (some p9)) fun v23=>CT ω 188 #[v23,p6]<|gh fun v24=>Pv (AA .lss v24 I0) fun v25=>Br v25 (K (.int .i64 (-1))) (Pv (AA .add v24 (.int .i64 1)) fun v26=>Pv (AA .add p8 v26) fun v27=>VJ ω p0 p1 p4 p5 p7 v27 p9 p10 Kn0 K)
def AKD (ω:Om)(p0 p1:Value)(p5 p6:Value)(p7 p9:Value)(x4 x8 x10:Value)(Kn0:(Value×Value×Value×Unit)→M)(K:Value→M):M:=Pv (AA .lss x8 p9) fun v19=>Br v19 (Pv (DN p0 x8) fun v20=>Pv (AA .neq v20 p6) fun v21=>Br v21 (ABF ω p0 p1 x4 p5 p6 p7 x8 p9 x10 Kn0 K) (VJ ω p0 p1 x4 p5 p7 x8 p9 x10 Kn0 K)) (K (.int .i64 (-1)))
def AGA (ω:Om)(p0 p1:Value)(p5 p6:Value)(p7 p9:Value)(x4 x8 x10:Value)(Kn0:(Value×Value×Value×Unit)→M)(K:Value→M):M:=Pv (AA .lss x8 p9) fun v65=>Br v65 (Pv (DN p0 x8) fun v66=>Pv (AA .neq v66 p6) fun v67=>Br v67 (ABF ω p0 p1 x4 p5 p6 p7 x8 p9 x10 Kn0 K) (VJ ω p0 p1 x4 p5 p7 x8 p9 x10 Kn0 K)) (K (.int .i64 (-1)))
def ABG (ω:Om)(p0 p1:Value)(p4 p5:Value)(K:Value→M):M:=Pv (AA .eql p5 (.int .i64 1)) fun v4=>Br v4 (Pv (DN p1 I0) fun v5=>CT ω 188 #[p0,v5]<|gh fun v6=>K v6) (Pv (Ba p0) fun v7=>Pv (AA .geq p5 v7) fun v8=>Br v8 (K (.int .i64 (-1))) (Rn (Ap (.pointer (some ⟨2,0,none⟩))) fun v9=>Pv (AA .leq p5 v9) fun v10=>Gd v10 true (Pv (Ba p0) fun v11=>Pv (AA .leq v11 (.int .i64 64)) fun v12=>Br v12 (AKE ω p0 p1 p4 K) (Pv (DN p1 I0) fun v14=>Pv (DN p1 (.int .i64 1)) fun v15=>Pv (Ba p0) fun v16=>Pv (AA .sub v16 p5) fun v17=>Pv (AA .add v17 (.int .i64 1)) fun v18=>Am ((p4,I0,I0,()):Value×Value×Value×Unit) fun s Kn0=>AKD ω p0 p1 p5 v14 v15 v18 s.1 s.2.1 s.2.2.1 Kn0 K)) (Pv (DN p1 I0) fun v60=>Pv (DN p1 (.int .i64 1)) fun v61=>Pv (Ba p0) fun v62=>Pv (AA .sub v62 p5) fun v63=>Pv (AA .add v63 (.int .i64 1)) fun v64=>Am ((p4,I0,I0,()):Value×Value×Value×Unit) fun s Kn0=>AGA ω p0 p1 p5 v60 v61 v64 s.1 s.2.1 s.2.2.1 Kn0 K)))
def ALf (ω:Om)(a0 a1:Value)(K:Value→M):M:=Pv (Ba a1) fun v1=>Pv (AA .eql v1 I0) fun v2=>Gd v2 false (Pv (Ag .eql a1 a0) fun v3=>Br v3 (K I0) (ABG ω a0 a1 I0 v1 K)) (K I0)
theorem AOz (h:ALf ω a0 a1 (fun v=>Gh (K v)) I L):CT ω 251 #[a0,a1] K I L:=Cal.gh (cQc Tryz.func251 h (by kernel_rfl))
def sh254_3 (ω:Om)(p6 p7:Value)(K:Value→M)(Pn:Value→M):M:=Rn (AC 11 p7) fun v21=>Sto 11 p6 v21<|gh fun _=>Rn (AC 11 p6) fun v22=>K v22
def sh254_1 (ω:Om)(p0 p1:Value)(p2 p6 p7:Value)(Kn0:(Unit)→M)(K:Value→M)(Pn:Value→M):M:=Pv (BI p0) fun v4=>Lf 0 v4 fun v6=>Pv (ixV 4 v6 I0) fun v7=>Lf 0 v7 fun v9=>Pv (AA .eql v9 (.int .i64 5)) fun v10=>Br v10 (Pv (BI p0) fun v11=>Lf 0 v11 fun v13=>Pv (ixV 4 v13 I0) fun v14=>Lf 2 v14 fun v16=>Rn (lkR .string I0 true p2 v16) fun v17=>Pv (exV v17 0) fun v18=>Pv (exV v17 1) fun v19=>Pv (unV .not v19) fun v20=>Br v20 (sh254_3 ω p6 p7 K Pn) (AQ Tryz.prog ω 93 #[p0] Pn<|gh fun v23=>CP fun S=>Rs S (AC 11 p7) fun v24=>Il Tryz.prog ω p1 #[] Pn<|gh<|Cm S fun v25=>AX 37 11 Zb 2 [(0,v24),(1,v25)]<|gh fun v26=>AQ Tryz.prog ω 202 #[v18,v26] Pn<|gh fun v27=>Sto 11 p7 v27<|gh fun _=>Kn0 (()))) (sh254_3 ω p6 p7 K Pn)
def sh254 (ω:Om)(a0 a1 a2:Value)(K:Value→M)(Pn:Value→M):M:=New (.cells Zb 37 (0,0))<|gh fun v1=>Il Tryz.prog ω a1 #[] Pn<|gh fun v2=>New (.cells Zb 37 (0,0))<|gh fun x_3=>Sto 11 x_3 v2<|gh fun _=>Am ((()):Unit) fun s Kn0=>sh254_1 ω a0 a1 a2 v1 x_3 Kn0 K Pn
theorem AOy {ω:Om}{a0 a1 a2:Value}{K Pn:Value→M}{I:Imm}{L:LH}(h:sh254 ω a0 a1 a2 (fun v=>Gh (K v)) (fun v=>Gh (Pn v)) I L):CalP Tryz.prog ω 254 #[a0,a1,a2] K Pn I L:=
 CalP.gh (cQp Tryz.func254 h (by kernel_rfl))
def ALe (ω:Om)(a0:Value)(K:Value→M)(Pn:Value→M):M:=New (.cells Zb 37 (0,0))<|gh fun v1=>WJ<|gh fun v2=>ER .string v2 (Value.string (ByteArray.mk #[42])) (.int .i64 11)<|gh fun _=>ER .string v2 (Value.string (ByteArray.mk #[47])) (.int .i64 12)<|gh fun _=>ER .string v2 (Value.string (ByteArray.mk #[37])) (.int .i64 13)<|gh fun _=>AQ Tryz.prog ω 254 #[a0,(Value.func (Fn.func 262) #[a0] #[]),v2] Pn<|gh fun v3=>Sto 11 v1 v3<|gh fun _=>Rn (AC 11 v1) fun v4=>K v4
theorem AOx {ω:Om}{a0:Value}{K Pn:Value→M}{I:Imm}{L:LH}(h:ALe ω a0 (fun v=>Gh (K v)) (fun v=>Gh (Pn v)) I L):CalP Tryz.prog ω 255 #[a0] K Pn I L:=
 CalP.gh (cQp Tryz.func255 h (by kernel_rfl))
def sh262_1 (ω:Om)(p0 p2 p6:Value)(K:Value→M)(Pn:Value→M):M:=AQ Tryz.prog ω 43 #[p0,(Value.string (ByteArray.mk #[46]))] Pn<|gh fun v40=>Br v40 (AQ Tryz.prog ω 96 #[p0] Pn<|gh fun v41=>Pv (Aq Zb Zk [(0,(.int .i64 2)),(2,p6),(3,v41)]) fun v42=>Sto 11 p2 v42<|gh fun _=>Rn (AC 11 p2) fun v43=>K v43) (Pv (Aq Zb Zk [(0,(.int .i64 2)),(3,p6)]) fun v44=>Sto 11 p2 v44<|gh fun _=>Rn (AC 11 p2) fun v45=>K v45)
def sh262 (ω:Om)(a0:Value)(K:Value→M)(Pn:Value→M):M:=New (.cells Zb 37 (0,0))<|gh fun v1=>AQ Tryz.prog ω 43 #[a0,(Value.string (ByteArray.mk #[45]))] Pn<|gh fun v2=>Br v2 (AQ Tryz.prog ω 262 #[a0] Pn<|gh fun v3=>AX 37 11 Zb 1 [(0,v3)]<|gh fun v4=>AQ Tryz.prog ω 202 #[(.int .i64 4),v4] Pn<|gh fun v5=>Sto 11 v1 v5<|gh fun _=>Rn (AC 11 v1) fun v6=>K v6) (AQ Tryz.prog ω 43 #[a0,(Value.string (ByteArray.mk #[40]))] Pn<|gh fun v7=>Br v7 (AQ Tryz.prog ω 148 #[a0] Pn<|gh fun v8=>New (.cells Zb 37 (0,0))<|gh fun x_9=>Sto 11 x_9 v8<|gh fun _=>AX 9 1 Za 1 [(0,(Value.string (ByteArray.mk #[41])))]<|gh fun v10=>AQ Tryz.prog ω 95 #[a0,v10] Pn<|gh fun v11=>Rn (AC 11 x_9) fun v12=>Sto 11 v1 v12<|gh fun _=>Rn (AC 11 v1) fun v13=>K v13) (AQ Tryz.prog ω 43 #[a0,(Value.string (ByteArray.mk #[99,97,115,101]))] Pn<|gh fun v14=>Br v14 (AQ Tryz.prog ω 266 #[a0] Pn<|gh fun v15=>Sto 11 v1 v15<|gh fun _=>Rn (AC 11 v1) fun v16=>K v16) (Pv (BI a0) fun v17=>Lf 0 v17 fun v19=>Pv (ixV 4 v19 I0) fun v20=>Lf 0 v20 fun v22=>Pv (AA .eql v22 (.int .i64 3)) fun v23=>Br v23 (AQ Tryz.prog ω 234 #[a0] Pn<|gh fun v24=>Sto 11 v1 v24<|gh fun _=>Rn (AC 11 v1) fun v25=>K v25) (AQ Tryz.prog ω 233 #[a0] Pn<|gh fun v26=>Pv (exV v26 0) fun v27=>Pv (exV v26 1) fun v28=>New (.cells Zb 37 (0,0))<|gh fun x_29=>Sto 11 x_29 v27<|gh fun _=>Br v28 (Rn (AC 11 x_29) fun v30=>Sto 11 v1 v30<|gh fun _=>Rn (AC 11 v1) fun v31=>K v31) (AQ Tryz.prog ω 96 #[a0] Pn<|gh fun v32=>AQ Tryz.prog ω 45 #[a0,(Value.string (ByteArray.mk #[40]))] Pn<|gh fun v33=>Br v33 (AQ Tryz.prog ω 267 #[a0,v32] Pn<|gh fun v34=>Pv (exV v34 0) fun v35=>Pv (exV v34 1) fun v36=>New (.cells Zb 37 (0,0))<|gh fun x_37=>Sto 11 x_37 v35<|gh fun _=>Br v36 (Rn (AC 11 x_37) fun v38=>Sto 11 v1 v38<|gh fun _=>Rn (AC 11 v1) fun v39=>K v39) (sh262_1 ω a0 v1 v32 K Pn)) (sh262_1 ω a0 v1 v32 K Pn))))))
theorem AOw {ω:Om}{a0:Value}{K Pn:Value→M}{I:Imm}{L:LH}(h:sh262 ω a0 (fun v=>Gh (K v)) (fun v=>Gh (Pn v)) I L):CalP Tryz.prog ω 262 #[a0] K Pn I L:=
 CalP.gh (cQp Tryz.func262 h (by kernel_rfl))
def PV (ω:Om)(p0 p2 p3:Value)(K:Value→M)(Pn:Value→M):M:=AX 9 1 Za 1 [(0,(Value.string (ByteArray.mk #[101,110,100])))]<|gh fun v28=>AQ Tryz.prog ω 95 #[p0,v28] Pn<|gh fun v29=>Rn (AC 11 p3) fun v30=>Sto 11 p2 v30<|gh fun _=>Rn (AC 11 p2) fun v31=>K v31
def ABC (ω:Om)(p0 p2 p3:Value)(K:Value→M)(Pn:Value→M):M:=AQ Tryz.prog ω 43 #[p0,(Value.string (ByteArray.mk #[101,108,115,101]))] Pn<|gh fun v21=>Br v21 (CP fun S=>Lg S 10 p3 fun v23=>AQ Tryz.prog ω 148 #[p0] Pn<|gh<|Cm S fun v24=>AX 37 11 Zb 1 [(0,v24)]<|gh<|Cm S fun v25=>App 37 11 128 Zb v23 v25<|gh fun v26=>Pv (AL 10 p3) fun v27=>Sto 1 v27 v26<|gh fun _=>PV ω p0 p2 p3 K Pn) (PV ω p0 p2 p3 K Pn)
def ABD (ω:Om)(p0 p2 p3:Value)(Kn0:(Unit)→M)(K:Value→M)(Pn:Value→M):M:=Lf 10 p3 fun v5=>Pv (Jw .eql v5 S0) fun v6=>Gd v6 false (AQ Tryz.prog ω 45 #[p0,(Value.string (ByteArray.mk #[119,104,101,110]))] Pn<|gh fun v7=>Br v7 (AX 9 1 Za 1 [(0,(Value.string (ByteArray.mk #[119,104,101,110])))]<|gh fun v8=>AQ Tryz.prog ω 95 #[p0,v8] Pn<|gh fun v9=>AQ Tryz.prog ω 148 #[p0] Pn<|gh fun v10=>New (.cells Zb 37 (0,0))<|gh fun when_11=>Sto 11 when_11 v10<|gh fun _=>AX 9 1 Za 1 [(0,(Value.string (ByteArray.mk #[116,104,101,110])))]<|gh fun v12=>AQ Tryz.prog ω 95 #[p0,v12] Pn<|gh fun v13=>CP fun S=>Lg S 10 p3 fun v15=>Rs S (AC 11 when_11) fun v16=>AQ Tryz.prog ω 148 #[p0] Pn<|gh<|Cm S fun v17=>AX 37 11 Zb 2 [(0,v16),(1,v17)]<|gh<|Cm S fun v18=>App 37 11 128 Zb v15 v18<|gh fun v19=>Pv (AL 10 p3) fun v20=>Sto 1 v20 v19<|gh fun _=>Kn0 (())) (ABC ω p0 p2 p3 K Pn)) (AX 9 1 Za 1 [(0,(Value.string (ByteArray.mk #[119,104,101,110])))]<|gh fun v32=>AQ Tryz.prog ω 95 #[p0,v32] Pn<|gh fun v33=>AQ Tryz.prog ω 148 #[p0] Pn<|gh fun v34=>New (.cells Zb 37 (0,0))<|gh fun when_35=>Sto 11 when_35 v34<|gh fun _=>AX 9 1 Za 1 [(0,(Value.string (ByteArray.mk #[116,104,101,110])))]<|gh fun v36=>AQ Tryz.prog ω 95 #[p0,v36] Pn<|gh fun v37=>CP fun S=>Lg S 10 p3 fun v39=>Rs S (AC 11 when_35) fun v40=>AQ Tryz.prog ω 148 #[p0] Pn<|gh<|Cm S fun v41=>AX 37 11 Zb 2 [(0,v40),(1,v41)]<|gh<|Cm S fun v42=>App 37 11 128 Zb v39 v42<|gh fun v43=>Pv (AL 10 p3) fun v44=>Sto 1 v44 v43<|gh fun _=>Kn0 (()))
def ALd (ω:Om)(a0:Value)(K:Value→M)(Pn:Value→M):M:=New (.cells Zb 37 (0,0))<|gh fun v1=>Pv (Aq Zb Zk [(0,(.int .i64 26))]) fun v2=>New (.cells Zb 37 (0,0))<|gh fun x_3=>Sto 11 x_3 v2<|gh fun _=>Am ((()):Unit) fun s Kn0=>ABD ω a0 v1 x_3 Kn0 K Pn
theorem AOv {ω:Om}{a0:Value}{K Pn:Value→M}{I:Imm}{L:LH}(h:ALd ω a0 (fun v=>Gh (K v)) (fun v=>Gh (Pn v)) I L):CalP Tryz.prog ω 266 #[a0] K Pn I L:=
 CalP.gh (cQp Tryz.func266 h (by kernel_rfl))
def sh267_3 (ω:Om)(p0 p4:Value)(p5 p7:Value)(K:Value→M)(Pn:Value→M):M:=AX 9 1 Za 1 [(0,(Value.string (ByteArray.mk #[41])))]<|gh fun v27=>AQ Tryz.prog ω 95 #[p0,v27] Pn<|gh fun v28=>Rn (AC 11 p7) fun v29=>Sto 11 p4 v29<|gh fun _=>Rn (AC 11 p4) fun v30=>K (Value.tuple #[v30,Bt])
def sh267_2 (ω:Om)(p0 p4:Value)(p5 p7:Value)(K:Value→M)(Pn:Value→M):M:=Pv (Aq Zb Zk [(0,(.int .i64 3))]) fun v24=>AX 37 11 Zb 1 [(0,v24)]<|gh fun v25=>Pv (AL 10 p7) fun v26=>Sto 1 v26 v25<|gh fun _=>sh267_3 ω p0 p4 p5 p7 K Pn
def sh267_4 (ω:Om)(p0 p4:Value)(p5 p7:Value)(K:Value→M)(Pn:Value→M):M:=AQ Tryz.prog ω 43 #[p0,(Value.string (ByteArray.mk #[100,105,115,116,105,110,99,116]))] Pn<|gh fun v31=>Pv (AL 9 p7) fun v32=>Sto 1 v32 v31<|gh fun _=>AQ Tryz.prog ω 148 #[p0] Pn<|gh fun v33=>AX 37 11 Zb 1 [(0,v33)]<|gh fun v34=>Pv (AL 10 p7) fun v35=>Sto 1 v35 v34<|gh fun _=>sh267_3 ω p0 p4 p5 p7 K Pn
def sh267_1 (ω:Om)(p0 p1:Value)(p4 p5 p27:Value)(K:Value→M)(Pn:Value→M):M:=Br p27 (AX 9 1 Za 1 [(0,(Value.string (ByteArray.mk #[40])))]<|gh fun v18=>AQ Tryz.prog ω 95 #[p0,v18] Pn<|gh fun v19=>Pv (Aq Zb Zk [(0,(.int .i64 28)),(3,p1)]) fun v20=>New (.cells Zb 37 (0,0))<|gh fun x_21=>Sto 11 x_21 v20<|gh fun _=>Pv (Ag .eql p1 (Value.string (ByteArray.mk #[99,111,117,110,116]))) fun v22=>Gd v22 true (AQ Tryz.prog ω 43 #[p0,(Value.string (ByteArray.mk #[42]))] Pn<|gh fun v23=>Br v23 (sh267_2 ω p0 p4 p5 x_21 K Pn) (sh267_4 ω p0 p4 p5 x_21 K Pn)) (sh267_4 ω p0 p4 p5 x_21 K Pn)) (Pv (Aq Zb Zk []) fun v36=>Sto 11 p4 v36<|gh fun _=>Rn (AC 11 p4) fun v37=>K (Value.tuple #[v37,Bf]))
def sh267 (ω:Om)(a0 a1:Value)(K:Value→M)(Pn:Value→M):M:=New (.cells Zb 37 (0,0))<|gh fun v1=>Pv (Ag .eql a1 (Value.string (ByteArray.mk #[99,111,97,108,101,115,99,101]))) fun v2=>Br v2 (AQ Tryz.prog ω 99 #[a0] Pn<|gh fun v3=>AQ Tryz.prog ω 202 #[(.int .i64 27),v3] Pn<|gh fun v4=>Sto 11 v1 v4<|gh fun _=>Rn (AC 11 v1) fun v5=>K (Value.tuple #[v5,Bt])) (Pv (Ag .eql a1 (Value.string (ByteArray.mk #[108,101,110,103,116,104]))) fun v6=>Br v6 (AX 9 1 Za 1 [(0,(Value.string (ByteArray.mk #[40])))]<|gh fun v7=>AQ Tryz.prog ω 95 #[a0,v7] Pn<|gh fun v8=>AQ Tryz.prog ω 148 #[a0] Pn<|gh fun v9=>AX 37 11 Zb 1 [(0,v9)]<|gh fun v10=>AQ Tryz.prog ω 202 #[(.int .i64 8),v10] Pn<|gh fun v11=>New (.cells Zb 37 (0,0))<|gh fun x_12=>Sto 11 x_12 v11<|gh fun _=>AX 9 1 Za 1 [(0,(Value.string (ByteArray.mk #[41])))]<|gh fun v13=>AQ Tryz.prog ω 95 #[a0,v13] Pn<|gh fun v14=>Rn (AC 11 x_12) fun v15=>Sto 11 v1 v15<|gh fun _=>Rn (AC 11 v1) fun v16=>K (Value.tuple #[v16,Bt])) (Pv (Ag .eql a1 (Value.string (ByteArray.mk #[99,111,117,110,116]))) fun v17=>Br v17 (sh267_1 ω a0 a1 v1 Bf v17 K Pn) (Pv (Ag .eql a1 (Value.string (ByteArray.mk #[115,117,109]))) fun v38=>Br v38 (sh267_1 ω a0 a1 v1 Bf v38 K Pn) (Pv (Ag .eql a1 (Value.string (ByteArray.mk #[109,105,110]))) fun v39=>Br v39 (sh267_1 ω a0 a1 v1 Bf v39 K Pn) (Pv (Ag .eql a1 (Value.string (ByteArray.mk #[109,97,120]))) fun v40=>Br v40 (sh267_1 ω a0 a1 v1 Bf v40 K Pn) (Pv (Ag .eql a1 (Value.string (ByteArray.mk #[97,118,103]))) fun v41=>sh267_1 ω a0 a1 v1 Bf v41 K Pn))))))
theorem AOu {ω:Om}{a0 a1:Value}{K Pn:Value→M}{I:Imm}{L:LH}(h:sh267 ω a0 a1 (fun v=>Gh (K v)) (fun v=>Gh (Pn v)) I L):CalP Tryz.prog ω 267 #[a0,a1] K Pn I L:=
 CalP.gh (cQp Tryz.func267 h (by kernel_rfl))
theorem ANX (x0:Int)(x1:Int):Aq Zf #[(0,1),(1,1)] [(0,.int .i64 x0),(1,.int .i64 x1)]=some (.agg #[.int .i64 x0,.int .i64 x1]):=by kernel_rfl
theorem ANW (x0:Int):Aq Zf #[(0,1),(1,1)] [(0,.int .i64 x0)]=some (.agg #[.int .i64 x0,(.int .i64 0)]):=by kernel_rfl
theorem ANV:Aq Zf #[(0,1),(1,1)] []=some (.agg Zf):=by kernel_rfl
theorem ANU (x0:Int)(x1:Int):Aq #[(.int .i64 0),(Value.string (ByteArray.mk #[])),(.int .i64 0),(.int .i64 0)] Zn [(0,.int .i64 x0),(3,.int .i64 x1)]=some (.agg #[.int .i64 x0,(Value.string (ByteArray.mk #[])),(.int .i64 0),.int .i64 x1]):=by kernel_rfl
theorem ANT (x0:Option Addr)(x1:Nat)(x2:Nat):Aq #[(.slice none 0 0),(.int .i64 0),(.bool false)] #[(0,1),(1,1),(2,1)] [(0,.slice x0 x1 x2)]=some (.agg #[.slice x0 x1 x2,(.int .i64 0),(.bool false)]):=by kernel_rfl
theorem ANR (x0:Option Addr)(x1:Nat)(x2:Nat):Aq #[(.slice none 0 0)] #[(0,1)] [(0,.slice x0 x1 x2)]=some (.agg #[.slice x0 x1 x2]):=by kernel_rfl
theorem ANQ (x0:Option Addr)(x1:Nat)(x2:Nat):Aq #[(.pointer none),(.slice none 0 0),(.slice none 0 0)] #[(0,2),(2,1)] [(1,.slice x0 x1 x2)]=some (.agg #[(.pointer none),(.slice none 0 0),.slice x0 x1 x2]):=by kernel_rfl
theorem ANP (x0:Int):Aq #[(.int .i64 0),(Value.string (ByteArray.mk #[])),(.int .i64 0),(.int .i64 0)] Zn [(3,.int .i64 x0)]=some (.agg #[(.int .i64 0),(Value.string (ByteArray.mk #[])),(.int .i64 0),.int .i64 x0]):=by kernel_rfl
theorem ANO (x0:Int)(x1:Bool)(x2:Option Addr)(x3:Nat)(x4:Nat)(x5:Option Addr)(x6:Nat)(x7:Nat)(x8:Int)(x9:Int)(x10:Bool)(x11:Int)(x12:ByteArray)(x13:ByteArray)(x14:ByteArray)(x15:Int)(x16:Int)(x17:Bool)(x18:Option Addr)(x19:Nat)(x20:Nat)(x21:Option Addr)(x22:Nat)(x23:Nat)(x24:Int)(x25:Int)(x26:Bool)(x27:Int)(x28:ByteArray)(x29:ByteArray)(x30:ByteArray)(x31:Int)(x32:Int)(x33:Bool)(x34:Option Addr)(x35:Nat)(x36:Nat)(x37:Option Addr)(x38:Nat)(x39:Nat)(x40:Int)(x41:Int):Aq Zd Zj [(0,.int .i64 x0),(1,.agg #[.bool x1,.slice x2 x3 x4,.slice x5 x6 x7,.int .i64 x8,.int .i64 x9,.bool x10,.int .i64 x11,.string x12,.string x13,.string x14,.int .i64 x15,.int .i64 x16,.bool x17,.slice x18 x19 x20,.slice x21 x22 x23,.int .i64 x24,.int .i64 x25,.bool x26,.int .i64 x27,.string x28,.string x29,.string x30,.int .i64 x31,.int .i64 x32,.bool x33,.slice x34 x35 x36,.slice x37 x38 x39,.int .i64 x40,.int .i64 x41])]=some (.agg #[.int .i64 x0,.bool x1,.slice x2 x3 x4,.slice x5 x6 x7,.int .i64 x8,.int .i64 x9,.bool x10,.int .i64 x11,.string x12,.string x13,.string x14,.int .i64 x15,.int .i64 x16,.bool x17,.slice x18 x19 x20,.slice x21 x22 x23,.int .i64 x24,.int .i64 x25,.bool x26,.int .i64 x27,.string x28,.string x29,.string x30,.int .i64 x31,.int .i64 x32,.bool x33,.slice x34 x35 x36,.slice x37 x38 x39,.int .i64 x40,.int .i64 x41,(Value.string (ByteArray.mk #[])),(.slice none 0 0),(.slice none 0 0),(.slice none 0 0),(.int .i64 0),(.int .i64 0),(.bool false),(.int .i64 0),(Value.string (ByteArray.mk #[])),(Value.string (ByteArray.mk #[])),(Value.string (ByteArray.mk #[])),(.int .i64 0),(.int .i64 0),(.bool false),(.slice none 0 0),(.slice none 0 0),(.slice none 0 0),(Value.string (ByteArray.mk #[])),(Value.string (ByteArray.mk #[])),(.slice none 0 0),(.bool false)]):=by kernel_rfl
theorem AJN (x0:Int):Aq Zd Zj [(0,.int .i64 x0)]=some (.agg #[.int .i64 x0,(.bool false),(.slice none 0 0),(.slice none 0 0),(.int .i64 0),(.int .i64 0),(.bool false),(.int .i64 0),(Value.string (ByteArray.mk #[])),(Value.string (ByteArray.mk #[])),(Value.string (ByteArray.mk #[])),(.int .i64 0),(.int .i64 0),(.bool false),(.slice none 0 0),(.slice none 0 0),(.int .i64 0),(.int .i64 0),(.bool false),(.int .i64 0),(Value.string (ByteArray.mk #[])),(Value.string (ByteArray.mk #[])),(Value.string (ByteArray.mk #[])),(.int .i64 0),(.int .i64 0),(.bool false),(.slice none 0 0),(.slice none 0 0),(.int .i64 0),(.int .i64 0),(Value.string (ByteArray.mk #[])),(.slice none 0 0),(.slice none 0 0),(.slice none 0 0),(.int .i64 0),(.int .i64 0),(.bool false),(.int .i64 0),(Value.string (ByteArray.mk #[])),(Value.string (ByteArray.mk #[])),(Value.string (ByteArray.mk #[])),(.int .i64 0),(.int .i64 0),(.bool false),(.slice none 0 0),(.slice none 0 0),(.slice none 0 0),(Value.string (ByteArray.mk #[])),(Value.string (ByteArray.mk #[])),(.slice none 0 0),(.bool false)]):=by kernel_rfl
theorem AJM:Aq Zd Zj []=some (.agg Zd):=by kernel_rfl
theorem AJL (x0:ByteArray)(x1:Option Addr)(x2:Nat)(x3:Nat):Aq #[(Value.string (ByteArray.mk #[])),(.int .i64 0),(.slice none 0 0)] #[(0,1),(1,1),(2,1)] [(0,.string x0),(2,.slice x1 x2 x3)]=some (.agg #[.string x0,(.int .i64 0),.slice x1 x2 x3]):=by kernel_rfl
theorem AJK (x0:Int)(x1:Int):Aq Zh Zn [(0,.int .i64 x0),(1,.int .i64 x1)]=some (.agg #[.int .i64 x0,.int .i64 x1,(Value.string (ByteArray.mk #[])),(.int .i64 0)]):=by kernel_rfl
theorem AJJ (x0:Int)(x1:ByteArray):Aq Zd Zj [(0,.int .i64 x0),(2,.string x1)]=some (.agg #[.int .i64 x0,(.bool false),(.slice none 0 0),(.slice none 0 0),(.int .i64 0),(.int .i64 0),(.bool false),(.int .i64 0),(Value.string (ByteArray.mk #[])),(Value.string (ByteArray.mk #[])),(Value.string (ByteArray.mk #[])),(.int .i64 0),(.int .i64 0),(.bool false),(.slice none 0 0),(.slice none 0 0),(.int .i64 0),(.int .i64 0),(.bool false),(.int .i64 0),(Value.string (ByteArray.mk #[])),(Value.string (ByteArray.mk #[])),(Value.string (ByteArray.mk #[])),(.int .i64 0),(.int .i64 0),(.bool false),(.slice none 0 0),(.slice none 0 0),(.int .i64 0),(.int .i64 0),.string x1,(.slice none 0 0),(.slice none 0 0),(.slice none 0 0),(.int .i64 0),(.int .i64 0),(.bool false),(.int .i64 0),(Value.string (ByteArray.mk #[])),(Value.string (ByteArray.mk #[])),(Value.string (ByteArray.mk #[])),(.int .i64 0),(.int .i64 0),(.bool false),(.slice none 0 0),(.slice none 0 0),(.slice none 0 0),(Value.string (ByteArray.mk #[])),(Value.string (ByteArray.mk #[])),(.slice none 0 0),(.bool false)]):=by kernel_rfl
theorem AJI (x0:ByteArray):Aq Zs Zn [(0,.string x0)]=some (.agg #[.string x0,(Value.string (ByteArray.mk #[])),(.slice none 0 0),(.bool false)]):=by kernel_rfl
theorem AJH (x0:Int)(x1:ByteArray)(x2:ByteArray)(x3:Option Addr)(x4:Nat)(x5:Nat)(x6:Bool):Aq Zd Zj [(0,.int .i64 x0),(9,.agg #[.string x1,.string x2,.slice x3 x4 x5,.bool x6])]=some (.agg #[.int .i64 x0,(.bool false),(.slice none 0 0),(.slice none 0 0),(.int .i64 0),(.int .i64 0),(.bool false),(.int .i64 0),(Value.string (ByteArray.mk #[])),(Value.string (ByteArray.mk #[])),(Value.string (ByteArray.mk #[])),(.int .i64 0),(.int .i64 0),(.bool false),(.slice none 0 0),(.slice none 0 0),(.int .i64 0),(.int .i64 0),(.bool false),(.int .i64 0),(Value.string (ByteArray.mk #[])),(Value.string (ByteArray.mk #[])),(Value.string (ByteArray.mk #[])),(.int .i64 0),(.int .i64 0),(.bool false),(.slice none 0 0),(.slice none 0 0),(.int .i64 0),(.int .i64 0),(Value.string (ByteArray.mk #[])),(.slice none 0 0),(.slice none 0 0),(.slice none 0 0),(.int .i64 0),(.int .i64 0),(.bool false),(.int .i64 0),(Value.string (ByteArray.mk #[])),(Value.string (ByteArray.mk #[])),(Value.string (ByteArray.mk #[])),(.int .i64 0),(.int .i64 0),(.bool false),(.slice none 0 0),(.slice none 0 0),(.slice none 0 0),.string x1,.string x2,.slice x3 x4 x5,.bool x6]):=by kernel_rfl
theorem AJG (x0:Int):Aq #[(.int .i64 0)] #[(0,1)] [(0,.int .i64 x0)]=some (.agg #[.int .i64 x0]):=by kernel_rfl
theorem AJF (x0:Int):Aq Zp #[(0,1),(1,1),(2,1),(3,11),(14,1),(15,11),(26,1),(27,1),(28,1)] [(7,.int .i64 x0)]=some (.agg #[(.bool false),(.slice none 0 0),(.slice none 0 0),(.int .i64 0),(.int .i64 0),(.bool false),(.int .i64 0),(Value.string (ByteArray.mk #[])),(Value.string (ByteArray.mk #[])),(Value.string (ByteArray.mk #[])),(.int .i64 0),(.int .i64 0),(.bool false),(.slice none 0 0),(.slice none 0 0),(.int .i64 0),(.int .i64 0),(.bool false),(.int .i64 0),(Value.string (ByteArray.mk #[])),(Value.string (ByteArray.mk #[])),(Value.string (ByteArray.mk #[])),(.int .i64 0),(.int .i64 0),(.bool false),(.slice none 0 0),(.slice none 0 0),.int .i64 x0,(.int .i64 0)]):=by kernel_rfl
theorem AJE (x0:ByteArray)(x1:Int)(x2:Int)(x3:Bool)(x4:Int)(x5:ByteArray)(x6:ByteArray)(x7:ByteArray)(x8:Int)(x9:Int)(x10:Bool)(x11:Option Addr)(x12:Nat)(x13:Nat):Aq Zm #[(0,1),(1,11)] [(0,.string x0),(1,.agg #[.int .i64 x1,.int .i64 x2,.bool x3,.int .i64 x4,.string x5,.string x6,.string x7,.int .i64 x8,.int .i64 x9,.bool x10,.slice x11 x12 x13])]=some (.agg #[.string x0,.int .i64 x1,.int .i64 x2,.bool x3,.int .i64 x4,.string x5,.string x6,.string x7,.int .i64 x8,.int .i64 x9,.bool x10,.slice x11 x12 x13]):=by kernel_rfl
theorem AJD:Aq Zb Zk []=some (.agg Zb):=by kernel_rfl
theorem AJC:Aq Zs Zn []=some (.agg Zs):=by kernel_rfl
theorem AJB (x0:Int):Aq Zh Zn [(1,.int .i64 x0)]=some (.agg #[(.int .i64 0),.int .i64 x0,(Value.string (ByteArray.mk #[])),(.int .i64 0)]):=by kernel_rfl
theorem AJA (x0:Int)(x1:Bool):Aq Zp #[(0,1),(1,1),(2,1),(3,11),(14,1),(15,11),(26,1),(27,1),(28,1)] [(7,.int .i64 x0),(0,.bool x1)]=some (.agg #[.bool x1,(.slice none 0 0),(.slice none 0 0),(.int .i64 0),(.int .i64 0),(.bool false),(.int .i64 0),(Value.string (ByteArray.mk #[])),(Value.string (ByteArray.mk #[])),(Value.string (ByteArray.mk #[])),(.int .i64 0),(.int .i64 0),(.bool false),(.slice none 0 0),(.slice none 0 0),(.int .i64 0),(.int .i64 0),(.bool false),(.int .i64 0),(Value.string (ByteArray.mk #[])),(Value.string (ByteArray.mk #[])),(Value.string (ByteArray.mk #[])),(.int .i64 0),(.int .i64 0),(.bool false),(.slice none 0 0),(.slice none 0 0),.int .i64 x0,(.int .i64 0)]):=by kernel_rfl
theorem AIz (x0:ByteArray):Aq Zm #[(0,1),(1,11)] [(0,.string x0)]=some (.agg #[.string x0,(.int .i64 0),(.int .i64 0),(.bool false),(.int .i64 0),(Value.string (ByteArray.mk #[])),(Value.string (ByteArray.mk #[])),(Value.string (ByteArray.mk #[])),(.int .i64 0),(.int .i64 0),(.bool false),(.slice none 0 0)]):=by kernel_rfl
theorem AIy (x0:Bool):Aq Zs Zn [(3,.bool x0)]=some (.agg #[(Value.string (ByteArray.mk #[])),(Value.string (ByteArray.mk #[])),(.slice none 0 0),.bool x0]):=by kernel_rfl
theorem AIx (x0:Bool):Aq Ze Zo [(0,.bool x0)]=some (.agg #[.bool x0,(Value.string (ByteArray.mk #[])),(.int .i64 0),(.int .i64 0),(.bool false),(.int .i64 0),(Value.string (ByteArray.mk #[])),(Value.string (ByteArray.mk #[])),(Value.string (ByteArray.mk #[])),(.int .i64 0),(.int .i64 0),(.bool false),(.slice none 0 0),(Value.string (ByteArray.mk #[]))]):=by kernel_rfl
theorem AIw (x0:Bool)(x1:ByteArray):Aq Ze Zo [(0,.bool x0),(1,.string x1)]=some (.agg #[.bool x0,.string x1,(.int .i64 0),(.int .i64 0),(.bool false),(.int .i64 0),(Value.string (ByteArray.mk #[])),(Value.string (ByteArray.mk #[])),(Value.string (ByteArray.mk #[])),(.int .i64 0),(.int .i64 0),(.bool false),(.slice none 0 0),(Value.string (ByteArray.mk #[]))]):=by kernel_rfl
theorem AIv:Aq Ze Zo []=some (.agg Ze):=by kernel_rfl
theorem AIu (x0:Int)(x1:Int)(x2:Bool)(x3:Int)(x4:ByteArray)(x5:ByteArray)(x6:ByteArray)(x7:Int)(x8:Int)(x9:Bool)(x10:Option Addr)(x11:Nat)(x12:Nat)(x13:Bool):Aq Zl #[(0,11),(11,1)] [(0,.agg #[.int .i64 x0,.int .i64 x1,.bool x2,.int .i64 x3,.string x4,.string x5,.string x6,.int .i64 x7,.int .i64 x8,.bool x9,.slice x10 x11 x12]),(1,.bool x13)]=some (.agg #[.int .i64 x0,.int .i64 x1,.bool x2,.int .i64 x3,.string x4,.string x5,.string x6,.int .i64 x7,.int .i64 x8,.bool x9,.slice x10 x11 x12,.bool x13]):=by kernel_rfl
theorem AIt (x0:Int)(x1:Int)(x2:Bool)(x3:Int)(x4:ByteArray)(x5:ByteArray)(x6:ByteArray)(x7:Int)(x8:Int)(x9:Bool)(x10:Option Addr)(x11:Nat)(x12:Nat):Aq Ze Zo [(2,.agg #[.int .i64 x0,.int .i64 x1,.bool x2,.int .i64 x3,.string x4,.string x5,.string x6,.int .i64 x7,.int .i64 x8,.bool x9,.slice x10 x11 x12])]=some (.agg #[(.bool false),(Value.string (ByteArray.mk #[])),.int .i64 x0,.int .i64 x1,.bool x2,.int .i64 x3,.string x4,.string x5,.string x6,.int .i64 x7,.int .i64 x8,.bool x9,.slice x10 x11 x12,(Value.string (ByteArray.mk #[]))]):=by kernel_rfl
theorem AIs (x0:Int)(x1:Int)(x2:Bool)(x3:Int)(x4:ByteArray)(x5:ByteArray)(x6:ByteArray)(x7:Int)(x8:Int)(x9:Bool)(x10:Option Addr)(x11:Nat)(x12:Nat):Aq Zl #[(0,11),(11,1)] [(0,.agg #[.int .i64 x0,.int .i64 x1,.bool x2,.int .i64 x3,.string x4,.string x5,.string x6,.int .i64 x7,.int .i64 x8,.bool x9,.slice x10 x11 x12])]=some (.agg #[.int .i64 x0,.int .i64 x1,.bool x2,.int .i64 x3,.string x4,.string x5,.string x6,.int .i64 x7,.int .i64 x8,.bool x9,.slice x10 x11 x12,(.bool false)]):=by kernel_rfl
theorem AIr (x0:ByteArray)(x1:Int):Aq Zc #[(0,1),(1,1)] [(0,.string x0),(1,.int .i64 x1)]=some (.agg #[.string x0,.int .i64 x1]):=by kernel_rfl
theorem AIq (x0:Bool)(x1:ByteArray):Aq Zr #[(0,1),(1,1)] [(0,.bool x0),(1,.string x1)]=some (.agg #[.bool x0,.string x1]):=by kernel_rfl
theorem AIp:Aq Zg #[(0,1),(1,1),(2,1),(3,11)] []=some (.agg Zg):=by kernel_rfl
theorem AIo (x0:Int)(x1:Option Addr)(x2:Nat)(x3:Nat):Aq Zb Zk [(0,.int .i64 x0),(7,.slice x1 x2 x3)]=some (.agg #[.int .i64 x0,(.int .i64 0),(.bool false),(.int .i64 0),(Value.string (ByteArray.mk #[])),(Value.string (ByteArray.mk #[])),(Value.string (ByteArray.mk #[])),(.int .i64 0),(.int .i64 0),(.bool false),.slice x1 x2 x3]):=by kernel_rfl
theorem AIn:Aq Zi #[(0,1),(1,1),(2,1),(3,1),(4,1),(5,11)] []=some (.agg Zi):=by kernel_rfl
theorem AIm (x0:ByteArray):Aq Zg #[(0,1),(1,1),(2,1),(3,11)] [(0,.string x0)]=some (.agg #[.string x0,(Value.string (ByteArray.mk #[])),(.bool false),(.int .i64 0),(.int .i64 0),(.bool false),(.int .i64 0),(Value.string (ByteArray.mk #[])),(Value.string (ByteArray.mk #[])),(Value.string (ByteArray.mk #[])),(.int .i64 0),(.int .i64 0),(.bool false),(.slice none 0 0)]):=by kernel_rfl
theorem AIl (x0:ByteArray):Aq Zi #[(0,1),(1,1),(2,1),(3,1),(4,1),(5,11)] [(0,.string x0)]=some (.agg #[.string x0,(.int .i64 0),(.bool false),(.bool false),(.bool false),(.int .i64 0),(.int .i64 0),(.bool false),(.int .i64 0),(Value.string (ByteArray.mk #[])),(Value.string (ByteArray.mk #[])),(Value.string (ByteArray.mk #[])),(.int .i64 0),(.int .i64 0),(.bool false),(.slice none 0 0)]):=by kernel_rfl
theorem AIk (x0:Int):Aq Zb Zk [(0,.int .i64 x0)]=some (.agg #[.int .i64 x0,(.int .i64 0),(.bool false),(.int .i64 0),(Value.string (ByteArray.mk #[])),(Value.string (ByteArray.mk #[])),(Value.string (ByteArray.mk #[])),(.int .i64 0),(.int .i64 0),(.bool false),(.slice none 0 0)]):=by kernel_rfl
theorem AIj (x0:Int)(x1:ByteArray):Aq Zq Zn [(0,.int .i64 x0),(3,.string x1)]=some (.agg #[.int .i64 x0,(.bool false),(.int .i64 0),.string x1]):=by kernel_rfl
theorem AIi (x0:Int)(x1:Int):Aq Zq Zn [(0,.int .i64 x0),(2,.int .i64 x1)]=some (.agg #[.int .i64 x0,(.bool false),.int .i64 x1,(Value.string (ByteArray.mk #[]))]):=by kernel_rfl
theorem AIh (x0:Int):Aq Zq Zn [(0,.int .i64 x0)]=some (.agg #[.int .i64 x0,(.bool false),(.int .i64 0),(Value.string (ByteArray.mk #[]))]):=by kernel_rfl
theorem AIg (x0:Int)(x1:Bool):Aq Zq Zn [(0,.int .i64 x0),(1,.bool x1)]=some (.agg #[.int .i64 x0,.bool x1,(.int .i64 0),(Value.string (ByteArray.mk #[]))]):=by kernel_rfl
theorem AIf (x0:Int)(x1:Int)(x2:Bool)(x3:Int)(x4:ByteArray):Aq Zb Zk [(0,.int .i64 x0),(1,.agg #[.int .i64 x1,.bool x2,.int .i64 x3,.string x4])]=some (.agg #[.int .i64 x0,.int .i64 x1,.bool x2,.int .i64 x3,.string x4,(Value.string (ByteArray.mk #[])),(Value.string (ByteArray.mk #[])),(.int .i64 0),(.int .i64 0),(.bool false),(.slice none 0 0)]):=by kernel_rfl
theorem AIe (x0:Int)(x1:ByteArray)(x2:ByteArray):Aq Zb Zk [(0,.int .i64 x0),(2,.string x1),(3,.string x2)]=some (.agg #[.int .i64 x0,(.int .i64 0),(.bool false),(.int .i64 0),(Value.string (ByteArray.mk #[])),.string x1,.string x2,(.int .i64 0),(.int .i64 0),(.bool false),(.slice none 0 0)]):=by kernel_rfl
theorem AId (x0:Int)(x1:ByteArray):Aq Zb Zk [(0,.int .i64 x0),(3,.string x1)]=some (.agg #[.int .i64 x0,(.int .i64 0),(.bool false),(.int .i64 0),(Value.string (ByteArray.mk #[])),(Value.string (ByteArray.mk #[])),.string x1,(.int .i64 0),(.int .i64 0),(.bool false),(.slice none 0 0)]):=by kernel_rfl
end Go.Proofs.YtkifgfanjcfedaaGreatDoor
namespace Go.SL
abbrev blt:List UInt8→List UInt8→Bool:=Op.bytesLess
theorem Js (a:List UInt8):(⟨a.toArray⟩:ByteArray).toList=a:=by simp [Go.ByteArray.toList_mk]
theorem QS (a:List UInt8):(⟨a.toArray⟩:ByteArray).size=a.length:=by simp [ByteArray.size]
section
variable (a b:List UInt8)
theorem sEq:Ag .eql (.string ⟨a.toArray⟩) (.string ⟨b.toArray⟩)=some (.bool (a==b)):=by simp only [Ag,Js]
theorem sNe:Ag .neq (.string ⟨a.toArray⟩) (.string ⟨b.toArray⟩)=some (.bool (!(a==b))):=by simp only [Ag,Js]
theorem sLt:Ag .lss (.string ⟨a.toArray⟩) (.string ⟨b.toArray⟩)=some (.bool (blt a b)):=by simp only [Ag,Js]
theorem sLe:Ag .leq (.string ⟨a.toArray⟩) (.string ⟨b.toArray⟩)=some (.bool (blt a b||a==b)):=by simp only [Ag,Js]
theorem sGt:Ag .gtr (.string ⟨a.toArray⟩) (.string ⟨b.toArray⟩)=some (.bool (!(blt a b||a==b))):=by simp only [Ag,Js]
theorem sGe:Ag .geq (.string ⟨a.toArray⟩) (.string ⟨b.toArray⟩)=some (.bool (!(blt a b))):=by simp only [Ag,Js]
theorem ATw (h:a.length+b.length≤9223372036854775807):Ag .add (.string ⟨a.toArray⟩) (.string ⟨b.toArray⟩)=some (.string ⟨(a++b).toArray⟩):=by
 simp only [Ag,QS];rw [if_pos h];have:(⟨a.toArray⟩:ByteArray)++⟨b.toArray⟩=⟨(a++b).toArray⟩:=by
  apply ByteArray.ext
  simp
 rw [this]
theorem Qx:Ba (.string ⟨a.toArray⟩)=some (.int .i64 a.length):=by rw [AKj,QS]
end
theorem Uu (a b c d:Int):IW .eql [(TypeDesc.int .i64,0),(TypeDesc.int .i64,1)] (.agg #[.int .i64 a,.int .i64 b]) (.agg #[.int .i64 c,.int .i64 d])=some (.bool ((a==c)&&(b==d))):=by
 simp [IW,Lm,eqD]
theorem AAr (a b c d:Int):IW .neq [(TypeDesc.int .i64,0),(TypeDesc.int .i64,1)] (.agg #[.int .i64 a,.int .i64 b]) (.agg #[.int .i64 c,.int .i64 d])=some (.bool !((a==c)&&(b==d))):=by
 simp [IW,Lm,eqD]
theorem Xw (off n:Nat)(l:List Value):Ij true off n (.agg l.toArray)=some (.agg ((l.drop off).take n).toArray):=by
 simp only [Ij,if_true];congr 2
 apply Array.ext'
 simp [List.take_drop,Nat.add_comm]
theorem Xv (off n:Nat)(l:List Value):Ij false off n (.agg l.toArray)=l[off]? :=by
 simp [Ij]
def cmpL (a b:List UInt8):Int:=match (List.range (min a.length b.length)).find? fun i=>a.getD i 0 != b.getD i 0 with
 |some i=>if a.getD i 0 < b.getD i 0 then -1 else 1
 |none=>if a.length < b.length then -1 else if a.length > b.length then 1 else 0
theorem AUG (a:List UInt8)(i:Nat):(⟨a.toArray⟩:ByteArray)[i]! =a.getD i 0:=by
 by_cases h:i < a.length
 ·have hs:i < (⟨a.toArray⟩:ByteArray).size:=by rw [QS];exact h
  rw [getElem!_pos (⟨a.toArray⟩:ByteArray) i hs];show a.toArray[i]'(by simpa using h)=_;simp [List.getD,h]
 ·have hs:¬i < (⟨a.toArray⟩:ByteArray).size:=by rw [QS];exact h
  rw [getElem!_neg (⟨a.toArray⟩:ByteArray) i hs];simp [List.getD,List.getElem?_eq_none (Nat.le_of_not_lt h)];rfl
section
variable {P:Program}{ω:Om}{I:Imm}{L:LH}{K:Value→M}
end
section
variable {I I0:Imm}{L L' X:LH}{K:Value→M}{b off n T:Nat}
theorem AHE {l:List Value}{T:Nat}{fr:Nat×Nat}[h:InL b X (.cells l.toArray T fr)](vs:List Value)(he:(l.drop off).take n=vs)(hl:vs.length=n)(hk:K (.agg vs.toArray) I L):Rv (some (Stay I0 X)) (AC n (.pointer (some ⟨b,off,none⟩))) K I L:=
 AOG hl (fun I' L' hS j u hu=>Cell.own (hS.2 _ h.mem) (by
  subst he;rw [List.getElem?_take] at hu;split at hu
  ·rw [List.getElem?_drop] at hu;simpa using hu
  ·cases hu)) hk
theorem stP {l vs:List Value}(l':List Value)[h:InL b L (.cells l.toArray T (0,0))](he:l.take off++(vs++l.drop (off+n))=l')(hl:vs.length=n)(hleb:Nat.ble (off+n) l.length=true)(h1:vs.all (·.oneCell')=true)[u:UpL b L (.cells l.toArray T (0,0)) (.cells l'.toArray T (0,0)) L'](hk:K undef I L'):
  Sto n (.pointer (some ⟨b,off,none⟩)) (.agg vs.toArray) (gh K) I L:=by
 have hle:=Nat.le_of_ble_eq_true hleb;obtain ⟨L1,L2,rfl,rfl⟩:=u.up;refine ⟨b,off,l.toArray,T,L1,L2,rfl,by simp [Value.cells,hl],by simpa [Value.cells] using Au h1,by simpa using hle,rfl,?_⟩;simp only [Value.cells];rw [WN vs l.toArray off (by simp;omega)];subst he;refine Gh.done ?_;rw [hl];simpa using hk
end
class MemB (x:Nat×Obj) (L:LH):Prop where
 mem:x∈L
instance memBRight (x:Nat×Obj)(A L:LH)[h:MemB x L]:MemB x (A++L):=⟨List.mem_append_right _ h.mem⟩
instance memBThere (x y:Nat×Obj)(L:LH)[h:MemB x L]:MemB x (y::L):=⟨List.mem_cons_of_mem _ h.mem⟩
instance memBHere (x:Nat×Obj)(L:LH):MemB x (x::L):=⟨List.mem_cons_self ..⟩
instance (priority:=70) lsubConsL (x:Nat×Obj)(X L:LH)[h:MemB x L][h':LSub X L]:LSub (x::X) L:=⟨fun y hy=>by
 rcases List.mem_cons.1 hy with rfl|hy
 ·exact h.mem
 ·exact h'.sub y hy⟩
class DelB (b:Nat) (L:LH) (L':outParam LH):Prop where
 sub:∀x∈L',x∈L
instance delBThere (b:Nat)(x:Nat×Obj)(L L':LH)[h:DelB b L L']:DelB b (x::L) (x::L'):=⟨fun y hy=>by
 rcases List.mem_cons.1 hy with rfl|hy
 ·exact List.mem_cons_self ..
 ·exact List.mem_cons_of_mem _ (h.sub y hy)⟩
instance delBHere (b:Nat)(o:Obj)(L:LH):DelB b ((b,o)::L) L:=⟨fun y hy=>List.mem_cons_of_mem _ hy⟩
theorem OX {I:Imm}{L X:LH}{B:M→M}{b off:Nat}[h:DelB b L X](hB:B (Stay I X) I L):ADI [.pointer (some ⟨b,off,none⟩)] B I L:=draw _ ⟨Ext.refl I,h.sub⟩ hB
theorem OW {I:Imm}{L X Y:LH}{B:M→M}{b off c off':Nat}[h:DelB b L X][h':DelB c X Y](hB:B (Stay I Y) I L):ADI [.pointer (some ⟨b,off,none⟩),.pointer (some ⟨c,off',none⟩)] B I L:=draw _ ⟨Ext.refl I,fun x hx=>h.sub x (h'.sub x hx)⟩ hB
class PickB (b:Nat) (L:LH) (o:outParam Obj) (R:outParam LH):Prop where
 perm:L.Perm ((b,o)::R)
instance pickBRight (b:Nat)(o:Obj)(A L R:LH)[h:PickB b L o R]:PickB b (A++L) o (A++R):=⟨(List.Perm.append_left A h.perm).trans List.perm_middle⟩
instance pickBThere (b:Nat)(o:Obj)(y:Nat×Obj)(L R:LH)[h:PickB b L o R]:PickB b (y::L) o (y::R):=⟨(List.Perm.cons y h.perm).trans (List.Perm.swap ..)⟩
instance pickBHere (b:Nat)(o:Obj)(R:LH):PickB b ((b,o)::R) o R:=⟨List.Perm.refl _⟩
section
variable {α:Type}{R:Imm→α→List Value→Prop}{I:Imm}{T n bytes:Nat}{z:Array Value}{X6 L0 F:LH}{v:Value}{xs:List α}{x:α}{c cells:List Value}{K:Value→M}
theorem LJ [SplitL X6 L0 F](hz:z.size=n)(hn:0 < n)(h6:SlO T n X6 v cells xs.length)(hR:Recs (R I) n xs cells)(hx:R I x c)(hcl:c.length=n)(h1:∀u∈c,u.oneCell'=true)(hb:(xs.length+1) * bytes≤150000000000000)(hl:xs.length+1≤150000000000000)
  (hk:∀X1 X6' v' cells',SlO T n X6' v' cells' (xs++[x]).length→Recs (R I) n (xs++[x]) cells'→K v' I (X6'++(X1++F))):
  AX T n z 1 [(0,.agg c.toArray)] (gh fun u=>App T n bytes z v u (gh K)) I L0:=by
 refine En hz hn (by simpa [Value.cells] using hcl) (fun X1 u hX1=>?_);refine DW (X:=X6) hz h6 (hX1.news (fun x hx=>List.mem_append_left _ hx)) (fun u hu=>h1 u (by simpa [Value.cells] using hu)) hb hl (fun X' v' hX'=>?_);exact hk X1 X' v' _ (by simpa [Value.cells] using hX') (Recs.append hR (Recs.one (by simpa [Value.cells] using hcl) (by simpa [Value.cells] using hx)))
theorem XQ [SplitL X6 L0 F]{w:Value}(hz:z.size=1)(h6:SlO T 1 X6 v cells xs.length)(hR:Recs (R I) 1 xs cells)(hx:R I x [w])(h1:w.oneCell'=true)(hb:(xs.length+1) * bytes≤150000000000000)(hl:xs.length+1≤150000000000000)
  (hk:∀X1 X6' v' cells',SlO T 1 X6' v' cells' (xs++[x]).length→Recs (R I) 1 (xs++[x]) cells'→K v' I (X6'++(X1++F))):
  AX T 1 z 1 [(0,w)] (gh fun u=>App T 1 bytes z v u (gh K)) I L0:=by
 have hc:w.cells=#[w]:=by cases w <;> first|rfl|simp [Value.oneCell'] at h1
 refine En hz (by omega) (by rw [hc];rfl) (fun X1 u hX1=>?_);rw [hc] at hX1;refine DW (X:=X6) hz h6 (hX1.news (fun x hx=>List.mem_append_left _ hx)) (by simpa using h1) hb hl (fun X' v' hX'=>?_);exact hk X1 X' v' _ (by simpa using hX') (Recs.append hR (Recs.one rfl hx))
theorem RL.ofO {A:M}{X F:LH}(hm:∀{I I':Imm} {x:α} {c:List Value},R I x c→Ext I I'→R I' x c)(h:SlO T n X v cells xs.length)(hR:Recs (R I) n xs cells)(hk:∀I',Ext I I'→RL R n I' [] v xs→Gh A I' F):Gh A I (X++F):=
 SlO.freeze h (fun I' hI hS=>hk I' hI (RL.ofI hS (hR.imp fun _ _ h=>hm h hI)))
end
end Go.SL
namespace Go.Proofs.YtkifgfanjcfedaaGreatDoor
open Go.SL
theorem ANe (k:Nat)(p:Value)(K:Value→M):Lf k p K=Pv (AL k p) fun a=>Rn (Ap a) K:=rfl
theorem ANd (S:M)(k:Nat)(p:Value)(K:Value→M):Lg S k p K=Pv (AL k p) fun a=>Rs S (Ap a) K:=rfl
theorem SSd:type_of% (And.intro @ANe <| And.intro @ANd <| And.intro @DU<|And.intro @AIB<|And.intro @AHY<|And.intro @AHZ<|And.intro @AHm<|And.intro @AIY<|And.intro @Qx<|And.intro @AHe<|And.intro @AHg<|And.intro @AFD<|And.intro @AAl<|And.intro @AAm<|And.intro @ACU<|And.intro @ACV<|And.intro @ANK<|And.intro @AIO<|And.intro @TI<|And.intro @TF<|And.intro @YP<|And.intro @YU<|And.intro @YO<|And.intro @YQ<|And.intro @YR<|And.intro @YS<|And.intro @YT<|And.intro @YV<|And.intro @ACx<|And.intro @YX<|And.intro @YW<|And.intro @sEq<|And.intro @sNe<|And.intro @sLt<|And.intro @sLe<|And.intro @sGt<|And.intro @sGe<|And.intro @Uu<|And.intro @AAr<|And.intro @Xw<|And.intro @Xv<|And.intro @Hg<|And.intro @Nq<|And.intro @Ns<|And.intro @Nr<|And.intro @Oz<|And.intro @Oy<|And.intro @QT<|And.intro @Nu<|And.intro @ADC<|And.intro @ADF<|And.intro @ADE<|And.intro @ADG<|And.intro @Uo<|And.intro (@List.getElem?_toArray Value)<|And.intro (@List.getElem?_cons_zero Value)<|And.intro (@List.getElem?_cons_succ Value)<|And.intro @Nat.zero_add<|And.intro @Nat.add_zero<|And.intro @Nat.zero_mul<|And.intro (@List.drop_succ_cons Value)<|And.intro (@List.drop_zero Value)<|And.intro (@List.take_succ_cons Value)<|And.intro (@List.take_zero Value)<|And.intro (@List.nil_append Value)<|And.intro (@List.cons_append Value)<|And.intro (@List.drop_nil Value)<|And.intro (@List.take_nil Value)<|And.intro @ANX<|And.intro @ANW<|And.intro @ANV<|And.intro @ANU<|And.intro @ANT<|And.intro @ANR<|And.intro @ANQ<|And.intro @ANP<|And.intro @ANO<|And.intro @AJN<|And.intro @AJM<|And.intro @AJL<|And.intro @AJK<|And.intro @AJJ<|And.intro @AJI<|And.intro @AJH<|And.intro @AJG<|And.intro @AJF<|And.intro @AJE<|And.intro @AJD<|And.intro @AJC<|And.intro @AJB<|And.intro @AJA<|And.intro @AIz<|And.intro @AIy<|And.intro @AIx<|And.intro @AIw<|And.intro @AIv<|And.intro @AIu<|And.intro @AIt<|And.intro @AIs<|And.intro @AIr<|And.intro @AIq<|And.intro @AIp<|And.intro @AIo<|And.intro @AIn<|And.intro @AIm<|And.intro @AIl<|And.intro @AIk<|And.intro @AIj<|And.intro @AIi<|And.intro @AIh<|And.intro @AIg<|And.intro @AIf<|And.intro @AIe<|And.intro @AId<|And.intro (@List.nil_append (Nat×Obj))<|(@List.cons_append (Nat×Obj))):=And.intro @ANe <| And.intro @ANd <| And.intro @DU<|And.intro @AIB<|And.intro @AHY<|And.intro @AHZ<|And.intro @AHm<|And.intro @AIY<|And.intro @Qx<|And.intro @AHe<|And.intro @AHg<|And.intro @AFD<|And.intro @AAl<|And.intro @AAm<|And.intro @ACU<|And.intro @ACV<|And.intro @ANK<|And.intro @AIO<|And.intro @TI<|And.intro @TF<|And.intro @YP<|And.intro @YU<|And.intro @YO<|And.intro @YQ<|And.intro @YR<|And.intro @YS<|And.intro @YT<|And.intro @YV<|And.intro @ACx<|And.intro @YX<|And.intro @YW<|And.intro @sEq<|And.intro @sNe<|And.intro @sLt<|And.intro @sLe<|And.intro @sGt<|And.intro @sGe<|And.intro @Uu<|And.intro @AAr<|And.intro @Xw<|And.intro @Xv<|And.intro @Hg<|And.intro @Nq<|And.intro @Ns<|And.intro @Nr<|And.intro @Oz<|And.intro @Oy<|And.intro @QT<|And.intro @Nu<|And.intro @ADC<|And.intro @ADF<|And.intro @ADE<|And.intro @ADG<|And.intro @Uo<|And.intro (@List.getElem?_toArray Value)<|And.intro (@List.getElem?_cons_zero Value)<|And.intro (@List.getElem?_cons_succ Value)<|And.intro @Nat.zero_add<|And.intro @Nat.add_zero<|And.intro @Nat.zero_mul<|And.intro (@List.drop_succ_cons Value)<|And.intro (@List.drop_zero Value)<|And.intro (@List.take_succ_cons Value)<|And.intro (@List.take_zero Value)<|And.intro (@List.nil_append Value)<|And.intro (@List.cons_append Value)<|And.intro (@List.drop_nil Value)<|And.intro (@List.take_nil Value)<|And.intro @ANX<|And.intro @ANW<|And.intro @ANV<|And.intro @ANU<|And.intro @ANT<|And.intro @ANR<|And.intro @ANQ<|And.intro @ANP<|And.intro @ANO<|And.intro @AJN<|And.intro @AJM<|And.intro @AJL<|And.intro @AJK<|And.intro @AJJ<|And.intro @AJI<|And.intro @AJH<|And.intro @AJG<|And.intro @AJF<|And.intro @AJE<|And.intro @AJD<|And.intro @AJC<|And.intro @AJB<|And.intro @AJA<|And.intro @AIz<|And.intro @AIy<|And.intro @AIx<|And.intro @AIw<|And.intro @AIv<|And.intro @AIu<|And.intro @AIt<|And.intro @AIs<|And.intro @AIr<|And.intro @AIq<|And.intro @AIp<|And.intro @AIo<|And.intro @AIn<|And.intro @AIm<|And.intro @AIl<|And.intro @AIk<|And.intro @AIj<|And.intro @AIi<|And.intro @AIh<|And.intro @AIg<|And.intro @AIf<|And.intro @AIe<|And.intro @AId<|And.intro (@List.nil_append (Nat×Obj))<|(@List.cons_append (Nat×Obj))
theorem SSg:type_of% (And.intro @Bool.not_true<|And.intro @Bool.not_false<|And.intro @Bool.and_self<|And.intro @Bool.true_and<|And.intro @decide_true<|And.intro @decide_false<|And.intro @QT<|And.intro @Nu<|And.intro @ADC<|And.intro @ADF<|And.intro @ADE<|@ADG):=And.intro @Bool.not_true<|And.intro @Bool.not_false<|And.intro @Bool.and_self<|And.intro @Bool.true_and<|And.intro @decide_true<|And.intro @decide_false<|And.intro @QT<|And.intro @Nu<|And.intro @ADC<|And.intro @ADF<|And.intro @ADE<|@ADG
end Go.Proofs.YtkifgfanjcfedaaGreatDoor
namespace Go.SL
def Yd:Nat→List Value→List (Nat×Value)
 |_,[]=>[]
 |i,v::r=>(i,v)::Yd (i+1) r
theorem ACn:∀(vs:List Value) (cs:Array Value) (off k:Nat),off+k+vs.length≤cs.size→(vs.zipIdx k).foldl (fun cs (c,j)=>cs.setIfInBounds (off+j) c) cs=wr cs (off+k) vs
 |[],cs,off,k,_=>rfl
 |v::vs,cs,off,k,h=>by
  simp only [List.zipIdx_cons,List.foldl_cons,wr];simp only [List.length_cons] at h;exact ACn vs (cs.setIfInBounds (off+k) v) off (k+1) (by simp;omega)
theorem Xz {n:Nat}:∀(vs:List Value) (k:Nat) (cells:Array Value),(∀v∈vs,v.cells.size=n)→(k+vs.length) * n≤cells.size→
  ∃r,Instr.fill (fun i=>some (i * n,n)) cells (Yd k vs)=some r∧r.toList=cells.toList.take (k * n)++vs.flatMap (·.cells.toList)++cells.toList.drop ((k+vs.length) * n)
 |[],k,cells,_,h=>⟨cells,rfl,by simp⟩
 |v::vs,k,cells,hv,h=>by
  have hv0:=hv v (List.mem_cons_self ..);simp only [List.length_cons] at h;have e1:(k+1) * n=k * n+n:=by rw [Nat.add_mul,Nat.one_mul]
  have e2:(k+(vs.length+1)) * n=(k+1+vs.length) * n:=by congr 1;omega
  have e3:(k+1) * n≤(k+1+vs.length) * n:=Nat.mul_le_mul_right n (by omega);have hsz:k * n+v.cells.size≤cells.size:=by omega
  simp only [Yd,Instr.fill];rw [if_neg (by simp [hv0];omega)];have hf:v.cells.zipIdx.foldl (fun cs (c,j)=>cs.setIfInBounds (k * n+j) c) cells=wr cells (k * n) v.cells.toList:=by
   rw [←Array.foldl_toList];simp only [Array.toList_zipIdx];exact ACn v.cells.toList cells (k * n) 0 (by simp;omega)
  rw [hf];obtain ⟨r,h1,h2⟩:=Xz vs (k+1) (wr cells (k * n) v.cells.toList) (fun u hu=>hv u (List.mem_cons_of_mem _ hu)) (by rw [PS];omega);refine ⟨r,h1,?_⟩;rw [h2,WN _ _ _ (by simp;omega)];have hlt:(cells.toList.take (k * n)).length=k * n:=by rw [List.length_take,Array.length_toList];omega
  have hvl:v.cells.toList.length=n:=by rw [Array.length_toList,hv0]
  have e4:k * n+n≤(k+1+vs.length) * n:=by omega
  have e5:(k+(vs.length+1)) * n=(k+1+vs.length) * n:=e2;rw [hvl];simp only [List.toList_toArray,List.flatMap_cons,List.length_cons,e5,e1];have a1:(cells.toList.take (k * n)++v.cells.toList++cells.toList.drop (k * n+n)).take (k * n+n)=cells.toList.take (k * n)++v.cells.toList:=by
   rw [List.take_append_of_le_length (by rw [List.length_append,hlt,hvl];exact Nat.le_refl _),List.take_of_length_le (by rw [List.length_append,hlt,hvl];exact Nat.le_refl _)]
  have a2:(cells.toList.take (k * n)++v.cells.toList++cells.toList.drop (k * n+n)).drop ((k+1+vs.length) * n)=cells.toList.drop ((k+1+vs.length) * n):=by
   rw [List.drop_append,List.drop_eq_nil_of_le (by rw [List.length_append,hlt,hvl];exact e4),List.nil_append,List.drop_drop,List.length_append,hlt,hvl];congr 1
   omega
  rw [a1,a2];simp only [List.append_assoc]
section
variable {I:Imm}{F:LH}{T n len:Nat}{z:Array Value}{parts:List (Nat×Value)}{K:Value→M}
theorem AQr (vs:List Value)(hp:parts=Yd 0 vs)(hl:vs.length=len)(hv:∀v∈vs,v.cells.size=n)
  (hk:∀X a,SlO T n X (.slice a len len) (vs.flatMap (·.cells.toList)) len→Gh (K (.slice a len len)) I (X++F)):AX T n z len parts (gh K) I F:=by
 subst hp hl;obtain ⟨r,h1,h2⟩:=Xz vs 0 ((Array.range (vs.length * n)).map (z[· % z.size]!)) hv (by simp);have h2:r=(vs.flatMap (·.cells.toList)).toArray:=by
  apply Array.ext'
  rw [h2];simp only [Nat.zero_mul,List.take_zero,List.nil_append,Nat.zero_add];rw [List.drop_eq_nil_of_le (by simp),List.append_nil]
 subst h2;have hlen:(vs.flatMap (·.cells.toList)).length=vs.length * n:=by
  clear h1 h2 hk;induction vs with
  |nil=>simp
  |cons v vs ih=>
   have h0:=ih (fun u hu=>hv u (List.mem_cons_of_mem _ hu));rw [List.flatMap_cons,List.length_append,Array.length_toList,hv v (List.mem_cons_self ..),h0,List.length_cons,Nat.add_mul,Nat.one_mul,Nat.add_comm]
 refine ⟨_,h1,fun b=>?_⟩;exact hk [(b,_)] _ ⟨hlen,.inr ⟨b,vs.length,_,rfl,rfl,by simp [hlen],Nat.le_refl _,fun j u hu=>by simpa using hu⟩⟩
theorem ACw (vs:List Value)(hp:parts=Yd 0 vs)(hl:vs.length=len)(hv:∀v∈vs,v.cells.size=n)
  (hk:∀I' a,Ext I I'→SlI I' n (.slice a len len) (vs.flatMap (·.cells.toList)) len→Gh (K (.slice a len len)) I' F):AX T n z len parts (gh K) I F:=
 AQr vs hp hl hv fun X a h=>SlO.freeze h fun I' hI hS=>hk I' a hI hS
end
def ACd (α:Type):Setoid (List α):=⟨List.Perm,List.Perm.refl,List.Perm.symm,List.Perm.trans⟩
def MS (α:Type):Type:=Quotient (ACd α)
def ms {α:Type}(l:List α):MS α:=Quotient.mk (ACd α) l
def ANF {α:Type}(a b:MS α):MS α:=Quotient.liftOn₂ a b (fun x y=>ms (x++y)) (fun _ _ _ _ h1 h2=>Quotient.sound (s:=ACd α) (List.Perm.append h1 h2))
instance {α:Type}:Std.Associative (ANF (α:=α)):=⟨fun a b c=>by
 refine Quotient.inductionOn₃ a b c fun x y z=>?_;show ms (x++y++z)=ms (x++(y++z));rw [List.append_assoc]⟩
instance {α:Type}:Std.Commutative (ANF (α:=α)):=⟨fun a b=>by
 refine Quotient.inductionOn₂ a b fun x y=>?_;exact Quotient.sound (s:=ACd α) List.perm_append_comm⟩
abbrev Key:=List UInt8
def JI (k:Key):Value:=.string ⟨k.toArray⟩
def Jy (e:MapEntry):Key:=match e.key with
 | .string s=>s.data.toList
 |_=>[]
def fnd (k:Key):List MapEntry→Nat→Option (Nat×Value)
 |[],_=>none
 |e::r,i=>if Jy e=k then some (i,e.val) else fnd k r (i+1)
def KC (m:Key→Option Value)(k:Key)(v:Option Value):Key→Option Value:=fun q=>if q=k then v else m q
structure MapS (es:Array MapEntry)(clock:Nat)(m:Key→Option Value):Prop where
 str:∀e∈es.toList,∃s:ByteArray,e.key= .string s
 nod:(es.toList.map Jy).Nodup
 brn:∀e∈es.toList,e.born < clock
 bnd:(es.toList.map (·.born)).Nodup
 val:∀k,m k=(fnd k es.toList 0).map (·.2)
theorem AEi {a b:ByteArray}:(a==b)=decide (a.data.toList=b.data.toList):=by
 cases a with
 |mk a=>cases b with
  |mk b=>
   show (a==b)=_;rw [Bool.eq_iff_iff];simp only [beq_iff_eq,decide_eq_true_eq];exact ⟨fun h=>by rw [h],fun h=>by cases a;cases b;simpa using h⟩
theorem Ou {k:Key}:∀{l:List MapEntry} {i:Nat},(∀e∈l,∃s:ByteArray,e.key= .string s)→Instr.findNow .string (JI k) l i=some (fnd k l i)
 |[],_,_=>rfl
 |e::l,i,h=>by
  obtain ⟨s,hs⟩:=h e (List.mem_cons_self ..);have ih:=Ou (k:=k) (l:=l) (i:=i+1) (fun x hx=>h x (List.mem_cons_of_mem _ hx));simp only [Instr.findNow,fnd,Jy,hs,JI,Instr.sameNow];rw [AEi];by_cases hk:s.data.toList=k
  ·have:decide ((⟨k.toArray⟩:ByteArray).data.toList=s.data.toList)=true:=by simp [hk]
   rw [this,if_pos hk]
  ·have:decide ((⟨k.toArray⟩:ByteArray).data.toList=s.data.toList)=false:=by simp;exact fun h=>hk h.symm
   rw [this,if_neg hk];exact ih
theorem MapS.find {es:Array MapEntry}{clock:Nat}{m:Key→Option Value}(h:MapS es clock m)(k:Key):Instr.findNow .string (JI k) es.toList 0=some (fnd k es.toList 0):=Ou h.str
theorem MapS.empty:MapS #[] 0 (fun _=>none):=⟨fun e h=>by simp at h,by simp,fun e h=>by simp at h,by simp,fun k=>rfl⟩
theorem fnd_none {k:Key}:∀{l:List MapEntry} {i:Nat},fnd k l i=none↔k ∉ l.map Jy
 |[],_=>by simp [fnd]
 |e::l,i=>by
  simp only [fnd,List.map_cons,List.mem_cons,not_or];by_cases h:Jy e=k
  ·simp [h]
  ·rw [if_neg h,fnd_none (l:=l)];exact ⟨fun h'=>⟨fun e'=>h e'.symm,h'⟩,fun h'=>h'.2⟩
theorem Xt {k:Key}:∀{l:List MapEntry} {i j:Nat} {v:Value},fnd k l i=some (j,v)→∃n e,j=i+n∧l[n]? =some e∧Jy e=k∧e.val=v
 |[],_,_,_,h=>by simp [fnd] at h
 |e::l,i,j,v,h=>by
  simp only [fnd] at h;split at h
  ·rename_i hk
   simp only [Option.some.injEq,Prod.mk.injEq] at h;exact ⟨0,e,by omega,rfl,hk,h.2⟩
  ·obtain ⟨n,e',h1,h2,h3,h4⟩:=Xt h;exact ⟨n+1,e',by omega,by simpa using h2,h3,h4⟩
theorem LV {k:Key}:∀{l:List MapEntry} {i j:Nat},(fnd k l i).map (·.2)=(fnd k l j).map (·.2)
 |[],_,_=>rfl
 |e::l,i,j=>by
  simp only [fnd];split
  ·rfl
  ·exact LV
theorem SA {k:Key}:∀{l l':List MapEntry} {i:Nat},(fnd k (l++l') i).map (·.2)=match (fnd k l i).map (·.2) with
  |some v=>some v
  |none=>(fnd k l' 0).map (·.2)
 |[],l',i=>by simp only [List.nil_append,fnd,Option.map_none];exact LV
 |e::l,l',i=>by
  simp only [List.cons_append,fnd];split
  ·rfl
  ·exact SA
theorem ACo {k q:Key}{v:Value}:∀{l:List MapEntry} {n:Nat} {e:MapEntry},l[n]? =some e→Jy e=k→(l.map Jy).Nodup→
  (fnd q (l.set n {e with key:=JI k,val:=v}) 0).map (·.2)=if q=k then some v else (fnd q l 0).map (·.2)
 |[],n,e,h,_,_=>by simp at h
 |x::l,0,e,h,hk,hn=>by
  simp only [List.getElem?_cons_zero,Option.some.injEq] at h;subst h;have hko:Jy {x with key:=JI k,val:=v}=k:=by simp [Jy,JI]
  simp only [List.set_cons_zero,fnd,hko,hk];by_cases h:k=q
  ·simp [h]
  ·rw [if_neg h,if_neg (fun e=>h e.symm),if_neg h]
 |x::l,n+1,e,h,hk,hn=>by
  simp only [List.getElem?_cons_succ] at h;simp only [List.map_cons,List.nodup_cons] at hn;simp only [List.set_cons_succ,fnd];have hmem:k∈l.map Jy:=List.mem_map.2 ⟨e,List.mem_of_getElem? h,hk⟩;by_cases hx:Jy x=q
  ·rw [if_pos hx,if_pos hx,if_neg];intro e';rw [hx,e'] at hn;exact hn.1 hmem
  ·rw [if_neg hx,if_neg hx];have ih:=ACo (q:=q) (v:=v) h hk hn.2;rw [LV (j:=0),ih,LV (i:=0+1) (j:=0)]
theorem XE {k:Key}{v:Value}:∀{l:List MapEntry} {n:Nat} {e:MapEntry},l[n]? =some e→Jy e=k→(l.set n {e with key:=JI k,val:=v}).map Jy=l.map Jy
 |[],n,e,h,_=>by simp at h
 |x::l,0,e,h,hk=>by
  simp only [List.getElem?_cons_zero,Option.some.injEq] at h;subst h;simp [Jy,JI] at hk ⊢;exact hk.symm
 |x::l,n+1,e,h,hk=>by
  simp only [List.getElem?_cons_succ] at h;simp only [List.set_cons_succ,List.map_cons,XE h hk]
theorem UE {k:Key}{v:Value}:∀{l:List MapEntry} {n:Nat} {e:MapEntry},l[n]? =some e→(l.set n {e with key:=JI k,val:=v}).map (·.born)=l.map (·.born)
 |[],n,e,h=>by simp at h
 |x::l,0,e,h=>by
  simp only [List.getElem?_cons_zero,Option.some.injEq] at h;subst h;simp
 |x::l,n+1,e,h=>by
  simp only [List.getElem?_cons_succ] at h;simp only [List.set_cons_succ,List.map_cons,UE (k:=k) h]
def AKc (k:Key)(v:Value)(es:Array MapEntry)(clock:Nat):Obj:=match fnd k es.toList 0 with
 |some (i,_)=>.map (es.modify i fun e=>{e with key:=JI k,val:=v}) clock
 |none=>.map (es.push {key:=JI k,val:=v,born:=clock}) (clock+1)
theorem Rl {α:Type}{a:Array α}{i:Nat}{f:α→α}{x:α}(h:a.toList[i]? =some x):(a.modify i f).toList=a.toList.set i (f x):=by
 have hlt:i < a.size:=by
  have:=(List.getElem?_eq_some_iff.1 h).1;simpa using this
 apply List.ext_getElem?
 intro j;simp only [Array.getElem?_toList,Array.getElem?_modify];rw [List.getElem?_set];by_cases e:i=j
 ·subst e;simp only [Array.getElem?_toList] at h;rw [h];simp [hlt]
 ·simp [e]
theorem MapS.put {es:Array MapEntry}{clock:Nat}{m:Key→Option Value}(h:MapS es clock m)(k:Key)(v:Value):∃es' clock',AKc k v es clock= .map es' clock'∧MapS es' clock' (KC m k (some v)):=by
 unfold AKc;cases hf:fnd k es.toList 0 with
 |none=>
  refine ⟨_,_,rfl,?_⟩;have hn:=fnd_none.1 hf;have hl:(es.push {key:=JI k,val:=v,born:=clock}).toList=es.toList++[{key:=JI k,val:=v,born:=clock}]:=by simp
  have hko:Jy {key:=JI k,val:=v,born:=clock}=k:=by simp [Jy,JI]
  refine ⟨fun e he=>?_,?_,fun e he=>?_,?_,fun q=>?_⟩
  ·rw [hl] at he;rcases List.mem_append.1 he with he|he
   ·exact h.str e he
   ·simp only [List.mem_singleton] at he;subst he;exact ⟨_,rfl⟩
  ·rw [hl,List.map_append,List.nodup_append];refine ⟨h.nod,by simp,fun a ha b hb=>?_⟩;simp only [List.map_cons,List.map_nil,List.mem_singleton,hko] at hb;subst hb;exact fun e=>hn (e ▸ ha)
  ·rw [hl] at he;rcases List.mem_append.1 he with he|he
   ·have:=h.brn e he;omega
   ·simp only [List.mem_singleton] at he;subst he;simp
  ·rw [hl,List.map_append,List.nodup_append];refine ⟨h.bnd,by simp,fun a ha b hb=>?_⟩;simp only [List.map_cons,List.map_nil,List.mem_singleton] at hb;subst hb;obtain ⟨e,he,rfl⟩:=List.mem_map.1 ha;have:=h.brn e he;omega
  ·rw [hl,SA,←h.val q];unfold KC;by_cases e:q=k
   ·subst e;rw [if_pos rfl,h.val q,hf];simp [fnd,hko]
   ·rw [if_neg e];have hf0:fnd q [{key:=JI k,val:=v,born:=clock}] 0=none:=by
     simp only [fnd,hko];rw [if_neg (fun e'=>e (Eq.symm e'))]
    rw [hf0];cases m q <;> rfl
 |some p=>
  obtain ⟨i,u⟩:=p;obtain ⟨n,e,h1,h2,h3,h4⟩:=Xt hf;obtain rfl:i=n:=by omega
  refine ⟨_,_,rfl,?_⟩;have hl:=Rl (f:=fun e=>{e with key:=JI k,val:=v}) h2;refine ⟨fun x hx=>?_,?_,fun x hx=>?_,?_,fun q=>?_⟩
  ·rw [hl] at hx;rcases List.mem_or_eq_of_mem_set hx with hx|rfl
   ·exact h.str x hx
   ·exact ⟨_,rfl⟩
  ·rw [hl,XE h2 h3];exact h.nod
  ·rw [hl] at hx;rcases List.mem_or_eq_of_mem_set hx with hx|rfl
   ·exact h.brn x hx
   ·exact h.brn e (List.mem_of_getElem? h2)
  ·rw [hl,UE (k:=k) h2];exact h.bnd
  ·rw [hl,ACo h2 h3 h.nod,←h.val q];rfl
section rules
variable {I:Imm}{L:LH}{K:Value→M}{b:Nat}{es:Array MapEntry}{clock:Nat}{m:Key→Option Value}{k:Key}{v:Value}{S:M}
def lkV (zero:Value)(ok:Bool):Option Value→Value
 |some u=>if ok then .tuple #[u,.bool true] else u
 |none=>if ok then .tuple #[zero,.bool false] else zero
theorem ASP {zero:Value}{ok:Bool}(h:MapS es clock m):(match fnd k es.toList 0 with
  |some (_,u)=>if ok then .tuple #[u,.bool true] else u
  |none=>if ok then .tuple #[zero,.bool false] else zero)=lkV zero ok (m k):=by
 rw [h.val k];cases fnd k es.toList 0 <;> rfl
theorem ANG {zero:Value}{ok:Bool}(ha:MapAt I L b es clock)(h:MapS es clock m):lkR .string zero ok (.map (some b)) (JI k) I L (lkV zero ok (m k)):=
 ⟨es,_,.inr ⟨b,clock,rfl,ha⟩,h.find k,(ASP h).symm⟩
theorem lkm {zero:Value}{ok:Bool}[hin:InL b L (.map es clock)](h:MapS es clock m)(hk:K (lkV zero ok (m k)) I L):Rv none (lkR .string zero ok (.map (some b)) (JI k)) K I L:=
 ⟨_,ANG (.inl hin.mem) h,hk⟩
theorem PK {L':LH}{es':Array MapEntry}{clock':Nat}(h:MapS es clock m)(he:AKc k v es clock= .map es' clock')[u:UpL b L (.map es clock) (.map es' clock') L'](hk:K undef I L'):
  ER .string (.map (some b)) (JI k) v K I L:=by
 obtain ⟨L1,L2,rfl,rfl⟩:=u.up;refine ⟨b,es,clock,L1,L2,_,rfl,rfl,h.find k,?_⟩;unfold AKc at he;cases hf:fnd k es.toList 0 with
 |none=>rw [hf] at he;simp only at he ⊢;rw [he];exact hk
 |some p=>obtain ⟨i,w⟩:=p;rw [hf] at he;simp only at he ⊢;rw [he];exact hk
theorem AHa (hk:∀b,K (.map (some b)) I ((b,.map #[] 0)::L)):WJ K I L:=hk
end rules
theorem CalV.mono {P:Program}{ω:Om}{x:Value}{args:Array Value}{K K':Value→M}{I:Imm}{L:LH}(h:CalV P ω x args K I L)(hk:∀v I' L',K v I' L'→K' v I' L'):CalV P ω x args K' I L:=by
 match x,h with
 | .func (.func f) first cap,h=>
  simp only [CalV] at h ⊢;by_cases he:CG P f=true
  ·rw [if_pos he] at h ⊢;exact Cal.mono h hk
  ·rw [if_neg he] at h ⊢;cases hx:SG P f with
   |none=>rw [hx] at h;exact h.elim
   |some e=>
    rw [hx] at h;intro w hs;obtain ⟨v,w',I',L',h1,h2,h3⟩:=h w hs;exact ⟨v,w',I',L',h1,h2,hk _ _ _ h3⟩
 | .func (.yield l) first cap,h=>
  intro w hs;obtain ⟨f,tmps,assign,body,h1,h2⟩:=h w hs;exact ⟨f,tmps,assign,body,h1,RoundIn.mono h2 fun e w' ⟨v,I',L',e1,e2,e3⟩=>⟨v,I',L',e1,e2,hk _ _ _ e3⟩⟩
section iter
variable {I:Imm}{L0:LH}{K:Value→M}{b r clock:Nat}{es:Array MapEntry}{m:Key→Option Value}{vis:List MapEntry}
end iter
abbrev IX:=Int
def FH (k:IX):Value:=.int .i64 k
def Fq (e:MapEntry):IX:=match e.key with
 | .int _ n=>n
 |_=>0
def Es (k:IX):List MapEntry→Nat→Option (Nat×Value)
 |[],_=>none
 |e::r,i=>if Fq e=k then some (i,e.val) else Es k r (i+1)
def EU (m:IX→Option Value)(k:IX)(v:Option Value):IX→Option Value:=fun q=>if q=k then v else m q
structure MapSi (es:Array MapEntry)(clock:Nat)(m:IX→Option Value):Prop where
 str:∀e∈es.toList,∃s:Int,e.key= .int .i64 s
 nod:(es.toList.map Fq).Nodup
 brn:∀e∈es.toList,e.born < clock
 bnd:(es.toList.map (·.born)).Nodup
 val:∀k,m k=(Es k es.toList 0).map (·.2)
theorem Nb {k:IX}:∀{l:List MapEntry} {i:Nat},(∀e∈l,∃s:Int,e.key= .int .i64 s)→Instr.findNow (.int .i64) (FH k) l i=some (Es k l i)
 |[],_,_=>rfl
 |e::l,i,h=>by
  obtain ⟨s,hs⟩:=h e (List.mem_cons_self ..);have ih:=Nb (k:=k) (l:=l) (i:=i+1) (fun x hx=>h x (List.mem_cons_of_mem _ hx));simp only [Instr.findNow,Es,Fq,hs,FH,Instr.sameNow,if_true];by_cases hk:s=k
  ·have:(k==s)=true:=by simp [hk]
   rw [this,if_pos hk]
  ·have:(k==s)=false:=by simp;exact fun h=>hk h.symm
   rw [this,if_neg hk];exact ih
theorem MapSi.find {es:Array MapEntry}{clock:Nat}{m:IX→Option Value}(h:MapSi es clock m)(k:IX):Instr.findNow (.int .i64) (FH k) es.toList 0=some (Es k es.toList 0):=Nb h.str
theorem MapSi.empty:MapSi #[] 0 (fun _=>none):=⟨fun e h=>by simp at h,by simp,fun e h=>by simp at h,by simp,fun k=>rfl⟩
theorem fnd_nonei {k:IX}:∀{l:List MapEntry} {i:Nat},Es k l i=none↔k ∉ l.map Fq
 |[],_=>by simp [Es]
 |e::l,i=>by
  simp only [Es,List.map_cons,List.mem_cons,not_or];by_cases h:Fq e=k
  ·simp [h]
  ·rw [if_neg h,fnd_nonei (l:=l)];exact ⟨fun h'=>⟨fun e'=>h e'.symm,h'⟩,fun h'=>h'.2⟩
theorem Uf {k:IX}:∀{l:List MapEntry} {i j:Nat} {v:Value},Es k l i=some (j,v)→∃n e,j=i+n∧l[n]? =some e∧Fq e=k∧e.val=v
 |[],_,_,_,h=>by simp [Es] at h
 |e::l,i,j,v,h=>by
  simp only [Es] at h;split at h
  ·rename_i hk
   simp only [Option.some.injEq,Prod.mk.injEq] at h;exact ⟨0,e,by omega,rfl,hk,h.2⟩
  ·obtain ⟨n,e',h1,h2,h3,h4⟩:=Uf h;exact ⟨n+1,e',by omega,by simpa using h2,h3,h4⟩
theorem Jj {k:IX}:∀{l:List MapEntry} {i j:Nat},(Es k l i).map (·.2)=(Es k l j).map (·.2)
 |[],_,_=>rfl
 |e::l,i,j=>by
  simp only [Es];split
  ·rfl
  ·exact Jj
theorem Ot {k:IX}:∀{l l':List MapEntry} {i:Nat},(Es k (l++l') i).map (·.2)=match (Es k l i).map (·.2) with
  |some v=>some v
  |none=>(Es k l' 0).map (·.2)
 |[],l',i=>by simp only [List.nil_append,Es,Option.map_none];exact Jj
 |e::l,l',i=>by
  simp only [List.cons_append,Es];split
  ·rfl
  ·exact Ot
theorem Xu {k q:IX}{v:Value}:∀{l:List MapEntry} {n:Nat} {e:MapEntry},l[n]? =some e→Fq e=k→(l.map Fq).Nodup→
  (Es q (l.set n {e with key:=FH k,val:=v}) 0).map (·.2)=if q=k then some v else (Es q l 0).map (·.2)
 |[],n,e,h,_,_=>by simp at h
 |x::l,0,e,h,hk,hn=>by
  simp only [List.getElem?_cons_zero,Option.some.injEq] at h;subst h;have hko:Fq {x with key:=FH k,val:=v}=k:=by simp [Fq,FH]
  simp only [List.set_cons_zero,Es,hko,hk];by_cases h:k=q
  ·simp [h]
  ·rw [if_neg h,if_neg (fun e=>h e.symm),if_neg h]
 |x::l,n+1,e,h,hk,hn=>by
  simp only [List.getElem?_cons_succ] at h;simp only [List.map_cons,List.nodup_cons] at hn;simp only [List.set_cons_succ,Es];have hmem:k∈l.map Fq:=List.mem_map.2 ⟨e,List.mem_of_getElem? h,hk⟩;by_cases hx:Fq x=q
  ·rw [if_pos hx,if_pos hx,if_neg];intro e';rw [hx,e'] at hn;exact hn.1 hmem
  ·rw [if_neg hx,if_neg hx];have ih:=Xu (q:=q) (v:=v) h hk hn.2;rw [Jj (j:=0),ih,Jj (i:=0+1) (j:=0)]
theorem UD {k:IX}{v:Value}:∀{l:List MapEntry} {n:Nat} {e:MapEntry},l[n]? =some e→Fq e=k→(l.set n {e with key:=FH k,val:=v}).map Fq=l.map Fq
 |[],n,e,h,_=>by simp at h
 |x::l,0,e,h,hk=>by
  simp only [List.getElem?_cons_zero,Option.some.injEq] at h;subst h;simp [Fq,FH] at hk ⊢;exact hk.symm
 |x::l,n+1,e,h,hk=>by
  simp only [List.getElem?_cons_succ] at h;simp only [List.set_cons_succ,List.map_cons,UD h hk]
theorem Qw {k:IX}{v:Value}:∀{l:List MapEntry} {n:Nat} {e:MapEntry},l[n]? =some e→(l.set n {e with key:=FH k,val:=v}).map (·.born)=l.map (·.born)
 |[],n,e,h=>by simp at h
 |x::l,0,e,h=>by
  simp only [List.getElem?_cons_zero,Option.some.injEq] at h;subst h;simp
 |x::l,n+1,e,h=>by
  simp only [List.getElem?_cons_succ] at h;simp only [List.set_cons_succ,List.map_cons,Qw (k:=k) h]
def ACQ (k:IX)(v:Value)(es:Array MapEntry)(clock:Nat):Obj:=match Es k es.toList 0 with
 |some (i,_)=>.map (es.modify i fun e=>{e with key:=FH k,val:=v}) clock
 |none=>.map (es.push {key:=FH k,val:=v,born:=clock}) (clock+1)
theorem MapSi.put {es:Array MapEntry}{clock:Nat}{m:IX→Option Value}(h:MapSi es clock m)(k:IX)(v:Value):∃es' clock',ACQ k v es clock= .map es' clock'∧MapSi es' clock' (EU m k (some v)):=by
 unfold ACQ;cases hf:Es k es.toList 0 with
 |none=>
  refine ⟨_,_,rfl,?_⟩;have hn:=fnd_nonei.1 hf;have hl:(es.push {key:=FH k,val:=v,born:=clock}).toList=es.toList++[{key:=FH k,val:=v,born:=clock}]:=by simp
  have hko:Fq {key:=FH k,val:=v,born:=clock}=k:=by simp [Fq,FH]
  refine ⟨fun e he=>?_,?_,fun e he=>?_,?_,fun q=>?_⟩
  ·rw [hl] at he;rcases List.mem_append.1 he with he|he
   ·exact h.str e he
   ·simp only [List.mem_singleton] at he;subst he;exact ⟨_,rfl⟩
  ·rw [hl,List.map_append,List.nodup_append];refine ⟨h.nod,by simp,fun a ha b hb=>?_⟩;simp only [List.map_cons,List.map_nil,List.mem_singleton,hko] at hb;subst hb;exact fun e=>hn (e ▸ ha)
  ·rw [hl] at he;rcases List.mem_append.1 he with he|he
   ·have:=h.brn e he;omega
   ·simp only [List.mem_singleton] at he;subst he;simp
  ·rw [hl,List.map_append,List.nodup_append];refine ⟨h.bnd,by simp,fun a ha b hb=>?_⟩;simp only [List.map_cons,List.map_nil,List.mem_singleton] at hb;subst hb;obtain ⟨e,he,rfl⟩:=List.mem_map.1 ha;have:=h.brn e he;omega
  ·rw [hl,Ot,←h.val q];unfold EU;by_cases e:q=k
   ·subst e;rw [if_pos rfl,h.val q,hf];simp [Es,hko]
   ·rw [if_neg e];have hf0:Es q [{key:=FH k,val:=v,born:=clock}] 0=none:=by
     simp only [Es,hko];rw [if_neg (fun e'=>e (Eq.symm e'))]
    rw [hf0];cases m q <;> rfl
 |some p=>
  obtain ⟨i,u⟩:=p;obtain ⟨n,e,h1,h2,h3,h4⟩:=Uf hf;obtain rfl:i=n:=by omega
  refine ⟨_,_,rfl,?_⟩;have hl:=Rl (f:=fun e=>{e with key:=FH k,val:=v}) h2;refine ⟨fun x hx=>?_,?_,fun x hx=>?_,?_,fun q=>?_⟩
  ·rw [hl] at hx;rcases List.mem_or_eq_of_mem_set hx with hx|rfl
   ·exact h.str x hx
   ·exact ⟨_,rfl⟩
  ·rw [hl,UD h2 h3];exact h.nod
  ·rw [hl] at hx;rcases List.mem_or_eq_of_mem_set hx with hx|rfl
   ·exact h.brn x hx
   ·exact h.brn e (List.mem_of_getElem? h2)
  ·rw [hl,Qw (k:=k) h2];exact h.bnd
  ·rw [hl,Xu h2 h3 h.nod,←h.val q];rfl
section rules
variable {I:Imm}{L:LH}{K:Value→M}{b:Nat}{es:Array MapEntry}{clock:Nat}{m:IX→Option Value}{k:IX}{v:Value}{S:M}
theorem AOR {zero:Value}{ok:Bool}(h:MapSi es clock m):(match Es k es.toList 0 with
  |some (_,u)=>if ok then .tuple #[u,.bool true] else u
  |none=>if ok then .tuple #[zero,.bool false] else zero)=lkV zero ok (m k):=by
 rw [h.val k];cases Es k es.toList 0 <;> rfl
theorem AOS {zero:Value}{ok:Bool}(ha:MapAt I L b es clock)(h:MapSi es clock m):lkR (.int .i64) zero ok (.map (some b)) (FH k) I L (lkV zero ok (m k)):=
 ⟨es,_,.inr ⟨b,clock,rfl,ha⟩,h.find k,(AOR h).symm⟩
theorem ASO {zero:Value}{ok:Bool}[hin:InL b L (.map es clock)](h:MapSi es clock m)(hk:K (lkV zero ok (m k)) I L):Rv none (lkR (.int .i64) zero ok (.map (some b)) (FH k)) K I L:=
 ⟨_,AOS (.inl hin.mem) h,hk⟩
theorem Fj {L':LH}{es':Array MapEntry}{clock':Nat}(h:MapSi es clock m)(he:ACQ k v es clock= .map es' clock')[u:UpL b L (.map es clock) (.map es' clock') L'](hk:K undef I L'):
  ER (.int .i64) (.map (some b)) (FH k) v K I L:=by
 obtain ⟨L1,L2,rfl,rfl⟩:=u.up;refine ⟨b,es,clock,L1,L2,_,rfl,rfl,h.find k,?_⟩;unfold ACQ at he;cases hf:Es k es.toList 0 with
 |none=>rw [hf] at he;simp only at he ⊢;rw [he];exact hk
 |some p=>obtain ⟨i,w⟩:=p;rw [hf] at he;simp only at he ⊢;rw [he];exact hk
end rules
section iter
variable {I:Imm}{L0:LH}{K:Value→M}{b r clock:Nat}{es:Array MapEntry}{m:IX→Option Value}{vis:List MapEntry}
end iter
end Go.SL
namespace Go.Proofs.YtkifgfanjcfedaaGreatDoor
open Go.SL
class Foc (b:Nat) (L:LH) (o:outParam Obj) (C:outParam (Obj→LH)):Prop where
 foc:∃L1 L2,L=L1++(b,o)::L2∧C=fun o'=>L1++(b,o')::L2
instance focRight (b:Nat)(A L:LH)(o:Obj)(C:Obj→LH)[h:Foc b L o C]:Foc b (A++L) o (fun o'=>A++C o'):=by
 obtain ⟨L1,L2,rfl,rfl⟩:=h.foc;exact ⟨A++L1,L2,by simp,by simp⟩
instance focThere (b:Nat)(x:Nat×Obj)(L:LH)(o:Obj)(C:Obj→LH)[h:Foc b L o C]:Foc b (x::L) o (fun o'=>x::C o'):=by
 obtain ⟨L1,L2,rfl,rfl⟩:=h.foc;exact ⟨x::L1,L2,rfl,rfl⟩
instance focHere (b:Nat)(L:LH)(o:Obj):Foc b ((b,o)::L) o (fun o'=>(b,o')::L):=⟨[],L,rfl,rfl⟩
instance (priority:=95) lsubCC (L L':LH)(y:Nat×Obj)[h:LSub L L']:LSub (y::L) (y::L'):=⟨fun x hx=>by
 rcases List.mem_cons.1 hx with rfl|hx
 ·exact List.mem_cons_self ..
 ·exact List.mem_cons_of_mem _ (h.sub x hx)⟩
instance (priority:=95) lsubAA (A L L':LH)[h:LSub L L']:LSub (A++L) (A++L'):=⟨fun x hx=>by
 rcases List.mem_append.1 hx with hx|hx
 ·exact List.mem_append_left _ hx
 ·exact List.mem_append_right _ (h.sub x hx)⟩
instance delApp (b:Nat)(A L X:LH)[h:DelB b L X]:DelB b (A++L) (A++X):=⟨fun x hx=>by
 rcases List.mem_append.1 hx with hx|hx
 ·exact List.mem_append_left _ hx
 ·exact List.mem_append_right _ (h.sub x hx)⟩
theorem CB {I:Imm}{L X:LH}{B:M→M}{b:Nat}[h:DelB b L X](hB:B (Stay I X) I L):CP B I L:=draw _ ⟨Ext.refl I,h.sub⟩ hB
section
variable {α:Type}{R:Imm→α→List Value→Prop}{I:Imm}{L:LH}{K:Value→M}
theorem UI {R:α→List Value→Prop}{n:Nat}:∀{xs:List α} {cs:List (List Value)},(∀c∈cs,c.length=n)→xs.length=cs.length→(∀p∈xs.zip cs,R p.1 p.2)→Recs R n xs cs.flatten
 |[],[],_,_,_=>rfl
 |x::xs,c::cs,h1,h2,h3=>by
  have hc:=h1 c (List.mem_cons_self ..);rw [List.flatten_cons];exact Recs.append (Recs.one hc (h3 (x,c) (List.mem_cons_self ..))) (UI (fun d hd=>h1 d (List.mem_cons_of_mem _ hd)) (by simpa using h2) (fun p hp=>h3 p (List.mem_cons_of_mem _ hp)))
theorem EP {T n len:Nat}{z:Array Value}{parts:List (Nat×Value)}(xs:List α)(cs:List (List Value))(hp:parts=Yd 0 (cs.map fun c=>.agg c.toArray))(hl:cs.length=len)(hx:xs.length=cs.length)(hn:∀c∈cs,c.length=n)
  (hR:∀p∈xs.zip cs,R I p.1 p.2) (hm:∀{I I':Imm} {x:α} {c:List Value},Ext I I'→R I x c→R I' x c)
  (hk:∀I' a,Ext I I'→RL R n I' [] (.slice a len len) xs→Gh (K (.slice a len len)) I' L):AX T n z len parts (gh K) I L:=by
 refine ACw (cs.map fun c=>.agg c.toArray) hp (by simp [hl]) (by simp only [List.mem_map];rintro v ⟨c,hc,rfl⟩;simpa [Value.cells] using hn c hc) (fun I' a hI hS=>hk I' a hI ?_);subst hl;rw [←hx] at hS ⊢;refine RL.ofI hS ?_;have:(cs.map fun c=>Value.agg c.toArray).flatMap (·.cells.toList)=cs.flatten:=by
  clear hS hp hn hR hx hk;induction cs with
  |nil=>rfl
  |cons c cs ih=>
   rw [List.map_cons,List.flatMap_cons,List.flatten_cons,ih];rfl
 rw [this];exact UI hn hx fun p hp=>hm hI (hR p hp)
theorem EO {T len:Nat}{z:Array Value}{parts:List (Nat×Value)}(xs:List Bs)(hp:parts=Yd 0 (xs.map fun c=>.string ⟨c.toArray⟩))(hl:xs.length=len)
  (hk:∀I' a,Ext I I'→StL I' (.slice a len len) xs→Gh (K (.slice a len len)) I' L):AX T 1 z len parts (gh K) I L:=by
 refine ACw (n:=1) (xs.map fun c=>.string ⟨c.toArray⟩) hp (by simp [hl]) (by simp only [List.mem_map];rintro v ⟨c,hc,rfl⟩;rfl) (fun I' a hI hS=>hk I' a hI ?_);subst hl;refine RL.ofI hS ?_;clear hS hp hk;induction xs with
 |nil=>rfl
 |cons c cs ih=>exact ⟨rfl,rfl,ih⟩
end
def TokV (_:Imm)(t:Tok)(c:List Value):Prop:=c=[.int .i64 t.kind,.int .i64 t.at',.string ⟨t.text.toArray⟩,.int .i64 t.num]
theorem TokV.mono {I I':Imm}{t:Tok}{c:List Value}(h:TokV I t c):TokV I' t c:=h
abbrev TL (I:Imm)(v:Value)(l:List Tok):Prop:=RL TokV 4 I [] v l
theorem TL.mono {I I':Imm}{v:Value}{l:List Tok}(h:TL I v l)(hI:Ext I I'):TL I' v l:=RL.mono (fun _ _ h=>TokV.mono h) h hI (fun _ h=>h)
def ADA (t:Tok):Prop:=t.kind≠6∧(t.kind=2→t.text∈wordsL)∧(t.kind=5→t.text∈signsL)∧(t.kind=3→0≤t.num∧t.num≤9223372036854775807)
def Toks:List Tok→Prop
 |[]=>False
 |[t]=>t.kind=6
 |t::u::l=>ADA t∧Toks (u::l)
theorem Toks.ne {l:List Tok}(h:Toks l):∃t r,l=t::r:=by
 match l,h with
 |t::r,_=>exact ⟨t,r,rfl⟩
theorem Toks.tail {l:List Tok}(h:Toks l)(hk:(hd l).kind≠6):Toks l.tail:=by
 match l,h with
 |[t],h=>exact absurd h hk
 |t::u::r,h=>exact h.2
theorem AHr {l:List Tok}{s:Bs}(h:isT l s=true):(hd l).kind≠6:=by
 simp only [isT,Bool.and_eq_true,Bool.or_eq_true,beq_iff_eq] at h;rcases h.1 with h|h <;> omega
theorem Toks.tailT {l:List Tok}{s:Bs}(h:Toks l)(hs:isT l s=true):Toks l.tail:=h.tail (AHr hs)
theorem AHt {l:List Tok}{k:Int}(h:isK l k=true):(hd l).kind=k:=by simpa [isK] using h
theorem Toks.tailK {l:List Tok}{k:Int}(h:Toks l)(hs:isK l k=true)(hk:k≠6:=by decide):Toks l.tail:=h.tail (by rw [AHt hs];exact hk)
theorem Toks.len {l:List Tok}(h:Toks l):l.tail.length+1=l.length:=by
 obtain ⟨t,r,rfl⟩:=h.ne;rfl
abbrev PBo (v:Value):Obj:=.cells [v].toArray 91 (0,0)
def GG (e:Nat):Value:=.iface 87 (.agg #[.int .i64 e])
abbrev AP (b:Nat):Value:=.pointer (some ⟨b,0,none⟩)
abbrev POk {α:Type}(g:Res α)(V:Imm→α→Value→Prop)(n:Nat)(K:Value→M)(C:Obj→LH)(I:Imm):Prop:=
 ∀x r,g= .ok x r→Toks r→r.length≤n→∀I' v' c,Ext I I'→TL I' v' r→V I' x c→K c I' (C (PBo v'))
abbrev PEr {α:Type}(g:Res α)(Pn:Value→M)(C:Obj→LH)(I:Imm):Prop:=∀e,g= .err e→∀I' v',Ext I I'→Pn (GG e) I' (C (PBo v'))
section
variable {ω:Om}{I:Imm}{L:LH}{K Pn:Value→M}{C:Obj→LH}{b:Nat}{v:Value}{l:List Tok}
theorem TL.hd (h:TL I v l)(hT:Toks l):∃bt off,ixV 4 v (.int .i64 0)=some (.pointer (some ⟨bt,off,none⟩))∧∀I' L',Ext I I'→Cells I' L' bt off [.int .i64 (hd l).kind,.int .i64 (hd l).at',.string ⟨(hd l).text.toArray⟩,.int .i64 (hd l).num]:=by
 obtain ⟨t,r,rfl⟩:=hT.ne;obtain ⟨bt,off,c,h1,_,h2,h3⟩:=RL.ix h (i:=0) (by omega) (by simp);refine ⟨bt,off,h1,fun I' L' hI=>?_⟩;have:PN (t::r) 0=t:=rfl;rw [this] at h2;rw [show c=_ from h2] at h3;exact h3 I' L' hI (fun _ h=>by cases h)
theorem TL.tl (h:TL I v l)(hT:Toks l):∃v',Hu 4 v (some (.int .i64 1)) none none=some v'∧v'.oneCell'=true∧TL I v' l.tail:=by
 obtain ⟨t,r,rfl⟩:=hT.ne;obtain ⟨v',h1,h2⟩:=RL.part h (lo:=1) (hi:=(t::r).length) (by simp) (Nat.le_refl _) (some (.int .i64 1)) none (by simp [EC];omega) (fun cap hc=>by simp [EC]);refine ⟨v',h1,?_,by simpa using h2⟩;obtain ⟨a,c,rfl⟩:=h2.form;rfl
theorem zqa {P Q:Prop}(k:Q)(h:Q→P:=by intro hq;first|(with_reducible refine EM ?_;exact hq)|(with_reducible refine OX ?_;exact hq)|(with_reducible refine OW ?_;exact hq)|(with_reducible refine keepA ?_;exact hq)):P:=h k
theorem zqr {P Q:Prop}(k:Q)(h:Q→P:=by intro hq;first|(with_reducible refine rdb ?_;exact hq)):P:=h k
theorem zqb {P Q:Prop}(k:Q)(h:Q→P:=by intro hq;first|((with_reducible first|refine st1 ?_ ?_|refine rdB ?_ ?_);rfl;exact hq)|(with_reducible refine Dt ?_;exact hq)|((with_reducible refine RH ?_ ?_);rfl;exact hq)|((with_reducible refine stB ?_ ?_ ?_ ?_);rfl;rfl;exact Au rfl;exact hq)|((with_reducible first|refine rdP _ rfl ?_ ?_|refine AHE _ rfl ?_ ?_);rfl;exact hq)|((with_reducible refine stP _ rfl ?_ ?_ ?_ ?_);rfl;rfl;rfl;exact hq)):P:=h k
theorem zqc {P Q:Prop}(k:Q)(h:Q→P:=by intro hq;first|(simp only [SSg,Int.reduceBEq,Int.reduceBNe,Int.reduceLT,Int.reduceLE,beq_self_eq_true,bne_self_eq_false];exact hq)):P:=h k
theorem zqe {P Q:Prop}(k:Q)(h:Q→P:=by intro hq;first|(simp only [SSd,Nat.reduceAdd];exact hq)):P:=h k
theorem zqg {P A B C D:Prop}(k:A→C)(l:B→D)(h:(A→C)→(B→D)→P:=by intro h1 h2;with_reducible first|exact Bc h1 h2|exact AB h1 h2):P:=h k l
theorem zqh {P:Prop}{α:Type}{Q:α→Prop}(k:∀x,Q x)(h:(∀x,Q x)→P:=by intro h;with_reducible exact Ad h):P:=h k
theorem zqi {P A B:Prop}(k:A)(l:B)(h:A→B→P:=by intro h1 h2;with_reducible exact And.intro h1 h2):P:=h k l
theorem Jh (s:Bs)[hF:Foc b L (PBo v) C](h:TL I v l)(hT:Toks l)(ht:isT l s=true→K (.bool true) I L)(hf:isT l s=false→K (.bool false) I L):CT ω 45 #[AP b,.string ⟨s.toArray⟩] K I L:=by
 obtain ⟨L1,L2,rfl,rfl⟩:=hF.foc;obtain ⟨bt,off,h1,h2⟩:=h.hd hT;refine ATI ?_;unfold ARo;have hk:∀{x:Bool} {L':LH},(isT l s=x)→SubP (L1++(b,PBo v)::L2) L'→Gh (K (.bool x)) I L':=by
  intro x L' hx hs;refine Gh.to (L1++(b,PBo v)::L2) (Gh.done ?_);cases x
  ·exact hf hx
  ·exact ht hx
 simp only [PBo];repeat' (first|refine zqa ?_|refine zqh (fun _=>?_)|(refine Ed (h2 _ [] (Ext.refl _)) (Ext.refl _) rfl ?_)|refine zqr ?_|refine zqb ?_|refine zqi ?_ ?_|refine zqc ?_|refine zqg (fun _=>?_) (fun _=>?_)|(simp only [SSd,Nat.reduceAdd,h1]))
 all_goals (first|exact hk (by simp_all [isT]) inferInstance|skip)
theorem Ae [hF:Foc b L (PBo v) C](h:TL I v l)(hT:Toks l)(hp:Pn (GG (hd l).at') I L):CalP Tryz.prog ω 46 #[AP b] K Pn I L:=by
 obtain ⟨L1,L2,rfl,rfl⟩:=hF.foc;obtain ⟨bt,off,h1,h2⟩:=h.hd hT;refine ATH ?_;unfold ARn;have hp:Gh (Pn (GG (hd l).at')) I (L1++(b,PBo v)::L2):=Gh.done hp;simp only [PBo] at hp ⊢;repeat' (first|refine zqa ?_|refine zqh (fun _=>?_)|(refine rd1 ((h2 _ [] (Ext.refl _) 1 _ rfl).mono (Ext.refl _) (fun _ h=>by cases h)) ?_)|refine zqr ?_|refine zqb ?_|refine zqi ?_ ?_|refine zqc ?_|refine zqg (fun _=>?_) (fun _=>?_)|(simp only [SSd,Nat.reduceAdd,h1]))
 exact hp
theorem Iw [hF:Foc b L (PBo v) C](h:TL I v l)(hT:Toks l)(hk:∀v',TL I v' l.tail→K (.agg #[.int .i64 (hd l).kind,.int .i64 (hd l).at',.string ⟨(hd l).text.toArray⟩,.int .i64 (hd l).num]) I (C (PBo v'))):
  CT ω 93 #[AP b] K I L:=by
 obtain ⟨L1,L2,rfl,rfl⟩:=hF.foc;obtain ⟨bt,off,h1,h2⟩:=h.hd hT;obtain ⟨v',h3,h4,h5⟩:=h.tl hT;have hk:Gh (K (.agg #[.int .i64 (hd l).kind,.int .i64 (hd l).at',.string ⟨(hd l).text.toArray⟩,.int .i64 (hd l).num])) I (L1++(b,PBo v')::L2):=Gh.done (hk v' h5);refine ASk ?_;unfold ARQ;simp only [PBo] at hk ⊢;repeat' (first|refine zqa ?_|refine zqh (fun _=>?_)|(refine Ed (h2 _ [] (Ext.refl _)) (Ext.refl _) rfl ?_)|((with_reducible refine st1 ?_ ?_);exact h4)|refine zqr ?_|refine zqb ?_|refine zqi ?_ ?_|refine zqc ?_|refine zqg (fun _=>?_) (fun _=>?_)|(simp only [SSd,Nat.reduceAdd,h1,h3]))
 exact Gh.to _ hk
end
section
variable {ω:Om}{I:Imm}{L:LH}{K Pn:Value→M}{C:Obj→LH}{b:Nat}{v:Value}{l:List Tok}
theorem Ey (s:Bs)[hF:Foc b L (PBo v) C](h:TL I v l)(hT:Toks l)(ht:isT l s=true→∀v',TL I v' l.tail→K (.bool true) I (C (PBo v')))(hf:isT l s=false→K (.bool false) I L):CT ω 43 #[AP b,.string ⟨s.toArray⟩] K I L:=by
 refine ATK ?_;unfold ARp;refine call (Jh s h hT (fun hb=>?_) (fun hb=>?_))
 ·try refine zqe ?_
  exact call (Iw h hT (fun v' hv=>Gh.done (ht hb v' hv)))
 ·try refine zqe ?_
  exact Gh.done (hf hb)
def GH:List Bs→Pr Unit
 |[],l=>.ok () l
 |s::ss,l=>(AO s l).bind fun _ r=>GH ss r
theorem TW (ws:List Bs){w:Value}(hw:StL I w ws)(hws:ws.length < 1000)[hF:Foc b L (PBo v) C](h:TL I v l)(hT:Toks l)
  (hok:∀r,GH ws l= .ok () r→Toks r→r.length≤l.length→∀v',TL I v' r→K (.tuple #[]) I (C (PBo v'))) (herr:∀e,GH ws l= .err e→∀v',Pn (GG e) I (C (PBo v'))):
  CalP Tryz.prog ω 95 #[AP b,w] K Pn I L:=by
 obtain ⟨L1,L2,rfl,rfl⟩:=hF.foc;refine ASi ?_;unfold ARO;simp only [RL.len hw,SSd,Nat.reduceAdd];refine loop (fun m s I' L'=>∃(k:Nat) (v':Value) (l':List Tok),k+m=ws.length∧s=(.int .i64 k,())∧I'=I∧L'=L1++(b,PBo v')::L2∧GH ws l=GH (ws.drop k) l'∧Toks l'∧l'.length≤l.length∧TL I v' l') ws.length ⟨0,v,l,by omega,rfl,rfl,rfl,rfl,hT,Nat.le_refl _,h⟩ ?_;rintro m s I' L' ⟨k,v',l',hkm,rfl,rfl,rfl,hg,hT',hlen,hTL⟩;unfold AFY;try refine zqe ?_
 refine AB (fun hlt=>?_) (fun hlt=>?_)
 ·simp at hlt;have hlt:k < ws.length:=by omega
  obtain ⟨bw,off,c,h1,_,h2,h3⟩:=RL.ix hw (i:=k) (by omega) (by omega);rw [Ah hlt] at h2;obtain rfl:=h2;have hdr:ws.drop k=ws[k]::ws.drop (k+1):=List.drop_eq_getElem_cons hlt;rw [hdr] at hg;simp only [h1,SSd,Nat.reduceAdd];refine rd1 ((h3 _ [] (Ext.refl _) (fun _ h=>h) 0 _ rfl).mono (Ext.refl _) (fun _ h=>by cases h)) ?_;refine Ak (Ey ws[k] hTL hT' (fun hb v2 hv2=>?_) (fun hb=>?_))
  ·try refine zqe ?_
   unfold ZE;simp only [SSd,Nat.reduceAdd,wrap_i64 ((k:Int)+1) (by omega)];refine Gh.done ⟨m - 1,by omega,k+1,v2,l'.tail,by omega,rfl,rfl,rfl,?_,hT'.tailT hb,?_,hv2⟩
   ·rw [hg];simp only [GH,AO,hb,if_true,Res.bind]
   ·have:=hT'.len;omega
  ·try refine zqe ?_
   refine AV (Ae hTL hT' (Gh.done (herr _ ?_ v')));rw [hg];simp [GH,AO,hb,Res.bind,bad]
 ·simp at hlt;have:ws.drop k=[]:=List.drop_eq_nil_of_le (by omega);rw [this] at hg;exact Gh.done (hok l' hg hT' hlen v' hTL)
abbrev ATu (t:Tok):Value:=.agg #[.int .i64 t.kind,.int .i64 t.at',.string ⟨t.text.toArray⟩,.int .i64 t.num]
theorem Vk (k:Int)(hk6:k≠6)[hF:Foc b L (PBo v) C](h:TL I v l)(hT:Toks l)
  (hok:isK l k=true→∀v',TL I v' l.tail→K (ATu (hd l)) I (C (PBo v'))) (herr:isK l k=false→Pn (GG (hd l).at') I L):
  CalP Tryz.prog ω 152 #[AP b,.int .i64 k] K Pn I L:=by
 obtain ⟨L1,L2,rfl,rfl⟩:=hF.foc;obtain ⟨bt,off,h1,h2⟩:=h.hd hT;refine AQD ?_;unfold AMZ;repeat' (first|refine zqa ?_|refine zqh (fun _=>?_)|(refine rd1 ((h2 _ [] (Ext.refl _) 0 _ rfl).mono (Ext.refl _) (fun _ h=>by cases h)) ?_)|refine zqr ?_|refine zqb ?_|refine zqi ?_ ?_|refine zqc ?_|refine zqg (fun _=>?_) (fun _=>?_)|(simp only [SSd,Nat.reduceAdd,h1]))
 ·rename_i hb
  refine AV (Ae h hT (Gh.to (L1++(b,PBo v)::L2) (Gh.done (herr ?_))));simpa [isK] using hb
 ·rename_i hb
  have hb:isK l k=true:=by simpa [isK] using hb
  unfold VM;refine Ak (Iw h hT (fun v' hv'=>?_));repeat' (first|refine zqa ?_|refine zqh (fun _=>?_)|refine zqr ?_|refine zqb ?_|refine zqi ?_ ?_|refine zqc ?_|refine zqg (fun _=>?_) (fun _=>?_)|refine zqe ?_|fail)
  exact Gh.to (L1++(b,PBo v')::L2) (Gh.done (hok hb v' hv'))
theorem AEF [hF:Foc b L (PBo v) C](h:TL I v l)(hT:Toks l)
  (hok:isK l 1=true→∀v',TL I v' l.tail→K (.string ⟨(hd l).text.toArray⟩) I (C (PBo v'))) (herr:isK l 1=false→Pn (GG (hd l).at') I L):
  CalP Tryz.prog ω 96 #[AP b] K Pn I L:=by
 refine ASh ?_;unfold ARN;refine AV (Vk 1 (by decide) h hT (fun hb v' hv'=>?_) (fun hb=>Gh.done (herr hb)));try refine zqe ?_
 exact Gh.done (hok hb v' hv')
end
theorem Lt {p:UInt8→Bool}(h:(List.range 256).all (fun n=>p (UInt8.ofNat n))=true)(c:UInt8):p c=true:=by
 have:=List.all_eq_true.1 h c.toNat (List.mem_range.2 c.toNat_lt);simpa using this
theorem ixS (s:Bs){a:Nat}{c:UInt8}(h:s[a]? =some c):DN (.string ⟨s.toArray⟩) (.int .i64 (a:Nat))=some (.int .u8 c.toNat):=by
 obtain ⟨hlt,rfl⟩:=List.getElem?_eq_some_iff.1 h;have:(⟨s.toArray⟩:ByteArray)[a]? =some s[a]:=by
  rw [getElem?_pos _ _ (by simpa [ByteArray.size] using hlt)];rfl
 simp [DN,this]
theorem MW (s:Bs)(a b:Nat):(⟨s.toArray⟩:ByteArray).extract a b=⟨((s.drop a).take (b - a)).toArray⟩:=by
 apply ByteArray.ext
 simp [ByteArray.data_extract]
theorem slS (s:Bs){a b:Nat}(h1:a≤b)(h2:b≤s.length):DK (.string ⟨s.toArray⟩) (some (.int .i64 (a:Nat))) (some (.int .i64 (b:Nat)))=some (.string ⟨((s.drop a).take (b - a)).toArray⟩):=by
 have hs:(⟨s.toArray⟩:ByteArray).size=s.length:=rfl;simp [DK,EC,hs,h1,h2,MW]
theorem ARI (s:Bs){b:Nat}(h2:b≤s.length):DK (.string ⟨s.toArray⟩) none (some (.int .i64 (b:Nat)))=some (.string ⟨(s.take b).toArray⟩):=by
 have hs:(⟨s.toArray⟩:ByteArray).size=s.length:=rfl;simp [DK,EC,hs,h2,MW]
theorem Yw (s:Bs){a:Nat}(h1:a≤s.length):DK (.string ⟨s.toArray⟩) (some (.int .i64 (a:Nat))) none=some (.string ⟨(s.drop a).toArray⟩):=by
 have hs:(⟨s.toArray⟩:ByteArray).size=s.length:=rfl;have:List.take (s.length - a) (s.drop a)=s.drop a:=List.take_of_length_le (by simp);simp [DK,EC,hs,h1,MW,this]
section
variable {ω:Om}{I:Imm}{L:LH}{K Pn:Value→M}
theorem FD (c:UInt8)(hk:K (.bool (BP c)) I L):CT ω 135 #[.int .u8 c.toNat] K I L:=by
 refine AQU ?_;unfold AMm;have ht:=Lt (p:=fun c=>(BP c==(((c.toNat:Int)==95)||(decide (97≤IU .or .u8 c.toNat 32)&&decide (IU .or .u8 c.toNat 32≤122))))) (by decide+kernel) c;have ht:=eq_of_beq ht;rw [ht] at hk;repeat' (first|refine zqa ?_|refine zqh (fun _=>?_)|refine zqr ?_|refine zqb ?_|refine zqi ?_ ?_|refine zqc ?_|refine zqg (fun _=>?_) (fun _=>?_)|refine zqe ?_|fail)
 all_goals (refine Gh.done ?_;simp_all)
theorem Et (c:UInt8)(hk:K (.bool (BC c)) I L):CT ω 140 #[.int .u8 c.toNat] K I L:=by
 refine AQP ?_;unfold AMi;have ht:=Lt (p:=fun c=>(BC c==(decide ((48:Int)≤c.toNat)&&decide ((c.toNat:Int)≤57)))) (by decide+kernel) c;have ht:=eq_of_beq ht;rw [ht] at hk;repeat' (first|refine zqa ?_|refine zqh (fun _=>?_)|refine zqr ?_|refine zqb ?_|refine zqi ?_ ?_|refine zqc ?_|refine zqg (fun _=>?_) (fun _=>?_)|refine zqe ?_|fail)
 all_goals (refine Gh.done ?_;simp_all)
def KW (l:Bs)(c:UInt8):Int:=match l.findIdx? (·==c) with
 |some i=>i
 |none=> -1
theorem WG (l:Bs)(i:Nat)(h:i < l.length):(⟨l.toArray⟩:ByteArray)[i]! =l[i]:=by
 rw [getElem!_pos _ _ (by simpa [ByteArray.size] using h)];rfl
theorem Xy (l:Bs)(c:UInt8):(List.range (⟨l.toArray⟩:ByteArray).size).find? (fun i=>(⟨l.toArray⟩:ByteArray)[i]! ==c)=l.findIdx? (·==c):=by
 have hs:(⟨l.toArray⟩:ByteArray).size=l.length:=rfl;cases h:l.findIdx? (·==c) with
 |none=>
  rw [List.find?_eq_none];intro i hi;rw [hs,List.mem_range] at hi;rw [WG _ _ hi];have:=List.findIdx?_eq_none_iff.1 h l[i] (List.getElem_mem hi);simpa using this
 |some i=>
  obtain ⟨hi,h1,h2⟩:=List.findIdx?_eq_some_iff_getElem.1 h;rw [List.find?_range_eq_some];refine ⟨by rw [WG _ _ hi];exact h1,by rw [hs];simpa using hi,fun j hj=>?_⟩;rw [WG _ _ (by omega)];have:=h2 j hj;simpa using this
theorem KU (l:Bs)(c:UInt8)(hk:K (.int .i64 (KW l c)) I L):CT ω 133 #[.string ⟨l.toArray⟩,.int .u8 c.toNat] K I L:=by
 refine AQW ?_;unfold AMo;refine call ?_;refine AIa ?_;unfold AGJ;refine ExtE.ret ⟨_,fun w hs=>?_,Gh.done (Gh.done (Gh.done hk))⟩;show Sem.run _ (do
  let b ←Extern.Bytes.bytesOf (.string ⟨l.toArray⟩)
  let c ←Extern.Bytes.asByte (.int .u8 c.toNat)
  match (List.range b.size).find? fun i=>b[i]! ==c with
  |some i=>pure (goInt i)
  |none=>pure (goInt (-1))) w=_
 have hc:((c.toNat:Int).toNat).toUInt8=c:=by simp
 simp only [Sem.run_bind,Extern.Bytes.bytesOf,Result.andThen_ok,Extern.Bytes.asByte,Sem.run_pure,hc,Xy];unfold KW;cases l.findIdx? (·==c) <;> rfl
end
abbrev LBo (s:Bs)(a:Nat)(w:Value):Obj:=.cells [.string ⟨s.toArray⟩,.int .i64 (a:Nat),w].toArray 145 (0,0)
theorem Tt:∀l:Bs,BJ true l=match l.findIdx? (·==10) with
  |some n=>BJ false (l.drop n)
  |none=>[]
 |[]=>rfl
 |c::r=>by
  have ih:=Tt r;simp only [BJ,List.findIdx?_cons];by_cases hc:(c==10)=true
  ·have hc':c=10:=by simpa using hc
   subst hc';simp [BJ,FI]
  ·simp only [hc,Bool.false_eq_true,if_false];rw [ih];cases r.findIdx? (·==10) <;> rfl
def ATb:Bs:=[9,10,12,13,32]
theorem ALR (c:UInt8):decide ((0:Int)≤KW ATb c)=FI c:=by
 have:=Lt (p:=fun c=>(decide ((0:Int)≤KW ATb c)==FI c)) (by decide+kernel) c;exact eq_of_beq this
theorem KY {ω:Om}{I:Imm}{L:LH}{K:Value→M}(s p:Bs)(hs:s.length≤1000000000)(hp:p.length≤1000000000)(hk:K (.bool (p.isPrefixOf s)) I L):CT ω 134 #[.string ⟨s.toArray⟩,.string ⟨p.toArray⟩] K I L:=by
 refine AQV ?_;unfold AMn;refine call ?_;refine APg ?_;unfold AMG;have hk':Gh (Gh (K (.bool (p.isPrefixOf s)))) I L:=Gh.done (Gh.done hk);try refine zqe ?_
 refine Bc (fun hb=>?_) (fun hb=>?_)
 ·have hb:p.length≤s.length:=by simpa using hb
  simp only [ARI s hb,SSd,Nat.reduceAdd];have:(s.take p.length==p)=p.isPrefixOf s:=by
   rw [Bool.eq_iff_iff];simp only [beq_iff_eq,List.isPrefixOf_iff_prefix];constructor
   ·intro e;rw [←e];exact List.take_prefix _ _
   ·intro e;exact (List.prefix_iff_eq_take.1 e).symm
  rw [this];exact hk'
 ·have hb:¬p.length≤s.length:=by simpa using hb
  have:p.isPrefixOf s=false:=by
   cases h:p.isPrefixOf s with
   |false=>rfl
   |true=>exact absurd (List.isPrefixOf_iff_prefix.1 h).length_le hb
  rw [this] at hk';exact hk'
section
variable {ω:Om}{I:Imm}{L:LH}{K:Value→M}{C:Obj→LH}{b:Nat}{w:Value}{s:Bs}{a:Nat}
theorem SN {s:Bs}{a:Nat}(h:a < s.length):∃c,s[a]? =some c∧s.drop a=c::s.drop (a+1):=⟨s[a],List.getElem?_eq_getElem h,List.drop_eq_getElem_cons h⟩
theorem UQ [hF:Foc b L (LBo s a w) C](ha:a≤s.length)(hs:s.length≤900000000)(hk:∀a',a≤a'→a'≤s.length→s.drop a'=BJ false (s.drop a)→K (.tuple #[]) I (C (LBo s a' w))):CT ω 91 #[AP b] K I L:=by
 obtain ⟨L1,L2,rfl,rfl⟩:=hF.foc;refine ASm ?_;unfold ARS;refine loop (fun m _ I2 Lx=>∃a2,a≤a2∧a2+m=s.length∧I2=I∧Lx=L1++(b,LBo s a2 w)::L2∧BJ false (s.drop a2)=BJ false (s.drop a)) (s.length - a) ⟨a,Nat.le_refl _,by omega,rfl,rfl,rfl⟩ ?_;rintro m _ I2 Lx ⟨a2,h1,h2,rfl,rfl,hm⟩;unfold AFc;repeat' (first|refine zqa ?_|refine zqh (fun _=>?_)|refine zqr ?_|refine zqb ?_|refine zqi ?_ ?_|refine zqc ?_|refine zqg (fun _=>?_) (fun _=>?_)|refine zqe ?_|fail)
 ·rename_i hb
  have hb:a2 < s.length:=by simpa using hb
  obtain ⟨c,hc,hd⟩:=SN hb;simp only [ixS s hc,SSd,Nat.reduceAdd];refine call (KU [9,10,12,13,32] c ?_);have hbi:decide ((0:Int)≤KW [9,10,12,13,32] c)=FI c:=ALR c;simp only [hbi,SSd,Nat.reduceAdd];refine AB (fun hbl=>?_) (fun hbl=>?_)
  ·refine rdb ?_;simp only [wrap_i64 ((a2:Int)+1) (by omega),SSd,Nat.reduceAdd];refine st1 rfl ?_;refine Gh.done ⟨m - 1,by omega,a2+1,by omega,by omega,rfl,rfl,?_⟩;rw [←hm,hd];simp [BJ,hbl]
  ·refine EM ?_;try refine zqe ?_
   refine Dt ?_;try refine zqe ?_
   refine Dt ?_;simp only [Yw s (Nat.le_of_lt hb),SSd,Nat.reduceAdd];refine call (KY (s.drop a2) [45,45] (by simp;omega) (by simp) ?_);refine AB (fun hp=>?_) (fun hp=>?_)
   ·have h45:∃r,s.drop a2=45::45::r:=by
     obtain ⟨r,hr⟩:=List.isPrefixOf_iff_prefix.1 hp;exact ⟨r,hr.symm⟩
    obtain ⟨r,hr⟩:=h45;have hskip:BJ false (s.drop a2)=BJ true (s.drop a2):=by
     rw [hr];simp [BJ,FI]
    rw [Tt] at hskip;refine EM ?_;try refine zqe ?_
    refine Dt ?_;try refine zqe ?_
    refine Dt ?_;simp only [Yw s (Nat.le_of_lt hb),SSd,Nat.reduceAdd];refine call (KU (s.drop a2) 10 ?_);cases hf:(s.drop a2).findIdx? (·==10) with
    |none=>
     rw [hf] at hskip;have hi:KW (s.drop a2) 10= -1:=by simp only [KW,hf]
     rw [hi];repeat' (first|refine zqa ?_|refine zqh (fun _=>?_)|refine zqr ?_|refine zqb ?_|refine zqi ?_ ?_|refine zqc ?_|refine zqg (fun _=>?_) (fun _=>?_)|refine zqe ?_|fail)
     exact Gh.done (hk s.length ha (Nat.le_refl _) (by rw [←hm,hskip];simp))
    |some n=>
     rw [hf] at hskip;obtain ⟨hn,hn1,hn2⟩:=List.findIdx?_eq_some_iff_getElem.1 hf;have hi:KW (s.drop a2) 10=n:=by simp only [KW,hf]
     have hn0:n≠0:=by
      rintro rfl;rw [hr] at hf;simp [List.findIdx?_cons] at hf
     have hlt:n < s.length - a2:=by simpa using hn
     rw [hi];have hneg:decide ((n:Int) < 0)=false:=by simp
     simp only [hneg,SSd,Nat.reduceAdd];refine rdb ?_;simp only [wrap_i64 ((a2:Int)+n) (by omega),SSd,Nat.reduceAdd];refine st1 rfl ?_;refine Gh.done ⟨m - n,by omega,a2+n,by omega,by omega,rfl,by simp,?_⟩;rw [←hm,hskip];simp
   ·refine Gh.done (hk a2 h1 (by omega) ?_);rw [←hm,hd];rw [hd] at hp;have:(c==45&&(s.drop (a2+1)).head? ==some 45)=false:=by
     cases hx:(c==45&&(s.drop (a2+1)).head? ==some 45) with
     |false=>rfl
     |true=>
      simp only [Bool.and_eq_true,beq_iff_eq] at hx;obtain ⟨rfl,hx⟩:=hx;cases hy:s.drop (a2+1) with
      |nil=>rw [hy] at hx;simp at hx
      |cons d r=>
       rw [hy] at hx hp;simp at hx;subst hx;simp [List.isPrefixOf] at hp
    simp only [BJ,hbl,this,Bool.false_eq_true,if_false]
 ·rename_i hb
  have hb:¬a2 < s.length:=by simpa using hb
  refine Gh.done (hk a2 h1 (by omega) ?_);rw [←hm];have:s.drop a2=[]:=List.drop_eq_nil_of_le (by omega);rw [this];rfl
end
abbrev BuB (p v:Value):Obj:=.cells [p,v].toArray 111 (0,0)
def BuP (b:Nat)(p:Value):Prop:=p= .pointer none∨p=AP b
theorem ALQ:liesAt Tryz.prog Tryz.prog.depth 111 (2 / Tryz.prog.cellsOf 111) 0 111 1=true:=by kernel_rfl
section
variable {ω:Om}{I:Imm}{L:LH}{K:Value→M}{C:Obj→LH}{b:Nat}{p v:Value}
theorem Fe [hF:Foc b L (BuB p v) C](hp:BuP b p)(hk:K (.tuple #[]) I (C (BuB (AP b) v))):CT ω 209 #[AP b] K I L:=by
 obtain ⟨L1,L2,rfl,rfl⟩:=hF.foc;refine AIZ ?_;unfold AGH;rcases hp with rfl|rfl
 ·have e1:IV .eql (.pointer none) (.pointer none)=some (.bool true):=rfl;simp only [e1,SSd,Nat.reduceAdd];refine rdb ?_;simp only [e1,SSd,Nat.reduceAdd];refine ⟨_,⟨b,0,[.pointer none,v].toArray,111,(0,0),rfl,.inr (by simp),by simp,rfl⟩,?_⟩;refine Xh (Gh.done ?_);refine ⟨_,⟨b,0,[.pointer none,v].toArray,111,(0,0),rfl,.inr (by simp),ALQ,rfl⟩,?_⟩;repeat' (first|refine zqa ?_|refine zqh (fun _=>?_)|refine zqr ?_|refine zqb ?_|refine zqi ?_ ?_|refine zqc ?_|refine zqg (fun _=>?_) (fun _=>?_)|refine zqe ?_|fail)
  exact Gh.to _ (Gh.done hk)
 ·try refine zqe ?_
  refine rdb ?_;have e2:IV .neq (AP b) (AP b)=some (.bool false):=by simp [IV]
  simp only [Hg,SSd,Nat.reduceAdd];refine rdb ?_;simp only [e2,SSd,Nat.reduceAdd];exact Gh.done hk
theorem Hq {X F:LH}{cells:List Value}{n:Nat}[hs:SplitL X L F][hF:Foc b F (BuB p v) C](hp:BuP b p)(hX:SlO 5 1 X v cells n)(hn:n≤1000000000)(c:UInt8)
  (hk:∀X' v',SlO 5 1 X' v' (cells++[.int .u8 c.toNat]) (n+1)→K .nilIface I (X'++C (BuB (AP b) v'))):CT ω 195 #[AP b,.int .u8 c.toNat] K I L:=by
 obtain ⟨L1,L2,rfl,rfl⟩:=hF.foc;refine Cal.split X ?_;refine APb ?_;unfold AMB;refine call (Fe hp ?_);try refine zqe ?_
 refine rdb ?_;refine En rfl (by omega) rfl (fun X1 u hX1=>?_);refine DW (X:=X) rfl hX (hX1.news (fun x hx=>List.mem_append_left _ hx)) (by simp [Value.cells,Value.oneCell']) (by omega) (by omega) (fun X2 v2 hX2=>?_);have hX2:SlO 5 1 X2 v2 (cells++[.int .u8 c.toNat]) (n+1):=by simpa [Value.cells] using hX2
 obtain ⟨a2,k2,rfl⟩:=hX2.form;repeat' (first|refine zqa ?_|refine zqh (fun _=>?_)|refine zqr ?_|refine zqb ?_|refine zqi ?_ ?_|refine zqc ?_|refine zqg (fun _=>?_) (fun _=>?_)|refine zqe ?_|fail)
 exact Gh.to (X2++(L1++(b,BuB (AP b) (.slice a2 (n+1) k2))::L2)) (Gh.done (hk X2 _ hX2))
theorem byteCells_snoc (l:Bs)(c:UInt8):Lib.byteCells (l++[c])=Lib.byteCells l++[.int .u8 c.toNat]:=by rw [Lib.byteCells_append];rfl
theorem Jr {X F:LH}{l:Bs}[hs:SplitL X L F][hF:Foc b F (BuB p v) C](hX:SlO 5 1 X v (Lib.byteCells l) l.length)(hn:l.length≤1000000000)(hv:l=[]→v= .slice none 0 0∨∃a k,v= .slice (some a) 0 (k+1))
  (hk:∀X',K (.string ⟨l.toArray⟩) I (X'++C (BuB p v))):CT ω 59 #[AP b] K I L:=by
 obtain ⟨L1,L2,rfl,rfl⟩:=hF.foc;refine Cal.split X ?_;refine ANN ?_;unfold ANx;obtain ⟨a,cap,rfl⟩:=hX.form;have hlenV:lenV (.slice a l.length cap)=some (.int .i64 l.length):=rfl;refine EM ?_;try refine zqe ?_
 refine Dt ?_;by_cases hl:l=[]
 ·subst hl;have hp:∃p,ADO (.slice a 0 cap)=some (.pointer p):=by
   rcases hv rfl with h|⟨a',k',h⟩
   ·simp only [List.length_nil,Value.slice.injEq] at h;obtain ⟨rfl,_,rfl⟩:=h;exact ⟨none,rfl⟩
   ·simp only [List.length_nil,Value.slice.injEq] at h;obtain ⟨rfl,_,rfl⟩:=h;exact ⟨some a',rfl⟩
  obtain ⟨q,hq⟩:=hp;simp only [List.length_nil,hq,SSd,Nat.reduceAdd];refine Dt ?_;try refine zqe ?_
  exact .inl ⟨q,rfl,rfl,Gh.done (Gh.done (hk X))⟩
 ·have hpos:0 < l.length:=List.length_pos_iff.2 hl;obtain ⟨hcl,hX⟩:=hX;rcases hX with ⟨_,h0,_⟩|⟨bb,cap',cs,rfl,e,hcs,hle,hcell⟩
  ·omega
  ·simp only [Value.slice.injEq] at e;obtain ⟨rfl,_,rfl⟩:=e;obtain ⟨k,rfl⟩:∃k,cap=k+1:=⟨cap - 1,by omega⟩;have hq:ADO (.slice (some ⟨bb,0,none⟩) l.length (k+1))=some (.pointer (some ⟨bb,0,none⟩)):=rfl;simp only [hq,SSd,Nat.reduceAdd];refine Dt ?_;try refine zqe ?_
   refine .inr ⟨bb,cs,(0,0),l,[],L1++(b,BuB p (.slice (some ⟨bb,0,none⟩) l.length (k+1)))::L2,rfl,rfl,hl,by omega,by omega,rfl,fun j u hu=>hcell j _ ?_,Gh.done (Gh.done (hk [_]))⟩;simp [Lib.byteCells,hu]
end
section
variable {P:Program}{ω:Om}{K:Value→M}{I:Imm}{L:LH}
theorem Em {f:FuncId}{args:Array Value}(he:CG P f=true)(h:Cal P ω f args K I L):CalV P ω (.func (.func f) #[] #[]) args K I L:=by
 unfold CalV;simp only [he,if_true];simpa using h
theorem FM {x:Value}{args:Array Value}(h:CalV P ω x args K I L):CalV P ω x args (SL.gh K) I L:=CalV.mono h (fun _ _ _ h=>Gh.done h)
end
def FnB (ω:Om)(fv:Value)(p:UInt8→Bool):Prop:=∀(c:UInt8) (K:Value→M) (I:Imm) (L:LH),K (.bool (p c)) I L→CW ω fv #[.int .u8 c.toNat] K I L
section
variable {ω:Om}{I:Imm}{L:LH}{K:Value→M}{C:Obj→LH}{b:Nat}{w:Value}{s:Bs}{a:Nat}
theorem AEU:FnB ω (.func (.func 140) #[] #[]) BC:=by
 intro c K I L hk;exact Em (by kernel_rfl) (Et c hk)
theorem AEn:FnB ω (.func (.func 139) #[] #[]) (fun c=>BP c||BC c):=by
 intro c K I L hk;refine Em (by kernel_rfl) ?_;refine AQQ ?_;show AGQ ω (.int .u8 c.toNat) _ I L;unfold AGQ;refine call (FD c ?_);refine Bc (fun h=>?_) (fun h=>?_)
 ·refine call (Et c (Gh.done ?_));simpa [show BP c=false from by simpa using h] using hk
 ·refine Gh.done ?_;have:BP c=true:=by simpa using h
  simpa [this] using hk
theorem QZ {fv:Value}{p:UInt8→Bool}(hf:FnB ω fv p)[hF:Foc b L (LBo s a w) C](ha:a≤s.length)(hs:s.length≤900000000)
  (hk:∀a',a≤a'→a'≤s.length→s.drop a'=(s.drop a).dropWhile p→K (.string ⟨((s.drop a).takeWhile p).toArray⟩) I (C (LBo s a' w))):CT ω 138 #[AP b,fv] K I L:=by
 obtain ⟨L1,L2,rfl,rfl⟩:=hF.foc;refine AQR ?_;unfold AMj;try refine zqe ?_
 refine rdb ?_;refine loop (fun m _ I2 Lx=>∃a2,a≤a2∧a2+m=s.length∧I2=I∧Lx=L1++(b,LBo s a2 w)::L2∧(s.drop a).takeWhile p=(s.drop a).take (a2 - a)++(s.drop a2).takeWhile p∧(s.drop a).dropWhile p=(s.drop a2).dropWhile p) (s.length - a) ⟨a,Nat.le_refl _,by omega,rfl,rfl,by simp,rfl⟩ ?_;rintro m _ I2 Lx ⟨a2,h1,h2,rfl,rfl,ht,hd⟩;unfold ABq;have fin:(s.drop a2).takeWhile p=[]→QB ω (AP b) (.string ⟨#[]⟩) (.int .i64 a) (fun v=>Gh (K v)) I2 (L1++(b,LBo s a2 w)::L2):=by
  intro he;rw [he,List.append_nil] at ht;have hdw:(s.drop a2).dropWhile p=s.drop a2:=by
   have:=List.takeWhile_append_dropWhile (p:=p) (l:=s.drop a2);rw [he] at this;simpa using this
  unfold QB;refine EM ?_;try refine zqe ?_
  refine Dt ?_;try refine zqe ?_
  refine Dt ?_;simp only [slS s h1 (show a2≤s.length by omega),SSd,Nat.reduceAdd];rw [←ht];exact Gh.done (hk a2 h1 (by omega) (by rw [hd,hdw]))
 refine EM ?_;try refine zqe ?_
 refine Dt ?_;try refine zqe ?_
 refine Dt ?_;try refine zqe ?_
 refine Bc (fun hb=>?_) (fun hb=>?_)
 ·have hb:a2 < s.length:=by simpa using hb
  obtain ⟨c,hc,hdc⟩:=SN hb;try refine zqe ?_
  refine Dt ?_;try refine zqe ?_
  refine Dt ?_;simp only [ixS s hc,SSd,Nat.reduceAdd];refine FM (hf c _ _ _ ?_);refine AB (fun hp=>?_) (fun hp=>?_)
  ·try refine zqe ?_
   refine rdb ?_;simp only [wrap_i64 ((a2:Int)+1) (by omega),SSd,Nat.reduceAdd];refine st1 rfl ?_;refine Gh.done ⟨m - 1,by omega,a2+1,by omega,by omega,rfl,rfl,?_,?_⟩
   ·rw [ht,hdc,List.takeWhile_cons_of_pos hp];have e:a2+1 - a=(a2 - a)+1:=by omega
    rw [e,List.take_add_one];have:(s.drop a)[a2 - a]? =some c:=by rw [List.getElem?_drop];rw [show a+(a2 - a)=a2 by omega];exact hc
    rw [this];simp
   ·rw [hd,hdc,List.dropWhile_cons_of_pos hp]
  ·exact fin (by rw [hdc,List.takeWhile_cons_of_neg (by simpa using hp)])
 ·have hb:¬a2 < s.length:=by simpa using hb
  exact fin (by rw [List.drop_eq_nil_of_le (by omega)];rfl)
end
section
variable {ω:Om}{I:Imm}{L:LH}{K:Value→M}{C:Obj→LH}{b:Nat}{w:Value}{s:Bs}{a:Nat}
theorem ALc (c q:UInt8):((c.toNat:Int) != q.toNat)=(c != q):=by
 have:((c.toNat:Int)=q.toNat)↔c=q:=by
  constructor
  ·intro h;exact UInt8.toNat_inj.1 (by omega)
  ·rintro rfl;rfl
 rw [Bool.eq_iff_iff];simp [this]
theorem WV (c q:UInt8):((c.toNat:Int)==q.toNat)=(c==q):=by
 have:=ALc c q;simp only [bne] at this;exact Bool.not_inj this
theorem JA (q c:UInt8)(r:Bs):CQ q (c::r)=if c==0 then none else if c != q then (CQ q r).map fun x=>(c::x.1,x.2) else match r with
  |[]=>some ([],[])
  |d::r'=>if d==q then (CQ q r').map fun x=>(q::x.1,x.2) else some ([],d::r'):=by
 cases r with
 |nil=>rfl
 |cons d r=>rfl
theorem XR (q:UInt8)(hq0:q≠0)[hF:Foc b L (LBo s a w) C](ha:a < s.length)(hs:s.length≤900000000)
  (hno:CQ q (s.drop (a+1))=none→∀x,K (.tuple #[.string ⟨(x:Bs).toArray⟩,.bool false]) I L)
  (hyes:∀t r,CQ q (s.drop (a+1))=some (t,r)→∀a',a < a'→a'≤s.length→s.drop a'=r→K (.tuple #[.string ⟨t.toArray⟩,.bool true]) I (C (LBo s a' w))):
  CT ω 142 #[AP b,.int .u8 q.toNat] K I L:=by
 obtain ⟨L1,L2,rfl,rfl⟩:=hF.foc;refine AQN ?_;unfold AMg;refine Ad (fun bb=>?_);try refine zqe ?_
 refine rdb ?_;simp only [wrap_i64 ((a:Int)+1) (by omega),SSd,Nat.reduceAdd];refine loop (fun m st I2 Lx=>∃(i:Nat) (X:LH) (p v:Value) (acc:Bs),a < i∧i+m=s.length+1∧i≤s.length∧I2=I∧st=(.string ⟨#[]⟩,.bool false,.int .i64 i,())∧Lx=X++((bb,BuB p v)::(L1++(b,LBo s a w)::L2))∧BuP bb p∧SlO 5 1 X v (Lib.byteCells acc) acc.length∧(acc=[]→v= .slice none 0 0)∧acc.length≤i∧
   CQ q (s.drop (a+1))=(CQ q (s.drop i)).map fun x=>(acc++x.1,x.2)) (s.length - a)
  ⟨a+1,[],.pointer none,.slice none 0 0,[],by omega,by omega,by omega,rfl,rfl,rfl,.inl rfl,SlO.none _ _,fun _=>rfl,by simp,by simp⟩ ?_
 rintro m st I2 Lx ⟨i,X,p,v,acc,h1,h2,h2',rfl,rfl,rfl,hp,hX,hv,hal,hm⟩;unfold ABp;try refine zqe ?_
 refine rdb ?_;try refine zqe ?_
 refine AB (fun hb=>?_) (fun hb=>?_);rotate_left
 ·have hb:¬i < s.length:=by simpa using hb
  have:s.drop i=[]:=List.drop_eq_nil_of_le (by omega);rw [this] at hm;exact Gh.to (L1++(b,LBo s a w)::L2) (Gh.done (hno (by rw [hm];rfl) []))
 have hb:i < s.length:=by simpa using hb
 obtain ⟨c,hc,hdc⟩:=SN hb;try refine zqe ?_
 refine rdb ?_;simp only [ixS s hc,SSd,Nat.reduceAdd];have hz:((c.toNat:Int)==0)=(c==0):=WV c 0;try simp only [hz,ALc,SSd,Nat.reduceAdd]
 refine AB (fun h0=>?_) (fun h0=>?_)
 ·refine Gh.to (L1++(b,LBo s a w)::L2) (Gh.done (hno ?_ []));rw [hm,hdc];simp only [JA,h0,if_true,Option.map_none]
 refine AB (fun hne=>?_) (fun hne=>?_)
 ·refine call (Hq hp hX (by omega) c (fun X' v' hX'=>?_));unfold QA;try simp only [wrap_i64 ((i:Int)+1) (by omega),SSd,Nat.reduceAdd]
  refine Gh.done ⟨m - 1,by omega,i+1,X',AP bb,v',acc++[c],by omega,by omega,by omega,rfl,rfl,rfl,.inr rfl,?_,by simp,by simp;omega,?_⟩
  ·rw [byteCells_snoc];simpa using hX'
  ·rw [hm,hdc];simp only [JA,h0,hne,Bool.false_eq_true,if_false,if_true];cases CQ q (s.drop (i+1)) <;> simp
 ·simp only [wrap_i64 ((i:Int)+1) (by omega),SSd,Nat.reduceAdd];refine rdb ?_;try refine zqe ?_
  have hcq:c=q:=by simpa using hne
  have fin:CQ q (s.drop i)=some ([],s.drop (i+1))→Pz ω (AP b) (.string ⟨#[]⟩) (.bool false) (AP bb) (.int .i64 i) (fun v=>Gh (K v)) I2 (X++((bb,BuB p v)::(L1++(b,LBo s a w)::L2))):=by
   intro hf;unfold Pz;simp only [wrap_i64 ((i:Int)+1) (by omega),SSd,Nat.reduceAdd];refine st1 rfl ?_;rw [show ((i:Int)+1)=((i+1:Nat):Int) from rfl];refine call (Jr (p:=p) (v:=v) (X:=X) hX (by omega) (fun h=>.inl (hv h)) (fun X'=>?_));try refine zqe ?_
   refine Gh.to (L1++(b,LBo s (i+1) w)::L2) (Gh.done (hyes acc _ (by rw [hm,hf];simp) (i+1) (by omega) (by omega) rfl))
  refine Bc (fun hb2=>?_) (fun hb2=>?_)
  ·have hb2:i+1 < s.length:=by
    have:=of_decide_eq_true hb2;omega
   obtain ⟨d,hd,hdd⟩:=SN hb2;refine rdb ?_;rw [show ((i:Int)+1)=((i+1:Nat):Int) from rfl,ixS s hd];simp only [WV,SSd,Nat.reduceAdd];refine AB (fun hq=>?_) (fun hq=>?_)
   ·have hdq:d=q:=by simpa using hq
    unfold ABo;refine call (Hq hp hX (by omega) q (fun X' v' hX'=>?_));unfold QA;simp only [wrap_i64 ((i:Int)+1) (by omega),wrap_i64 ((i:Int)+1+1) (by omega),SSd,Nat.reduceAdd];refine Gh.done ⟨m - 2,by omega,i+2,X',AP bb,v',acc++[q],by omega,by omega,by omega,rfl,rfl,rfl,.inr rfl,?_,by simp,by simp;omega,?_⟩
    ·rw [byteCells_snoc];simpa using hX'
    ·rw [hm,hdc,hdd];have h0':(c==0)=false:=by simpa using h0
     have hne':(c != q)=false:=by simpa using hne
     simp only [JA,h0',hne',hq,Bool.false_eq_true,if_false,if_true];cases CQ q (s.drop (i+2)) <;> simp
   ·refine fin ?_;rw [hdc,hdd];have h0':(c==0)=false:=by simpa using h0
    have hne':(c != q)=false:=by simpa using hne
    simp only [JA,h0',hne',hq,Bool.false_eq_true,if_false]
  ·refine fin ?_;have hb2:¬i+1 < s.length:=by
    have h:¬((i:Int)+1 < s.length):=by simpa using hb2
    omega
   have:s.drop (i+1)=[]:=List.drop_eq_nil_of_le (by omega);rw [hdc,this];have h0':(c==0)=false:=by simpa using h0
   have hne':(c != q)=false:=by simpa using hne
   simp only [JA,h0',hne',Bool.false_eq_true,if_false]
end
abbrev AEx (k:Int)(a:Nat)(t:Bs)(n:Int):Value:=.agg #[.int .i64 k,.int .i64 (a:Nat),.string ⟨t.toArray⟩,.int .i64 n]
section
variable {ω:Om}{I:Imm}{L:LH}{K:Value→M}{C:Obj→LH}{b:Nat}{w:Value}{s:Bs}{a:Nat}
theorem ACp {α:Type}{p:α→Bool}:∀{l:List α} {i:Nat} (h:i < l.length),(∀j (hj:j < i),p (l[j]'(by omega))=false)→p l[i]=true→l.find? p=some l[i]
 |x::l,0,_,_,h=>by simp at h;simp [h]
 |x::l,i+1,hi,h0,h=>by
  have:=h0 0 (by omega);simp at this;simp only [List.find?_cons,this];simp only [List.getElem_cons_succ] at h ⊢;exact ACp (l:=l) (by simpa using hi) (fun j hj=>by simpa using h0 (j+1) (by omega)) h
theorem AFQ:∀{x:Bs},x∈signsL→x.length≤2:=by
 intro x hx;simp only [signsL,List.mem_cons,List.not_mem_nil,or_false] at hx;rcases hx with rfl|rfl|rfl|rfl|rfl|rfl|rfl|rfl|rfl|rfl|rfl|rfl|rfl|rfl|rfl|rfl|rfl|rfl <;> decide
theorem ADh [hF:Foc b L (LBo s a w) C](ha:a < s.length)(hs:s.length≤900000000)(m0:Nat)
  (hno:Gy (s.drop a)=none→∀I',Ext I I'→K (.tuple #[AEx 5 m0 [] 0,.int .i64 171]) I' L)
  (hyes:∀x,Gy (s.drop a)=some x→a+x.length≤s.length→∀I',Ext I I'→K (.tuple #[AEx 5 m0 (if x=[33,61] then [60,62] else x) 0,.int .i64 0]) I' (C (LBo s (a+x.length) w))):
  CT ω 143 #[AP b,AEx 0 m0 [] 0] K I L:=by
 obtain ⟨L1,L2,rfl,rfl⟩:=hF.foc;refine AQM ?_;unfold AMf;refine Ad (fun b1=>?_);refine Ad (fun b2=>?_);repeat' (first|refine zqa ?_|refine zqh (fun _=>?_)|refine zqr ?_|refine zqb ?_|refine zqi ?_ ?_|refine zqc ?_|refine zqg (fun _=>?_) (fun _=>?_)|refine zqe ?_|fail)
 refine EO signsL rfl rfl (fun I1 av hI1 hw=>Gh.done ?_);have hlen:signsL.length=18:=rfl;try refine zqe ?_
 refine loop (fun m st I2 Lx=>∃i:Nat,i+m=18∧I2=I1∧st=(.int .i64 0,.int .i64 i,())∧Lx=(b2,.cells [.int .i64 0,.int .i64 0,.string ⟨#[]⟩,.int .i64 0].toArray 93 (0,0))::(b1,.cells [.int .i64 5,.int .i64 (m0:Nat),.string ⟨#[]⟩,.int .i64 0].toArray 93 (0,0))::(L1++(b,LBo s a w)::L2)∧∀j (hj:j < signsL.length),j < i→(signsL[j]).isPrefixOf (s.drop a)=false) 18
  ⟨0,rfl,rfl,rfl,rfl,fun j _ hj=>by omega⟩ ?_
 rintro m st I2 Lx ⟨i,h1,rfl,rfl,rfl,hall⟩;unfold ABn;try refine zqe ?_
 refine AB (fun hb=>?_) (fun hb=>?_);rotate_left
 ·have hb:¬i < 18:=by
   have:¬((i:Int) < 18):=by simpa using hb
   omega
  unfold ABm;repeat' (first|refine zqa ?_|refine zqh (fun _=>?_)|refine zqr ?_|refine zqb ?_|refine zqi ?_ ?_|refine zqc ?_|refine zqg (fun _=>?_) (fun _=>?_)|refine zqe ?_|fail)
  refine Gh.to (L1++(b,LBo s a w)::L2) (Gh.done (hno ?_ I2 hI1));rw [Gy,List.find?_eq_none];intro x hx;obtain ⟨j,hj,rfl⟩:=List.mem_iff_getElem.1 hx;simp [hall j hj (by omega)]
 have hb:i < signsL.length:=by
  have:((i:Int) < 18):=by simpa using hb
  omega
 obtain ⟨bw,off,cw,hi1,_,hi2,hi3⟩:=RL.ix hw (i:=i) (by omega) (by omega);rw [Ah hb] at hi2;obtain rfl:=hi2;have hi1:ixV 1 (.slice av 18 18) (.int .i64 i)=_:=hi1;simp only [hi1,SSd,Nat.reduceAdd];refine rd1 ((hi3 _ [] (Ext.refl _) (fun _ h=>h) 0 _ rfl).mono (Ext.refl _) (fun _ h=>by cases h)) ?_;refine EM ?_;try refine zqe ?_
 refine Dt ?_;try refine zqe ?_
 refine Dt ?_;simp only [Yw s (Nat.le_of_lt ha),SSd,Nat.reduceAdd];have hle:=AFQ (List.getElem_mem hb);refine call (KY (s.drop a) signsL[i] (by simp;omega) (by omega) ?_);refine AB (fun hp=>?_) (fun hp=>?_)
 ·have hf:Gy (s.drop a)=some signsL[i]:=ACp (p:=fun (x:Bs)=>x.isPrefixOf (s.drop a)) hb (fun j hj=>hall j (by omega) hj) hp;have hpl:=(List.isPrefixOf_iff_prefix.1 hp).length_le;have hpl:a+(signsL[i]).length≤s.length:=by simp at hpl;omega
  try refine zqe ?_
  refine rdb ?_;simp only [wrap_i64 ((a:Int)+(signsL[i]).length) (by omega),SSd,Nat.reduceAdd];refine st1 rfl ?_;rw [show ((a:Int)+((signsL[i]).length:Nat))=((a+(signsL[i]).length:Nat):Int) from rfl];have hfin:=hyes _ hf hpl I2 hI1;have fin:∀t:Bs,t=(if signsL[i]=[33,61] then [60,62] else signsL[i])→Py ω (AP b1) (AP b2) (.int .i64 0) (fun v=>Gh (K v)) I2 ((b2,.cells [.int .i64 0,.int .i64 0,.string ⟨#[]⟩,.int .i64 0].toArray 93 (0,0))::(b1,.cells [.int .i64 5,.int .i64 (m0:Nat),.string ⟨t.toArray⟩,.int .i64 0].toArray 93 (0,0))::(L1++(b,LBo s (a+(signsL[i]).length) w)::L2)):=by
   intro t ht;rw [←ht] at hfin;unfold Py;repeat' (first|refine zqa ?_|refine zqh (fun _=>?_)|refine zqr ?_|refine zqb ?_|refine zqi ?_ ?_|refine zqc ?_|refine zqg (fun _=>?_) (fun _=>?_)|refine zqe ?_|fail)
   exact Gh.to (L1++(b,LBo s (a+(signsL[i]).length) w)::L2) (Gh.done hfin)
  refine st1 rfl ?_;refine AB (fun he=>?_) (fun he=>?_)
  ·refine st1 rfl ?_;exact fin [60,62] (by rw [if_pos (by simpa using he)])
  ·exact fin _ (by rw [if_neg (by simpa using he)])
 ·simp only [wrap_i64 ((i:Int)+1) (by omega),SSd,Nat.reduceAdd];refine Gh.done ⟨m - 1,by omega,i+1,by omega,rfl,rfl,rfl,fun j hj hji=>?_⟩;rcases Nat.lt_or_eq_of_le (Nat.le_of_lt_succ hji) with hlt|rfl
  ·exact hall j hj hlt
  ·simpa using hp
end
def ATs (v:Value):Prop:=v= .slice none 0 0∨∃a m k,v= .slice (some a) m (k+1)
theorem SlO.buf {T n len:Nat}{X:LH}{v:Value}{cells:List Value}(h:SlO T n X v cells len)(h0:0 < len):ATs v:=by
 obtain ⟨_,h8⟩:=h;rcases h8 with ⟨_,h1,_⟩|⟨b8,k8,_,_,h8,_,hle,_⟩
 ·omega
 ·obtain ⟨k,rfl⟩:∃k,k8=k+1:=⟨k8 - 1,by omega⟩;exact .inr ⟨_,_,_,h8⟩
theorem AQp:Tryz.prog.underlying 71=some (.slice 5):=by kernel_rfl
section
variable {ω:Om}{I:Imm}{L:LH}{K:Value→M}{C:Obj→LH}{b:Nat}{p v:Value}
theorem Uc [hF:Foc b L (BuB p (.slice none 0 0)) C](hp:BuP b p){n:Nat}(hn:0 < n)(hn2:n≤100000000000)
  (hk:∀X' v',SlO 5 1 X' v' [] 0→ATs v'→K (.tuple #[]) I (X'++C (BuB (AP b) v'))):CT ω 192 #[AP b,.int .i64 (n:Nat)] K I L:=by
 obtain ⟨L1,L2,rfl,rfl⟩:=hF.foc;refine APe ?_;unfold AME;refine call (Fe hp ?_);have h1:decide ((n:Int) < 0)=false:=by simp
 simp only [h1,SSd,Nat.reduceAdd];unfold ABR;have h2:decide ((0:Int) < (n:Int))=true:=by simpa using hn
 repeat' (first|refine zqa ?_|refine zqh (fun _=>?_)|refine zqr ?_|refine zqb ?_|refine zqi ?_ ?_|refine zqc ?_|refine zqg (fun _=>?_) (fun _=>?_)|(simp only [SSd,Nat.reduceAdd,h2,wrap_i64 ((0:Int)) (by omega)]))
 rotate_left
 ·rename_i hx
  have hx:=of_decide_eq_false hx;exact absurd (show IntKind.i64.wrap (((0:Nat):Int) - ((0:Nat):Int)) < (n:Int) from by rw [show IntKind.i64.wrap (((0:Nat):Int) - ((0:Nat):Int))=0 from rfl];omega) hx
 refine call ?_;refine APM ?_;unfold ALp;refine EM ?_;try refine zqe ?_
 refine Dt ?_;have e1:IntKind.i64.wrap (2 * ((0:Nat):Int))=0:=rfl;have e2:IntKind.i64.wrap (0+(n:Int))=n:=by rw [Int.zero_add];exact wrap_i64 (n:Int) (by omega)
 simp only [e1,e2,SSd,Nat.reduceAdd];refine ATy AQp (by omega) (fun b' cs hcs=>Gh.done ?_);refine Bv (Ext.refl _) ?_;try refine zqe ?_
 refine Dt ?_;have e3:Hu 1 (.slice (some ⟨b',0,none⟩) n cs.size) none (some (.int .i64 ((0:Nat):Int))) none=some (.slice (some ⟨b',0,none⟩) 0 cs.size):=by
  simp [Hu,EC,Addr.add]
 simp only [e3,SSd,Nat.reduceAdd];refine rdb ?_;refine ⟨_,0,cs.size,0,[],rfl,.inl ⟨_,_,rfl,rfl,rfl⟩,.inl ⟨rfl,?_⟩⟩;refine Gh.done ?_;try refine zqe ?_
 refine st1 rfl ?_;refine Gh.done (Gh.done (hk [(b',.cells cs 5 (0,0))] _ ⟨rfl,.inr ⟨b',cs.size,cs,rfl,rfl,by simp,by omega,fun j u hu=>by simp at hu⟩⟩ ?_));obtain ⟨k,hk0⟩:∃k,cs.size=k+1:=⟨cs.size - 1,by omega⟩;rw [hk0];exact .inr ⟨_,_,_,rfl⟩
theorem ES {X F:LH}{l:Bs}[hs:SplitL X L F][hF:Foc b F (BuB p v) C](hp:BuP b p)(hX:SlO 5 1 X v (Lib.byteCells l) l.length)(hn:l.length≤1000000000)(t:Bs)(ht:t.length≤1000000000)
  (hk:∀X' v',SlO 5 1 X' v' (Lib.byteCells (l++t)) (l++t).length→K (.tuple #[.int .i64 t.length,.nilIface]) I (X'++C (BuB (AP b) v'))):CT ω 172 #[AP b,.string ⟨t.toArray⟩] K I L:=by
 obtain ⟨L1,L2,rfl,rfl⟩:=hF.foc;refine Cal.split X ?_;refine AIb ?_;unfold AGL;refine call (Fe hp ?_);try refine zqe ?_
 refine rdb ?_;refine DW (X:=X) (n:=1) (m:=t.length) rfl hX (news:=Lib.byteCells t) (.inr (.inr ⟨⟨t.toArray⟩,rfl,rfl,rfl,rfl⟩)) (fun u hu=>?_) (by omega) (by omega) (fun X2 v2 hX2=>?_)
 ·obtain ⟨c,_,rfl⟩:=List.mem_map.1 hu;rfl
 have hX2:SlO 5 1 X2 v2 (Lib.byteCells (l++t)) (l++t).length:=by rw [Lib.byteCells_append];simpa using hX2
 obtain ⟨a2,k2,rfl⟩:=hX2.form;repeat' (first|refine zqa ?_|refine zqh (fun _=>?_)|refine zqr ?_|refine zqb ?_|refine zqi ?_ ?_|refine zqc ?_|refine zqg (fun _=>?_) (fun _=>?_)|refine zqe ?_|fail)
 exact Gh.to (X2++(L1++(b,BuB (AP b) (.slice a2 (l++t).length k2))::L2)) (Gh.done (hk X2 _ hX2))
theorem QV {X F:LH}{l:Bs}[hs:SplitL X L F][hF:Foc b F (BuB p v) C](hp:BuP b p)(hX:SlO 5 1 X v (Lib.byteCells l) l.length)(hn:l.length≤1000000000)(c:UInt8)(hc:c.toNat < 128)
  (hk:∀X' v' x,SlO 5 1 X' v' (Lib.byteCells (l++[c])) (l++[c]).length→K (.tuple #[x,.nilIface]) I (X'++C (BuB (AP b) v'))):CT ω 193 #[AP b,.int .i32 c.toNat] K I L:=by
 obtain ⟨L1,L2,rfl,rfl⟩:=hF.foc;refine Cal.split X ?_;refine APd ?_;unfold AMD;refine call (Fe hp ?_);obtain ⟨a1,k1,rfl⟩:=hX.form;try refine zqe ?_
 refine rdb ?_;try refine zqe ?_
 refine rdb ?_;refine call ?_;refine APL ?_;unfold ALo;have e1:IntKind.u32.wrap (c.toNat:Int)=c.toNat:=IntWalk.u32_in _ (by omega);have e2:IntKind.u8.wrap (c.toNat:Int)=c.toNat:=IntWalk.u8_in _ (by omega);have e3:decide ((c.toNat:Int)≤127)=true:=by simp;omega
 simp only [e1,e2,e3,SSd,Nat.reduceAdd];refine En rfl (by omega) rfl (fun X1 u hX1=>?_);refine DW (X:=X) rfl hX (hX1.news (fun x hx=>List.mem_append_left _ hx)) (by simp [Value.cells,Value.oneCell']) (by omega) (by omega) (fun X2 v2 hX2=>?_);have hX2:SlO 5 1 X2 v2 (Lib.byteCells (l++[c])) (l++[c]).length:=by rw [byteCells_snoc];simpa [Value.cells] using hX2
 obtain ⟨a2,k2,rfl⟩:=hX2.form;refine Gh.done ?_;repeat' (first|refine zqa ?_|refine zqh (fun _=>?_)|refine zqr ?_|refine zqb ?_|refine zqi ?_ ?_|refine zqc ?_|refine zqg (fun _=>?_) (fun _=>?_)|refine zqe ?_|fail)
 exact Gh.to (X2++(L1++(b,BuB (AP b) (.slice a2 (l++[c]).length k2))::L2)) (Gh.done (hk X2 _ _ hX2))
end
theorem Vl {I:Imm}{K:Value→M}{s:Bs}{i b:Nat}{L1 L2:LH}(hasc:∀c∈s,c.toNat < 128)
  (hmore:∀c,s[i]? =some c→c.toNat < 128→K (.tuple #[.bool true,.int .i64 (i:Nat),.int .i32 c.toNat]) I (L1++(b,.stringIter ⟨s.toArray⟩ (i+1))::L2))
  (hend:s.length≤i→K (.tuple #[.bool false]) I (L1++(b,.stringIter ⟨s.toArray⟩ i)::L2)):AEm (AP b) K I (L1++(b,.stringIter ⟨s.toArray⟩ i)::L2):=by
 refine ⟨b,⟨s.toArray⟩,i,L1,L2,rfl,rfl,?_⟩;have hsz:(⟨s.toArray⟩:ByteArray).size=s.length:=rfl;rw [hsz];split
 ·rename_i hlt
  have ha:s[i].toNat < 128:=hasc _ (List.getElem_mem hlt);have hd:Utf8.decode (⟨s.toArray⟩:ByteArray) i=(s[i].toNat,1):=decode_ascii ⟨s.toArray⟩ i hlt ha;rw [hd];exact hmore s[i] (List.getElem?_eq_getElem hlt) ha
 ·exact hend (by omega)
def FnR (ω:Om)(fv:Value)(f:UInt8→UInt8):Prop:=∀(c:UInt8) (K:Value→M) (I:Imm) (L:LH),c.toNat < 128→K (.int .i32 (f c).toNat) I L→CW ω fv #[.int .i32 c.toNat] K I L
theorem AHi (c:UInt8)(h:c.toNat < 128):(Dz c).toNat < 128:=by
 have:=Lt (p:=fun c=>decide (c.toNat < 128→(Dz c).toNat < 128)) (by decide+kernel) c;exact of_decide_eq_true this h
section
variable {ω:Om}{I:Imm}{L:LH}{K:Value→M}{C:Obj→LH}{b:Nat}{p v:Value}
theorem UX:FnR ω (.func (.func 137) #[] #[]) Dz:=by
 intro c K I L hc hk;refine Em (by kernel_rfl) ?_;refine AQS ?_;unfold AMk;have ht:=Lt (p:=fun c=>decide (c.toNat < 128→((Dz c).toNat:Int)=if (65:Int)≤c.toNat∧(c.toNat:Int)≤90 then IntKind.i32.wrap (IntKind.i32.wrap ((c.toNat:Int)+97) - 65) else (c.toNat:Int))) (by decide+kernel) c;have ht:=of_decide_eq_true ht hc;rw [ht] at hk;try refine zqe ?_
 refine Bc (fun h1=>?_) (fun h1=>?_)
 ·refine AB (fun h2=>?_) (fun h2=>?_)
  ·unfold ABr;rw [if_pos ⟨by simpa using h1,by simpa using h2⟩] at hk;try refine zqe ?_
   exact Gh.done hk
  ·rw [if_neg (fun h=>by simp [h.2] at h2)] at hk;exact Gh.done hk
 ·rw [if_neg (fun h=>by simp [h.1] at h1)] at hk;exact Gh.done hk
theorem Va {c:Nat}(hc:c < 128)(hk:K (.int .i64 1) I L):CT ω 191 #[.int .i32 (c:Nat)] K I L:=by
 refine APf ?_;unfold AMF;have h1:decide ((c:Int) < 0)=false:=by simp
 have h2:decide ((c:Int)≤127)=true:=by simp;omega
 simp only [h1,h2,SSd,Nat.reduceAdd];exact Gh.done hk
theorem YJ {a:Option Addr}{m k:Nat}[hF:Foc b L (BuB p (.slice a m k)) C](hk:K (.int .i64 (k:Nat)) I L):CT ω 194 #[AP b] K I L:=by
 obtain ⟨L1,L2,rfl,rfl⟩:=hF.foc;refine APc ?_;unfold AMC;repeat' (first|refine zqa ?_|refine zqh (fun _=>?_)|refine zqr ?_|refine zqb ?_|refine zqi ?_ ?_|refine zqc ?_|refine zqg (fun _=>?_) (fun _=>?_)|refine zqe ?_|fail)
 exact Gh.done hk
theorem map_rest {X:LH}{acc r:Bs}{bs:Nat}{it:Obj}{z:Value}(hlen:acc.length+r.length≤900000000)(h0:0 < acc.length)(hasc:∀c∈r,c.toNat < 128)(hp:BuP b p)(hX:SlO 5 1 X v (Lib.byteCells acc) acc.length)(hk:K (.string ⟨(acc++r.map Dz).toArray⟩) I L):
  NI ω (.func (.func 137) #[] #[]) (.string ⟨r.toArray⟩) z (AP b) (fun v=>Gh (K v)) I (X++((bs,it)::(b,BuB p v)::L)):=by
 have hF:=UX (ω:=ω);unfold NI;obtain ⟨a,m,k,rfl⟩:∃a m k,v= .slice (some a) m (k+1):=by
  rcases SlO.buf hX h0 with rfl|h
  ·obtain ⟨_,h8⟩:=hX;rcases h8 with ⟨_,h1,_⟩|⟨b8,k8,_,_,h8,_⟩
   ·omega
   ·cases h8
  ·exact h
 refine call (YJ ?_);have e0:(((k+1:Nat):Int)==0)=false:=by simp;omega
 simp only [e0,SSd,Nat.reduceAdd];refine ⟨⟨r.toArray⟩,rfl,fun b2=>?_⟩;refine Gh.to (X++((b2,.stringIter ⟨r.toArray⟩ 0)::(bs,it)::(b,BuB p (.slice (some a) m (k+1)))::L)) (Gh.done ?_);refine loop (fun m st I2 Lx=>∃(j:Nat) (X:LH) (p v:Value),j+m=r.length∧I2=I∧Lx=X++((b2,.stringIter ⟨r.toArray⟩ j)::(bs,it)::(b,BuB p v)::L)∧BuP b p∧SlO 5 1 X v (Lib.byteCells (acc++(r.take j).map Dz)) (acc++(r.take j).map Dz).length) r.length ⟨0,X,p,_,by omega,rfl,rfl,hp,by simpa using hX⟩ ?_;clear hX hp;rintro m2 st I2 Lx ⟨j,X,p,v,h1,rfl,rfl,hp,hX⟩;have hjl:(acc++(r.take j).map Dz).length≤900000000:=by simp;omega
 unfold ABs;refine Vl hasc (fun c hc hca=>Gh.done ?_) (fun he=>Gh.done ?_)
 ·obtain ⟨hlt,hce⟩:=List.getElem?_eq_some_iff.1 hc;try refine zqe ?_
  refine FM (hF c _ _ _ hca ?_);have hll:=AHi c hca;have e1:decide ((0:Int)≤((Dz c).toNat:Int))=true:=by simp
  have e2:decide (((Dz c).toNat:Int) < 128)=true:=by simp;omega
  have e3:IntKind.u8.wrap ((Dz c).toNat:Int)=(Dz c).toNat:=IntWalk.u8_in _ (by omega);simp only [e1,e2,e3,SSd,Nat.reduceAdd];refine call (Hq hp hX (by omega) (Dz c) (fun X' v' hX'=>?_));refine Gh.done ⟨m2 - 1,by omega,j+1,X',AP b,v',by omega,rfl,rfl,.inr rfl,?_⟩;have et:r.take (j+1)=r.take j++[c]:=by rw [List.take_add_one,hc];rfl
  rw [et,List.map_append,←List.append_assoc];rw [show (List.map Dz [c])=[Dz c] from rfl,byteCells_snoc];simpa [Nat.add_assoc] using hX'
 ·try refine zqe ?_
  unfold XA;refine call (Jr (p:=p) (v:=v) (X:=X) hX (by omega) (fun h=>by simp at h;exact absurd h.1 (List.length_pos_iff.1 h0)) (fun X'=>?_));have et:r.take j=r:=List.take_of_length_le (by omega);rw [et];exact Gh.to L (Gh.done hk)
theorem AHh (s:Bs)(hs:s.length≤900000000)(hasc:∀c∈s,c.toNat < 128)(hk:K (.string ⟨(s.map Dz).toArray⟩) I L):CT ω 136 #[.func (.func 137) #[] #[],.string ⟨s.toArray⟩] K I L:=by
 have hF:=UX (ω:=ω);refine AQT ?_;unfold AMl;refine Ad (fun bb=>?_);refine ⟨⟨s.toArray⟩,rfl,fun bs=>Gh.done ?_⟩;refine loop (fun m st I2 Lx=>∃i,i+m=s.length∧I2=I∧st=(.string ⟨s.toArray⟩,())∧Lx=(bs,.stringIter ⟨s.toArray⟩ i)::(bb,BuB (.pointer none) (.slice none 0 0))::L∧(s.take i).map Dz=s.take i) s.length ⟨0,by omega,rfl,rfl,rfl,rfl⟩ ?_;rintro m st I2 Lx ⟨i,h1,rfl,rfl,rfl,hfix⟩;unfold ABu;refine Vl (L1:=[]) hasc (fun c hc hca=>Gh.done ?_) (fun he=>Gh.done ?_)
 ·obtain ⟨hlt,hce⟩:=List.getElem?_eq_some_iff.1 hc;try refine zqe ?_
  refine FM (hF c _ _ _ hca ?_);have hll:=AHi c hca;have e0:((c.toNat:Int) != 65533)=true:=by simp;omega
  have e0':((c.toNat:Int)==65533)=false:=by simp;omega
  simp only [WV,e0,e0',SSd,Nat.reduceAdd];refine Bc (fun he=>?_) (fun he=>?_)
  ·have he:Dz c=c:=by simpa using he
   refine Gh.done ⟨m - 1,by omega,i+1,by omega,rfl,trivial,rfl,?_⟩;rw [List.take_add_one,hc];simp [hfix,he]
  ·unfold Qo;refine call (Va hca ?_);unfold QC;have e4:IntKind.i64.wrap ((s.length:Int)+4)=((s.length+4:Nat):Int):=wrap_i64 _ (by omega);simp only [e4,SSd,Nat.reduceAdd];refine call (Uc (.inl rfl) (by omega) (by omega) (fun X1 v1 hX1 hb1=>?_));simp only [ARI s (Nat.le_of_lt hlt),SSd,Nat.reduceAdd];refine call (ES (X:=X1) (l:=[]) (.inr rfl) hX1 (by simp) (s.take i) (by simp;omega) (fun X2 v2 hX2=>?_));have e5:decide ((0:Int)≤((Dz c).toNat:Int))=true:=by simp
   simp only [e5,SSd,Nat.reduceAdd];refine call (QV (X:=X2) (l:=[]++s.take i) (.inr rfl) hX2 (by simp;omega) (Dz c) hll (fun X3 v3 x hX3=>?_));unfold VO;have e6:IntKind.i64.wrap ((i:Int)+1)=((i+1:Nat):Int):=wrap_i64 _ (by omega);simp only [e6,SSd,Nat.reduceAdd];simp only [Yw s (show i+1≤s.length by omega),SSd,Nat.reduceAdd];refine map_rest (X:=X3) (acc:=[]++s.take i++[Dz c]) (r:=s.drop (i+1)) (by simp;omega) (by simp) (fun d hd=>hasc d (List.mem_of_mem_drop hd)) (.inr rfl) hX3 ?_;have e7:s.map Dz=[]++s.take i++[Dz c]++(s.drop (i+1)).map Dz:=by
    conv=>lhs;rw [←List.take_append_drop i s]
    rw [List.map_append,hfix,List.drop_eq_getElem_cons hlt,hce];simp
   rw [←e7];exact hk
 ·try refine zqe ?_
  unfold NI;have hi:i=s.length:=by omega
  subst hi;refine call (YJ ?_);try refine zqe ?_
  rw [List.take_length] at hfix;rw [hfix] at hk;exact Gh.to L (Gh.done hk)
end
end Go.Proofs.YtkifgfanjcfedaaGreatDoor
