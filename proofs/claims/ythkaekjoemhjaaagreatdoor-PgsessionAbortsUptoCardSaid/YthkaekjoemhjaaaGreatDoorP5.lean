/-
  Lemmas, part 5: laid together by a program.
-/
import Derived.Test.YthkaekjoemhjaaaGreatDoorP4
import Derived.Test.YthkaekjoemhjaaaGreatDoorP2
set_option maxRecDepth 100000
set_option linter.unusedVariables false
set_option linter.unusedSimpArgs false
set_option linter.unusedSectionVars false
namespace Go.Proofs.YthkaekjoemhjaaaGreatDoor
open Go.SL
def sh283_3 (ω:Om)(p0 p2 p3:Value)(K:Value→M)(Pn:Value→M):M:=AX Tryz.prog ω 152 #[p0,(Value.string (ByteArray.mk #[105,115]))] Pn<|gh fun v17=>Br v17 (AX Tryz.prog ω 152 #[p0,(Value.string (ByteArray.mk #[110,111,116]))] Pn<|gh fun v18=>Br v18 (sh283_4 ω p0 p2 p3 (.int .i64 7) K Pn) (sh283_4 ω p0 p2 p3 (.int .i64 6) K Pn)) (AX Tryz.prog ω 152 #[p0,(Value.string (ByteArray.mk #[110,111,116]))] Pn<|gh fun v25=>AX Tryz.prog ω 152 #[p0,(Value.string (ByteArray.mk #[105,110]))] Pn<|gh fun v26=>Br v26 (CY fun S=>Rs S (AY 11 p3) fun v33=>(fun I L=>(AU 65 11 Zb 1 [(0,v33)]<|gh fun v34=>AX Tryz.prog ω 191 #[p0] Pn<|gh<|Aa S fun v35=>App 65 11 128 Zb v34 v35<|gh fun v36=>AX Tryz.prog ω 261 #[(.int .i64 24),v36] Pn<|gh fun v37=>Sto 11 p3 v37<|gh fun _=>sh283_7 ω p2 p3 v25 K Pn) I L∧(AX Tryz.prog ω 191 #[p0] Pn<|gh<|Aa S fun v38=>AU 65 11 Zb 1 [(0,v33)]<|gh fun v39=>App 65 11 128 Zb v39 v38<|gh fun v40=>AX Tryz.prog ω 261 #[(.int .i64 24),v40] Pn<|gh fun v41=>Sto 11 p3 v41<|gh fun _=>sh283_7 ω p2 p3 v25 K Pn) I L)) (AX Tryz.prog ω 152 #[p0,(Value.string (ByteArray.mk #[98,101,116,119,101,101,110]))] Pn<|gh fun v42=>Br v42 (AX Tryz.prog ω 288 #[p0] Pn<|gh fun v43=>New (.cells Zb 65 (0,0))<|gh fun low_44=>Sto 11 low_44 v43<|gh fun _=>AU 9 1 Za 1 [(0,(Value.string (ByteArray.mk #[97,110,100])))]<|gh fun v45=>AX Tryz.prog ω 187 #[p0,v45] Pn<|gh fun v46=>CY fun S=>Rs S (AY 11 p3) fun v47=>Rs S (AY 11 low_44) fun v48=>AX Tryz.prog ω 288 #[p0] Pn<|gh<|Aa S fun v49=>AU 65 11 Zb 3 [(0,v47),(1,v48),(2,v49)]<|gh fun v50=>AX Tryz.prog ω 261 #[(.int .i64 25),v50] Pn<|gh fun v51=>Sto 11 p3 v51<|gh fun _=>sh283_7 ω p2 p3 v25 K Pn) (AX Tryz.prog ω 152 #[p0,(Value.string (ByteArray.mk #[108,105,107,101]))] Pn<|gh fun v52=>Br v52 (CY fun S=>Rs S (AY 11 p3) fun v53=>AX Tryz.prog ω 288 #[p0] Pn<|gh<|Aa S fun v54=>AU 65 11 Zb 2 [(0,v53),(1,v54)]<|gh fun v55=>AX Tryz.prog ω 261 #[(.int .i64 23),v55] Pn<|gh fun v56=>Sto 11 p3 v56<|gh fun _=>sh283_7 ω p2 p3 v25 K Pn) (Br v25 (AX Tryz.prog ω 155 #[p0] Pn<|gh fun v57=>sh283_7 ω p2 p3 v25 K Pn) (sh283_7 ω p2 p3 v25 K Pn)))))
def sh283_1 (ω:Om)(p0 p2:Value)(p3 p11:Value)(p12 x13:Value)(Kn0:(Value×Unit)→M)(K:Value→M)(Pn:Value→M):M:=Pv (AA .lss x13 p12) fun v6=>Br v6 (Pv (ixV 1 p11 x13) fun v7=>Rn (AQ v7) fun v8=>AX Tryz.prog ω 152 #[p0,v8] Pn<|gh fun v9=>Br v9 (CY fun S=>Pv (AA .add (.int .i64 15) x13) fun v10=>Rs S (AY 11 p3) fun v11=>AX Tryz.prog ω 288 #[p0] Pn<|gh<|Aa S fun v12=>AU 65 11 Zb 2 [(0,v11),(1,v12)]<|gh fun v13=>AX Tryz.prog ω 261 #[v10,v13] Pn<|gh fun v14=>Sto 11 p2 v14<|gh fun _=>Rn (AY 11 p2) fun v15=>K v15) (Pv (AA .add x13 (.int .i64 1)) fun v16=>Kn0 (v16,()))) (sh283_3 ω p0 p2 p3 K Pn)
def sh283 (ω:Om)(a0:Value)(K:Value→M)(Pn:Value→M):M:=New (.cells Zb 65 (0,0))<|gh fun v1=>AX Tryz.prog ω 288 #[a0] Pn<|gh fun v2=>New (.cells Zb 65 (0,0))<|gh fun x_3=>Sto 11 x_3 v2<|gh fun _=>AU 9 1 Za 6 [(0,(Value.string (ByteArray.mk #[61]))),(1,(Value.string (ByteArray.mk #[60,62]))),(2,(Value.string (ByteArray.mk #[60]))),(3,(Value.string (ByteArray.mk #[60,61]))),(4,(Value.string (ByteArray.mk #[62]))),(5,(Value.string (ByteArray.mk #[62,61])))]<|gh fun v4=>Pv (lenV v4) fun v5=>BF ((I0,()):Value×Unit) fun s Kn0=>sh283_1 ω a0 v1 x_3 v4 v5 s.1 Kn0 K Pn
theorem ACZ (ω:Om)(a0:Value)(K Pn:Value→M):vcP Tryz.prog ω Tryz.f283 [a0] K Pn=sh283 ω a0 K Pn:=by kernel_rfl
theorem ANz {ω:Om}{a0:Value}{K Pn:Value→M}{I:Imm}{L:LH}(h:sh283 ω a0 (fun v=>Gh (K v)) (fun v=>Gh (Pn v)) I L):CalP Tryz.prog ω 283 #[a0] K Pn I L:=
 CalP.gh (Ar mixed Tryz.func283 (by rw [ACZ];exact h))
def sh284_2 (ω:Om)(p0 p2:Value)(p3 p4:Value)(K:Value→M):M:=CT ω 185 #[p0]<|gh fun v17=>Rn (AY 4 p4) fun v18=>Pv (Ad Zb Zo [(0,(.int .i64 1)),(1,v18)]) fun v19=>Sto 11 p2 v19<|gh fun _=>Rn (AY 11 p2) fun v20=>K (Value.tuple #[v20,Bt])
def sh284 (ω:Om)(a0:Value)(K:Value→M):M:=New (.cells Zb 65 (0,0))<|gh fun v1=>New (.cells Zs 62 (0,0))<|gh fun v_2=>Pv (Am a0) fun v3=>Pv (AC 0 v3) fun v4=>Rn (AQ v4) fun v5=>Pv (ixV 4 v5 I0) fun v6=>Pv (AC 0 v6) fun v7=>Rn (AQ v7) fun v8=>Pv (AA .eql v8 (.int .i64 4)) fun v9=>Br v9 (Pv (Am a0) fun v10=>Pv (AC 0 v10) fun v11=>Rn (AQ v11) fun v12=>Pv (ixV 4 v12 I0) fun v13=>Pv (AC 2 v13) fun v14=>Rn (AQ v14) fun v15=>Pv (Ad Zs Zq [(0,(.int .i64 3)),(3,v15)]) fun v16=>Sto 4 v_2 v16<|gh fun _=>sh284_2 ω a0 v1 Bf v_2 K) (CT ω 154 #[a0,(Value.string (ByteArray.mk #[116,114,117,101]))]<|gh fun v21=>Br v21 (Pv (Ad Zs Zq [(0,(.int .i64 2)),(2,(.int .i64 1))]) fun v22=>Sto 4 v_2 v22<|gh fun _=>sh284_2 ω a0 v1 Bf v_2 K) (CT ω 154 #[a0,(Value.string (ByteArray.mk #[102,97,108,115,101]))]<|gh fun v23=>Br v23 (Pv (Ad Zs Zq [(0,(.int .i64 2))]) fun v24=>Sto 4 v_2 v24<|gh fun _=>sh284_2 ω a0 v1 Bf v_2 K) (CT ω 154 #[a0,(Value.string (ByteArray.mk #[110,117,108,108]))]<|gh fun v25=>Br v25 (Pv (Ad Zs Zq [(0,(.int .i64 4)),(1,Bt)]) fun v26=>Sto 4 v_2 v26<|gh fun _=>sh284_2 ω a0 v1 Bf v_2 K) (Pv (Ad Zb Zo []) fun v27=>Sto 11 v1 v27<|gh fun _=>Rn (AY 11 v1) fun v28=>K (Value.tuple #[v28,Bf])))))
theorem ACY (ω:Om)(a0:Value)(K:Value→M):vcF Tryz.prog ω Tryz.f284 [a0] K=sh284 ω a0 K:=by kernel_rfl
variable {ω:Om}{K:Value→M}{I:Imm}{L:LH}{a0 a1 a2 a3 a4 a5 a6 a7 a8:Value}
theorem ANy (h:sh284 ω a0 (fun v=>Gh (K v)) I L):CT ω 284 #[a0] K I L:=Cal.gh (AO mixed Tryz.func284 (by rw [ACY];exact h))
def ACX (ω:Om)(a0:Value)(K:Value→M)(Pn:Value→M):M:=New (.cells Zb 65 (0,0))<|gh fun v1=>AX Tryz.prog ω 231 #[a0,(.int .i64 3)] Pn<|gh fun v2=>Pv (FC false 3 1 v2) fun v3=>Pv (Ad Zs Zq [(0,(.int .i64 1)),(2,v3)]) fun v4=>Pv (Ad Zb Zo [(0,(.int .i64 1)),(1,v4)]) fun v5=>Sto 11 v1 v5<|gh fun _=>Rn (AY 11 v1) fun v6=>K v6
theorem ACW (ω:Om)(a0:Value)(K Pn:Value→M):vcP Tryz.prog ω Tryz.f285 [a0] K Pn=ACX ω a0 K Pn:=by kernel_rfl
theorem ANx {ω:Om}{a0:Value}{K Pn:Value→M}{I:Imm}{L:LH}(h:ACX ω a0 (fun v=>Gh (K v)) (fun v=>Gh (Pn v)) I L):CalP Tryz.prog ω 285 #[a0] K Pn I L:=
 CalP.gh (Ar mixed Tryz.func285 (by rw [ACW];exact h))
def ACV (ω:Om)(a0:Value)(K:Value→M)(Pn:Value→M):M:=New (.cells Zb 65 (0,0))<|gh fun v1=>TJ<|gh fun v2=>Fq .string v2 (Value.string (ByteArray.mk #[43])) (.int .i64 9)<|gh fun _=>Fq .string v2 (Value.string (ByteArray.mk #[45])) (.int .i64 10)<|gh fun _=>Fq .string v2 (Value.string (ByteArray.mk #[124,124])) (.int .i64 14)<|gh fun _=>AX Tryz.prog ω 291 #[a0,(Value.func (Fn.func 292) #[a0] #[]),v2] Pn<|gh fun v3=>Sto 11 v1 v3<|gh fun _=>Rn (AY 11 v1) fun v4=>K v4
theorem ACU (ω:Om)(a0:Value)(K Pn:Value→M):vcP Tryz.prog ω Tryz.f288 [a0] K Pn=ACV ω a0 K Pn:=by kernel_rfl
theorem ANw {ω:Om}{a0:Value}{K Pn:Value→M}{I:Imm}{L:LH}(h:ACV ω a0 (fun v=>Gh (K v)) (fun v=>Gh (Pn v)) I L):CalP Tryz.prog ω 288 #[a0] K Pn I L:=
 CalP.gh (Ar mixed Tryz.func288 (by rw [ACU];exact h))
def sh291_3 (ω:Om)(p6 p7:Value)(K:Value→M)(Pn:Value→M):M:=Rn (AY 11 p7) fun v21=>Sto 11 p6 v21<|gh fun _=>Rn (AY 11 p6) fun v22=>K v22
def sh291_1 (ω:Om)(p0 p1:Value)(p2 p6 p7:Value)(Kn0:(Unit)→M)(K:Value→M)(Pn:Value→M):M:=Pv (Am p0) fun v4=>Pv (AC 0 v4) fun v5=>Rn (AQ v5) fun v6=>Pv (ixV 4 v6 I0) fun v7=>Pv (AC 0 v7) fun v8=>Rn (AQ v8) fun v9=>Pv (AA .eql v9 (.int .i64 5)) fun v10=>Br v10 (Pv (Am p0) fun v11=>Pv (AC 0 v11) fun v12=>Rn (AQ v12) fun v13=>Pv (ixV 4 v13 I0) fun v14=>Pv (AC 2 v14) fun v15=>Rn (AQ v15) fun v16=>Rn (lkR .string I0 true p2 v16) fun v17=>Pv (exV v17 0) fun v18=>Pv (exV v17 1) fun v19=>Pv (unV .not v19) fun v20=>Br v20 (sh291_3 ω p6 p7 K Pn) (AX Tryz.prog ω 185 #[p0] Pn<|gh fun v23=>CY fun S=>Rs S (AY 11 p7) fun v24=>GX Tryz.prog ω p1 #[] Pn<|gh<|Aa S fun v25=>AU 65 11 Zb 2 [(0,v24),(1,v25)]<|gh fun v26=>AX Tryz.prog ω 261 #[v18,v26] Pn<|gh fun v27=>Sto 11 p7 v27<|gh fun _=>Kn0 (()))) (sh291_3 ω p6 p7 K Pn)
def sh291 (ω:Om)(a0 a1 a2:Value)(K:Value→M)(Pn:Value→M):M:=New (.cells Zb 65 (0,0))<|gh fun v1=>GX Tryz.prog ω a1 #[] Pn<|gh fun v2=>New (.cells Zb 65 (0,0))<|gh fun x_3=>Sto 11 x_3 v2<|gh fun _=>BF ((()):Unit) fun s Kn0=>sh291_1 ω a0 a1 a2 v1 x_3 Kn0 K Pn
theorem ACT (ω:Om)(a0 a1 a2:Value)(K Pn:Value→M):vcP Tryz.prog ω Tryz.f291 [a0,a1,a2] K Pn=sh291 ω a0 a1 a2 K Pn:=by kernel_rfl
theorem ANv {ω:Om}{a0 a1 a2:Value}{K Pn:Value→M}{I:Imm}{L:LH}(h:sh291 ω a0 a1 a2 (fun v=>Gh (K v)) (fun v=>Gh (Pn v)) I L):CalP Tryz.prog ω 291 #[a0,a1,a2] K Pn I L:=
 CalP.gh (Ar mixed Tryz.func291 (by rw [ACT];exact h))
def ACS (ω:Om)(a0:Value)(K:Value→M)(Pn:Value→M):M:=New (.cells Zb 65 (0,0))<|gh fun v1=>TJ<|gh fun v2=>Fq .string v2 (Value.string (ByteArray.mk #[42])) (.int .i64 11)<|gh fun _=>Fq .string v2 (Value.string (ByteArray.mk #[47])) (.int .i64 12)<|gh fun _=>Fq .string v2 (Value.string (ByteArray.mk #[37])) (.int .i64 13)<|gh fun _=>AX Tryz.prog ω 291 #[a0,(Value.func (Fn.func 294) #[a0] #[]),v2] Pn<|gh fun v3=>Sto 11 v1 v3<|gh fun _=>Rn (AY 11 v1) fun v4=>K v4
theorem ACR (ω:Om)(a0:Value)(K Pn:Value→M):vcP Tryz.prog ω Tryz.f292 [a0] K Pn=ACS ω a0 K Pn:=by kernel_rfl
theorem ANu {ω:Om}{a0:Value}{K Pn:Value→M}{I:Imm}{L:LH}(h:ACS ω a0 (fun v=>Gh (K v)) (fun v=>Gh (Pn v)) I L):CalP Tryz.prog ω 292 #[a0] K Pn I L:=
 CalP.gh (Ar mixed Tryz.func292 (by rw [ACR];exact h))
def sh294_1 (ω:Om)(p0 p2 p6:Value)(K:Value→M)(Pn:Value→M):M:=AX Tryz.prog ω 152 #[p0,(Value.string (ByteArray.mk #[46]))] Pn<|gh fun v40=>Br v40 (AX Tryz.prog ω 188 #[p0] Pn<|gh fun v41=>Pv (Ad Zb Zo [(0,(.int .i64 2)),(2,p6),(3,v41)]) fun v42=>Sto 11 p2 v42<|gh fun _=>Rn (AY 11 p2) fun v43=>K v43) (Pv (Ad Zb Zo [(0,(.int .i64 2)),(3,p6)]) fun v44=>Sto 11 p2 v44<|gh fun _=>Rn (AY 11 p2) fun v45=>K v45)
def sh294 (ω:Om)(a0:Value)(K:Value→M)(Pn:Value→M):M:=New (.cells Zb 65 (0,0))<|gh fun v1=>AX Tryz.prog ω 152 #[a0,(Value.string (ByteArray.mk #[45]))] Pn<|gh fun v2=>Br v2 (AX Tryz.prog ω 294 #[a0] Pn<|gh fun v3=>AU 65 11 Zb 1 [(0,v3)]<|gh fun v4=>AX Tryz.prog ω 261 #[(.int .i64 4),v4] Pn<|gh fun v5=>Sto 11 v1 v5<|gh fun _=>Rn (AY 11 v1) fun v6=>K v6) (AX Tryz.prog ω 152 #[a0,(Value.string (ByteArray.mk #[40]))] Pn<|gh fun v7=>Br v7 (AX Tryz.prog ω 227 #[a0] Pn<|gh fun v8=>New (.cells Zb 65 (0,0))<|gh fun x_9=>Sto 11 x_9 v8<|gh fun _=>AU 9 1 Za 1 [(0,(Value.string (ByteArray.mk #[41])))]<|gh fun v10=>AX Tryz.prog ω 187 #[a0,v10] Pn<|gh fun v11=>Rn (AY 11 x_9) fun v12=>Sto 11 v1 v12<|gh fun _=>Rn (AY 11 v1) fun v13=>K v13) (AX Tryz.prog ω 152 #[a0,(Value.string (ByteArray.mk #[99,97,115,101]))] Pn<|gh fun v14=>Br v14 (AX Tryz.prog ω 297 #[a0] Pn<|gh fun v15=>Sto 11 v1 v15<|gh fun _=>Rn (AY 11 v1) fun v16=>K v16) (Pv (Am a0) fun v17=>Pv (AC 0 v17) fun v18=>Rn (AQ v18) fun v19=>Pv (ixV 4 v19 I0) fun v20=>Pv (AC 0 v20) fun v21=>Rn (AQ v21) fun v22=>Pv (AA .eql v22 (.int .i64 3)) fun v23=>Br v23 (AX Tryz.prog ω 285 #[a0] Pn<|gh fun v24=>Sto 11 v1 v24<|gh fun _=>Rn (AY 11 v1) fun v25=>K v25) (AX Tryz.prog ω 284 #[a0] Pn<|gh fun v26=>Pv (exV v26 0) fun v27=>Pv (exV v26 1) fun v28=>New (.cells Zb 65 (0,0))<|gh fun x_29=>Sto 11 x_29 v27<|gh fun _=>Br v28 (Rn (AY 11 x_29) fun v30=>Sto 11 v1 v30<|gh fun _=>Rn (AY 11 v1) fun v31=>K v31) (AX Tryz.prog ω 188 #[a0] Pn<|gh fun v32=>AX Tryz.prog ω 154 #[a0,(Value.string (ByteArray.mk #[40]))] Pn<|gh fun v33=>Br v33 (AX Tryz.prog ω 298 #[a0,v32] Pn<|gh fun v34=>Pv (exV v34 0) fun v35=>Pv (exV v34 1) fun v36=>New (.cells Zb 65 (0,0))<|gh fun x_37=>Sto 11 x_37 v35<|gh fun _=>Br v36 (Rn (AY 11 x_37) fun v38=>Sto 11 v1 v38<|gh fun _=>Rn (AY 11 v1) fun v39=>K v39) (sh294_1 ω a0 v1 v32 K Pn)) (sh294_1 ω a0 v1 v32 K Pn))))))
theorem ACQ (ω:Om)(a0:Value)(K Pn:Value→M):vcP Tryz.prog ω Tryz.f294 [a0] K Pn=sh294 ω a0 K Pn:=by kernel_rfl
theorem ANt {ω:Om}{a0:Value}{K Pn:Value→M}{I:Imm}{L:LH}(h:sh294 ω a0 (fun v=>Gh (K v)) (fun v=>Gh (Pn v)) I L):CalP Tryz.prog ω 294 #[a0] K Pn I L:=
 CalP.gh (Ar mixed Tryz.func294 (by rw [ACQ];exact h))
def NK (ω:Om)(p0 p2 p3:Value)(K:Value→M)(Pn:Value→M):M:=AU 9 1 Za 1 [(0,(Value.string (ByteArray.mk #[101,110,100])))]<|gh fun v28=>AX Tryz.prog ω 187 #[p0,v28] Pn<|gh fun v29=>Rn (AY 11 p3) fun v30=>Sto 11 p2 v30<|gh fun _=>Rn (AY 11 p2) fun v31=>K v31
def XW (ω:Om)(p0 p2 p3:Value)(K:Value→M)(Pn:Value→M):M:=AX Tryz.prog ω 152 #[p0,(Value.string (ByteArray.mk #[101,108,115,101]))] Pn<|gh fun v21=>Br v21 (CY fun S=>Pv (AC 10 p3) fun v22=>Rs S (AQ v22) fun v23=>AX Tryz.prog ω 227 #[p0] Pn<|gh<|Aa S fun v24=>AU 65 11 Zb 1 [(0,v24)]<|gh<|Aa S fun v25=>App 65 11 128 Zb v23 v25<|gh fun v26=>Pv (AC 10 p3) fun v27=>Sto 1 v27 v26<|gh fun _=>NK ω p0 p2 p3 K Pn) (NK ω p0 p2 p3 K Pn)
def XX (ω:Om)(p0 p2 p3:Value)(Kn0:(Unit)→M)(K:Value→M)(Pn:Value→M):M:=Pv (AC 10 p3) fun v4=>Rn (AQ v4) fun v5=>Pv (Gw .eql v5 S0) fun v6=>Gd v6 false (AX Tryz.prog ω 154 #[p0,(Value.string (ByteArray.mk #[119,104,101,110]))] Pn<|gh fun v7=>Br v7 (AU 9 1 Za 1 [(0,(Value.string (ByteArray.mk #[119,104,101,110])))]<|gh fun v8=>AX Tryz.prog ω 187 #[p0,v8] Pn<|gh fun v9=>AX Tryz.prog ω 227 #[p0] Pn<|gh fun v10=>New (.cells Zb 65 (0,0))<|gh fun when_11=>Sto 11 when_11 v10<|gh fun _=>AU 9 1 Za 1 [(0,(Value.string (ByteArray.mk #[116,104,101,110])))]<|gh fun v12=>AX Tryz.prog ω 187 #[p0,v12] Pn<|gh fun v13=>CY fun S=>Pv (AC 10 p3) fun v14=>Rs S (AQ v14) fun v15=>Rs S (AY 11 when_11) fun v16=>AX Tryz.prog ω 227 #[p0] Pn<|gh<|Aa S fun v17=>AU 65 11 Zb 2 [(0,v16),(1,v17)]<|gh<|Aa S fun v18=>App 65 11 128 Zb v15 v18<|gh fun v19=>Pv (AC 10 p3) fun v20=>Sto 1 v20 v19<|gh fun _=>Kn0 (())) (XW ω p0 p2 p3 K Pn)) (AU 9 1 Za 1 [(0,(Value.string (ByteArray.mk #[119,104,101,110])))]<|gh fun v32=>AX Tryz.prog ω 187 #[p0,v32] Pn<|gh fun v33=>AX Tryz.prog ω 227 #[p0] Pn<|gh fun v34=>New (.cells Zb 65 (0,0))<|gh fun when_35=>Sto 11 when_35 v34<|gh fun _=>AU 9 1 Za 1 [(0,(Value.string (ByteArray.mk #[116,104,101,110])))]<|gh fun v36=>AX Tryz.prog ω 187 #[p0,v36] Pn<|gh fun v37=>CY fun S=>Pv (AC 10 p3) fun v38=>Rs S (AQ v38) fun v39=>Rs S (AY 11 when_35) fun v40=>AX Tryz.prog ω 227 #[p0] Pn<|gh<|Aa S fun v41=>AU 65 11 Zb 2 [(0,v40),(1,v41)]<|gh<|Aa S fun v42=>App 65 11 128 Zb v39 v42<|gh fun v43=>Pv (AC 10 p3) fun v44=>Sto 1 v44 v43<|gh fun _=>Kn0 (()))
def ACP (ω:Om)(a0:Value)(K:Value→M)(Pn:Value→M):M:=New (.cells Zb 65 (0,0))<|gh fun v1=>Pv (Ad Zb Zo [(0,(.int .i64 26))]) fun v2=>New (.cells Zb 65 (0,0))<|gh fun x_3=>Sto 11 x_3 v2<|gh fun _=>BF ((()):Unit) fun s Kn0=>XX ω a0 v1 x_3 Kn0 K Pn
theorem ACO (ω:Om)(a0:Value)(K Pn:Value→M):vcP Tryz.prog ω Tryz.f297 [a0] K Pn=ACP ω a0 K Pn:=by kernel_rfl
theorem ANs {ω:Om}{a0:Value}{K Pn:Value→M}{I:Imm}{L:LH}(h:ACP ω a0 (fun v=>Gh (K v)) (fun v=>Gh (Pn v)) I L):CalP Tryz.prog ω 297 #[a0] K Pn I L:=
 CalP.gh (Ar mixed Tryz.func297 (by rw [ACO];exact h))
def sh298_3 (ω:Om)(p0 p4:Value)(p5 p7:Value)(K:Value→M)(Pn:Value→M):M:=AU 9 1 Za 1 [(0,(Value.string (ByteArray.mk #[41])))]<|gh fun v27=>AX Tryz.prog ω 187 #[p0,v27] Pn<|gh fun v28=>Rn (AY 11 p7) fun v29=>Sto 11 p4 v29<|gh fun _=>Rn (AY 11 p4) fun v30=>K (Value.tuple #[v30,Bt])
def sh298_2 (ω:Om)(p0 p4:Value)(p5 p7:Value)(K:Value→M)(Pn:Value→M):M:=Pv (Ad Zb Zo [(0,(.int .i64 3))]) fun v24=>AU 65 11 Zb 1 [(0,v24)]<|gh fun v25=>Pv (AC 10 p7) fun v26=>Sto 1 v26 v25<|gh fun _=>sh298_3 ω p0 p4 p5 p7 K Pn
def sh298_4 (ω:Om)(p0 p4:Value)(p5 p7:Value)(K:Value→M)(Pn:Value→M):M:=AX Tryz.prog ω 152 #[p0,(Value.string (ByteArray.mk #[100,105,115,116,105,110,99,116]))] Pn<|gh fun v31=>Pv (AC 9 p7) fun v32=>Sto 1 v32 v31<|gh fun _=>AX Tryz.prog ω 227 #[p0] Pn<|gh fun v33=>AU 65 11 Zb 1 [(0,v33)]<|gh fun v34=>Pv (AC 10 p7) fun v35=>Sto 1 v35 v34<|gh fun _=>sh298_3 ω p0 p4 p5 p7 K Pn
def sh298_1 (ω:Om)(p0 p1:Value)(p4 p5 p27:Value)(K:Value→M)(Pn:Value→M):M:=Br p27 (AU 9 1 Za 1 [(0,(Value.string (ByteArray.mk #[40])))]<|gh fun v18=>AX Tryz.prog ω 187 #[p0,v18] Pn<|gh fun v19=>Pv (Ad Zb Zo [(0,(.int .i64 28)),(3,p1)]) fun v20=>New (.cells Zb 65 (0,0))<|gh fun x_21=>Sto 11 x_21 v20<|gh fun _=>Pv (BK .eql p1 (Value.string (ByteArray.mk #[99,111,117,110,116]))) fun v22=>Gd v22 true (AX Tryz.prog ω 152 #[p0,(Value.string (ByteArray.mk #[42]))] Pn<|gh fun v23=>Br v23 (sh298_2 ω p0 p4 p5 x_21 K Pn) (sh298_4 ω p0 p4 p5 x_21 K Pn)) (sh298_4 ω p0 p4 p5 x_21 K Pn)) (Pv (Ad Zb Zo []) fun v36=>Sto 11 p4 v36<|gh fun _=>Rn (AY 11 p4) fun v37=>K (Value.tuple #[v37,Bf]))
def sh298 (ω:Om)(a0 a1:Value)(K:Value→M)(Pn:Value→M):M:=New (.cells Zb 65 (0,0))<|gh fun v1=>Pv (BK .eql a1 (Value.string (ByteArray.mk #[99,111,97,108,101,115,99,101]))) fun v2=>Br v2 (AX Tryz.prog ω 191 #[a0] Pn<|gh fun v3=>AX Tryz.prog ω 261 #[(.int .i64 27),v3] Pn<|gh fun v4=>Sto 11 v1 v4<|gh fun _=>Rn (AY 11 v1) fun v5=>K (Value.tuple #[v5,Bt])) (Pv (BK .eql a1 (Value.string (ByteArray.mk #[108,101,110,103,116,104]))) fun v6=>Br v6 (AU 9 1 Za 1 [(0,(Value.string (ByteArray.mk #[40])))]<|gh fun v7=>AX Tryz.prog ω 187 #[a0,v7] Pn<|gh fun v8=>AX Tryz.prog ω 227 #[a0] Pn<|gh fun v9=>AU 65 11 Zb 1 [(0,v9)]<|gh fun v10=>AX Tryz.prog ω 261 #[(.int .i64 8),v10] Pn<|gh fun v11=>New (.cells Zb 65 (0,0))<|gh fun x_12=>Sto 11 x_12 v11<|gh fun _=>AU 9 1 Za 1 [(0,(Value.string (ByteArray.mk #[41])))]<|gh fun v13=>AX Tryz.prog ω 187 #[a0,v13] Pn<|gh fun v14=>Rn (AY 11 x_12) fun v15=>Sto 11 v1 v15<|gh fun _=>Rn (AY 11 v1) fun v16=>K (Value.tuple #[v16,Bt])) (Pv (BK .eql a1 (Value.string (ByteArray.mk #[99,111,117,110,116]))) fun v17=>Br v17 (sh298_1 ω a0 a1 v1 Bf v17 K Pn) (Pv (BK .eql a1 (Value.string (ByteArray.mk #[115,117,109]))) fun v38=>Br v38 (sh298_1 ω a0 a1 v1 Bf v38 K Pn) (Pv (BK .eql a1 (Value.string (ByteArray.mk #[109,105,110]))) fun v39=>Br v39 (sh298_1 ω a0 a1 v1 Bf v39 K Pn) (Pv (BK .eql a1 (Value.string (ByteArray.mk #[109,97,120]))) fun v40=>Br v40 (sh298_1 ω a0 a1 v1 Bf v40 K Pn) (Pv (BK .eql a1 (Value.string (ByteArray.mk #[97,118,103]))) fun v41=>sh298_1 ω a0 a1 v1 Bf v41 K Pn))))))
theorem ACN (ω:Om)(a0 a1:Value)(K Pn:Value→M):vcP Tryz.prog ω Tryz.f298 [a0,a1] K Pn=sh298 ω a0 a1 K Pn:=by kernel_rfl
theorem ANr {ω:Om}{a0 a1:Value}{K Pn:Value→M}{I:Imm}{L:LH}(h:sh298 ω a0 a1 (fun v=>Gh (K v)) (fun v=>Gh (Pn v)) I L):CalP Tryz.prog ω 298 #[a0,a1] K Pn I L:=
 CalP.gh (Ar mixed Tryz.func298 (by rw [ACN];exact h))
theorem ALp (x0:Option Addr)(x1:Option Addr)(x2:Nat)(x3:Nat):Ad #[(.pointer none),(.slice none 0 0),(.int .i64 0),(.slice none 0 0),(.slice none 0 0)] Zw [(0,.pointer x0),(1,.slice x1 x2 x3)]=some (.agg #[.pointer x0,.slice x1 x2 x3,(.int .i64 0),(.slice none 0 0),(.slice none 0 0)]):=by kernel_rfl
theorem ALo:Ad Zv Zw []=some (.agg Zv):=by kernel_rfl
theorem ALn (x0:Int)(x1:Int):Ad #[(.int .i64 0),(.int .i64 0),(.int .u8 0),(.slice none 0 0),(.bool false),(.slice none 0 0),(.int .i64 0),(.int .i64 0),(.bool false),(.slice none 0 0),(.slice none 0 0),(.int .i64 0),(.int .i64 0),(.bool false),(.int .i64 0),(Value.string (ByteArray.mk #[])),(Value.string (ByteArray.mk #[])),(Value.string (ByteArray.mk #[])),(.int .i64 0),(.int .i64 0),(.bool false),(.slice none 0 0),(.slice none 0 0),(.int .i64 0),(.int .i64 0),(.bool false),(.int .i64 0),(Value.string (ByteArray.mk #[])),(Value.string (ByteArray.mk #[])),(Value.string (ByteArray.mk #[])),(.int .i64 0),(.int .i64 0),(.bool false),(.slice none 0 0),(.slice none 0 0),(.int .i64 0),(.int .i64 0),(Value.string (ByteArray.mk #[])),(.slice none 0 0),(.slice none 0 0),(.slice none 0 0),(.int .i64 0),(.int .i64 0),(.bool false),(.int .i64 0),(Value.string (ByteArray.mk #[])),(Value.string (ByteArray.mk #[])),(Value.string (ByteArray.mk #[])),(.int .i64 0),(.int .i64 0),(.bool false),(.slice none 0 0),(.slice none 0 0),(.slice none 0 0),(Value.string (ByteArray.mk #[])),(Value.string (ByteArray.mk #[])),(.slice none 0 0),(.bool false),(.bool false),(.bool false),(.slice none 0 0)] #[(0,1),(1,1),(2,1),(3,1),(4,1),(5,1),(6,53),(59,1),(60,1)] [(0,.int .i64 x0),(1,.int .i64 x1)]=some (.agg #[.int .i64 x0,.int .i64 x1,(.int .u8 0),(.slice none 0 0),(.bool false),(.slice none 0 0),(.int .i64 0),(.int .i64 0),(.bool false),(.slice none 0 0),(.slice none 0 0),(.int .i64 0),(.int .i64 0),(.bool false),(.int .i64 0),(Value.string (ByteArray.mk #[])),(Value.string (ByteArray.mk #[])),(Value.string (ByteArray.mk #[])),(.int .i64 0),(.int .i64 0),(.bool false),(.slice none 0 0),(.slice none 0 0),(.int .i64 0),(.int .i64 0),(.bool false),(.int .i64 0),(Value.string (ByteArray.mk #[])),(Value.string (ByteArray.mk #[])),(Value.string (ByteArray.mk #[])),(.int .i64 0),(.int .i64 0),(.bool false),(.slice none 0 0),(.slice none 0 0),(.int .i64 0),(.int .i64 0),(Value.string (ByteArray.mk #[])),(.slice none 0 0),(.slice none 0 0),(.slice none 0 0),(.int .i64 0),(.int .i64 0),(.bool false),(.int .i64 0),(Value.string (ByteArray.mk #[])),(Value.string (ByteArray.mk #[])),(Value.string (ByteArray.mk #[])),(.int .i64 0),(.int .i64 0),(.bool false),(.slice none 0 0),(.slice none 0 0),(.slice none 0 0),(Value.string (ByteArray.mk #[])),(Value.string (ByteArray.mk #[])),(.slice none 0 0),(.bool false),(.bool false),(.bool false),(.slice none 0 0)]):=by kernel_rfl
theorem ALm (x0:ByteArray):Ad Zv Zw [(4,.string x0)]=some (.agg #[(.slice none 0 0),(.slice none 0 0),(.slice none 0 0),(.slice none 0 0),.string x0]):=by kernel_rfl
theorem ALl (x0:Option Addr)(x1:Nat)(x2:Nat)(x3:Option Addr)(x4:Nat)(x5:Nat)(x6:Option Addr)(x7:Nat)(x8:Nat)(x9:Option Addr)(x10:Nat)(x11:Nat)(x12:ByteArray):Ad #[(.slice none 0 0),(.slice none 0 0),(.slice none 0 0),(.slice none 0 0),(Value.string (ByteArray.mk #[])),(.int .i64 0)] #[(0,5),(5,1)] [(0,.agg #[.slice x0 x1 x2,.slice x3 x4 x5,.slice x6 x7 x8,.slice x9 x10 x11,.string x12])]=some (.agg #[.slice x0 x1 x2,.slice x3 x4 x5,.slice x6 x7 x8,.slice x9 x10 x11,.string x12,(.int .i64 0)]):=by kernel_rfl
theorem ALk:Ad Zj Zx []=some (.agg Zj):=by kernel_rfl
theorem ALj (x0:Int)(x1:ByteArray)(x2:ByteArray)(x3:Bool):Ad Zc Zi [(0,.int .i64 x0),(8,.string x1),(2,.string x2),(9,.bool x3)]=some (.agg #[.int .i64 x0,(Value.string (ByteArray.mk #[])),.string x2,(.int .i64 0),(.int .i64 0),(.int .u8 0),(.slice none 0 0),(.slice none 0 0),.string x1,.bool x3]):=by kernel_rfl
theorem ALi (x0:Int)(x1:Int):Ad Zc Zi [(0,.int .i64 x0),(5,.int .u8 x1)]=some (.agg #[.int .i64 x0,(Value.string (ByteArray.mk #[])),(Value.string (ByteArray.mk #[])),(.int .i64 0),(.int .i64 0),.int .u8 x1,(.slice none 0 0),(.slice none 0 0),(Value.string (ByteArray.mk #[])),(.bool false)]):=by kernel_rfl
theorem ALh (x0:Int)(x1:Option Addr)(x2:Nat)(x3:Nat):Ad Zc Zi [(0,.int .i64 x0),(6,.slice x1 x2 x3)]=some (.agg #[.int .i64 x0,(Value.string (ByteArray.mk #[])),(Value.string (ByteArray.mk #[])),(.int .i64 0),(.int .i64 0),(.int .u8 0),.slice x1 x2 x3,(.slice none 0 0),(Value.string (ByteArray.mk #[])),(.bool false)]):=by kernel_rfl
theorem AIm (x0:Int):Ad Zc Zi [(0,.int .i64 x0)]=some (.agg #[.int .i64 x0,(Value.string (ByteArray.mk #[])),(Value.string (ByteArray.mk #[])),(.int .i64 0),(.int .i64 0),(.int .u8 0),(.slice none 0 0),(.slice none 0 0),(Value.string (ByteArray.mk #[])),(.bool false)]):=by kernel_rfl
theorem AIl (x0:Int)(x1:ByteArray):Ad Zc Zi [(0,.int .i64 x0),(2,.string x1)]=some (.agg #[.int .i64 x0,(Value.string (ByteArray.mk #[])),.string x1,(.int .i64 0),(.int .i64 0),(.int .u8 0),(.slice none 0 0),(.slice none 0 0),(Value.string (ByteArray.mk #[])),(.bool false)]):=by kernel_rfl
theorem AIk (x0:Int):Ad Zj Zx [(0,.int .i64 x0)]=some (.agg #[.int .i64 x0,(.int .i64 0),(.bool false),(.slice none 0 0),(.slice none 0 0),(.int .i64 0),(.int .i64 0),(.bool false),(.int .i64 0),(Value.string (ByteArray.mk #[])),(Value.string (ByteArray.mk #[])),(Value.string (ByteArray.mk #[])),(.int .i64 0),(.int .i64 0),(.bool false),(.slice none 0 0),(.slice none 0 0),(.int .i64 0),(.int .i64 0),(.bool false),(.int .i64 0),(Value.string (ByteArray.mk #[])),(Value.string (ByteArray.mk #[])),(Value.string (ByteArray.mk #[])),(.int .i64 0),(.int .i64 0),(.bool false),(.slice none 0 0),(.slice none 0 0),(.int .i64 0),(.int .i64 0),(Value.string (ByteArray.mk #[])),(.slice none 0 0),(.slice none 0 0),(.slice none 0 0),(.int .i64 0),(.int .i64 0),(.bool false),(.int .i64 0),(Value.string (ByteArray.mk #[])),(Value.string (ByteArray.mk #[])),(Value.string (ByteArray.mk #[])),(.int .i64 0),(.int .i64 0),(.bool false),(.slice none 0 0),(.slice none 0 0),(.slice none 0 0),(Value.string (ByteArray.mk #[])),(Value.string (ByteArray.mk #[])),(.slice none 0 0),(.bool false),(.bool false)]):=by kernel_rfl
theorem AIj (x0:Int)(x1:ByteArray)(x2:ByteArray):Ad Zc Zi [(0,.int .i64 x0),(8,.string x1),(2,.string x2)]=some (.agg #[.int .i64 x0,(Value.string (ByteArray.mk #[])),.string x2,(.int .i64 0),(.int .i64 0),(.int .u8 0),(.slice none 0 0),(.slice none 0 0),.string x1,(.bool false)]):=by kernel_rfl
theorem AIi (x0:Int)(x1:Int)(x2:Bool)(x3:Option Addr)(x4:Nat)(x5:Nat)(x6:Option Addr)(x7:Nat)(x8:Nat)(x9:Int)(x10:Int)(x11:Bool)(x12:Int)(x13:ByteArray)(x14:ByteArray)(x15:ByteArray)(x16:Int)(x17:Int)(x18:Bool)(x19:Option Addr)(x20:Nat)(x21:Nat)(x22:Option Addr)(x23:Nat)(x24:Nat)(x25:Int)(x26:Int)(x27:Bool)(x28:Int)(x29:ByteArray)(x30:ByteArray)(x31:ByteArray)(x32:Int)(x33:Int)(x34:Bool)(x35:Option Addr)(x36:Nat)(x37:Nat)(x38:Option Addr)(x39:Nat)(x40:Nat)(x41:Int)(x42:Int)(x43:ByteArray)(x44:Option Addr)(x45:Nat)(x46:Nat)(x47:Option Addr)(x48:Nat)(x49:Nat)(x50:Option Addr)(x51:Nat)(x52:Nat)(x53:Int)(x54:Int)(x55:Bool)(x56:Int)(x57:ByteArray)(x58:ByteArray)(x59:ByteArray)(x60:Int)(x61:Int)(x62:Bool)(x63:Option Addr)(x64:Nat)(x65:Nat)(x66:Option Addr)(x67:Nat)(x68:Nat)(x69:Option Addr)(x70:Nat)(x71:Nat)(x72:ByteArray)(x73:ByteArray)(x74:Option Addr)(x75:Nat)(x76:Nat)(x77:Bool)(x78:Bool):Ad Zj Zx [(0,.int .i64 x0),(1,.agg #[.int .i64 x1,.bool x2,.slice x3 x4 x5,.slice x6 x7 x8,.int .i64 x9,.int .i64 x10,.bool x11,.int .i64 x12,.string x13,.string x14,.string x15,.int .i64 x16,.int .i64 x17,.bool x18,.slice x19 x20 x21,.slice x22 x23 x24,.int .i64 x25,.int .i64 x26,.bool x27,.int .i64 x28,.string x29,.string x30,.string x31,.int .i64 x32,.int .i64 x33,.bool x34,.slice x35 x36 x37,.slice x38 x39 x40,.int .i64 x41,.int .i64 x42,.string x43,.slice x44 x45 x46,.slice x47 x48 x49,.slice x50 x51 x52,.int .i64 x53,.int .i64 x54,.bool x55,.int .i64 x56,.string x57,.string x58,.string x59,.int .i64 x60,.int .i64 x61,.bool x62,.slice x63 x64 x65,.slice x66 x67 x68,.slice x69 x70 x71,.string x72,.string x73,.slice x74 x75 x76,.bool x77]),(2,.bool x78)]=some (.agg #[.int .i64 x0,.int .i64 x1,.bool x2,.slice x3 x4 x5,.slice x6 x7 x8,.int .i64 x9,.int .i64 x10,.bool x11,.int .i64 x12,.string x13,.string x14,.string x15,.int .i64 x16,.int .i64 x17,.bool x18,.slice x19 x20 x21,.slice x22 x23 x24,.int .i64 x25,.int .i64 x26,.bool x27,.int .i64 x28,.string x29,.string x30,.string x31,.int .i64 x32,.int .i64 x33,.bool x34,.slice x35 x36 x37,.slice x38 x39 x40,.int .i64 x41,.int .i64 x42,.string x43,.slice x44 x45 x46,.slice x47 x48 x49,.slice x50 x51 x52,.int .i64 x53,.int .i64 x54,.bool x55,.int .i64 x56,.string x57,.string x58,.string x59,.int .i64 x60,.int .i64 x61,.bool x62,.slice x63 x64 x65,.slice x66 x67 x68,.slice x69 x70 x71,.string x72,.string x73,.slice x74 x75 x76,.bool x77,.bool x78]):=by kernel_rfl
theorem AIh:Ad Zf Zm []=some (.agg Zf):=by kernel_rfl
theorem AIg (x0:Bool):Ad Zp #[(0,1),(1,1)] [(0,.bool x0)]=some (.agg #[.bool x0,(Value.string (ByteArray.mk #[]))]):=by kernel_rfl
theorem AIf (x0:ByteArray):Ad Zp #[(0,1),(1,1)] [(1,.string x0)]=some (.agg #[(.bool false),.string x0]):=by kernel_rfl
theorem AIe (x0:ByteArray)(x1:ByteArray):Ad Zd #[(0,1),(1,1)] [(0,.string x0),(1,.string x1)]=some (.agg #[.string x0,.string x1]):=by kernel_rfl
theorem AId (x0:Option Addr)(x1:Nat)(x2:Nat):Ad Zz #[(0,1),(1,1)] [(0,.slice x0 x1 x2)]=some (.agg #[.slice x0 x1 x2,(.bool false)]):=by kernel_rfl
theorem AIc (x0:ByteArray):Ad Zd #[(0,1),(1,1)] [(0,.string x0)]=some (.agg #[.string x0,(Value.string (ByteArray.mk #[]))]):=by kernel_rfl
theorem AIb (x0:Int)(x1:Int):Ad Zf Zm [(0,.int .i64 x0),(5,.int .u8 x1)]=some (.agg #[.int .i64 x0,(.slice none 0 0),(Value.string (ByteArray.mk #[])),(.int .i64 0),(.int .i64 0),.int .u8 x1]):=by kernel_rfl
theorem AIa (x0:Int)(x1:ByteArray):Ad Zf Zm [(0,.int .i64 x0),(2,.string x1)]=some (.agg #[.int .i64 x0,(.slice none 0 0),.string x1,(.int .i64 0),(.int .i64 0),(.int .u8 0)]):=by kernel_rfl
theorem AIZ (x0:Int):Ad Zf Zm [(0,.int .i64 x0)]=some (.agg #[.int .i64 x0,(.slice none 0 0),(Value.string (ByteArray.mk #[])),(.int .i64 0),(.int .i64 0),(.int .u8 0)]):=by kernel_rfl
theorem AIY (x0:Int)(x1:ByteArray)(x2:ByteArray):Ad Zc Zi [(0,.int .i64 x0),(1,.string x1),(2,.string x2)]=some (.agg #[.int .i64 x0,.string x1,.string x2,(.int .i64 0),(.int .i64 0),(.int .u8 0),(.slice none 0 0),(.slice none 0 0),(Value.string (ByteArray.mk #[])),(.bool false)]):=by kernel_rfl
theorem AIX (x0:Int)(x1:Int)(x2:Int):Ad Zc Zi [(0,.int .i64 x0),(3,.int .i64 x1),(4,.int .i64 x2)]=some (.agg #[.int .i64 x0,(Value.string (ByteArray.mk #[])),(Value.string (ByteArray.mk #[])),.int .i64 x1,.int .i64 x2,(.int .u8 0),(.slice none 0 0),(.slice none 0 0),(Value.string (ByteArray.mk #[])),(.bool false)]):=by kernel_rfl
theorem AIW (x0:Int)(x1:Int):Ad Zh #[(0,1),(1,1)] [(0,.int .i64 x0),(1,.int .i64 x1)]=some (.agg #[.int .i64 x0,.int .i64 x1]):=by kernel_rfl
theorem AIV:Ad Zh #[(0,1),(1,1)] []=some (.agg Zh):=by kernel_rfl
theorem AIU (x0:Option Addr)(x1:Nat)(x2:Nat):Ad #[(.slice none 0 0)] #[(0,1)] [(0,.slice x0 x1 x2)]=some (.agg #[.slice x0 x1 x2]):=by kernel_rfl
theorem AIT (x0:ByteArray)(x1:Option Addr)(x2:Nat)(x3:Nat):Ad #[(Value.string (ByteArray.mk #[])),(.int .i64 0),(.slice none 0 0)] #[(0,1),(1,1),(2,1)] [(0,.string x0),(2,.slice x1 x2 x3)]=some (.agg #[.string x0,(.int .i64 0),.slice x1 x2 x3]):=by kernel_rfl
theorem AIS (x0:Int)(x1:Int):Ad Zk Zq [(0,.int .i64 x0),(1,.int .i64 x1)]=some (.agg #[.int .i64 x0,.int .i64 x1,(Value.string (ByteArray.mk #[])),(.int .i64 0)]):=by kernel_rfl
theorem AIR (x0:Int)(x1:Bool)(x2:Option Addr)(x3:Nat)(x4:Nat)(x5:Option Addr)(x6:Nat)(x7:Nat)(x8:Int)(x9:Int)(x10:Bool)(x11:Int)(x12:ByteArray)(x13:ByteArray)(x14:ByteArray)(x15:Int)(x16:Int)(x17:Bool)(x18:Option Addr)(x19:Nat)(x20:Nat)(x21:Option Addr)(x22:Nat)(x23:Nat)(x24:Int)(x25:Int)(x26:Bool)(x27:Int)(x28:ByteArray)(x29:ByteArray)(x30:ByteArray)(x31:Int)(x32:Int)(x33:Bool)(x34:Option Addr)(x35:Nat)(x36:Nat)(x37:Option Addr)(x38:Nat)(x39:Nat)(x40:Int)(x41:Int):Ad Ze Zn [(0,.int .i64 x0),(1,.agg #[.bool x1,.slice x2 x3 x4,.slice x5 x6 x7,.int .i64 x8,.int .i64 x9,.bool x10,.int .i64 x11,.string x12,.string x13,.string x14,.int .i64 x15,.int .i64 x16,.bool x17,.slice x18 x19 x20,.slice x21 x22 x23,.int .i64 x24,.int .i64 x25,.bool x26,.int .i64 x27,.string x28,.string x29,.string x30,.int .i64 x31,.int .i64 x32,.bool x33,.slice x34 x35 x36,.slice x37 x38 x39,.int .i64 x40,.int .i64 x41])]=some (.agg #[.int .i64 x0,.bool x1,.slice x2 x3 x4,.slice x5 x6 x7,.int .i64 x8,.int .i64 x9,.bool x10,.int .i64 x11,.string x12,.string x13,.string x14,.int .i64 x15,.int .i64 x16,.bool x17,.slice x18 x19 x20,.slice x21 x22 x23,.int .i64 x24,.int .i64 x25,.bool x26,.int .i64 x27,.string x28,.string x29,.string x30,.int .i64 x31,.int .i64 x32,.bool x33,.slice x34 x35 x36,.slice x37 x38 x39,.int .i64 x40,.int .i64 x41,(Value.string (ByteArray.mk #[])),(.slice none 0 0),(.slice none 0 0),(.slice none 0 0),(.int .i64 0),(.int .i64 0),(.bool false),(.int .i64 0),(Value.string (ByteArray.mk #[])),(Value.string (ByteArray.mk #[])),(Value.string (ByteArray.mk #[])),(.int .i64 0),(.int .i64 0),(.bool false),(.slice none 0 0),(.slice none 0 0),(.slice none 0 0),(Value.string (ByteArray.mk #[])),(Value.string (ByteArray.mk #[])),(.slice none 0 0),(.bool false)]):=by kernel_rfl
theorem AIQ (x0:Int)(x1:ByteArray):Ad Ze Zn [(0,.int .i64 x0),(2,.string x1)]=some (.agg #[.int .i64 x0,(.bool false),(.slice none 0 0),(.slice none 0 0),(.int .i64 0),(.int .i64 0),(.bool false),(.int .i64 0),(Value.string (ByteArray.mk #[])),(Value.string (ByteArray.mk #[])),(Value.string (ByteArray.mk #[])),(.int .i64 0),(.int .i64 0),(.bool false),(.slice none 0 0),(.slice none 0 0),(.int .i64 0),(.int .i64 0),(.bool false),(.int .i64 0),(Value.string (ByteArray.mk #[])),(Value.string (ByteArray.mk #[])),(Value.string (ByteArray.mk #[])),(.int .i64 0),(.int .i64 0),(.bool false),(.slice none 0 0),(.slice none 0 0),(.int .i64 0),(.int .i64 0),.string x1,(.slice none 0 0),(.slice none 0 0),(.slice none 0 0),(.int .i64 0),(.int .i64 0),(.bool false),(.int .i64 0),(Value.string (ByteArray.mk #[])),(Value.string (ByteArray.mk #[])),(Value.string (ByteArray.mk #[])),(.int .i64 0),(.int .i64 0),(.bool false),(.slice none 0 0),(.slice none 0 0),(.slice none 0 0),(Value.string (ByteArray.mk #[])),(Value.string (ByteArray.mk #[])),(.slice none 0 0),(.bool false)]):=by kernel_rfl
theorem AIP (x0:ByteArray):Ad Zb1 Zq [(0,.string x0)]=some (.agg #[.string x0,(Value.string (ByteArray.mk #[])),(.slice none 0 0),(.bool false)]):=by kernel_rfl
theorem AIO (x0:Int)(x1:ByteArray)(x2:ByteArray)(x3:Option Addr)(x4:Nat)(x5:Nat)(x6:Bool):Ad Ze Zn [(0,.int .i64 x0),(9,.agg #[.string x1,.string x2,.slice x3 x4 x5,.bool x6])]=some (.agg #[.int .i64 x0,(.bool false),(.slice none 0 0),(.slice none 0 0),(.int .i64 0),(.int .i64 0),(.bool false),(.int .i64 0),(Value.string (ByteArray.mk #[])),(Value.string (ByteArray.mk #[])),(Value.string (ByteArray.mk #[])),(.int .i64 0),(.int .i64 0),(.bool false),(.slice none 0 0),(.slice none 0 0),(.int .i64 0),(.int .i64 0),(.bool false),(.int .i64 0),(Value.string (ByteArray.mk #[])),(Value.string (ByteArray.mk #[])),(Value.string (ByteArray.mk #[])),(.int .i64 0),(.int .i64 0),(.bool false),(.slice none 0 0),(.slice none 0 0),(.int .i64 0),(.int .i64 0),(Value.string (ByteArray.mk #[])),(.slice none 0 0),(.slice none 0 0),(.slice none 0 0),(.int .i64 0),(.int .i64 0),(.bool false),(.int .i64 0),(Value.string (ByteArray.mk #[])),(Value.string (ByteArray.mk #[])),(Value.string (ByteArray.mk #[])),(.int .i64 0),(.int .i64 0),(.bool false),(.slice none 0 0),(.slice none 0 0),(.slice none 0 0),.string x1,.string x2,.slice x3 x4 x5,.bool x6]):=by kernel_rfl
theorem AIN (x0:Int):Ad Ze Zn [(0,.int .i64 x0)]=some (.agg #[.int .i64 x0,(.bool false),(.slice none 0 0),(.slice none 0 0),(.int .i64 0),(.int .i64 0),(.bool false),(.int .i64 0),(Value.string (ByteArray.mk #[])),(Value.string (ByteArray.mk #[])),(Value.string (ByteArray.mk #[])),(.int .i64 0),(.int .i64 0),(.bool false),(.slice none 0 0),(.slice none 0 0),(.int .i64 0),(.int .i64 0),(.bool false),(.int .i64 0),(Value.string (ByteArray.mk #[])),(Value.string (ByteArray.mk #[])),(Value.string (ByteArray.mk #[])),(.int .i64 0),(.int .i64 0),(.bool false),(.slice none 0 0),(.slice none 0 0),(.int .i64 0),(.int .i64 0),(Value.string (ByteArray.mk #[])),(.slice none 0 0),(.slice none 0 0),(.slice none 0 0),(.int .i64 0),(.int .i64 0),(.bool false),(.int .i64 0),(Value.string (ByteArray.mk #[])),(Value.string (ByteArray.mk #[])),(Value.string (ByteArray.mk #[])),(.int .i64 0),(.int .i64 0),(.bool false),(.slice none 0 0),(.slice none 0 0),(.slice none 0 0),(Value.string (ByteArray.mk #[])),(Value.string (ByteArray.mk #[])),(.slice none 0 0),(.bool false)]):=by kernel_rfl
theorem AIM (x0:Int):Ad #[(.int .i64 0)] #[(0,1)] [(0,.int .i64 x0)]=some (.agg #[.int .i64 x0]):=by kernel_rfl
theorem AIL (x0:Int):Ad Zk Zq [(1,.int .i64 x0)]=some (.agg #[(.int .i64 0),.int .i64 x0,(Value.string (ByteArray.mk #[])),(.int .i64 0)]):=by kernel_rfl
theorem AIK (x0:Int)(x1:Bool):Ad Zc1 #[(0,1),(1,1),(2,1),(3,11),(14,1),(15,11),(26,1),(27,1),(28,1)] [(7,.int .i64 x0),(0,.bool x1)]=some (.agg #[.bool x1,(.slice none 0 0),(.slice none 0 0),(.int .i64 0),(.int .i64 0),(.bool false),(.int .i64 0),(Value.string (ByteArray.mk #[])),(Value.string (ByteArray.mk #[])),(Value.string (ByteArray.mk #[])),(.int .i64 0),(.int .i64 0),(.bool false),(.slice none 0 0),(.slice none 0 0),(.int .i64 0),(.int .i64 0),(.bool false),(.int .i64 0),(Value.string (ByteArray.mk #[])),(Value.string (ByteArray.mk #[])),(Value.string (ByteArray.mk #[])),(.int .i64 0),(.int .i64 0),(.bool false),(.slice none 0 0),(.slice none 0 0),.int .i64 x0,(.int .i64 0)]):=by kernel_rfl
theorem AIJ (x0:ByteArray):Ad Zt #[(0,1),(1,11)] [(0,.string x0)]=some (.agg #[.string x0,(.int .i64 0),(.int .i64 0),(.bool false),(.int .i64 0),(Value.string (ByteArray.mk #[])),(Value.string (ByteArray.mk #[])),(Value.string (ByteArray.mk #[])),(.int .i64 0),(.int .i64 0),(.bool false),(.slice none 0 0)]):=by kernel_rfl
theorem AII:Ad Zb Zo []=some (.agg Zb):=by kernel_rfl
theorem AIH (x0:Bool):Ad Zb1 Zq [(3,.bool x0)]=some (.agg #[(Value.string (ByteArray.mk #[])),(Value.string (ByteArray.mk #[])),(.slice none 0 0),.bool x0]):=by kernel_rfl
theorem AIG (x0:Bool):Ad Zg Zr [(0,.bool x0)]=some (.agg #[.bool x0,(Value.string (ByteArray.mk #[])),(.int .i64 0),(.int .i64 0),(.bool false),(.int .i64 0),(Value.string (ByteArray.mk #[])),(Value.string (ByteArray.mk #[])),(Value.string (ByteArray.mk #[])),(.int .i64 0),(.int .i64 0),(.bool false),(.slice none 0 0),(Value.string (ByteArray.mk #[]))]):=by kernel_rfl
theorem AIF (x0:Bool)(x1:ByteArray):Ad Zg Zr [(0,.bool x0),(1,.string x1)]=some (.agg #[.bool x0,.string x1,(.int .i64 0),(.int .i64 0),(.bool false),(.int .i64 0),(Value.string (ByteArray.mk #[])),(Value.string (ByteArray.mk #[])),(Value.string (ByteArray.mk #[])),(.int .i64 0),(.int .i64 0),(.bool false),(.slice none 0 0),(Value.string (ByteArray.mk #[]))]):=by kernel_rfl
theorem AIE (x0:Int)(x1:Int)(x2:Bool)(x3:Int)(x4:ByteArray)(x5:ByteArray)(x6:ByteArray)(x7:Int)(x8:Int)(x9:Bool)(x10:Option Addr)(x11:Nat)(x12:Nat):Ad Zg Zr [(2,.agg #[.int .i64 x0,.int .i64 x1,.bool x2,.int .i64 x3,.string x4,.string x5,.string x6,.int .i64 x7,.int .i64 x8,.bool x9,.slice x10 x11 x12])]=some (.agg #[(.bool false),(Value.string (ByteArray.mk #[])),.int .i64 x0,.int .i64 x1,.bool x2,.int .i64 x3,.string x4,.string x5,.string x6,.int .i64 x7,.int .i64 x8,.bool x9,.slice x10 x11 x12,(Value.string (ByteArray.mk #[]))]):=by kernel_rfl
theorem AID (x0:Int)(x1:Int)(x2:Bool)(x3:Int)(x4:ByteArray)(x5:ByteArray)(x6:ByteArray)(x7:Int)(x8:Int)(x9:Bool)(x10:Option Addr)(x11:Nat)(x12:Nat):Ad Zu #[(0,11),(11,1)] [(0,.agg #[.int .i64 x0,.int .i64 x1,.bool x2,.int .i64 x3,.string x4,.string x5,.string x6,.int .i64 x7,.int .i64 x8,.bool x9,.slice x10 x11 x12])]=some (.agg #[.int .i64 x0,.int .i64 x1,.bool x2,.int .i64 x3,.string x4,.string x5,.string x6,.int .i64 x7,.int .i64 x8,.bool x9,.slice x10 x11 x12,(.bool false)]):=by kernel_rfl
theorem AIC (x0:ByteArray):Ad Zl #[(0,1),(1,1),(2,1),(3,11)] [(0,.string x0)]=some (.agg #[.string x0,(Value.string (ByteArray.mk #[])),(.bool false),(.int .i64 0),(.int .i64 0),(.bool false),(.int .i64 0),(Value.string (ByteArray.mk #[])),(Value.string (ByteArray.mk #[])),(Value.string (ByteArray.mk #[])),(.int .i64 0),(.int .i64 0),(.bool false),(.slice none 0 0)]):=by kernel_rfl
theorem AIB (x0:Int)(x1:Option Addr)(x2:Nat)(x3:Nat):Ad Zb Zo [(0,.int .i64 x0),(7,.slice x1 x2 x3)]=some (.agg #[.int .i64 x0,(.int .i64 0),(.bool false),(.int .i64 0),(Value.string (ByteArray.mk #[])),(Value.string (ByteArray.mk #[])),(Value.string (ByteArray.mk #[])),(.int .i64 0),(.int .i64 0),(.bool false),.slice x1 x2 x3]):=by kernel_rfl
theorem AIA (x0:ByteArray):Ad Zy #[(0,1),(1,1),(2,1),(3,1),(4,1),(5,11)] [(0,.string x0)]=some (.agg #[.string x0,(.int .i64 0),(.bool false),(.bool false),(.bool false),(.int .i64 0),(.int .i64 0),(.bool false),(.int .i64 0),(Value.string (ByteArray.mk #[])),(Value.string (ByteArray.mk #[])),(Value.string (ByteArray.mk #[])),(.int .i64 0),(.int .i64 0),(.bool false),(.slice none 0 0)]):=by kernel_rfl
theorem AHz (x0:Int)(x1:ByteArray):Ad Zs Zq [(0,.int .i64 x0),(3,.string x1)]=some (.agg #[.int .i64 x0,(.bool false),(.int .i64 0),.string x1]):=by kernel_rfl
theorem AHy (x0:Int)(x1:Int)(x2:Bool)(x3:Int)(x4:ByteArray):Ad Zb Zo [(0,.int .i64 x0),(1,.agg #[.int .i64 x1,.bool x2,.int .i64 x3,.string x4])]=some (.agg #[.int .i64 x0,.int .i64 x1,.bool x2,.int .i64 x3,.string x4,(Value.string (ByteArray.mk #[])),(Value.string (ByteArray.mk #[])),(.int .i64 0),(.int .i64 0),(.bool false),(.slice none 0 0)]):=by kernel_rfl
theorem AHx (x0:Int)(x1:Int):Ad Zs Zq [(0,.int .i64 x0),(2,.int .i64 x1)]=some (.agg #[.int .i64 x0,(.bool false),.int .i64 x1,(Value.string (ByteArray.mk #[]))]):=by kernel_rfl
theorem AHw (x0:Int):Ad Zs Zq [(0,.int .i64 x0)]=some (.agg #[.int .i64 x0,(.bool false),(.int .i64 0),(Value.string (ByteArray.mk #[]))]):=by kernel_rfl
theorem AHv (x0:Int)(x1:Bool):Ad Zs Zq [(0,.int .i64 x0),(1,.bool x1)]=some (.agg #[.int .i64 x0,.bool x1,(.int .i64 0),(Value.string (ByteArray.mk #[]))]):=by kernel_rfl
theorem AHu (x0:Int)(x1:ByteArray)(x2:ByteArray):Ad Zb Zo [(0,.int .i64 x0),(2,.string x1),(3,.string x2)]=some (.agg #[.int .i64 x0,(.int .i64 0),(.bool false),(.int .i64 0),(Value.string (ByteArray.mk #[])),.string x1,.string x2,(.int .i64 0),(.int .i64 0),(.bool false),(.slice none 0 0)]):=by kernel_rfl
theorem AHt (x0:Int)(x1:ByteArray):Ad Zb Zo [(0,.int .i64 x0),(3,.string x1)]=some (.agg #[.int .i64 x0,(.int .i64 0),(.bool false),(.int .i64 0),(Value.string (ByteArray.mk #[])),(Value.string (ByteArray.mk #[])),.string x1,(.int .i64 0),(.int .i64 0),(.bool false),(.slice none 0 0)]):=by kernel_rfl
theorem AHs (x0:Int):Ad Zb Zo [(0,.int .i64 x0)]=some (.agg #[.int .i64 x0,(.int .i64 0),(.bool false),(.int .i64 0),(Value.string (ByteArray.mk #[])),(Value.string (ByteArray.mk #[])),(Value.string (ByteArray.mk #[])),(.int .i64 0),(.int .i64 0),(.bool false),(.slice none 0 0)]):=by kernel_rfl
end Go.Proofs.YthkaekjoemhjaaaGreatDoor
namespace Go.SL
section
variable {I:Imm}{L:LH}{K:Value→M}
theorem BL {A B:M}(e:A=B)(h:B I L):A I L:=e ▸ h
theorem AQQ {b b':Bool}(h:K (.bool b) I L)(e:b=b'):K (.bool b') I L:=e ▸ h
end
theorem Qy (A B:M):Gd (.bool true) true A B=A:=rfl
theorem Qz (A B:M):Gd (.bool false) true A B=B:=rfl
theorem ZT (A B:M):Gd (.bool true) false A B=B:=rfl
theorem ZU (A B:M):Gd (.bool false) false A B=A:=rfl
class LSub (L L':LH):Prop where
 sub:∀x∈L,x∈L'
instance (priority:=100) lsubRefl (L:LH):LSub L L:=⟨fun _ h=>h⟩
instance (priority:=110) lsubNil (L:LH):LSub [] L:=⟨fun _ h=>by cases h⟩
instance (priority:=90) lsubCons (L L':LH)(y:Nat×Obj)[h:LSub L L']:LSub L (y::L'):=⟨fun x hx=>List.mem_cons_of_mem _ (h.sub x hx)⟩
instance (priority:=90) lsubApp (L A L':LH)[h:LSub L L']:LSub L (A++L'):=⟨fun x hx=>List.mem_append_right _ (h.sub x hx)⟩
instance (priority:=80) lsubAppL (L A L':LH)[h:LSub L A]:LSub L (A++L'):=⟨fun x hx=>List.mem_append_left _ (h.sub x hx)⟩
section readsC
variable {I I0 I1:Imm}{L L0 X:LH}{K:Value→M}{b off n:Nat}{v:Value}
theorem Cells.mono {vs:List Value}(h:Cells I0 L0 b off vs)(hI:Ext I0 I)(hL:∀x∈L0,x∈L):Cells I L b off vs:=fun j u hu=>(h j u hu).mono hI hL
theorem rdC [hl:LSub L0 L](hc:Cell I0 L0 b off v)(hI:Ext I0 I)(hk:K v I L):Rv none (AQ (.pointer (some ⟨b,off,none⟩))) K I L:=rd1 (hc.mono hI hl.sub) hk
theorem SK [hl:LSub L0 L]{vs:List Value}(hc:Cells I0 L0 b off vs)(hI:Ext I0 I)(hn:vs.length=n)(hk:K (.agg vs.toArray) I L):Rv none (AY n (.pointer (some ⟨b,off,none⟩))) K I L:=rdN hn (hc.mono hI hl.sub) hk
theorem DV [hl:LSub X L](hI:Ext I0 I)(hk:K v I L):Aa (Stay I0 X) K v I L:=ALb hI hl.sub hk
theorem keepA [hl:LSub X L](hk:K v I L)(hI:Ext I0 I:=by repeat (first|exact Ext.refl _|assumption|refine Ext.trans ?_ (by assumption))):Aa (Stay I0 X) K v I L:=DV hI hk
theorem Aw {B:M→M}(h:B (Stay I L) I L):CY B I L:=draw _ (Stay.start I L) h
end readsC
def Ou {α:Type}[Inhabited α](l:List α)(i:Int):α:=l.getD i.toNat default
theorem BM {α:Type}[Inhabited α]{l:List α}{k:Nat}(h:k < l.length):Ou l (k:Int)=l[k]:=by
 simp [Ou,List.getD,h]
theorem AAp {α:Type}[Inhabited α]{l:List α}{i:Int}(h0:0≤i)(h1:i < l.length):l[i.toNat]? =some (Ou l i):=by
 have:i.toNat < l.length:=by omega
 simp [Ou,List.getD,this]
theorem ZB (b off n:Nat)(k:IntKind)(len cap:Nat)(i:Int)(h0:0≤i)(h1:i < len):ixV n (.slice (some ⟨b,off,none⟩) len cap) (.int k i)=some (.pointer (some ⟨b,off+i.toNat * n,none⟩)):=by
 simp only [ixV];rw [if_pos ⟨h0,h1⟩]
theorem News.ix {I:Imm}{L:LH}{n m:Nat}{a:Option Addr}{cap:Nat}{cells:List Value}(h:News n (.slice a m cap) I L m cells)(k:IntKind){i:Int}(h0:0≤i)(h1:i < m):
  ∃b off,ixV n (.slice a m cap) (.int k i)=some (.pointer (some ⟨b,off,none⟩))∧∀I' L',Ext I I'→(∀x∈L,x∈L')→Cells I' L' b off ((cells.drop (i.toNat * n)).take n):=by
 rcases h with ⟨a',cap',h2,h3,_⟩|⟨b,off,cap',h2,hl,hc⟩|⟨s,h2,_⟩
 ·omega
 ·simp only [Value.slice.injEq] at h2;obtain ⟨rfl,_,rfl⟩:=h2;refine ⟨b,off+i.toNat * n,ZB b off n k m cap i h0 h1,fun I' L' hI hL j u hu=>?_⟩;rw [List.getElem?_take] at hu;split at hu
  ·rw [List.getElem?_drop] at hu;have:=(hc _ u hu).mono hI hL;rwa [←Nat.add_assoc] at this
  ·cases hu
 ·cases h2
def RL {α:Type}(R:Imm→α→List Value→Prop)(n:Nat)(I:Imm)(L:LH)(v:Value)(xs:List α):Prop:=
 ∃a cap cells,v= .slice a xs.length cap∧xs.length≤cap∧News n v I L xs.length cells∧Recs (R I) n xs cells
section rl
variable {α:Type}{R:Imm→α→List Value→Prop}{n:Nat}{I I':Imm}{L L':LH}{v:Value}{xs:List α}
theorem RL.len (h:RL R n I L v xs):lenV v=some (.int .i64 xs.length):=by
 obtain ⟨a,cap,cells,rfl,_⟩:=h;rfl
theorem RL.form (h:RL R n I L v xs):∃a cap,v= .slice a xs.length cap:=by
 obtain ⟨a,cap,cells,rfl,_⟩:=h;exact ⟨a,cap,rfl⟩
theorem News.mono {m:Nat}{news:List Value}(h:News n v I L m news)(hI:Ext I I')(hL:∀x∈L,x∈L'):News n v I' L' m news:=by
 rcases h with h|⟨b,off,cap,h1,h2,h3⟩|h
 ·exact .inl h
 ·exact .inr (.inl ⟨b,off,cap,h1,h2,fun j u hu=>(h3 j u hu).mono hI hL⟩)
 ·exact .inr (.inr h)
theorem RL.mono (hR:∀x c,R I x c→R I' x c)(h:RL R n I L v xs)(hI:Ext I I')(hL:∀x∈L,x∈L'):RL R n I' L' v xs:=by
 obtain ⟨a,cap,cells,hv,hc,hn,hr⟩:=h;exact ⟨a,cap,cells,hv,hc,hn.mono hI hL,hr.imp hR⟩
theorem RL.ofI {cells:List Value}(h:SlI I n v cells xs.length)(hr:Recs (R I) n xs cells):RL R n I L v xs:=by
 have hn:=SlI.news (L:=L) h;obtain ⟨_,a,cap,hv,hle,_⟩:=h;exact ⟨a,cap,cells,hv,hle,hn,hr⟩
theorem RL.nil (a:Option Addr)(cap:Nat):RL R n I L (.slice a 0 cap) []:=⟨a,cap,[],rfl,Nat.zero_le _,.inl ⟨a,cap,rfl,rfl,rfl⟩,rfl⟩
theorem RL.ix [Inhabited α](h:RL R n I L v xs){i:Int}(h0:0≤i)(h1:i < xs.length):
  ∃b off c,ixV n v (.int .i64 i)=some (.pointer (some ⟨b,off,none⟩))∧c.length=n∧R I (Ou xs i) c∧∀I' L',Ext I I'→(∀x∈L,x∈L')→Cells I' L' b off c:=by
 obtain ⟨a,cap,cells,rfl,_,hn,hr⟩:=h;obtain ⟨b,off,hix,hc⟩:=News.ix hn .i64 h0 h1;obtain ⟨g1,g2⟩:=hr.get (AAp h0 h1);exact ⟨b,off,_,hix,g1,g2,hc⟩
theorem RL.part (h:RL R n I L v xs){lo hi:Nat}(h1:lo≤hi)(h2:hi≤xs.length)(blo bhi:Option Value)(hlo:Ci blo 0 hi=some lo)(hhi:∀cap,xs.length≤cap→Ci bhi xs.length cap=some hi):
  ∃v',CV n v blo bhi none=some v'∧RL R n I L v' ((xs.drop lo).take (hi - lo)):=by
 obtain ⟨a,cap,cells,rfl,hcap,hn,hr⟩:=h;have hb1:=hhi cap hcap;have hlen:((xs.drop lo).take (hi - lo)).length=hi - lo:=by rw [List.length_take,List.length_drop];omega
 refine ⟨.slice (if cap=lo then a else a.map (·.add (lo * n))) (hi - lo) (cap - lo),?_,_,cap - lo,(cells.drop (lo * n)).take ((hi - lo) * n),by rw [hlen],by rw [hlen];omega,?_,?_⟩
 ·simp only [CV];rw [if_neg (by simp)];simp only [Ci] at hb1 hlo ⊢;simp [hb1,hlo]
 ·rw [hlen];by_cases h0:hi - lo=0
  ·rw [h0];exact .inl ⟨_,_,rfl,rfl,by simp⟩
  ·rcases hn with ⟨a',cap',e1,e2,_⟩|⟨b,off,cap',e1,hl,hc⟩|⟨s,e1,_⟩
   ·omega
   ·simp only [Value.slice.injEq] at e1;obtain ⟨rfl,_,rfl⟩:=e1;refine .inr (.inl ⟨b,off+lo * n,cap - lo,by rw [if_neg (by omega)];simp [CX],?_,fun j u hu=>?_⟩)
    ·rw [List.length_take,List.length_drop,hl];apply Nat.min_eq_left
     rw [←Nat.sub_mul];exact Nat.mul_le_mul_right n (by omega)
    ·rw [List.getElem?_take] at hu;split at hu
     ·rw [List.getElem?_drop] at hu;have:=hc _ u hu;rwa [←Nat.add_assoc] at this
     ·cases hu
   ·cases e1
 ·exact (hr.drop lo).take (hi - lo)
theorem RL.clip (h:RL R n I L v xs){j:Nat}(hj:j≤xs.length):∃a',CV n v none (some (.int .i64 j)) (some (.int .i64 j))=some (.slice a' j j)∧RL R n I L (.slice a' j j) (xs.take j):=by
 obtain ⟨a,cap,cells,rfl,hcap,hn,hr⟩:=h;have hlen:(xs.take j).length=j:=by rw [List.length_take];omega
 refine ⟨if j=0 then a else a.map (·.add (0 * n)),?_,_,j,cells.take (j * n),by rw [hlen],by rw [hlen];exact Nat.le_refl _,?_,hr.take j⟩
 ·simp only [CV,Option.isNone_some,Bool.false_and,Bool.false_eq_true,if_false];rw [Jo _ _ _ _ (by omega),Option.bind_some,Jo _ _ _ _ (Nat.le_refl _),Option.bind_some,show Ci none 0 j=some 0 from rfl,Option.bind_some];simp
 ·rw [hlen];by_cases h0:j=0
  ·subst h0;exact .inl ⟨_,_,rfl,rfl,by simp⟩
  ·rcases hn with ⟨a',cap',e1,e2,_⟩|⟨b,off,cap',e1,hl,hc⟩|⟨s,e1,_⟩
   ·omega
   ·simp only [Value.slice.injEq] at e1;obtain ⟨rfl,_,rfl⟩:=e1;refine .inr (.inl ⟨b,off,j,by rw [if_neg h0];simp [CX],?_,fun i u hu=>?_⟩)
    ·rw [List.length_take,hl];exact Nat.min_eq_left (Nat.mul_le_mul_right n hj)
    ·rw [List.getElem?_take] at hu;split at hu
     ·exact hc _ u hu
     ·cases hu
   ·cases e1
end rl
def GrO (I:Imm)(T n:Nat)(X:LH)(v:Value)(cells:List Value)(len:Nat):Prop:=
 SlO T n X v cells len∨(X=[]∧(∃a,v= .slice a len len)∧SlI I n v cells len)
theorem GrO.mono {I I':Imm}{T n:Nat}{X:LH}{v:Value}{cells:List Value}{len:Nat}(h:GrO I T n X v cells len)(hI:Ext I I'):GrO I' T n X v cells len:=by
 rcases h with h|⟨h1,h2,h3⟩
 ·exact .inl h
 ·exact .inr ⟨h1,h2,h3.mono hI⟩
theorem GrO.news {I:Imm}{T n len:Nat}{X F:LH}{v:Value}{cells:List Value}(h:GrO I T n X v cells len)(hF:∀x∈X,x∈F):News n v I F len cells:=by
 rcases h with h|⟨h1,h2,h3⟩
 ·exact h.news hF
 ·exact SlI.news h3
theorem GrO.form {I:Imm}{T n len:Nat}{X:LH}{v:Value}{cells:List Value}(h:GrO I T n X v cells len):∃a cap,v= .slice a len cap∧len≤cap:=by
 rcases h with h|⟨h1,⟨a,h2⟩,h3⟩
 ·obtain ⟨_,h⟩:=h;rcases h with ⟨_,rfl,a,rfl⟩|⟨b,cap,cs,_,rfl,_,hle,_⟩
  ·exact ⟨a,0,rfl,Nat.le_refl _⟩
  ·exact ⟨_,cap,rfl,hle⟩
 ·exact ⟨a,len,h2,Nat.le_refl _⟩
theorem AIp {I:Imm}{L F:LH}(hp:L.Perm F){T n bytes len m:Nat}{z:Array Value}{s x:Value}{a:Option Addr}{olds news:List Value}{K:Value→M}(hz:z.size=n)(hs:s= .slice a len len)(ho:News n s I L len olds)(hn:News n x I L m news)
  (h1:∀u∈news,u.oneCell'=true) (hm:0 < m) (hb:(len+m) * bytes≤150000000000000) (hm':len+m≤150000000000000) (hk:∀X' v',SlO T n X' v' (olds++news) (len+m)→K v' I (X'++F)):App T n bytes z s x (gh K) I L:=by
 have hol:=ho.length;have hnl:=hn.length;have hlen:(olds++news).length=(len+m) * n:=by rw [List.length_append,hol,hnl,Nat.add_mul]
 refine ⟨a,len,len,m,news,hs,hn,h1,.inr (.inr ⟨by omega,hb,hm',olds,L,ho,List.Sublist.refl _,fun b c hc=>?_⟩)⟩;refine Gh.perm (List.Perm.cons _ hp) (Gh.done (hk [(b,_)] _ ⟨hlen,.inr ⟨b,c,_,rfl,rfl,?_,hc,?_⟩⟩))
 ·simp only [Array.size_append,List.size_toArray,EJ,hz,hlen];rw [←Nat.add_mul];congr 1;omega
 ·intro j u hu;have hlt:j < (olds++news).length:=(List.getElem?_eq_some_iff.1 hu).1;rw [Array.getElem?_append_left (by simpa using hlt)];simpa using hu
theorem APy {I:Imm}{X L F:LH}[hsp:SplitL X L F]{T n bytes len m:Nat}{z:Array Value}{s x:Value}{cells news:List Value}{K:Value→M}(hz:z.size=n)(ho:GrO I T n X s cells len)(hn:News n x I L m news)
  (h1:∀u∈news,u.oneCell'=true) (hb:(len+m) * bytes≤150000000000000) (hm:len+m≤150000000000000)
  (hk:∀X' v',GrO I T n X' v' (cells++news) (len+m)→K v' I (X'++F)):App T n bytes z s x (gh K) I L:=by
 rcases ho with ho|⟨rfl,⟨a,ha⟩,h3⟩
 ·exact Bd hz ho hn h1 hb hm (fun X' v' h=>hk X' v' (.inl h))
 ·have hp:=hsp.perm;by_cases h0:m=0
  ·subst h0;have hnil:news=[]:=List.eq_nil_of_length_eq_zero (by simpa using hn.length);subst hnil;refine ⟨a,len,len,0,[],ha,hn,h1,.inl ⟨Nat.le_refl _,rfl,Gh.perm hp (Gh.done ?_)⟩⟩;have:=hk [] s (.inr ⟨rfl,⟨a,ha⟩,by simpa using h3⟩);rw [ha] at this;exact this
  ·exact AIp hp hz ha (SlI.news h3 (L:=L)) hn h1 (by omega) hb hm (fun X' v' h=>hk X' v' (.inl h))
theorem Yg {I:Imm}{X L F:LH}[hsp:SplitL X L F]{T len:Nat}{v u:Value}{cells:List Value}{K:Value→M}{i:Int}(ho:SlO T 1 X v cells len)(h0:0≤i)(h1:i < len)(hu:u.oneCell'=true)
  (hk:∀X',SlO T 1 X' v (cells.set i.toNat u) len→K undef I (X'++F)):
  ∃b,ixV 1 v (.int .i64 i)=some (.pointer (some ⟨b,i.toNat,none⟩))∧Sto 1 (.pointer (some ⟨b,i.toNat,none⟩)) u (gh K) I L:=by
 have hp:=hsp.perm;obtain ⟨hl,ho'⟩:=ho;rcases ho' with ⟨rfl,rfl,a,rfl⟩|⟨b,cap,cs,rfl,rfl,hcs,hle,hc⟩
 ·omega
 ·refine ⟨b,by rw [ZB b 0 1 .i64 len cap i h0 h1,Nat.zero_add,Nat.mul_one],?_⟩;have hmem:(b,Obj.cells cs T (0,0))∈L:=hp.mem_iff.2 (List.mem_append_left _ (List.mem_singleton.2 rfl));obtain ⟨L1,L2,rfl⟩:=List.append_of_mem hmem;have hF:(L1++L2).Perm F:=by
   have h2:(L1++(b,Obj.cells cs T (0,0))::L2).Perm ((b,Obj.cells cs T (0,0))::(L1++L2)):=List.perm_middle;exact (List.perm_cons _).1 (h2.symm.trans hp)
  have huc:u.cells=#[u]:=by cases u <;> first|rfl|simp [Value.oneCell'] at hu
  refine ⟨b,i.toNat,cs,T,(0,0),L1,L2,rfl,by simp [huc],by simp [huc];exact hu,by omega,.inl rfl,rfl,?_⟩;refine Gh.perm (List.perm_middle.trans (List.Perm.cons _ hF)) (Gh.done (hk [(b,_)] ⟨by simp [hl],.inr ⟨b,cap,_,rfl,rfl,by rw [NH];exact hcs,hle,?_⟩⟩));intro j w hw;simp only [huc,wr];rw [List.getElem?_set] at hw;split at hw
  ·rename_i e
   subst e;split at hw
   ·cases hw
    rw [Array.getElem?_setIfInBounds_self_of_lt (by omega)]
   ·cases hw
  ·rename_i e
   rw [Array.getElem?_setIfInBounds_ne e];exact hc j w hw
def str (l:List UInt8):Value:=.string ⟨l.toArray⟩
def StrV (_:Imm)(x:List UInt8)(c:List Value):Prop:=c=[.string ⟨x.toArray⟩]
def ARm (I:Imm)(x:List UInt8)(c:List Value):Prop:=∃v,c=[v]∧Bytes I v x
def ARk (k:IntKind)(_:Imm)(x:Int)(c:List Value):Prop:=c=[.int k x]
def Ky {α:Type}(R:Imm→α→List Value→Prop)(n:Nat)(I:Imm)(xs:List α)(c:List Value):Prop:=∃v,c=[v]∧RL R n I [] v xs
theorem StrV.mono {I I':Imm}{x:List UInt8}{c:List Value}(h:StrV I x c)(hI:Ext I I'):StrV I' x c:=h
theorem Bytes.len {I:Imm}{v:Value}{l:List UInt8}(h:Bytes I v l):lenV v=some (.int .i64 l.length):=by
 obtain ⟨_,a,c,rfl,_⟩:=h;rfl
section
variable {rz:Nat}{P:Program}{W:World}{T:TypeId}
end
abbrev blt:List UInt8→List UInt8→Bool:=Op.bytesLess
theorem JJ (a:List UInt8):(⟨a.toArray⟩:ByteArray).toList=a:=by simp [Go.ByteArray.toList_mk]
theorem Nj (a:List UInt8):(⟨a.toArray⟩:ByteArray).size=a.length:=by simp [ByteArray.size]
section
variable (a b:List UInt8)
theorem sEq:BK .eql (.string ⟨a.toArray⟩) (.string ⟨b.toArray⟩)=some (.bool (a==b)):=by simp only [BK,JJ]
theorem sNe:BK .neq (.string ⟨a.toArray⟩) (.string ⟨b.toArray⟩)=some (.bool (!(a==b))):=by simp only [BK,JJ]
theorem sLt:BK .lss (.string ⟨a.toArray⟩) (.string ⟨b.toArray⟩)=some (.bool (blt a b)):=by simp only [BK,JJ]
theorem sLe:BK .leq (.string ⟨a.toArray⟩) (.string ⟨b.toArray⟩)=some (.bool (blt a b||a==b)):=by simp only [BK,JJ]
theorem sGt:BK .gtr (.string ⟨a.toArray⟩) (.string ⟨b.toArray⟩)=some (.bool (!(blt a b||a==b))):=by simp only [BK,JJ]
theorem sGe:BK .geq (.string ⟨a.toArray⟩) (.string ⟨b.toArray⟩)=some (.bool (!(blt a b))):=by simp only [BK,JJ]
theorem AKB (h:a.length+b.length≤9223372036854775807):BK .add (.string ⟨a.toArray⟩) (.string ⟨b.toArray⟩)=some (.string ⟨(a++b).toArray⟩):=by
 simp only [BK,Nj];rw [if_pos h];have:(⟨a.toArray⟩:ByteArray)++⟨b.toArray⟩=⟨(a++b).toArray⟩:=by
  apply ByteArray.ext
  simp
 rw [this]
theorem AQH:Bq (.string ⟨a.toArray⟩)=some (.int .i64 a.length):=by rw [AKg,Nj]
end
theorem XT (a b c d:Int):ND .eql [(TypeDesc.int .i64,0),(TypeDesc.int .i64,1)] (.agg #[.int .i64 a,.int .i64 b]) (.agg #[.int .i64 c,.int .i64 d])=some (.bool ((a==c)&&(b==d))):=by
 simp [ND,MR,eqD]
theorem XR (a b c d:Int):ND .neq [(TypeDesc.int .i64,0),(TypeDesc.int .i64,1)] (.agg #[.int .i64 a,.int .i64 b]) (.agg #[.int .i64 c,.int .i64 d])=some (.bool !((a==c)&&(b==d))):=by
 simp [ND,MR,eqD]
theorem Uh (off n:Nat)(l:List Value):FC true off n (.agg l.toArray)=some (.agg ((l.drop off).take n).toArray):=by
 simp only [FC,if_true];congr 2
 apply Array.ext'
 simp [List.take_drop,Nat.add_comm]
theorem Ug (off n:Nat)(l:List Value):FC false off n (.agg l.toArray)=l[off]? :=by
 simp [FC]
def cmpL (a b:List UInt8):Int:=match (List.range (min a.length b.length)).find? fun i=>a.getD i 0 != b.getD i 0 with
 |some i=>if a.getD i 0 < b.getD i 0 then -1 else 1
 |none=>if a.length < b.length then -1 else if a.length > b.length then 1 else 0
theorem ARi (a:List UInt8)(i:Nat):(⟨a.toArray⟩:ByteArray)[i]! =a.getD i 0:=by
 by_cases h:i < a.length
 ·have hs:i < (⟨a.toArray⟩:ByteArray).size:=by rw [Nj];exact h
  rw [getElem!_pos (⟨a.toArray⟩:ByteArray) i hs];show a.toArray[i]'(by simpa using h)=_;simp [List.getD,h]
 ·have hs:¬i < (⟨a.toArray⟩:ByteArray).size:=by rw [Nj];exact h
  rw [getElem!_neg (⟨a.toArray⟩:ByteArray) i hs];simp [List.getD,List.getElem?_eq_none (Nat.le_of_not_lt h)];rfl
section
variable {P:Program}{ω:Om}{I:Imm}{L:LH}{K:Value→M}
theorem AAf {w:World}{b off:Nat}{v:Value}(hs:St ω w I L)(hc:Cell I L b off v):(load ⟨b,off,none⟩).run P w= .ok v w:=by
 have:=hc.cell hs;simp [this]
theorem JR {w:World}(hs:St ω w I L):∀(l:List UInt8) (b off:Nat) (acc:ByteArray),Cells I L b off (u8s l)→(Extern.Bytes.loadBytes ⟨b,off,none⟩ l.length acc).run P w= .ok ⟨acc.data++l.toArray⟩ w
 |[],b,off,acc,_=>by
  have:(⟨acc.data++([]:List UInt8).toArray⟩:ByteArray)=acc:=by cases acc;simp
  rw [this];simp [Extern.Bytes.loadBytes]
 |x::l,b,off,acc,hc=>by
  have h0:Cell I L b off (.int .u8 x.toNat):=by simpa using hc 0 _ rfl
  have h1:Cells I L b (off+1) (u8s l):=fun j u hu=>by
   have:=hc (j+1) u (by simpa [u8s] using hu);rwa [show off+(j+1)=off+1+j from by omega] at this
  simp only [List.length_cons,Extern.Bytes.loadBytes,Sem.run_bind,AAf (P:=P) hs h0,Result.andThen_ok];have e:(Addr.add ⟨b,off,none⟩ 1)=⟨b,off+1,none⟩:=CX _ _ _;rw [e,JR hs l b (off+1) _ h1];congr 1
  have:((x.toNat:Int).toNat.toUInt8)=x:=by simp
  rw [this];cases acc
  simp [ByteArray.push]
theorem VB {w:World}{v:Value}{l:List UInt8}(hs:St ω w I L)(h:Bytes I v l):(Extern.Bytes.bytesOf v).run P w= .ok ⟨l.toArray⟩ w:=by
 obtain ⟨hl,a,cap,rfl,_,h⟩:=h;cases a with
 |none=>
  have h0:l.length=0:=by
   apply Classical.byContradiction
   intro h0;obtain ⟨b,off,cs,T,fr,e,_⟩:=h h0;cases e
  have:l=[]:=List.eq_nil_of_length_eq_zero h0;subst this;simp only [Extern.Bytes.bytesOf,Sem.run_pure];rfl
 |some a=>
  simp only [Extern.Bytes.bytesOf];by_cases h0:l.length=0
  ·have:l=[]:=List.eq_nil_of_length_eq_zero h0;subst this;simp only [List.length_nil,Extern.Bytes.loadBytes,Sem.run_pure];rfl
  ·obtain ⟨b,off,cs,T,fr,e,hb,hcs⟩:=h h0;simp only [Option.some.injEq] at e;subst e;rw [JR hs l b off .empty (fun j u hu=>Cell.imm hb (hcs j u hu))];congr 1
   simp [ByteArray.empty,ByteArray.emptyWithCapacity];rfl
end
section
variable {I I0:Imm}{L L' X:LH}{K:Value→M}{b off n T:Nat}
theorem BC {l:List Value}{T:Nat}{fr:Nat×Nat}[h:InL b X (.cells l.toArray T fr)](vs:List Value)(he:(l.drop off).take n=vs)(hl:vs.length=n)(hk:K (.agg vs.toArray) I L):Rv (some (Stay I0 X)) (AY n (.pointer (some ⟨b,off,none⟩))) K I L:=
 AQI hl (fun I' L' hS j u hu=>Cell.own (hS.2 _ h.mem) (by
  subst he;rw [List.getElem?_take] at hu;split at hu
  ·rw [List.getElem?_drop] at hu;simpa using hu
  ·cases hu)) hk
theorem stP {l vs:List Value}(l':List Value)[h:InL b L (.cells l.toArray T (0,0))](he:l.take off++(vs++l.drop (off+n))=l')(hl:vs.length=n)(hleb:Nat.ble (off+n) l.length=true)(h1:vs.all (·.oneCell')=true)[u:UpL b L (.cells l.toArray T (0,0)) (.cells l'.toArray T (0,0)) L'](hk:K undef I L'):
  Sto n (.pointer (some ⟨b,off,none⟩)) (.agg vs.toArray) (gh K) I L:=by
 have hle:=Nat.le_of_ble_eq_true hleb;obtain ⟨L1,L2,rfl,rfl⟩:=u.up;refine ⟨b,off,l.toArray,T,(0,0),L1,L2,rfl,by simp [Value.cells,hl],by simpa [Value.cells] using AL h1,by simpa using hle,.inl rfl,rfl,?_⟩;simp only [Value.cells];rw [Np vs l.toArray off (by simp;omega)];subst he;refine Gh.done ?_;rw [hl];simpa using hk
theorem ARf {v:Value}{l:List UInt8}{I0:Imm}(h:Bytes I0 v l)(hI:Ext I0 I)(hk:K (.string ⟨l.toArray⟩) I L):Rv none (bsR v) K I L:=⟨_,Bytes.str (h.mono hI),hk⟩
theorem ZL {P:Program}{ω:Om}{f:FuncId}{args:Array Value}(h:Gh (Cal P ω f args K) I L):Cal P ω f args K I L:=fun w hs=>by
 obtain ⟨I',L',h1,h2⟩:=h hs.cons;exact h2 w (h1 ω w hs)
end
class MemB (x:Nat×Obj) (L:LH):Prop where
 mem:x∈L
instance memBRight (x:Nat×Obj)(A L:LH)[h:MemB x L]:MemB x (A++L):=⟨List.mem_append_right _ h.mem⟩
instance memBThere (x y:Nat×Obj)(L:LH)[h:MemB x L]:MemB x (y::L):=⟨List.mem_cons_of_mem _ h.mem⟩
instance memBHere (x:Nat×Obj)(L:LH):MemB x (x::L):=⟨List.mem_cons_self ..⟩
instance (priority:=70) lsubConsL (x:Nat×Obj)(X L:LH)[h:MemB x L][h':LSub X L]:LSub (x::X) L:=⟨fun y hy=>by
 rcases List.mem_cons.1 hy with rfl|hy
 ·exact h.mem
 ·exact h'.sub y hy⟩
class DelB (b:Nat) (L:LH) (L':outParam LH):Prop where
 sub:∀x∈L',x∈L
instance delBThere (b:Nat)(x:Nat×Obj)(L L':LH)[h:DelB b L L']:DelB b (x::L) (x::L'):=⟨fun y hy=>by
 rcases List.mem_cons.1 hy with rfl|hy
 ·exact List.mem_cons_self ..
 ·exact List.mem_cons_of_mem _ (h.sub y hy)⟩
instance delBHere (b:Nat)(o:Obj)(L:LH):DelB b ((b,o)::L) L:=⟨fun y hy=>List.mem_cons_of_mem _ hy⟩
theorem Ag {I:Imm}{L X:LH}{B:M→M}{b off:Nat}[h:DelB b L X](hB:B (Stay I X) I L):RD [.pointer (some ⟨b,off,none⟩)] B I L:=draw _ ⟨Ext.refl I,h.sub⟩ hB
theorem Ak {I:Imm}{L X Y:LH}{B:M→M}{b off c off':Nat}[h:DelB b L X][h':DelB c X Y](hB:B (Stay I Y) I L):RD [.pointer (some ⟨b,off,none⟩),.pointer (some ⟨c,off',none⟩)] B I L:=draw _ ⟨Ext.refl I,fun x hx=>h.sub x (h'.sub x hx)⟩ hB
class PickB (b:Nat) (L:LH) (o:outParam Obj) (R:outParam LH):Prop where
 perm:L.Perm ((b,o)::R)
instance pickBRight (b:Nat)(o:Obj)(A L R:LH)[h:PickB b L o R]:PickB b (A++L) o (A++R):=⟨(List.Perm.append_left A h.perm).trans List.perm_middle⟩
instance pickBThere (b:Nat)(o:Obj)(y:Nat×Obj)(L R:LH)[h:PickB b L o R]:PickB b (y::L) o (y::R):=⟨(List.Perm.cons y h.perm).trans (List.Perm.swap ..)⟩
instance pickBHere (b:Nat)(o:Obj)(R:LH):PickB b ((b,o)::R) o R:=⟨List.Perm.refl _⟩
theorem RL.hd {α:Type}[Inhabited α]{R:Imm→α→List Value→Prop}{I:Imm}{L:LH}{n:Nat}{v:Value}{xs:List α}(h:RL R n I L v xs)(h0:xs≠[]):
  ∃b off c,ixV n v (.int .i64 0)=some (.pointer (some ⟨b,off,none⟩))∧c.length=n∧R I (Ou xs 0) c∧∀I' L',Ext I I'→(∀x∈L,x∈L')→Cells I' L' b off c:=
 RL.ix h (by omega) (by have:=List.length_pos_iff.2 h0;omega)
section
variable {α:Type}{R:Imm→α→List Value→Prop}{I:Imm}{T n bytes:Nat}{z:Array Value}{X6 L0 F:LH}{v:Value}{xs:List α}{x:α}{c cells:List Value}{K:Value→M}
theorem GG [SplitL X6 L0 F](hz:z.size=n)(hn:0 < n)(h6:SlO T n X6 v cells xs.length)(hR:Recs (R I) n xs cells)(hx:R I x c)(hcl:c.length=n)(h1:∀u∈c,u.oneCell'=true)(hb:(xs.length+1) * bytes≤150000000000000)(hl:xs.length+1≤150000000000000)
  (hk:∀X1 X6' v' cells',SlO T n X6' v' cells' (xs++[x]).length→Recs (R I) n (xs++[x]) cells'→K v' I (X6'++(X1++F))):
  AU T n z 1 [(0,.agg c.toArray)] (gh fun u=>App T n bytes z v u (gh K)) I L0:=by
 refine CS hz hn (by simpa [Value.cells] using hcl) (fun X1 u hX1=>?_);refine Bd (X:=X6) hz h6 (hX1.news (fun x hx=>List.mem_append_left _ hx)) (fun u hu=>h1 u (by simpa [Value.cells] using hu)) hb hl (fun X' v' hX'=>?_);exact hk X1 X' v' _ (by simpa [Value.cells] using hX') (Recs.append hR (Recs.one (by simpa [Value.cells] using hcl) (by simpa [Value.cells] using hx)))
theorem AGl {I0:Imm}{Y:LH}[SplitL X6 L0 F](hI0:Ext I0 I)(hY:∀y∈Y,y∈L0)(hz:z.size=n)(hn:0 < n)(h6:SlO T n X6 v cells xs.length)(hR:Recs (R I) n xs cells)(hx:R I x c)(hcl:c.length=n)(h1:∀u∈c,u.oneCell'=true)(hb:(xs.length+1) * bytes≤150000000000000)(hl:xs.length+1≤150000000000000)
  (hk:∀X1 X6' a' c' cells',SlO T n X6' (.slice a' (xs++[x]).length c') cells' (xs++[x]).length→Recs (R I) n (xs++[x]) cells'→K (.slice a' (xs++[x]).length c') I (X6'++(X1++F))):
  AU T n z 1 [(0,.agg c.toArray)] (gh (Aa (Stay I0 Y) fun u=>App T n bytes z v u (gh K))) I L0:=by
 refine CS hz hn (by simpa [Value.cells] using hcl) (fun X1 u hX1=>?_);refine ALb hI0 (fun y hy=>List.mem_append_right _ (hY y hy)) ?_;refine Bd (X:=X6) hz h6 (hX1.news (fun x hx=>List.mem_append_left _ hx)) (fun u hu=>h1 u (by simpa [Value.cells] using hu)) hb hl (fun X' v' hX'=>?_);obtain ⟨a',c',rfl⟩:=hX'.form;have e:xs.length+1=(xs++[x]).length:=by simp
 rw [e] at hX' ⊢;exact hk X1 X' a' c' _ (by simpa [Value.cells] using hX') (Recs.append hR (Recs.one (by simpa [Value.cells] using hcl) (by simpa [Value.cells] using hx)))
theorem UJ [SplitL X6 L0 F]{w:Value}(hz:z.size=1)(h6:SlO T 1 X6 v cells xs.length)(hR:Recs (R I) 1 xs cells)(hx:R I x [w])(h1:w.oneCell'=true)(hb:(xs.length+1) * bytes≤150000000000000)(hl:xs.length+1≤150000000000000)
  (hk:∀X1 X6' v' cells',SlO T 1 X6' v' cells' (xs++[x]).length→Recs (R I) 1 (xs++[x]) cells'→K v' I (X6'++(X1++F))):
  AU T 1 z 1 [(0,w)] (gh fun u=>App T 1 bytes z v u (gh K)) I L0:=by
 have hc:w.cells=#[w]:=by cases w <;> first|rfl|simp [Value.oneCell'] at h1
 refine CS hz (by omega) (by rw [hc];rfl) (fun X1 u hX1=>?_);rw [hc] at hX1;refine Bd (X:=X6) hz h6 (hX1.news (fun x hx=>List.mem_append_left _ hx)) (by simpa using h1) hb hl (fun X' v' hX'=>?_);exact hk X1 X' v' _ (by simpa using hX') (Recs.append hR (Recs.one rfl hx))
theorem AKT (hz:z.size=n)(hn:0 < n)(hx:R I x c)(hm:∀{I I':Imm} {x:α} {c:List Value},R I x c→Ext I I'→R I' x c)(hcl:c.length=n)(hk:∀u I',Ext I I'→RL R n I' [] u [x]→K u I' F):AU T n z 1 [(0,.agg c.toArray)] (gh K) I F:=by
 refine Ph hz hn (by simpa [Value.cells] using hcl) (fun X u hX=>?_);refine SlO.freeze hX (fun I' hI hS=>Gh.done (hk _ I' hI ?_));exact RL.ofI hS (by simpa [Value.cells] using Recs.one hcl (hm hx hI))
theorem RL.ofO {A:M}{X F:LH}(hm:∀{I I':Imm} {x:α} {c:List Value},R I x c→Ext I I'→R I' x c)(h:SlO T n X v cells xs.length)(hR:Recs (R I) n xs cells)(hk:∀I',Ext I I'→RL R n I' [] v xs→Gh A I' F):Gh A I (X++F):=
 SlO.freeze h (fun I' hI hS=>hk I' hI (RL.ofI hS (hR.imp fun _ _ h=>hm h hI)))
end
end Go.SL
namespace Go.Proofs.YthkaekjoemhjaaaGreatDoor
open Go.SL
theorem SSd:type_of% (And.intro @ZQ<|And.intro @AHY<|And.intro @AHD<|And.intro @AHE<|And.intro @Ht<|And.intro @Wx<|And.intro @AQH<|And.intro @AHL<|And.intro @AHM<|And.intro @ABi<|And.intro @XK<|And.intro @XM<|And.intro @Yt<|And.intro @Yu<|And.intro @ALf<|And.intro @AHg<|And.intro @VO<|And.intro @VG<|And.intro @VI<|And.intro @Pj<|And.intro @VH<|And.intro @VJ<|And.intro @VK<|And.intro @VL<|And.intro @VM<|And.intro @VN<|And.intro @ZN<|And.intro @VQ<|And.intro @VP<|And.intro @sEq<|And.intro @sNe<|And.intro @sLt<|And.intro @sLe<|And.intro @sGt<|And.intro @sGe<|And.intro @XT<|And.intro @XR<|And.intro @Uh<|And.intro @Ug<|And.intro @II<|And.intro @Ko<|And.intro @Kr<|And.intro @Kq<|And.intro @Mc<|And.intro @MZ<|And.intro @Nk<|And.intro @Kz<|And.intro @Qy<|And.intro @Qz<|And.intro @ZT<|And.intro @ZU<|And.intro @Qw<|And.intro (@List.getElem?_toArray Value)<|And.intro (@List.getElem?_cons_zero Value)<|And.intro (@List.getElem?_cons_succ Value)<|And.intro @Nat.zero_add<|And.intro @Nat.add_zero<|And.intro @Nat.zero_mul<|And.intro (@List.drop_succ_cons Value)<|And.intro (@List.drop_zero Value)<|And.intro (@List.take_succ_cons Value)<|And.intro (@List.take_zero Value)<|And.intro (@List.nil_append Value)<|And.intro (@List.cons_append Value)<|And.intro (@List.drop_nil Value)<|And.intro (@List.take_nil Value)<|And.intro @ALp<|And.intro @ALo<|And.intro @ALn<|And.intro @ALm<|And.intro @ALl<|And.intro @ALk<|And.intro @ALj<|And.intro @ALi<|And.intro @ALh<|And.intro @AIm<|And.intro @AIl<|And.intro @AIk<|And.intro @AIj<|And.intro @AIi<|And.intro @AIh<|And.intro @AIg<|And.intro @AIf<|And.intro @AIe<|And.intro @AId<|And.intro @AIc<|And.intro @AIb<|And.intro @AIa<|And.intro @AIZ<|And.intro @AIY<|And.intro @AIX<|And.intro @AIW<|And.intro @AIV<|And.intro @AIU<|And.intro @AIT<|And.intro @AIS<|And.intro @AIR<|And.intro @AIQ<|And.intro @AIP<|And.intro @AIO<|And.intro @AIN<|And.intro @AIM<|And.intro @AIL<|And.intro @AIK<|And.intro @AIJ<|And.intro @AII<|And.intro @AIH<|And.intro @AIG<|And.intro @AIF<|And.intro @AIE<|And.intro @AID<|And.intro @AIC<|And.intro @AIB<|And.intro @AIA<|And.intro @AHz<|And.intro @AHy<|And.intro @AHx<|And.intro @AHw<|And.intro @AHv<|And.intro @AHu<|And.intro @AHt<|And.intro @AHs<|And.intro (@List.nil_append (Nat×Obj))<|(@List.cons_append (Nat×Obj))):=And.intro @ZQ<|And.intro @AHY<|And.intro @AHD<|And.intro @AHE<|And.intro @Ht<|And.intro @Wx<|And.intro @AQH<|And.intro @AHL<|And.intro @AHM<|And.intro @ABi<|And.intro @XK<|And.intro @XM<|And.intro @Yt<|And.intro @Yu<|And.intro @ALf<|And.intro @AHg<|And.intro @VO<|And.intro @VG<|And.intro @VI<|And.intro @Pj<|And.intro @VH<|And.intro @VJ<|And.intro @VK<|And.intro @VL<|And.intro @VM<|And.intro @VN<|And.intro @ZN<|And.intro @VQ<|And.intro @VP<|And.intro @sEq<|And.intro @sNe<|And.intro @sLt<|And.intro @sLe<|And.intro @sGt<|And.intro @sGe<|And.intro @XT<|And.intro @XR<|And.intro @Uh<|And.intro @Ug<|And.intro @II<|And.intro @Ko<|And.intro @Kr<|And.intro @Kq<|And.intro @Mc<|And.intro @MZ<|And.intro @Nk<|And.intro @Kz<|And.intro @Qy<|And.intro @Qz<|And.intro @ZT<|And.intro @ZU<|And.intro @Qw<|And.intro (@List.getElem?_toArray Value)<|And.intro (@List.getElem?_cons_zero Value)<|And.intro (@List.getElem?_cons_succ Value)<|And.intro @Nat.zero_add<|And.intro @Nat.add_zero<|And.intro @Nat.zero_mul<|And.intro (@List.drop_succ_cons Value)<|And.intro (@List.drop_zero Value)<|And.intro (@List.take_succ_cons Value)<|And.intro (@List.take_zero Value)<|And.intro (@List.nil_append Value)<|And.intro (@List.cons_append Value)<|And.intro (@List.drop_nil Value)<|And.intro (@List.take_nil Value)<|And.intro @ALp<|And.intro @ALo<|And.intro @ALn<|And.intro @ALm<|And.intro @ALl<|And.intro @ALk<|And.intro @ALj<|And.intro @ALi<|And.intro @ALh<|And.intro @AIm<|And.intro @AIl<|And.intro @AIk<|And.intro @AIj<|And.intro @AIi<|And.intro @AIh<|And.intro @AIg<|And.intro @AIf<|And.intro @AIe<|And.intro @AId<|And.intro @AIc<|And.intro @AIb<|And.intro @AIa<|And.intro @AIZ<|And.intro @AIY<|And.intro @AIX<|And.intro @AIW<|And.intro @AIV<|And.intro @AIU<|And.intro @AIT<|And.intro @AIS<|And.intro @AIR<|And.intro @AIQ<|And.intro @AIP<|And.intro @AIO<|And.intro @AIN<|And.intro @AIM<|And.intro @AIL<|And.intro @AIK<|And.intro @AIJ<|And.intro @AII<|And.intro @AIH<|And.intro @AIG<|And.intro @AIF<|And.intro @AIE<|And.intro @AID<|And.intro @AIC<|And.intro @AIB<|And.intro @AIA<|And.intro @AHz<|And.intro @AHy<|And.intro @AHx<|And.intro @AHw<|And.intro @AHv<|And.intro @AHu<|And.intro @AHt<|And.intro @AHs<|And.intro (@List.nil_append (Nat×Obj))<|(@List.cons_append (Nat×Obj))
theorem SSg:type_of% (And.intro @Bool.not_true<|And.intro @Bool.not_false<|And.intro @Bool.and_self<|And.intro @Bool.true_and<|And.intro @decide_true<|And.intro @decide_false<|And.intro @Nk<|And.intro @Kz<|And.intro @Qy<|And.intro @Qz<|And.intro @ZT<|@ZU):=And.intro @Bool.not_true<|And.intro @Bool.not_false<|And.intro @Bool.and_self<|And.intro @Bool.true_and<|And.intro @decide_true<|And.intro @decide_false<|And.intro @Nk<|And.intro @Kz<|And.intro @Qy<|And.intro @Qz<|And.intro @ZT<|@ZU
abbrev Bs:=List UInt8
structure Tok where
 kind:Int
 at':Nat
 text:Bs
 num:Int
deriving DecidableEq
instance:Inhabited Tok:=⟨⟨0,0,[],0⟩⟩
structure Flt where
 code:Int
 at':Int
deriving DecidableEq
def DL (c:UInt8):Bool:=(97≤c&&c≤122)||(65≤c&&c≤90)||c==95
def Bv (c:UInt8):Bool:=48≤c&&c≤57
def Qh (c:UInt8):Bool:=c==9||c==10||c==12||c==13||c==32
def Em (c:UInt8):UInt8:=if 65≤c&&c≤90 then c+32 else c
def wordsL:List Bs:=[[97,110,100],[97,115],[97,115,99],[98,101,103,105,110],[98,101,116,119,101,101,110],[98,121],[99,97,115,101],[99,111,109,109,105,116],[99,114,101,97,116,101],[99,114,111,115,115],[100,101,102,97,117,108,116],[100,101,108,101,116,101],[100,101,115,99],[100,105,115,116,105,110,99,116],[100,114,111,112],[101,108,115,101],[101,110,100],[102,97,108,115,101],[102,114,111,109],[103,114,111,117,112],[104,97,118,105,110,103],[105,110],[105,110,100,101,120],[105,110,110,101,114],[105,110,115,101,114,116],[105,110,116,111],[105,115],[106,111,105,110],[107,101,121],[108,101,102,116],[108,105,107,101],[108,105,109,105,116],[110,111,116],[110,117,108,108],[111,102,102,115,101,116],[111,110],[111,114],[111,114,100,101,114],[112,114,105,109,97,114,121],[114,111,108,108,98,97,99,107],[115,101,108,101,99,116],[115,101,116],[116,97,98,108,101],[116,104,101,110],[116,114,117,101],[117,110,105,113,117,101],[117,112,100,97,116,101],[118,97,108,117,101,115],[119,104,101,110],[119,104,101,114,101]]
def signsL:List Bs:=[[60,61],[62,61],[60,62],[33,61],[124,124],[40],[41],[44],[46],[59],[42],[43],[45],[47],[37],[61],[60],[62]]
def Cc:Bool→Bs→Bs
 |_,[]=>[]
 |true,c::r=>if c==10 then Cc false r else Cc true r
 |false,c::r=>if Qh c then Cc false r else if c==45&&r.head? ==some 45 then Cc true r else c::r
def FV (q:UInt8):Bs→Option (Bs×Bs)
 |[]=>none
 |c::r=>if c==0 then none else if c != q then (FV q r).map fun x=>(c::x.1,x.2) else match r with
  |[]=>some ([],[])
  |d::r'=>if d==q then (FV q r').map fun x=>(q::x.1,x.2) else some ([],d::r')
def Oi:Bs→Int→Option Int
 |[],n=>some n
 |d::r,n=>if n > (9223372036854775807 - ((d.toNat:Int) - 48)) / 10 then none else Oi r (10 * n+((d.toNat:Int) - 48))
def OE (s:Bs):Option Bs:=signsL.find? fun x=>x.isPrefixOf s
inductive LexR where
 |tok (t:Tok) (r:Bs)
 |bad (e:Int)
def Ns (w:Bs)(at':Nat)(r:Bs):LexR:=if 63 < w.length then .bad 173 else .tok ⟨if wordsL.contains w then 2 else 1,at',w,0⟩ r
def Ie (at':Nat):Bs→LexR
 |[]=>.bad 171
 |c::r=>
  if DL c then Ns (((c::r).takeWhile fun c=>DL c||Bv c).map Em) at' ((c::r).dropWhile fun c=>DL c||Bv c) else
  if Bv c then (match Oi ((c::r).takeWhile Bv) 0 with
   |none=>.bad 172
   |some k=>if ((c::r).dropWhile Bv).head?.any DL then .bad 172 else .tok ⟨3,at',[],k⟩ ((c::r).dropWhile Bv)) else
  if c==34||c==39 then (match FV c r with
   |none=>.bad 173
   |some (s,r')=>if c==34 then (if s.isEmpty||decide (63 < s.length) then .bad 173 else .tok ⟨1,at',s,0⟩ r') else .tok ⟨4,at',s,0⟩ r') else
  match OE (c::r) with
  |none=>.bad 171
  |some s=>.tok ⟨5,at',if s=[33,61] then [60,62] else s,0⟩ ((c::r).drop s.length)
inductive LexA where
 |toks (l:List Tok)
 |bad (f:Flt)
def IQ (n:Nat):Nat→List Tok→Bs→LexA
 |0,acc,_=>.toks acc
 |m+1,acc,s=>match Cc false s with
  |[]=>.toks (acc++[⟨6,n,[],0⟩])
  |c::r=>match Ie (n - (r.length+1)) (c::r) with
   | .bad e=>.bad ⟨e,(n - (r.length+1):Nat)⟩
   | .tok t r'=>IQ n m (acc++[t]) r'
def AHR (s:Bs):LexA:=IQ s.length (s.length+1) [] s
structure TValue where
 fType:Int
 fNull:Bool
 fInt:Int
 fText:Bs
deriving DecidableEq
inductive Ex where
 |mk (kind:Int) (value:TValue) (table name:Bs) (slot type:Int) (distinct:Bool) (args:List Ex)
def Ex.kind:Ex→Int| .mk k _ _ _ _ _ _ _=>k
def Ex.value:Ex→TValue| .mk _ v _ _ _ _ _ _=>v
def Ex.table:Ex→Bs| .mk _ _ t _ _ _ _ _=>t
def Ex.name:Ex→Bs| .mk _ _ _ n _ _ _ _=>n
def Ex.slot:Ex→Int| .mk _ _ _ _ s _ _ _=>s
def Ex.type:Ex→Int| .mk _ _ _ _ _ t _ _=>t
def Ex.distinct:Ex→Bool| .mk _ _ _ _ _ _ d _=>d
def Ex.args:Ex→List Ex| .mk _ _ _ _ _ _ _ l=>l
def v0:TValue:=⟨0,false,0,[]⟩
def ex0:Ex:=.mk 0 v0 [] [] 0 0 false []
instance:Inhabited Ex:=⟨ex0⟩
instance:Inhabited TValue:=⟨v0⟩
def exK (k:Int)(l:List Ex):Ex:=.mk k v0 [] [] 0 0 false l
def KR (v:TValue):Ex:=.mk 1 v [] [] 0 0 false []
def Qm (t n:Bs):Ex:=.mk 2 v0 t n 0 0 false []
def JU (n:Bs)(d:Bool)(l:List Ex):Ex:=.mk 28 v0 [] n 0 0 d l
structure TItem where
 fStar:Bool
 fTable:Bs
 fExpr:Ex
 fAs:Bs
instance:Inhabited TItem:=⟨⟨false,[],ex0,[]⟩⟩
structure TSource where
 fTable:Bs
 fAs:Bs
 fLeft:Bool
 fOn:Ex
instance:Inhabited TSource:=⟨⟨[],[],false,ex0⟩⟩
structure TOrder where
 fExpr:Ex
 fDesc:Bool
instance:Inhabited TOrder:=⟨⟨ex0,false⟩⟩
structure TSelect where
 fDistinct:Bool
 fItems:List TItem
 fFrom:List TSource
 fWhere:Ex
 fGroup:List Ex
 fHaving:Ex
 fOrder:List TOrder
 fLimit:Int
 fOffset:Int
instance:Inhabited TSelect:=⟨⟨false,[],[],ex0,[],ex0,[],0,0⟩⟩
structure TSet where
 fColumn:Bs
 fExpr:Ex
instance:Inhabited TSet:=⟨⟨[],ex0⟩⟩
structure TCol where
 fName:Bs
 fType:Int
 fNotNull:Bool
 fKey:Bool
 fUnique:Bool
 fDefault:Ex
instance:Inhabited TCol:=⟨⟨[],0,false,false,false,ex0⟩⟩
structure TIdx where
 fName:Bs
 fTable:Bs
 fColumns:List Bs
 fUnique:Bool
instance:Inhabited TIdx:=⟨⟨[],[],[],false⟩⟩
structure TStmt where
 fKind:Int
 fSelect:TSelect
 fTable:Bs
 fColumns:List Bs
 fRows:List (List Ex)
 fSets:List TSet
 fWhere:Ex
 fCols:List TCol
 fKey:List Bs
 fIndex:TIdx
instance:Inhabited TStmt:=⟨⟨0,default,[],[],[],[],ex0,[],[],default⟩⟩
inductive Res (α:Type) where
 |ok (x:α) (r:List Tok)
 |err (at':Nat)
abbrev Pr (α:Type):=List Tok→Res α
def Res.bind {α β:Type}(x:Res α)(f:α→Pr β):Res β:=match x with
 | .ok a r=>f a r
 | .err e=>.err e
def hd (l:List Tok):Tok:=l.headD default
def bad {α:Type}(l:List Tok):Res α:=.err (hd l).at'
def isT (l:List Tok)(s:Bs):Bool:=((hd l).kind==2||(hd l).kind==5)&&(hd l).text==s
def isK (l:List Tok)(k:Int):Bool:=(hd l).kind==k
def AV (s:Bs):Pr Unit:=fun l=>if isT l s then .ok () l.tail else bad l
def BD:Pr Bs:=fun l=>if isK l 1 then .ok (hd l).text l.tail else bad l
def Ce {α:Type}(one:Pr α):Nat→List α→Pr (List α)
 |0,acc,l=>.ok acc l
 |n+1,acc,l=>if isT l [44] then (one l.tail).bind fun x r=>Ce one n (acc++[x]) r else .ok acc l
def BO {α:Type}(n:Nat)(one:Pr α):Pr (List α):=fun l=>(one l).bind fun x r=>Ce one n [x] r
def CE {α:Type}(n:Nat)(one:Pr α):Pr (List α):=fun l=>(AV [40] l).bind fun _ r=>(BO n one r).bind fun x r=>(AV [41] r).bind fun _ r=>.ok x r
def GK (one:Pr Ex)(op:List Tok→Int):Nat→Ex→Pr Ex
 |0,x,l=>.ok x l
 |n+1,x,l=>if op l=0 then .ok x l else (one l.tail).bind fun y r=>GK one op n (exK (op l) [x,y]) r
def DF (n:Nat)(one:Pr Ex)(op:List Tok→Int):Pr Ex:=fun l=>(one l).bind fun x r=>GK one op n x r
def SV (l:List Tok):Int:=if isT l [111,114] then 22 else 0
def KI (l:List Tok):Int:=if isT l [97,110,100] then 21 else 0
def Jd (f:Bs→Option Int)(l:List Tok):Int:=if isK l 5 then (f (hd l).text).getD 0 else 0
def Vp (s:Bs):Option Int:=if s=[43] then some 9 else if s=[45] then some 10 else if s=[124,124] then some 14 else none
def OB (s:Bs):Option Int:=if s=[42] then some 11 else if s=[47] then some 12 else if s=[37] then some 13 else none
def AQM:List Tok→Int:=Jd Vp
def ANO:List Tok→Int:=Jd OB
def GI (l:List Tok):Int:=if isT l [61] then 15 else if isT l [60,62] then 16 else if isT l [60] then 17 else if isT l [60,61] then 18 else if isT l [62] then 19 else if isT l [62,61] then 20 else 0
def KL (l:List Tok):Option TValue:=
 if isK l 4 then some ⟨3,false,0,(hd l).text⟩ else if isT l [116,114,117,101] then some ⟨2,false,1,[]⟩ else if isT l [102,97,108,115,101] then some ⟨2,false,0,[]⟩ else if isT l [110,117,108,108] then some ⟨4,true,0,[]⟩ else none
def Pz:Pr Ex:=fun l=>if isK l 3 then .ok (KR ⟨1,false,(hd l).num,[]⟩) l.tail else bad l
def Hy:Pr Ex:=fun l=>match KL l with
 |some v=>.ok (KR v) l.tail
 |none=>if isT l [45] then (Pz l.tail).bind fun x r=>.ok (exK 4 [x]) r else Pz l
def Es (n:Nat)(E:Pr Ex)(acc:List Ex):Pr (List Ex):=fun l=>(AV [119,104,101,110] l).bind fun _ r=>(E r).bind fun a r=>(AV [116,104,101,110] r).bind fun _ r=>(E r).bind fun b r=>.ok (acc++[a,b]) r
def FO (n:Nat)(E:Pr Ex):Nat→List Ex→Pr (List Ex)
 |0,acc,l=>.ok acc l
 |m+1,acc,l=>if isT l [119,104,101,110] then (Es n E acc l).bind fun a r=>FO n E m a r else .ok acc l
def JV (n:Nat)(E:Pr Ex):Pr Ex:=fun l=>(Es n E [] l).bind fun a r=>(FO n E n a r).bind fun a r=>
 (if isT r [101,108,115,101] then (E r.tail).bind fun x r=>.ok (a++[x]) r else Res.ok a r).bind fun a r=>(AV [101,110,100] r).bind fun _ r=>.ok (exK 26 a) r
def isAgg (s:Bs):Bool:=s==[99,111,117,110,116]||s==[115,117,109]||s==[109,105,110]||s==[109,97,120]||s==[97,118,103]
def EU (s:Bs):Bool:=s==[99,111,97,108,101,115,99,101]||s==[108,101,110,103,116,104]||isAgg s
def EH (n:Nat)(E:Pr Ex)(s:Bs):Pr Ex:=fun l=>
 if s=[99,111,97,108,101,115,99,101] then (CE n E l).bind fun a r=>.ok (exK 27 a) r else
 (AV [40] l).bind fun _ r=>
 if s=[108,101,110,103,116,104] then (E r).bind fun x r=>(AV [41] r).bind fun _ r=>.ok (exK 8 [x]) r else
 if (s==[99,111,117,110,116]&&isT r [42])=true then (AV [41] r.tail).bind fun _ r=>.ok (JU s false [exK 3 []]) r else
 (E (if isT r [100,105,115,116,105,110,99,116] then r.tail else r)).bind fun x r'=>(AV [41] r').bind fun _ r'=>.ok (JU s (isT r [100,105,115,116,105,110,99,116]) [x]) r'
def HY (n:Nat)(E U:Pr Ex):Pr Ex:=fun l=>
 if isT l [45] then (U l.tail).bind fun x r=>.ok (exK 4 [x]) r else
 if isT l [40] then (E l.tail).bind fun x r=>(AV [41] r).bind fun _ r=>.ok x r else
 if isT l [99,97,115,101] then JV n E l.tail else
 if isK l 3 then Pz l else
 match KL l with
 |some v=>.ok (KR v) l.tail
 |none=>(BD l).bind fun s r=>
  if isT r [40]&&EU s then EH n E s r else
  if isT r [46] then (BD r.tail).bind fun c r=>.ok (Qm s c) r else .ok (Qm [] s) r
def UU (b:Bool)(x:Ex):Ex:=if b then exK 5 [x] else x
def KF (n:Nat)(E S:Pr Ex):Pr Ex:=fun l=>(S l).bind fun x r=>
 if GI r≠0 then (S r.tail).bind fun y r'=>.ok (exK (GI r) [x,y]) r' else
 if isT r [105,115] then (if isT r.tail [110,111,116] then (AV [110,117,108,108] r.tail.tail).bind fun _ r=>.ok (exK 7 [x]) r else (AV [110,117,108,108] r.tail).bind fun _ r=>.ok (exK 6 [x]) r) else
 let b:=isT r [110,111,116]
 let q:=if b then r.tail else r
 if isT q [105,110] then (CE n E q.tail).bind fun a r=>.ok (UU b (exK 24 (x::a))) r else
 if isT q [98,101,116,119,101,101,110] then (S q.tail).bind fun y r=>(AV [97,110,100] r).bind fun _ r=>(S r).bind fun z r=>.ok (UU b (exK 25 [x,y,z])) r else
 if isT q [108,105,107,101] then (S q.tail).bind fun y r=>.ok (UU b (exK 23 [x,y])) r else
 if b then bad q else .ok x q
def UT (N Q:Pr Ex):Pr Ex:=fun l=>if isT l [110,111,116] then (N l.tail).bind fun x r=>.ok (exK 5 [x]) r else Q l
def JS:Nat→Pr Ex×Pr Ex×Pr Ex
 |0=>(fun _=>.err 0,fun _=>.err 0,fun _=>.err 0)
 |n+1=>
  let U:=HY n (JS n).1 (JS n).2.2
  let S:=DF n (DF n U ANO) AQM
  let N:=UT (JS n).2.1 (KF n (JS n).1 S)
  (DF n (DF n N KI) SV,N,U)
def eP (n:Nat):Pr Ex:=(JS n).1
def nP (n:Nat):Pr Ex:=(JS n).2.1
def uP (n:Nat):Pr Ex:=(JS n).2.2
def Ec (n:Nat)(s:Bs):Pr Ex:=fun l=>if isT l s then eP n l.tail else .ok ex0 l
def IK (n:Nat):Pr TItem:=fun l=>
 if isT l [42] then .ok ⟨true,[],ex0,[]⟩ l.tail else
 if isK l 1&&isK l.tail 5&&(hd l.tail).text==[46]&&isK l.tail.tail 5&&(hd l.tail.tail).text==[42] then .ok ⟨true,(hd l).text,ex0,[]⟩ l.tail.tail.tail else
 (eP n l).bind fun x r=>if isT r [97,115] then (BD r.tail).bind fun a r=>.ok ⟨false,[],x,a⟩ r else .ok ⟨false,[],x,[]⟩ r
def Ia (n:Nat):Pr TOrder:=fun l=>(eP n l).bind fun x r=>if isT r [100,101,115,99] then .ok ⟨x,true⟩ r.tail else if isT r [97,115,99] then .ok ⟨x,false⟩ r.tail else .ok ⟨x,false⟩ r
def Cm:Pr TSource:=fun l=>(BD l).bind fun s r=>if isT r [97,115] then (BD r.tail).bind fun a r=>.ok ⟨s,a,false,ex0⟩ r else if isK r 1 then (BD r).bind fun a r=>.ok ⟨s,a,false,ex0⟩ r else .ok ⟨s,[],false,ex0⟩ r
def Gq (n:Nat)(b:Bool):Pr TSource:=fun l=>(AV [106,111,105,110] l).bind fun _ r=>(Cm r).bind fun s r=>(AV [111,110] r).bind fun _ r=>(eP n r).bind fun x r=>.ok ⟨s.fTable,s.fAs,b,x⟩ r
def DU (n:Nat):Nat→List TSource→Pr (List TSource)
 |0,acc,l=>.ok acc l
 |m+1,acc,l=>
  if isT l [44] then (Cm l.tail).bind fun s r=>DU n m (acc++[s]) r else
  if isT l [99,114,111,115,115] then (AV [106,111,105,110] l.tail).bind fun _ r=>(Cm r).bind fun s r=>DU n m (acc++[s]) r else
  if isT l [108,101,102,116] then (Gq n true l.tail).bind fun s r=>DU n m (acc++[s]) r else
  if isT l [105,110,110,101,114] then (Gq n false l.tail).bind fun s r=>DU n m (acc++[s]) r else
  if isT l [106,111,105,110] then (Gq n false l).bind fun s r=>DU n m (acc++[s]) r else .ok acc l
def MN (n:Nat):Pr (List TSource):=fun l=>(Cm l).bind fun s r=>DU n n [s] r
def Fe:Pr Int:=fun l=>if isK l 3&&decide ((hd l).num≤2147483647) then .ok (hd l).num l.tail else bad l
def SQ {α:Type}(s:Bs)(d:α)(p:Pr α):Pr α:=fun l=>if isT l s then p l.tail else .ok d l
def byP {α:Type}(p:Pr α):Pr α:=fun l=>(AV [98,121] l).bind fun _ r=>p r
def IY (n:Nat):Pr TSelect:=fun l=>
 let d:=isT l [100,105,115,116,105,110,99,116]
 (BO n (IK n) (if d then l.tail else l)).bind fun items r=>
 (SQ [102,114,111,109] [] (MN n) r).bind fun froms r=>
 (Ec n [119,104,101,114,101] r).bind fun wh r=>
 (SQ [103,114,111,117,112] [] (byP (BO n (eP n))) r).bind fun gr r=>
 (Ec n [104,97,118,105,110,103] r).bind fun ha r=>
 (SQ [111,114,100,101,114] [] (byP (BO n (Ia n))) r).bind fun od r=>
 (SQ [108,105,109,105,116] (-1) Fe r).bind fun li r=>
 (SQ [111,102,102,115,101,116] 0 Fe r).bind fun off r=>.ok ⟨d,items,froms,wh,gr,ha,od,li,off⟩ r
def Vz (n:Nat):Pr TSet:=fun l=>(BD l).bind fun s r=>(AV [61] r).bind fun _ r=>(eP n r).bind fun x r=>.ok ⟨s,x⟩ r
def typeOf (s:Bs):Int:=if s=[105,110,116]∨s=[105,110,116,101,103,101,114]∨s=[98,105,103,105,110,116] then 1 else if s=[98,111,111,108]∨s=[98,111,111,108,101,97,110] then 2 else if s=[116,101,120,116] then 3 else 0
def GH:Nat→TCol→Pr TCol
 |0,c,l=>.ok c l
 |n+1,c,l=>
  if !c.fNotNull&&isT l [110,111,116] then (AV [110,117,108,108] l.tail).bind fun _ r=>GH n {c with fNotNull:=true} r else
  if !c.fKey&&isT l [112,114,105,109,97,114,121] then (AV [107,101,121] l.tail).bind fun _ r=>GH n {c with fKey:=true} r else
  if !c.fUnique&&isT l [117,110,105,113,117,101] then GH n {c with fUnique:=true} l.tail else
  if c.fDefault.kind==0&&isT l [100,101,102,97,117,108,116] then (Hy l.tail).bind fun x r=>GH n {c with fDefault:=x} r else .ok c l
def FH (n:Nat):Pr TCol:=fun l=>(BD l).bind fun s r=>
 let t:=if isK r 1 then typeOf (hd r).text else 0
 if t=0 then bad r else GH n ⟨s,t,false,false,false,ex0⟩ r.tail
def FQ (n:Nat):Nat→List TCol→List Bs→Pr (List TCol×List Bs)
 |0,cs,ks,l=>.ok (cs,ks) l
 |m+1,cs,ks,l=>
  (if ks.isEmpty&&isT l [112,114,105,109,97,114,121] then (AV [107,101,121] l.tail).bind fun _ r=>(CE n BD r).bind fun k r=>.ok (cs,k) r else (FH n l).bind fun c r=>Res.ok (cs++[c],ks) r).bind fun x r=>
  if isT r [44] then FQ n m x.1 x.2 r.tail else .ok x r
def RH (n:Nat):Pr TStmt:=fun l=>(BD l).bind fun s r=>(AV [40] r).bind fun _ r=>(FQ n (n+1) [] [] r).bind fun x r=>
 if x.1.isEmpty then bad r else (AV [41] r).bind fun _ r=>.ok {(default:TStmt) with fKind:=5,fTable:=s,fCols:=x.1,fKey:=x.2} r
def GN (n:Nat):Pr TStmt:=fun l=>if isT l [116,97,98,108,101] then RH n l.tail else
 let u:=isT l [117,110,105,113,117,101]
 (AV [105,110,100,101,120] (if u then l.tail else l)).bind fun _ r=>(BD r).bind fun a r=>(AV [111,110] r).bind fun _ r=>(BD r).bind fun t r=>(CE n BD r).bind fun c r=>
 .ok {(default:TStmt) with fKind:=6,fIndex:=⟨a,t,c,u⟩} r
def GM:Pr TStmt:=fun l=>if isT l [116,97,98,108,101] then (BD l.tail).bind fun s r=>.ok {(default:TStmt) with fKind:=7,fTable:=s} r else
 (AV [105,110,100,101,120] l).bind fun _ r=>(BD r).bind fun s r=>.ok {(default:TStmt) with fKind:=8,fIndex:=⟨s,[],[],false⟩} r
def Dz (n:Nat):Pr TStmt:=fun l=>(AV [105,110,116,111] l).bind fun _ r=>(BD r).bind fun s r=>
 (if isT r [40] then CE n BD r else Res.ok [] r).bind fun c r=>(AV [118,97,108,117,101,115] r).bind fun _ r=>(BO n (CE n (eP n)) r).bind fun x r=>.ok {(default:TStmt) with fKind:=2,fTable:=s,fColumns:=c,fRows:=x} r
def Dy (n:Nat):Pr TStmt:=fun l=>(BD l).bind fun s r=>(AV [115,101,116] r).bind fun _ r=>(BO n (Vz n) r).bind fun x r=>(Ec n [119,104,101,114,101] r).bind fun w r=>.ok {(default:TStmt) with fKind:=3,fTable:=s,fSets:=x,fWhere:=w} r
def EC (n:Nat):Pr TStmt:=fun l=>(AV [102,114,111,109] l).bind fun _ r=>(BD r).bind fun s r=>(Ec n [119,104,101,114,101] r).bind fun w r=>.ok {(default:TStmt) with fKind:=4,fTable:=s,fWhere:=w} r
def EL (n:Nat):Pr TStmt:=fun l=>
 if isT l [115,101,108,101,99,116] then (IY n l.tail).bind fun q r=>.ok {(default:TStmt) with fKind:=1,fSelect:=q} r else
 if isT l [105,110,115,101,114,116] then Dz n l.tail else
 if isT l [117,112,100,97,116,101] then Dy n l.tail else
 if isT l [100,101,108,101,116,101] then EC n l.tail else
 if isT l [99,114,101,97,116,101] then GN n l.tail else
 if isT l [100,114,111,112] then GM l.tail else
 if isT l [98,101,103,105,110] then .ok {(default:TStmt) with fKind:=9} l.tail else
 if isT l [99,111,109,109,105,116] then .ok {(default:TStmt) with fKind:=10} l.tail else
 (AV [114,111,108,108,98,97,99,107] l).bind fun _ r=>.ok {(default:TStmt) with fKind:=11} r
def Cb (n:Nat):Nat→List TStmt→Pr (List TStmt)
 |0,acc,l=>.ok acc l
 |m+1,acc,l=>if isK l 6 then .ok acc l else if isT l [59] then Cb n m acc l.tail else
  (EL n l).bind fun s r=>if isK r 6||isT r [59] then Cb n m (acc++[s]) r else bad r
mutual
def BA:Ex→Nat
 | .mk _ _ _ _ _ _ _ l=>Aj l+1
def Aj:List Ex→Nat
 |[]=>0
 |x::l=>BA x+Aj l
end
mutual
def Fb:Ex→Nat
 | .mk _ _ _ _ _ _ _ l=>Bi l+1
def Bi:List Ex→Nat
 |[]=>0
 |x::l=>max (Fb x) (Bi l)
end
def Ez (s:TStmt):List Ex:=
 (s.fSelect.fItems.map (·.fExpr)++s.fSelect.fFrom.map (·.fOn)++[s.fSelect.fWhere,s.fSelect.fHaving,s.fWhere]++s.fSelect.fGroup++s.fSelect.fOrder.map (·.fExpr)++s.fRows.flatten++s.fSets.map (·.fExpr)++s.fCols.map (·.fDefault)).filter fun x=>x.kind != 0
def Jc (s:TStmt):Nat:=Aj (Ez s)+1
def AHe (s:TStmt):Nat:=Bi (Ez s)
def BJ (l:List TStmt):Nat:=(l.map Jc).sum
def Di:List TStmt→Nat
 |[]=>0
 |s::l=>max (AHe s) (Di l)
def ok0:Flt:=⟨0,0⟩
def readA (s:Bs):List TStmt×Flt:=match AHR s with
 | .bad f=>([],f)
 | .toks l=>match Cb l.length (l.length+1) [] l with
  | .ok x _=>(x,ok0)
  | .err a=>([],⟨174,a⟩)
def Sl (parts deep:Nat):Int:=if 64 < deep then 175 else if 2000 < parts then 176 else 0
def DY (s:Bs):List TStmt×Flt:=
 if 65536 < s.length then ([],⟨170,65536⟩) else
 if (readA s).2≠ok0 then ([],(readA s).2) else
 if Sl (BJ (readA s).1) (Di (readA s).1)≠0 then ([],⟨Sl (BJ (readA s).1) (Di (readA s).1),0⟩) else ((readA s).1,ok0)
structure TField where
 fName:Bs
 fType:Int
deriving DecidableEq
structure TCell where
 fNull:Bool
 fText:Bs
deriving DecidableEq
structure TBack where
 fKind:Int:=0
 fName:Bs:=[]
 fText:Bs:=[]
 fPid:Int:=0
 fSecret:Int:=0
 fStatus:Int:=0
 fFields:List TField:=[]
 fCells:List TCell:=[]
 fState:Bs:=[]
 fFatal:Bool:=false
structure TParam where
 fName:Bs
 fValue:Bs
structure TFront where
 fKind:Int:=0
 fParams:List TParam:=[]
 fText:Bs:=[]
 fPid:Int:=0
 fSecret:Int:=0
 fTag:Int:=0
structure TOut where
 fFields:List TField
 fRows:List (List TValue)
 fTag:Bs
instance:Inhabited TField:=⟨⟨[],0⟩⟩
instance:Inhabited TCell:=⟨⟨false,[]⟩⟩
instance:Inhabited TBack:=⟨{}⟩
instance:Inhabited TParam:=⟨⟨[],[]⟩⟩
instance:Inhabited TFront:=⟨{}⟩
instance:Inhabited TOut:=⟨⟨[],[],[]⟩⟩
def byI (n:Int):UInt8:=UInt8.ofNat (n % 256).toNat
def beB (n:Int):Nat→Bs
 |0=>[]
 |k+1=>byI (n.fdiv (2 ^ (8 * k)))::beB n k
def txB (l:List Bs):Bs:=l.flatMap (·++[0])
def clB (l:List Bs):Bool:=l.all fun s=>s.all (· != 0)
def i32 (n:Int):Int:=IntKind.i32.wrap n
def smB (l:List Int):Bool:=l.all fun n=>n==i32 n
def Ur (t:Int):Option (Int×Int):=if t==1 then some (20,8) else if t==2 then some (16,1) else if t==3 then some (25, -1) else none
def WZ (f:TField)(c:Int×Int):Bs:=txB [f.fName]++beB 0 4++beB 0 2++beB c.1 4++beB c.2 2++beB (-1) 4++beB 0 2
def DJ:List TField→Option Bs
 |[]=>some []
 |f::r=>match Ur f.fType with
  |none=>none
  |some c=>if clB [f.fName] then (DJ r).map (WZ f c++·) else none
def EW (l:List TField):Bs×Bool:=match DJ l with
 |some t=>(beB l.length 2++t,decide (l.length≤1600))
 |none=>([],false)
def Eg (c:TCell):Bs:=if c.fNull then beB (-1) 4 else beB c.fText.length 4++c.fText
def BZ (l:List TCell):Nat:=(l.map fun c=>4+c.fText.length).sum+2
def EI (l:List TCell):Bs×Int×Bool:=
 if l.any fun c=>c.fNull&&c.fText != [] then ([],0,false)
 else if 1073741824 < BZ l+4∨1600 < l.length then ([],BZ l,decide (l.length≤1600))
 else (beB l.length 2++l.flatMap Eg,BZ l,true)
def AJH (c:UInt8):Bool:=(48≤c&&c≤57)||(65≤c&&c≤90)
def Ju (s:Bs):Bool:=s.length==5&&s.all AJH
def Cj (m:TBack):TBack×Bs×Int×Bool:=
 if m.fKind==1 then ({fKind:=1},beB 0 4,0,true)
 else if m.fKind==3 then ({fKind:=3,fPid:=m.fPid,fSecret:=m.fSecret},beB m.fPid 4++beB m.fSecret 4,0,smB [m.fPid,m.fSecret])
 else if m.fKind==4 then ({fKind:=4,fStatus:=m.fStatus},[byI m.fStatus],0,m.fStatus==73||m.fStatus==84||m.fStatus==69)
 else if m.fKind==5 then ({fKind:=5,fFields:=m.fFields},(EW m.fFields).1,0,(EW m.fFields).2)
 else if m.fKind==6 then ({fKind:=6,fCells:=m.fCells},(EI m.fCells).1,(EI m.fCells).2.1,(EI m.fCells).2.2)
 else if m.fKind==2 then ({fKind:=2,fName:=m.fName,fText:=m.fText},txB [m.fName]++txB [m.fText],0,clB [m.fName,m.fText])
 else if m.fKind==7 then ({fKind:=7,fText:=m.fText},txB [m.fText],0,clB [m.fName,m.fText])
 else if m.fKind==9 then ({fKind:=9,fState:=m.fState,fText:=m.fText,fFatal:=m.fFatal},
  txB [83::(if m.fFatal then [70,65,84,65,76] else [69,82,82,79,82]),86::(if m.fFatal then [70,65,84,65,76] else [69,82,82,79,82]),67::m.fState,77::m.fText]++[0],0,Ju m.fState&&clB [m.fText])
 else if m.fKind==8∨m.fKind==10 then ({fKind:=m.fKind},[],0,true)
 else ({fKind:=m.fKind},[],0,false)
def QR (a b:TBack):Bool:=a.fKind==b.fKind&&a.fName==b.fName&&a.fText==b.fText&&a.fPid==b.fPid&&a.fSecret==b.fSecret&&a.fStatus==b.fStatus&&a.fState==b.fState&&a.fFatal==b.fFatal&&a.fFields.length==b.fFields.length&&a.fCells.length==b.fCells.length
def tagsW:Bs:=[32,82,83,75,90,84,68,67,73,69]
def FW (m:TBack):Bs×Int:=
 let t:=Cj m
 if !t.2.2.2|| !QR t.1 m then ([],230)
 else if m.fKind==10 then ([78],0)
 else if 1073741824 < max t.2.2.1 t.2.1.length+4 then ([],231)
 else (tagsW.getD m.fKind.toNat 0::beB (t.2.1.length+4:Nat) 4++t.2.1,0)
def ER:List TBack→Bs→Bs×Int
 |[],acc=>(acc,0)
 |m::r,acc=>if (FW m).2 != 0 then ([],(FW m).2) else ER r (acc++(FW m).1)
def n4W (a b c d:UInt8):Int:=i32 ((Dx .or .u32 (Dx .or .u32 (Dx .or .u32 (IntKind.u32.wrap (a.toNat * 16777216)) (IntKind.u32.wrap (b.toNat * 65536))) (IntKind.u32.wrap (c.toNat * 256))) d.toNat))
structure Rdq where
 b:Bs
 bad:Bool
def Rdq.take (n:Int)(r:Rdq):Bs×Rdq:=if n < 0∨(r.b.length:Int) < n then ([],⟨r.b,true⟩) else (r.b.take n.toNat,⟨r.b.drop n.toNat,r.bad⟩)
def ix0 (l:Bs):Int:=match l.findIdx? (·==0) with
 |some i=>(i:Nat)
 |none=> -1
def Rdq.text (r:Rdq):Bs×Rdq:=
 let q:=r.take (ix0 r.b)
 if q.2.bad then q else (q.1,(q.2.take 1).2)
def ANB (c:UInt8):Int:=IntKind.i8.wrap c.toNat
def AKb:Int→Bs→Int
 |n,[]=>n
 |n,c::r=>AKb (Dx .or .i64 (IntKind.i64.wrap (n * 256)) c.toNat) r
def AKc:Bs→Int
 |[]=>0
 |c::r=>AKb (ANB c) r
def Rdq.num (k:Int)(r:Rdq):Int×Rdq:=(AKc (r.take k).1,(r.take k).2)
def Rdq.whole (r:Rdq):Bool:= !r.bad&&r.b.isEmpty
def CQ:Nat→Rdq→List TParam→Option (List TParam×Rdq)
 |0,r,acc=>some (acc,r)
 |f+1,r,acc=>if r.b.length > 0&&(r.b.headD 0 != 0&& !r.bad) then (if acc.length==32 then none else
   CQ f (r.text.2.text.2) (acc++[⟨r.text.1,r.text.2.text.1⟩])) else some (acc,r)
def UO (b:Bs):TFront×Int:=
 let q:=(Rdq.mk b false).num 4
 let fin (f:TFront) (r:Rdq):TFront×Int:=if r.whole then (f,0) else ({},230)
 if q.1==80877103 then fin {fKind:=2} q.2
 else if q.1==80877102 then fin {fKind:=3,fPid:=(q.2.num 4).1,fSecret:=((q.2.num 4).2.num 4).1} ((q.2.num 4).2.num 4).2
 else if q.1==196608 then (match CQ (b.length+1) q.2 [] with
  |none=>({},231)
  |some (l,r)=>fin {fKind:=1,fParams:=l} (r.take 1).2)
 else ({},232)
def AHK (tag:Int)(b:Bs):TFront×Int:=
 let r:Rdq:=⟨b,false⟩
 let fin (f:TFront) (r:Rdq):TFront×Int:=if r.whole then (f,0) else ({},230)
 if tag==81 then fin {fKind:=4,fText:=r.text.1} r.text.2
 else if tag==88 then fin {fKind:=5} r
 else fin {fKind:=6,fTag:=tag} ⟨[],r.bad⟩
def GZ (b:Bs)(head:Nat)(least most:Int):Int×Int:=
 if b.length < head+4 then (0,10) else
 let n:=n4W (b.getD head 0) (b.getD (head+1) 0) (b.getD (head+2) 0) (b.getD (head+3) 0)
 if n < least then (0,230) else if most < n then (0,231) else if (b.length:Int) - head < n then (0,10) else (n,0)
def Bo (b:Bs)(startup:Bool):TFront×Int×Int:=
 let head:=if startup then 0 else 1
 if !startup&&(b.length > 0&&(b.headD 0==0||decide (127 < b.headD 0))) then ({},0,230) else
 let q:=GZ b head (if startup then 8 else 4) (if startup then 10000 else 1048576)
 if q.2 != 0 then ({},0,q.2) else
 let body:=(b.drop (head+4)).take (q.1.toNat - 4)
 let o:=if startup then UO body else AHK (b.headD 0).toNat body
 if o.2 != 0 then ({},0,o.2) else (o.1,head+q.1,0)
def Fv (e:Int):Bs×Bs:=
 if e=170∨e=175∨e=176 then ([53,52,48,48,49],[115,116,97,116,101,109,101,110,116,32,105,115,32,116,111,111,32,108,97,114,103,101])
 else if e=171∨e=172∨e=173∨e=174∨e=177∨e=284 then ([52,50,54,48,49],[115,121,110,116,97,120,32,101,114,114,111,114])
 else if e=180 then ([52,50,80,48,49],[110,111,32,115,117,99,104,32,116,97,98,108,101])
 else if e=181∨e=186 then ([52,50,80,48,55],[105,116,32,105,115,32,116,104,101,114,101,32,97,108,114,101,97,100,121])
 else if e=182 then ([52,50,55,48,51],[110,111,32,115,117,99,104,32,99,111,108,117,109,110])
 else if e=183 then ([52,50,55,48,49],[116,104,101,32,99,111,108,117,109,110,32,105,115,32,110,97,109,101,100,32,116,119,105,99,101])
 else if e=184 then ([52,50,55,48,50],[116,104,101,32,99,111,108,117,109,110,32,105,115,32,97,109,98,105,103,117,111,117,115])
 else if e=280 then ([52,50,55,49,50],[116,104,101,32,116,97,98,108,101,32,105,115,32,110,97,109,101,100,32,116,119,105,99,101])
 else if e=185 then ([52,50,55,48,52],[110,111,32,115,117,99,104,32,105,110,100,101,120])
 else if e=187 then ([52,50,56,48,52],[116,121,112,101,115,32,100,111,32,110,111,116,32,109,97,116,99,104])
 else if e=188 then ([52,50,56,48,51],[105,116,32,109,117,115,116,32,115,116,97,110,100,32,105,110,32,71,82,79,85,80,32,66,89,32,111,114,32,105,110,32,97,110,32,97,103,103,114,101,103,97,116,101])
 else if e=283 then ([52,50,80,49,48],[105,116,32,109,117,115,116,32,115,116,97,110,100,32,105,110,32,116,104,101,32,115,101,108,101,99,116,32,108,105,115,116])
 else if e=189 then ([52,50,80,49,54],[111,110,101,32,112,114,105,109,97,114,121,32,107,101,121,32,105,115,32,110,101,101,100,101,100])
 else if e=281∨e=201∨e=223 then ([53,52,48,48,48],[97,32,108,105,109,105,116,32,105,115,32,101,120,99,101,101,100,101,100])
 else if e=190 then ([50,50,48,48,51],[110,117,109,98,101,114,32,111,117,116,32,111,102,32,114,97,110,103,101])
 else if e=191 then ([50,50,48,49,50],[100,105,118,105,115,105,111,110,32,98,121,32,122,101,114,111])
 else if e=192 then ([50,50,48,48,49],[116,101,120,116,32,105,115,32,116,111,111,32,108,111,110,103])
 else if e=221 then ([50,51,53,48,53],[116,104,101,32,107,101,121,32,105,115,32,116,104,101,114,101,32,97,108,114,101,97,100,121])
 else if e=222 then ([50,51,53,48,50],[110,117,108,108,32,119,104,101,114,101,32,110,111,110,101,32,109,97,121,32,98,101])
 else if e=24∨e=23 then ([53,51,49,48,48],[116,104,101,32,100,105,115,107,32,105,115,32,102,117,108,108])
 else if e=161∨e=144 then ([52,48,48,48,49],[98,101,103,105,110,32,116,104,101,32,116,114,97,110,115,97,99,116,105,111,110,32,97,103,97,105,110])
 else if e=82 then ([53,51,48,48,48],[111,117,116,32,111,102,32,116,105,109,101,115,116,97,109,112,115])
 else if e=230∨e=231∨e=232 then ([48,56,80,48,49],[112,114,111,116,111,99,111,108,32,118,105,111,108,97,116,105,111,110])
 else if e=224∨e=282 then ([88,88,48,48,49],[115,116,111,114,101,100,32,114,111,119,115,32,97,114,101,32,100,97,109,97,103,101,100])
 else ([88,88,48,48,48],[105,110,116,101,114,110,97,108,32,101,114,114,111,114])
structure Ses where
 pid:Int
 secret:Int
 status:Int:=0
 left:Bs:=[]
 query:Bool:=false
 stmts:List TStmt:=[]
 kind:Int:=0
 stmt:TStmt:=default
 own:Bool:=false
 ended:Bool:=false
 out:Bs:=[]
def BV (s:Ses)(l:List TBack):Ses:=if (ER l []).2 != 0 then s else {s with out:=s.out++(ER l []).1}
def Dt (s:Ses)(e:Int)(fatal:Bool):Ses:=BV s [{fKind:=9,fState:=(Fv e).1,fText:=(Fv e).2,fFatal:=fatal}]
def Eu (s:Ses)(tag:Bs):Ses:=BV s [{fKind:=7,fText:=tag}]
def Jg (s:Ses):Ses:={s with ended:=true,left:=[],query:=false,stmts:=[],kind:=if s.status==84||s.kind==4 then 4 else 0,stmt:=default,own:=false}
def Dw (s:Ses):Ses:=if s.status==84 then {s with stmts:=[],status:=69,kind:=4,stmt:=default,own:=false} else {s with stmts:=[]}
def Fj (s:Ses):Ses:=if s.ended then s else Jg s
def KT (s:Ses)(kind asked:Int)(tag:Bs):Ses:=if s.status==asked then {s with kind:=kind,stmt:=default,own:=false} else Eu s tag
def Gn (s:Ses)(x:TStmt):Ses:=
 if s.status==69 then (if x.fKind==10||x.fKind==11 then Eu {s with status:=73} [82,79,76,76,66,65,67,75]
  else {BV s [{fKind:=9,fState:=[50,53,80,48,50],fText:=[116,104,101,32,116,114,97,110,115,97,99,116,105,111,110,32,104,97,115,32,102,97,105,108,101,100]}] with stmts:=[]})
 else if x.fKind==9 then KT s 2 73 [66,69,71,73,78]
 else if x.fKind==10 then KT s 3 84 [67,79,77,77,73,84]
 else if x.fKind==11 then KT s 4 84 [82,79,76,76,66,65,67,75]
 else {s with kind:=1,stmt:=x,own:=s.status==73}
def Jf (s:Ses):Ses:=BV {s with status:=73} [{fKind:=1},{fKind:=2,fName:=[115,101,114,118,101,114,95,118,101,114,115,105,111,110],fText:=[49,54,46,48]},{fKind:=2,fName:=[99,108,105,101,110,116,95,101,110,99,111,100,105,110,103],fText:=[85,84,70,56]},{fKind:=2,fName:=[68,97,116,101,83,116,121,108,101],fText:=[73,83,79]},{fKind:=3,fPid:=s.pid,fSecret:=s.secret},{fKind:=4,fStatus:=73}]
def XD (s:Ses)(t:Bs):Ses:=
 if (DY t).2.code != 0 then Dw (Dt {s with query:=true} (DY t).2.code false)
 else if (DY t).1.isEmpty then {BV {s with query:=true} [{fKind:=8}] with stmts:=(DY t).1}
 else {s with query:=true,stmts:=(DY t).1}
def LY (s:Ses)(f:TFront):Ses:=
 if f.fKind==2 then BV s [{fKind:=10}]
 else if f.fKind==3||f.fKind==5 then Jg s
 else if f.fKind==1 then Jf s
 else if f.fKind==4 then XD s f.fText
 else Jg (Dt s 230 true)
def DC (s:Ses):Option Ses:=
 if s.ended||s.kind != 0 then none
 else if s.query&& !s.stmts.isEmpty then some (Gn {s with stmts:=s.stmts.tail} (s.stmts.headD default))
 else if s.query then some (BV {s with query:=false} [{fKind:=4,fStatus:=s.status}])
 else
  let q:=Bo s.left (s.status==0)
  if q.2.2==10 then none
  else if q.2.2 != 0 then some (Jg (Dt s q.2.2 true))
  else some (LY {s with left:=s.left.drop q.2.1.toNat} q.1)
def onF:Nat→Ses→Ses
 |0,s=>s
 |f+1,s=>match DC s with
  |none=>s
  |some t=>onF f t
def ALe (s:Ses):Nat:=s.left.length * 2010+s.stmts.length+(if s.query then 1 else 0)+1
def goF (s:Ses):Ses:=onF (ALe s) s
def Gt (s:Ses)(b:Bs):Ses×Bs:=
 if s.ended then (s,[]) else
 let s1:={s with left:=s.left++b}
 let s2:=if 2097152 < s1.left.length then Jg (Dt s1 231 true) else goF s1
 ({s2 with out:=[]},s2.out)
def EO (dec:Int→Bs)(v:TValue):TCell:=
 if v.fNull then ⟨true,[]⟩ else if v.fType==1 then ⟨false,dec v.fInt⟩ else if v.fType==2 then ⟨false,if v.fInt==1 then [116] else [102]⟩ else ⟨false,v.fText⟩
def Bh (dec:Int→Bs)(o:TOut):List TBack:=(if o.fFields.length > 0 then {fKind:=5,fFields:=o.fFields}::o.fRows.map fun r=>{fKind:=6,fCells:=r.map (EO dec)} else [])++[{fKind:=7,fText:=o.fTag}]
def Ny (s:Ses)(asked e:Int):Ses:=
 let s:={s with status:=73}
 if e != 0 then {Dt s e false with stmts:=[]} else if asked==2 then Eu {s with status:=84} [66,69,71,73,78] else Eu s [67,79,77,77,73,84]
def Eb (dec : Int → Bs) (s : Ses) (o : TOut) (e : Int) : Ses :=
  let asked := s.kind
  let s0 := { s with kind := 0, stmt := default, own := false }
  if asked == 1 then
    (let e1 := if e == 0 then (ER (Bh dec o) []).2 else e
     let s2 := if e == 0 then BV s0 (Bh dec o) else s0
     if e1 != 0 then Dw (Dt s2 e1 false) else s2)
  else if asked == 4 then (if s0.status == 84 && !s0.ended then Eu { s0 with status := 73 } [82, 79, 76, 76, 66, 65, 67, 75] else s0)
  else Ny s0 asked e
def Kv (dec:Int→Bs)(s:Ses)(o:TOut)(e:Int):Ses×Bs:=
 if s.kind==0 then (s,[]) else ({goF (Eb dec s o e) with out:=[]},(goF (Eb dec s o e)).out)
theorem XQ (a b:List Bs):txB (a++b)=txB a++txB b:=by simp only [txB,List.flatMap_append]
theorem Iz (a:Bs):txB [a]=a++[0]:=by simp only [txB,List.flatMap_cons,List.flatMap_nil,List.append_nil]
abbrev OwB (X:LH)(v:Value)(l:Bs):Prop:=SlO 5 1 X v (Lib.byteCells l) l.length
theorem OwB.mk {X:LH}{v:Value}{l t:Bs}(h:SlO 5 1 X v (Lib.byteCells l++Lib.byteCells t) (l.length+t.length)):OwB X v (l++t):=by
 unfold OwB;rw [Lib.byteCells_append,List.length_append];exact h
theorem ZM (n:Int):((byI n).toNat:Int)=IntKind.u8.wrap n:=by
 have h:(0:Int)≤n % 256∧n % 256 < 256:=by omega
 simp only [byI,IntKind.wrap,IntKind.signed,IntKind.bits];simp
 omega
theorem AJJ (a:Int)(m:Nat)(h:m≤7):AA .shr (.int .i64 a) (.int .i64 (8 * (m:Int)))=some (.int .i64 (a.fdiv (2 ^ (8 * m)))):=by
 have h1:¬(8 * (m:Int)) < 0:=by omega
 simp only [AA];rw [if_neg h1];have h2:min (8 * (m:Int)).toNat IntKind.i64.bits=8 * m:=by
  have:IntKind.i64.bits=64:=rfl;rw [this];omega
 rw [h2]
section
variable {ω:Om}{I:Imm}{F:LH}{K:Value→M}
theorem VR {X:LH}{v:Value}{l:Bs}(ho:OwB X v l)(n:Int)(k:Nat)(hk8:k≤8)(hl:l.length≤1000000000000)(hk:∀X' v',OwB X' v' (l++beB n k)→K v' I (X'++F)):CT ω 91 #[v,.int .i64 n,.int .i64 (k:Nat)] K I (X++F):=by
 refine AQa ?_;unfold AMR;simp only [wrap_i64 ((k:Int) - 1) (by omega),SSd,Nat.reduceAdd];refine loop (fun m st I' L'=>∃(X':LH) (v':Value) (l':Bs),m≤8∧st=(v',Value.int .i64 ((m:Int) - 1),())∧I'=I∧L'=X'++F∧OwB X' v' l'∧l'++beB n m=l++beB n k∧l'.length+m=l.length+k) k ⟨X,v,l,hk8,rfl,rfl,rfl,ho,rfl,rfl⟩ ?_;rintro m st I' L' ⟨X',v',l',hm,rfl,rfl,rfl,ho',he,hle⟩;unfold ACA;try simp only [SSd,Nat.reduceAdd]
 refine AB (fun hb=>?_) (fun hb=>?_)
 ·have hm0:1≤m:=by
   have:=of_decide_eq_true hb;omega
  obtain ⟨m,rfl⟩:∃q,m=q+1:=⟨m - 1,by omega⟩;have e1:((m+1:Nat):Int) - 1=(m:Int):=by omega
  simp only [e1,wrap_i64 (8 * (m:Int)) (by omega),AJJ n m (by omega),SSd,Nat.reduceAdd];rw [←ZM];refine CS rfl (by decide) rfl (fun X1 u hX1=>?_);refine Bd (X:=X') rfl ho' (hX1.news (fun x hx=>List.mem_append_left _ hx)) (fun u hu=>?_) (by omega) (by omega) (fun X2 v2 hX2=>?_)
  ·rw [List.mem_singleton.1 hu];rfl
  have hX2:OwB X2 v2 (l'++[byI (n.fdiv (2 ^ (8 * m)))]):=OwB.mk hX2;simp only [wrap_i64 ((m:Int) - 1) (by omega),SSd,Nat.reduceAdd];exact Gh.to (X2++F) (Gh.done ⟨m,by omega,X2,v2,_,by omega,rfl,rfl,rfl,hX2,by rw [←he];simp [beB],by rw [List.length_append,List.length_singleton];omega⟩)
 ·have hm0:m=0:=by
   have:=of_decide_eq_false hb;omega
  subst hm0;have e:l'=l++beB n k:=by simpa [beB] using he
  subst e;exact Gh.done (hk X' v' ho')
theorem LG {X:LH}{v w:Value}{l:Bs}{xs:List Bs}(ho:OwB X v l)(hx:RL StrV 1 I [] w xs)(hx0:xs.length≤1000000000000)(hl:l.length+(txB xs).length≤1000000000000)(hk:∀X' v',OwB X' v' (l++txB xs)→K v' I (X'++F)):CT ω 95 #[v,w] K I (X++F):=by
 refine AQW ?_;unfold AMN;simp only [RL.len hx,SSd,Nat.reduceAdd];refine loop (fun m st I' L'=>∃(k:Nat) (X':LH) (v':Value),k+m=xs.length∧st=(v',Value.int .i64 (k:Nat),())∧I'=I∧L'=X'++F∧OwB X' v' (l++txB (xs.take k))) xs.length ⟨0,X,v,by omega,rfl,rfl,rfl,by simpa [txB] using ho⟩ ?_;rintro m st I' L' ⟨k,X',v',hkm,rfl,rfl,rfl,ho'⟩;unfold ABu;try simp only [SSd,Nat.reduceAdd]
 refine AB (fun hb=>?_) (fun hb=>?_)
 ·have hb:k < xs.length:=by
   have:=of_decide_eq_true hb;omega
  obtain ⟨bt,off,c1,g1,gl,g2,g3⟩:=RL.ix hx (i:=k) (by omega) (by omega);rw [BM hb] at g2;obtain rfl:=g2;have e:txB (xs.take (k+1))=txB (xs.take k)++(xs[k]++[0]):=by
   rw [List.take_succ_eq_append_getElem hb,XQ,Iz]
  have hle:(txB (xs.take (k+1))).length≤(txB xs).length:=by
   have h:=XQ (xs.take (k+1)) (xs.drop (k+1));rw [List.take_append_drop] at h;rw [h,List.length_append];omega
  rw [e] at hle;simp only [List.length_append,List.length_singleton] at hle;simp only [g1,SSd,Nat.reduceAdd];refine rdC (g3 I' [] (Ext.refl _) (fun _ h=>h) 0 _ rfl) (Ext.refl _) ?_;refine Bd (X:=X') (n:=1) (m:=xs[k].length) rfl ho' (news:=Lib.byteCells xs[k]) (.inr (.inr ⟨⟨xs[k].toArray⟩,rfl,rfl,rfl,rfl⟩)) (fun u hu=>?_) (by rw [List.length_append];omega) (by rw [List.length_append];omega) (fun X2 v2 hX2=>?_)
  ·obtain ⟨d,_,rfl⟩:=List.mem_map.1 hu;rfl
  have hX2:OwB X2 v2 (l++txB (xs.take k)++xs[k]):=OwB.mk hX2;refine CS (v:=.int .u8 0) rfl (by decide) rfl (fun X1 u hX1=>?_);refine Bd (X:=X2) (L:=X1++(X2++F)) (F:=X1++F) rfl hX2 (hX1.news (fun x hx=>List.mem_append_left _ hx)) (fun u hu=>?_) (by simp only [List.length_append];omega) (by simp only [List.length_append];omega) (fun X3 v3 hX3=>?_)
  ·rw [List.mem_singleton.1 hu];rfl
  have hX3:OwB X3 v3 (l++txB (xs.take (k+1))):=by
   have e2:l++txB (xs.take (k+1))=(l++txB (xs.take k)++xs[k])++[0]:=by rw [e];simp
   rw [e2];exact OwB.mk hX3
  simp only [wrap_i64 ((k:Int)+1) (by omega),SSd,Nat.reduceAdd];exact Gh.to (X3++F) (Gh.done ⟨m - 1,by omega,k+1,X3,v3,by omega,rfl,rfl,rfl,hX3⟩)
 ·have hb:¬k < xs.length:=by
   have:=of_decide_eq_false hb;omega
  have e:xs.take k=xs:=List.take_of_length_le (by omega);rw [e] at ho';exact Gh.done (hk X' v' ho')
end
def Um:Nat→Nat→Bs→Bs
 |0,_,acc=>acc
 |f+1,n,acc=>if n < 10 then UInt8.ofNat (48+n)::acc else Um f (n / 10) (UInt8.ofNat (48+n % 10)::acc)
def BU (b:Bool)(n:Int):Bs:=if n < 0 then (if b then 45::Um (n.natAbs+1) n.natAbs [] else [45]) else Um (n.toNat+1) n.toNat []
def ARW (s:Bs):Bool:= !s.isEmpty&& !s.head?.any Bv&& !wordsL.contains s&&s.all fun c=>(DL c||Bv c)&& !(65≤c&&c≤90)
mutual
def AQG:Ex→Ex→Bool
 | .mk k v t n s ty d l,y=>k==y.kind&&v==y.value&&t==y.table&&n==y.name&&s==y.slot&&ty==y.type&&d==y.distinct&&ALY l y.args
def ALY:List Ex→List Ex→Bool
 |[],l=>l.isEmpty
 |x::xs,l=>match l with
  |[]=>false
  |y::ys=>AQG x y&&ALY xs ys
end
abbrev BR (x:Ex)(v:Value):List Value:=
 [.int .i64 x.kind,.int .i64 x.value.fType,.bool x.value.fNull,.int .i64 x.value.fInt,.string ⟨x.value.fText.toArray⟩,.string ⟨x.table.toArray⟩,.string ⟨x.name.toArray⟩,.int .i64 x.slot,.int .i64 x.type,.bool x.distinct,v]
mutual
def ExV (I:Imm):Ex→List Value→Prop
 | .mk k v t n s ty d l,c=>∃a cap cells,l.length≤cap∧News 11 (.slice a l.length cap) I [] l.length cells∧ExC I l cells∧c=BR (.mk k v t n s ty d l) (.slice a l.length cap)
def ExC (I:Imm):List Ex→List Value→Prop
 |[],c=>c=[]
 |x::l,c=>(c.take 11).length=11∧ExV I x (c.take 11)∧ExC I l (c.drop 11)
end
theorem ExC.recs {I:Imm}:∀{l:List Ex} {c:List Value},ExC I l c↔Recs (ExV I) 11 l c
 |[],c=>Iff.rfl
 |x::l,c=>by simp only [ExC,Recs,ExC.recs (l:=l)]
theorem ExV.iff {I:Imm}{x:Ex}{c:List Value}:ExV I x c↔∃v,c=BR x v∧RL ExV 11 I [] v x.args:=by
 obtain ⟨k,v,t,n,s,ty,d,l⟩:=x;simp only [ExV,Ex.args];constructor
 ·rintro ⟨a,cap,cells,h1,h2,h3,rfl⟩;exact ⟨_,rfl,a,cap,cells,rfl,h1,h2,ExC.recs.1 h3⟩
 ·rintro ⟨_,rfl,a,cap,cells,rfl,h1,h2,h3⟩;exact ⟨a,cap,cells,h1,h2,ExC.recs.2 h3,rfl⟩
mutual
theorem ExV.mono {I I':Imm}(hI:Ext I I'):∀{x:Ex} {c:List Value},ExV I x c→ExV I' x c
 | .mk k v t n s ty d l,c,⟨a,cap,cells,h1,h2,h3,h4⟩=>⟨a,cap,cells,h1,h2.mono hI (fun _ h=>h),ExC.mono hI h3,h4⟩
theorem ExC.mono {I I':Imm}(hI:Ext I I'):∀{l:List Ex} {c:List Value},ExC I l c→ExC I' l c
 |[],_,h=>h
 |x::l,_,⟨h1,h2,h3⟩=>⟨h1,ExV.mono hI h2,ExC.mono hI h3⟩
end
theorem ExV.mk {I:Imm}{x:Ex}{v:Value}(h:RL ExV 11 I [] v x.args):ExV I x (BR x v):=ExV.iff.2 ⟨v,rfl,h⟩
theorem ExV.len {I:Imm}{x:Ex}{c:List Value}(h:ExV I x c):c.length=11:=by
 obtain ⟨v,rfl,_⟩:=ExV.iff.1 h;rfl
theorem ExV.one {I:Imm}{x:Ex}{c:List Value}(h:ExV I x c):∀u∈c,u.oneCell'=true:=by
 obtain ⟨v,rfl,h'⟩:=ExV.iff.1 h;obtain ⟨a,cap,rfl⟩:=RL.form h';exact AL rfl
def exZ:List Value:=[.int .i64 0,.int .i64 0,.bool false,.int .i64 0,.string ⟨#[]⟩,.string ⟨#[]⟩,.string ⟨#[]⟩,.int .i64 0,.int .i64 0,.bool false,.slice none 0 0]
abbrev ExL (I:Imm)(v:Value)(l:List Ex):Prop:=RL ExV 11 I [] v l
theorem ExL.mono {I I':Imm}{v:Value}{l:List Ex}(h:ExL I v l)(hI:Ext I I'):ExL I' v l:=RL.mono (fun _ _ h=>ExV.mono hI h) h hI (fun _ h=>h)
theorem ExL.k {I:Imm}{v:Value}{l:List Ex}{k:Int}(h:ExL I v l):ExL I v (exK k l).args:=h
abbrev StL (I:Imm)(v:Value)(l:List Bs):Prop:=RL StrV 1 I [] v l
theorem StL.mono {I I':Imm}{v:Value}{l:List Bs}(h:StL I v l)(hI:Ext I I'):StL I' v l:=RL.mono (fun _ _ h=>StrV.mono h hI) h hI (fun _ h=>h)
theorem LstX.mono {I I':Imm}{x:List Ex}{c:List Value}(h:Ky ExV 11 I x c)(hI:Ext I I'):Ky ExV 11 I' x c:=by
 obtain ⟨v,rfl,h⟩:=h;exact ⟨v,rfl,ExL.mono h hI⟩
def TItemV (I:Imm)(x:TItem)(c:List Value):Prop:=∃v0,c=[.bool x.fStar,.string ⟨x.fTable.toArray⟩,.int .i64 x.fExpr.kind,.int .i64 x.fExpr.value.fType,.bool x.fExpr.value.fNull,.int .i64 x.fExpr.value.fInt,.string ⟨x.fExpr.value.fText.toArray⟩,.string ⟨x.fExpr.table.toArray⟩,.string ⟨x.fExpr.name.toArray⟩,.int .i64 x.fExpr.slot,.int .i64 x.fExpr.type,.bool x.fExpr.distinct,v0,.string ⟨x.fAs.toArray⟩]∧ExL I v0 x.fExpr.args
theorem TItemV.mono {I I':Imm}{x:TItem}{c:List Value}(h:TItemV I x c)(hI:Ext I I'):TItemV I' x c:=by
 obtain ⟨v0,rfl,h0⟩:=h;exact ⟨v0,rfl,ExL.mono h0 hI⟩
theorem TItemV.len {I:Imm}{x:TItem}{c:List Value}(h:TItemV I x c):c.length=14:=by
 obtain ⟨v0,rfl,h0⟩:=h;rfl
theorem TItemV.one {I:Imm}{x:TItem}{c:List Value}(h:TItemV I x c):∀u∈c,u.oneCell'=true:=by
 obtain ⟨v0,rfl,h0⟩:=h;obtain ⟨_,_,rfl⟩:=RL.form h0;exact AL rfl
def TSourceV (I:Imm)(x:TSource)(c:List Value):Prop:=∃v0,c=[.string ⟨x.fTable.toArray⟩,.string ⟨x.fAs.toArray⟩,.bool x.fLeft,.int .i64 x.fOn.kind,.int .i64 x.fOn.value.fType,.bool x.fOn.value.fNull,.int .i64 x.fOn.value.fInt,.string ⟨x.fOn.value.fText.toArray⟩,.string ⟨x.fOn.table.toArray⟩,.string ⟨x.fOn.name.toArray⟩,.int .i64 x.fOn.slot,.int .i64 x.fOn.type,.bool x.fOn.distinct,v0]∧ExL I v0 x.fOn.args
theorem TSourceV.mono {I I':Imm}{x:TSource}{c:List Value}(h:TSourceV I x c)(hI:Ext I I'):TSourceV I' x c:=by
 obtain ⟨v0,rfl,h0⟩:=h;exact ⟨v0,rfl,ExL.mono h0 hI⟩
theorem TSourceV.len {I:Imm}{x:TSource}{c:List Value}(h:TSourceV I x c):c.length=14:=by
 obtain ⟨v0,rfl,h0⟩:=h;rfl
def TOrderV (I:Imm)(x:TOrder)(c:List Value):Prop:=∃v0,c=[.int .i64 x.fExpr.kind,.int .i64 x.fExpr.value.fType,.bool x.fExpr.value.fNull,.int .i64 x.fExpr.value.fInt,.string ⟨x.fExpr.value.fText.toArray⟩,.string ⟨x.fExpr.table.toArray⟩,.string ⟨x.fExpr.name.toArray⟩,.int .i64 x.fExpr.slot,.int .i64 x.fExpr.type,.bool x.fExpr.distinct,v0,.bool x.fDesc]∧ExL I v0 x.fExpr.args
theorem TOrderV.mono {I I':Imm}{x:TOrder}{c:List Value}(h:TOrderV I x c)(hI:Ext I I'):TOrderV I' x c:=by
 obtain ⟨v0,rfl,h0⟩:=h;exact ⟨v0,rfl,ExL.mono h0 hI⟩
theorem TOrderV.len {I:Imm}{x:TOrder}{c:List Value}(h:TOrderV I x c):c.length=12:=by
 obtain ⟨v0,rfl,h0⟩:=h;rfl
theorem TOrderV.one {I:Imm}{x:TOrder}{c:List Value}(h:TOrderV I x c):∀u∈c,u.oneCell'=true:=by
 obtain ⟨v0,rfl,h0⟩:=h;obtain ⟨_,_,rfl⟩:=RL.form h0;exact AL rfl
def CP (I:Imm)(x:TSelect)(c:List Value):Prop:=∃v0 v1 v2 v3 v4 v5,c=[.bool x.fDistinct,v0,v1,.int .i64 x.fWhere.kind,.int .i64 x.fWhere.value.fType,.bool x.fWhere.value.fNull,.int .i64 x.fWhere.value.fInt,.string ⟨x.fWhere.value.fText.toArray⟩,.string ⟨x.fWhere.table.toArray⟩,.string ⟨x.fWhere.name.toArray⟩,.int .i64 x.fWhere.slot,.int .i64 x.fWhere.type,.bool x.fWhere.distinct,v2,v3,.int .i64 x.fHaving.kind,.int .i64 x.fHaving.value.fType,.bool x.fHaving.value.fNull,.int .i64 x.fHaving.value.fInt,.string ⟨x.fHaving.value.fText.toArray⟩,.string ⟨x.fHaving.table.toArray⟩,.string ⟨x.fHaving.name.toArray⟩,.int .i64 x.fHaving.slot,.int .i64 x.fHaving.type,.bool x.fHaving.distinct,v4,v5,.int .i64 x.fLimit,.int .i64 x.fOffset]∧RL TItemV 14 I [] v0 x.fItems∧RL TSourceV 14 I [] v1 x.fFrom∧ExL I v2 x.fWhere.args∧RL ExV 11 I [] v3 x.fGroup∧ExL I v4 x.fHaving.args∧RL TOrderV 12 I [] v5 x.fOrder
def TSetV (I:Imm)(x:TSet)(c:List Value):Prop:=∃v0,c=[.string ⟨x.fColumn.toArray⟩,.int .i64 x.fExpr.kind,.int .i64 x.fExpr.value.fType,.bool x.fExpr.value.fNull,.int .i64 x.fExpr.value.fInt,.string ⟨x.fExpr.value.fText.toArray⟩,.string ⟨x.fExpr.table.toArray⟩,.string ⟨x.fExpr.name.toArray⟩,.int .i64 x.fExpr.slot,.int .i64 x.fExpr.type,.bool x.fExpr.distinct,v0]∧ExL I v0 x.fExpr.args
theorem TSetV.mono {I I':Imm}{x:TSet}{c:List Value}(h:TSetV I x c)(hI:Ext I I'):TSetV I' x c:=by
 obtain ⟨v0,rfl,h0⟩:=h;exact ⟨v0,rfl,ExL.mono h0 hI⟩
theorem TSetV.len {I:Imm}{x:TSet}{c:List Value}(h:TSetV I x c):c.length=12:=by
 obtain ⟨v0,rfl,h0⟩:=h;rfl
theorem TSetV.one {I:Imm}{x:TSet}{c:List Value}(h:TSetV I x c):∀u∈c,u.oneCell'=true:=by
 obtain ⟨v0,rfl,h0⟩:=h;obtain ⟨_,_,rfl⟩:=RL.form h0;exact AL rfl
def TColV (I:Imm)(x:TCol)(c:List Value):Prop:=∃v0,c=[.string ⟨x.fName.toArray⟩,.int .i64 x.fType,.bool x.fNotNull,.bool x.fKey,.bool x.fUnique,.int .i64 x.fDefault.kind,.int .i64 x.fDefault.value.fType,.bool x.fDefault.value.fNull,.int .i64 x.fDefault.value.fInt,.string ⟨x.fDefault.value.fText.toArray⟩,.string ⟨x.fDefault.table.toArray⟩,.string ⟨x.fDefault.name.toArray⟩,.int .i64 x.fDefault.slot,.int .i64 x.fDefault.type,.bool x.fDefault.distinct,v0]∧ExL I v0 x.fDefault.args
theorem TColV.mono {I I':Imm}{x:TCol}{c:List Value}(h:TColV I x c)(hI:Ext I I'):TColV I' x c:=by
 obtain ⟨v0,rfl,h0⟩:=h;exact ⟨v0,rfl,ExL.mono h0 hI⟩
theorem TColV.len {I:Imm}{x:TCol}{c:List Value}(h:TColV I x c):c.length=16:=by
 obtain ⟨v0,rfl,h0⟩:=h;rfl
theorem TColV.one {I:Imm}{x:TCol}{c:List Value}(h:TColV I x c):∀u∈c,u.oneCell'=true:=by
 obtain ⟨v0,rfl,h0⟩:=h;obtain ⟨_,_,rfl⟩:=RL.form h0;exact AL rfl
def TStmtV (I:Imm)(x:TStmt)(c:List Value):Prop:=∃v0 v1 v2 v3 v4 v5 v6 v7 v8 v9 v10 v11 v12,c=[.int .i64 x.fKind,.bool x.fSelect.fDistinct,v0,v1,.int .i64 x.fSelect.fWhere.kind,.int .i64 x.fSelect.fWhere.value.fType,.bool x.fSelect.fWhere.value.fNull,.int .i64 x.fSelect.fWhere.value.fInt,.string ⟨x.fSelect.fWhere.value.fText.toArray⟩,.string ⟨x.fSelect.fWhere.table.toArray⟩,.string ⟨x.fSelect.fWhere.name.toArray⟩,.int .i64 x.fSelect.fWhere.slot,.int .i64 x.fSelect.fWhere.type,.bool x.fSelect.fWhere.distinct,v2,v3,.int .i64 x.fSelect.fHaving.kind,.int .i64 x.fSelect.fHaving.value.fType,.bool x.fSelect.fHaving.value.fNull,.int .i64 x.fSelect.fHaving.value.fInt,.string ⟨x.fSelect.fHaving.value.fText.toArray⟩,.string ⟨x.fSelect.fHaving.table.toArray⟩,.string ⟨x.fSelect.fHaving.name.toArray⟩,.int .i64 x.fSelect.fHaving.slot,.int .i64 x.fSelect.fHaving.type,.bool x.fSelect.fHaving.distinct,v4,v5,.int .i64 x.fSelect.fLimit,.int .i64 x.fSelect.fOffset,.string ⟨x.fTable.toArray⟩,v6,v7,v8,.int .i64 x.fWhere.kind,.int .i64 x.fWhere.value.fType,.bool x.fWhere.value.fNull,.int .i64 x.fWhere.value.fInt,.string ⟨x.fWhere.value.fText.toArray⟩,.string ⟨x.fWhere.table.toArray⟩,.string ⟨x.fWhere.name.toArray⟩,.int .i64 x.fWhere.slot,.int .i64 x.fWhere.type,.bool x.fWhere.distinct,v9,v10,v11,.string ⟨x.fIndex.fName.toArray⟩,.string ⟨x.fIndex.fTable.toArray⟩,v12,.bool x.fIndex.fUnique]∧RL TItemV 14 I [] v0 x.fSelect.fItems∧RL TSourceV 14 I [] v1 x.fSelect.fFrom∧ExL I v2 x.fSelect.fWhere.args∧RL ExV 11 I [] v3 x.fSelect.fGroup∧ExL I v4 x.fSelect.fHaving.args∧RL TOrderV 12 I [] v5 x.fSelect.fOrder∧RL StrV 1 I [] v6 x.fColumns∧RL (Ky ExV 11) 1 I [] v7 x.fRows∧RL TSetV 12 I [] v8 x.fSets∧ExL I v9 x.fWhere.args∧RL TColV 16 I [] v10 x.fCols∧RL StrV 1 I [] v11 x.fKey∧RL StrV 1 I [] v12 x.fIndex.fColumns
theorem TStmtV.mono {I I':Imm}{x:TStmt}{c:List Value}(h:TStmtV I x c)(hI:Ext I I'):TStmtV I' x c:=by
 obtain ⟨v0,v1,v2,v3,v4,v5,v6,v7,v8,v9,v10,v11,v12,rfl,h0,h1,h2,h3,h4,h5,h6,h7,h8,h9,h10,h11,h12⟩:=h;exact ⟨v0,v1,v2,v3,v4,v5,v6,v7,v8,v9,v10,v11,v12,rfl,RL.mono (fun _ _ h=>TItemV.mono h hI) h0 hI (fun _ h=>by cases h),RL.mono (fun _ _ h=>TSourceV.mono h hI) h1 hI (fun _ h=>by cases h),ExL.mono h2 hI,RL.mono (fun _ _ h=>ExV.mono hI h) h3 hI (fun _ h=>by cases h),ExL.mono h4 hI,RL.mono (fun _ _ h=>TOrderV.mono h hI) h5 hI (fun _ h=>by cases h),RL.mono (fun _ _ h=>StrV.mono h hI) h6 hI (fun _ h=>by cases h),RL.mono (fun _ _ h=>LstX.mono h hI) h7 hI (fun _ h=>by cases h),RL.mono (fun _ _ h=>TSetV.mono h hI) h8 hI (fun _ h=>by cases h),ExL.mono h9 hI,RL.mono (fun _ _ h=>TColV.mono h hI) h10 hI (fun _ h=>by cases h),RL.mono (fun _ _ h=>StrV.mono h hI) h11 hI (fun _ h=>by cases h),RL.mono (fun _ _ h=>StrV.mono h hI) h12 hI (fun _ h=>by cases h)⟩
theorem TStmtV.len {I:Imm}{x:TStmt}{c:List Value}(h:TStmtV I x c):c.length=51:=by
 obtain ⟨v0,v1,v2,v3,v4,v5,v6,v7,v8,v9,v10,v11,v12,rfl,h0,h1,h2,h3,h4,h5,h6,h7,h8,h9,h10,h11,h12⟩:=h;rfl
theorem TStmtV.one {I:Imm}{x:TStmt}{c:List Value}(h:TStmtV I x c):∀u∈c,u.oneCell'=true:=by
 obtain ⟨v0,v1,v2,v3,v4,v5,v6,v7,v8,v9,v10,v11,v12,rfl,h0,h1,h2,h3,h4,h5,h6,h7,h8,h9,h10,h11,h12⟩:=h;obtain ⟨_,_,rfl⟩:=RL.form h0;obtain ⟨_,_,rfl⟩:=RL.form h1;obtain ⟨_,_,rfl⟩:=RL.form h2;obtain ⟨_,_,rfl⟩:=RL.form h3;obtain ⟨_,_,rfl⟩:=RL.form h4;obtain ⟨_,_,rfl⟩:=RL.form h5;obtain ⟨_,_,rfl⟩:=RL.form h6;obtain ⟨_,_,rfl⟩:=RL.form h7;obtain ⟨_,_,rfl⟩:=RL.form h8;obtain ⟨_,_,rfl⟩:=RL.form h9;obtain ⟨_,_,rfl⟩:=RL.form h10;obtain ⟨_,_,rfl⟩:=RL.form h11;obtain ⟨_,_,rfl⟩:=RL.form h12;exact AL rfl
end Go.Proofs.YthkaekjoemhjaaaGreatDoor
namespace Go.SL
def Va:Nat→List Value→List (Nat×Value)
 |_,[]=>[]
 |i,v::r=>(i,v)::Va (i+1) r
theorem ZF:∀(vs:List Value) (cs:Array Value) (off k:Nat),off+k+vs.length≤cs.size→(vs.zipIdx k).foldl (fun cs (c,j)=>cs.setIfInBounds (off+j) c) cs=wr cs (off+k) vs
 |[],cs,off,k,_=>rfl
 |v::vs,cs,off,k,h=>by
  simp only [List.zipIdx_cons,List.foldl_cons,wr];simp only [List.length_cons] at h;exact ZF vs (cs.setIfInBounds (off+k) v) off (k+1) (by simp;omega)
theorem Uk {n:Nat}:∀(vs:List Value) (k:Nat) (cells:Array Value),(∀v∈vs,v.cells.size=n)→(k+vs.length) * n≤cells.size→
  ∃r,Instr.fill (fun i=>some (i * n,n)) cells (Va k vs)=some r∧r.toList=cells.toList.take (k * n)++vs.flatMap (·.cells.toList)++cells.toList.drop ((k+vs.length) * n)
 |[],k,cells,_,h=>⟨cells,rfl,by simp⟩
 |v::vs,k,cells,hv,h=>by
  have hv0:=hv v (List.mem_cons_self ..);simp only [List.length_cons] at h;have e1:(k+1) * n=k * n+n:=by rw [Nat.add_mul,Nat.one_mul]
  have e2:(k+(vs.length+1)) * n=(k+1+vs.length) * n:=by congr 1;omega
  have e3:(k+1) * n≤(k+1+vs.length) * n:=Nat.mul_le_mul_right n (by omega);have hsz:k * n+v.cells.size≤cells.size:=by omega
  simp only [Va,Instr.fill];rw [if_neg (by simp [hv0];omega)];have hf:v.cells.zipIdx.foldl (fun cs (c,j)=>cs.setIfInBounds (k * n+j) c) cells=wr cells (k * n) v.cells.toList:=by
   rw [←Array.foldl_toList];simp only [Array.toList_zipIdx];exact ZF v.cells.toList cells (k * n) 0 (by simp;omega)
  rw [hf];obtain ⟨r,h1,h2⟩:=Uk vs (k+1) (wr cells (k * n) v.cells.toList) (fun u hu=>hv u (List.mem_cons_of_mem _ hu)) (by rw [NH];omega);refine ⟨r,h1,?_⟩;rw [h2,Np _ _ _ (by simp;omega)];have hlt:(cells.toList.take (k * n)).length=k * n:=by rw [List.length_take,Array.length_toList];omega
  have hvl:v.cells.toList.length=n:=by rw [Array.length_toList,hv0]
  have e4:k * n+n≤(k+1+vs.length) * n:=by omega
  have e5:(k+(vs.length+1)) * n=(k+1+vs.length) * n:=e2;rw [hvl];simp only [List.toList_toArray,List.flatMap_cons,List.length_cons,e5,e1];have a1:(cells.toList.take (k * n)++v.cells.toList++cells.toList.drop (k * n+n)).take (k * n+n)=cells.toList.take (k * n)++v.cells.toList:=by
   rw [List.take_append_of_le_length (by rw [List.length_append,hlt,hvl];exact Nat.le_refl _),List.take_of_length_le (by rw [List.length_append,hlt,hvl];exact Nat.le_refl _)]
  have a2:(cells.toList.take (k * n)++v.cells.toList++cells.toList.drop (k * n+n)).drop ((k+1+vs.length) * n)=cells.toList.drop ((k+1+vs.length) * n):=by
   rw [List.drop_append,List.drop_eq_nil_of_le (by rw [List.length_append,hlt,hvl];exact e4),List.nil_append,List.drop_drop,List.length_append,hlt,hvl];congr 1
   omega
  rw [a1,a2];simp only [List.append_assoc]
section
variable {I:Imm}{F:LH}{T n len:Nat}{z:Array Value}{parts:List (Nat×Value)}{K:Value→M}
theorem APx (vs:List Value)(hp:parts=Va 0 vs)(hl:vs.length=len)(hv:∀v∈vs,v.cells.size=n)
  (hk:∀X a,SlO T n X (.slice a len len) (vs.flatMap (·.cells.toList)) len→Gh (K (.slice a len len)) I (X++F)):AU T n z len parts (gh K) I F:=by
 subst hp hl;obtain ⟨r,h1,h2⟩:=Uk vs 0 ((Array.range (vs.length * n)).map (z[· % z.size]!)) hv (by simp);have h2:r=(vs.flatMap (·.cells.toList)).toArray:=by
  apply Array.ext'
  rw [h2];simp only [Nat.zero_mul,List.take_zero,List.nil_append,Nat.zero_add];rw [List.drop_eq_nil_of_le (by simp),List.append_nil]
 subst h2;have hlen:(vs.flatMap (·.cells.toList)).length=vs.length * n:=by
  clear h1 h2 hk;induction vs with
  |nil=>simp
  |cons v vs ih=>
   have h0:=ih (fun u hu=>hv u (List.mem_cons_of_mem _ hu));rw [List.flatMap_cons,List.length_append,Array.length_toList,hv v (List.mem_cons_self ..),h0,List.length_cons,Nat.add_mul,Nat.one_mul,Nat.add_comm]
 refine ⟨_,h1,fun b=>?_⟩;exact hk [(b,_)] _ ⟨hlen,.inr ⟨b,vs.length,_,rfl,rfl,by simp [hlen],Nat.le_refl _,fun j u hu=>by simpa using hu⟩⟩
theorem KZ (vs:List Value)(hp:parts=Va 0 vs)(hl:vs.length=len)(hv:∀v∈vs,v.cells.size=n)
  (hk:∀I' a,Ext I I'→SlI I' n (.slice a len len) (vs.flatMap (·.cells.toList)) len→Gh (K (.slice a len len)) I' F):AU T n z len parts (gh K) I F:=
 APx vs hp hl hv fun X a h=>SlO.freeze h fun I' hI hS=>hk I' a hI hS
end
def Yz (α:Type):Setoid (List α):=⟨List.Perm,List.Perm.refl,List.Perm.symm,List.Perm.trans⟩
def MS (α:Type):Type:=Quotient (Yz α)
def ms {α:Type}(l:List α):MS α:=Quotient.mk (Yz α) l
def ALZ {α:Type}(a b:MS α):MS α:=Quotient.liftOn₂ a b (fun x y=>ms (x++y)) (fun _ _ _ _ h1 h2=>Quotient.sound (s:=Yz α) (List.Perm.append h1 h2))
instance {α:Type}:Std.Associative (ALZ (α:=α)):=⟨fun a b c=>by
 refine Quotient.inductionOn₃ a b c fun x y z=>?_;show ms (x++y++z)=ms (x++(y++z));rw [List.append_assoc]⟩
instance {α:Type}:Std.Commutative (ALZ (α:=α)):=⟨fun a b=>by
 refine Quotient.inductionOn₂ a b fun x y=>?_;exact Quotient.sound (s:=Yz α) List.perm_append_comm⟩
abbrev Key:=List UInt8
def Gp (k:Key):Value:=.string ⟨k.toArray⟩
def IM (e:MapEntry):Key:=match e.key with
 | .string s=>s.data.toList
 |_=>[]
def fnd (k:Key):List MapEntry→Nat→Option (Nat×Value)
 |[],_=>none
 |e::r,i=>if IM e=k then some (i,e.val) else fnd k r (i+1)
def IP (m:Key→Option Value)(k:Key)(v:Option Value):Key→Option Value:=fun q=>if q=k then v else m q
structure MapS (es:Array MapEntry)(clock:Nat)(m:Key→Option Value):Prop where
 str:∀e∈es.toList,∃s:ByteArray,e.key= .string s
 nod:(es.toList.map IM).Nodup
 brn:∀e∈es.toList,e.born < clock
 bnd:(es.toList.map (·.born)).Nodup
 val:∀k,m k=(fnd k es.toList 0).map (·.2)
theorem ABQ {a b:ByteArray}:(a==b)=decide (a.data.toList=b.data.toList):=by
 cases a with
 |mk a=>cases b with
  |mk b=>
   show (a==b)=_;rw [Bool.eq_iff_iff];simp only [beq_iff_eq,decide_eq_true_eq];exact ⟨fun h=>by rw [h],fun h=>by cases a;cases b;simpa using h⟩
theorem MP {k:Key}:∀{l:List MapEntry} {i:Nat},(∀e∈l,∃s:ByteArray,e.key= .string s)→Instr.findNow .string (Gp k) l i=some (fnd k l i)
 |[],_,_=>rfl
 |e::l,i,h=>by
  obtain ⟨s,hs⟩:=h e (List.mem_cons_self ..);have ih:=MP (k:=k) (l:=l) (i:=i+1) (fun x hx=>h x (List.mem_cons_of_mem _ hx));simp only [Instr.findNow,fnd,IM,hs,Gp,Instr.sameNow];rw [ABQ];by_cases hk:s.data.toList=k
  ·have:decide ((⟨k.toArray⟩:ByteArray).data.toList=s.data.toList)=true:=by simp [hk]
   rw [this,if_pos hk]
  ·have:decide ((⟨k.toArray⟩:ByteArray).data.toList=s.data.toList)=false:=by simp;exact fun h=>hk h.symm
   rw [this,if_neg hk];exact ih
theorem MapS.find {es:Array MapEntry}{clock:Nat}{m:Key→Option Value}(h:MapS es clock m)(k:Key):Instr.findNow .string (Gp k) es.toList 0=some (fnd k es.toList 0):=MP h.str
theorem MapS.empty:MapS #[] 0 (fun _=>none):=⟨fun e h=>by simp at h,by simp,fun e h=>by simp at h,by simp,fun k=>rfl⟩
theorem fnd_none {k:Key}:∀{l:List MapEntry} {i:Nat},fnd k l i=none↔k ∉ l.map IM
 |[],_=>by simp [fnd]
 |e::l,i=>by
  simp only [fnd,List.map_cons,List.mem_cons,not_or];by_cases h:IM e=k
  ·simp [h]
  ·rw [if_neg h,fnd_none (l:=l)];exact ⟨fun h'=>⟨fun e'=>h e'.symm,h'⟩,fun h'=>h'.2⟩
theorem Ue {k:Key}:∀{l:List MapEntry} {i j:Nat} {v:Value},fnd k l i=some (j,v)→∃n e,j=i+n∧l[n]? =some e∧IM e=k∧e.val=v
 |[],_,_,_,h=>by simp [fnd] at h
 |e::l,i,j,v,h=>by
  simp only [fnd] at h;split at h
  ·rename_i hk
   simp only [Option.some.injEq,Prod.mk.injEq] at h;exact ⟨0,e,by omega,rfl,hk,h.2⟩
  ·obtain ⟨n,e',h1,h2,h3,h4⟩:=Ue h;exact ⟨n+1,e',by omega,by simpa using h2,h3,h4⟩
theorem JH {k:Key}:∀{l:List MapEntry} {i j:Nat},(fnd k l i).map (·.2)=(fnd k l j).map (·.2)
 |[],_,_=>rfl
 |e::l,i,j=>by
  simp only [fnd];split
  ·rfl
  ·exact JH
theorem Oz {k:Key}:∀{l l':List MapEntry} {i:Nat},(fnd k (l++l') i).map (·.2)=match (fnd k l i).map (·.2) with
  |some v=>some v
  |none=>(fnd k l' 0).map (·.2)
 |[],l',i=>by simp only [List.nil_append,fnd,Option.map_none];exact JH
 |e::l,l',i=>by
  simp only [List.cons_append,fnd];split
  ·rfl
  ·exact Oz
theorem ZG {k q:Key}{v:Value}:∀{l:List MapEntry} {n:Nat} {e:MapEntry},l[n]? =some e→IM e=k→(l.map IM).Nodup→
  (fnd q (l.set n {e with key:=Gp k,val:=v}) 0).map (·.2)=if q=k then some v else (fnd q l 0).map (·.2)
 |[],n,e,h,_,_=>by simp at h
 |x::l,0,e,h,hk,hn=>by
  simp only [List.getElem?_cons_zero,Option.some.injEq] at h;subst h;have hko:IM {x with key:=Gp k,val:=v}=k:=by simp [IM,Gp]
  simp only [List.set_cons_zero,fnd,hko,hk];by_cases h:k=q
  ·simp [h]
  ·rw [if_neg h,if_neg (fun e=>h e.symm),if_neg h]
 |x::l,n+1,e,h,hk,hn=>by
  simp only [List.getElem?_cons_succ] at h;simp only [List.map_cons,List.nodup_cons] at hn;simp only [List.set_cons_succ,fnd];have hmem:k∈l.map IM:=List.mem_map.2 ⟨e,List.mem_of_getElem? h,hk⟩;by_cases hx:IM x=q
  ·rw [if_pos hx,if_pos hx,if_neg];intro e';rw [hx,e'] at hn;exact hn.1 hmem
  ·rw [if_neg hx,if_neg hx];have ih:=ZG (q:=q) (v:=v) h hk hn.2;rw [JH (j:=0),ih,JH (i:=0+1) (j:=0)]
theorem Tv {k:Key}{v:Value}:∀{l:List MapEntry} {n:Nat} {e:MapEntry},l[n]? =some e→IM e=k→(l.set n {e with key:=Gp k,val:=v}).map IM=l.map IM
 |[],n,e,h,_=>by simp at h
 |x::l,0,e,h,hk=>by
  simp only [List.getElem?_cons_zero,Option.some.injEq] at h;subst h;simp [IM,Gp] at hk ⊢;exact hk.symm
 |x::l,n+1,e,h,hk=>by
  simp only [List.getElem?_cons_succ] at h;simp only [List.set_cons_succ,List.map_cons,Tv h hk]
theorem QO {k:Key}{v:Value}:∀{l:List MapEntry} {n:Nat} {e:MapEntry},l[n]? =some e→(l.set n {e with key:=Gp k,val:=v}).map (·.born)=l.map (·.born)
 |[],n,e,h=>by simp at h
 |x::l,0,e,h=>by
  simp only [List.getElem?_cons_zero,Option.some.injEq] at h;subst h;simp
 |x::l,n+1,e,h=>by
  simp only [List.getElem?_cons_succ] at h;simp only [List.set_cons_succ,List.map_cons,QO (k:=k) h]
def AKW (k:Key)(v:Value)(es:Array MapEntry)(clock:Nat):Obj:=match fnd k es.toList 0 with
 |some (i,_)=>.map (es.modify i fun e=>{e with key:=Gp k,val:=v}) clock
 |none=>.map (es.push {key:=Gp k,val:=v,born:=clock}) (clock+1)
theorem Oo {α:Type}{a:Array α}{i:Nat}{f:α→α}{x:α}(h:a.toList[i]? =some x):(a.modify i f).toList=a.toList.set i (f x):=by
 have hlt:i < a.size:=by
  have:=(List.getElem?_eq_some_iff.1 h).1;simpa using this
 apply List.ext_getElem?
 intro j;simp only [Array.getElem?_toList,Array.getElem?_modify];rw [List.getElem?_set];by_cases e:i=j
 ·subst e;simp only [Array.getElem?_toList] at h;rw [h];simp [hlt]
 ·simp [e]
theorem MapS.put {es:Array MapEntry}{clock:Nat}{m:Key→Option Value}(h:MapS es clock m)(k:Key)(v:Value):∃es' clock',AKW k v es clock= .map es' clock'∧MapS es' clock' (IP m k (some v)):=by
 unfold AKW;cases hf:fnd k es.toList 0 with
 |none=>
  refine ⟨_,_,rfl,?_⟩;have hn:=fnd_none.1 hf;have hl:(es.push {key:=Gp k,val:=v,born:=clock}).toList=es.toList++[{key:=Gp k,val:=v,born:=clock}]:=by simp
  have hko:IM {key:=Gp k,val:=v,born:=clock}=k:=by simp [IM,Gp]
  refine ⟨fun e he=>?_,?_,fun e he=>?_,?_,fun q=>?_⟩
  ·rw [hl] at he;rcases List.mem_append.1 he with he|he
   ·exact h.str e he
   ·simp only [List.mem_singleton] at he;subst he;exact ⟨_,rfl⟩
  ·rw [hl,List.map_append,List.nodup_append];refine ⟨h.nod,by simp,fun a ha b hb=>?_⟩;simp only [List.map_cons,List.map_nil,List.mem_singleton,hko] at hb;subst hb;exact fun e=>hn (e ▸ ha)
  ·rw [hl] at he;rcases List.mem_append.1 he with he|he
   ·have:=h.brn e he;omega
   ·simp only [List.mem_singleton] at he;subst he;simp
  ·rw [hl,List.map_append,List.nodup_append];refine ⟨h.bnd,by simp,fun a ha b hb=>?_⟩;simp only [List.map_cons,List.map_nil,List.mem_singleton] at hb;subst hb;obtain ⟨e,he,rfl⟩:=List.mem_map.1 ha;have:=h.brn e he;omega
  ·rw [hl,Oz,←h.val q];unfold IP;by_cases e:q=k
   ·subst e;rw [if_pos rfl,h.val q,hf];simp [fnd,hko]
   ·rw [if_neg e];have hf0:fnd q [{key:=Gp k,val:=v,born:=clock}] 0=none:=by
     simp only [fnd,hko];rw [if_neg (fun e'=>e (Eq.symm e'))]
    rw [hf0];cases m q <;> rfl
 |some p=>
  obtain ⟨i,u⟩:=p;obtain ⟨n,e,h1,h2,h3,h4⟩:=Ue hf;obtain rfl:i=n:=by omega
  refine ⟨_,_,rfl,?_⟩;have hl:=Oo (f:=fun e=>{e with key:=Gp k,val:=v}) h2;refine ⟨fun x hx=>?_,?_,fun x hx=>?_,?_,fun q=>?_⟩
  ·rw [hl] at hx;rcases List.mem_or_eq_of_mem_set hx with hx|rfl
   ·exact h.str x hx
   ·exact ⟨_,rfl⟩
  ·rw [hl,Tv h2 h3];exact h.nod
  ·rw [hl] at hx;rcases List.mem_or_eq_of_mem_set hx with hx|rfl
   ·exact h.brn x hx
   ·exact h.brn e (List.mem_of_getElem? h2)
  ·rw [hl,QO (k:=k) h2];exact h.bnd
  ·rw [hl,ZG h2 h3 h.nod,←h.val q];rfl
section rules
variable {I:Imm}{L:LH}{K:Value→M}{b:Nat}{es:Array MapEntry}{clock:Nat}{m:Key→Option Value}{k:Key}{v:Value}{S:M}
def lkV (zero:Value)(ok:Bool):Option Value→Value
 |some u=>if ok then .tuple #[u,.bool true] else u
 |none=>if ok then .tuple #[zero,.bool false] else zero
theorem AQP {zero:Value}{ok:Bool}(h:MapS es clock m):(match fnd k es.toList 0 with
  |some (_,u)=>if ok then .tuple #[u,.bool true] else u
  |none=>if ok then .tuple #[zero,.bool false] else zero)=lkV zero ok (m k):=by
 rw [h.val k];cases fnd k es.toList 0 <;> rfl
theorem ALa {zero:Value}{ok:Bool}(ha:MapAt I L b es clock)(h:MapS es clock m):lkR .string zero ok (.map (some b)) (Gp k) I L (lkV zero ok (m k)):=
 ⟨es,_,.inr ⟨b,clock,rfl,ha⟩,h.find k,(AQP h).symm⟩
theorem lkm {zero:Value}{ok:Bool}[hin:InL b L (.map es clock)](h:MapS es clock m)(hk:K (lkV zero ok (m k)) I L):Rv none (lkR .string zero ok (.map (some b)) (Gp k)) K I L:=
 ⟨_,ALa (.inl hin.mem) h,hk⟩
theorem NF {L':LH}{es':Array MapEntry}{clock':Nat}(h:MapS es clock m)(he:AKW k v es clock= .map es' clock')[u:UpL b L (.map es clock) (.map es' clock') L'](hk:K undef I L'):
  Fq .string (.map (some b)) (Gp k) v K I L:=by
 obtain ⟨L1,L2,rfl,rfl⟩:=u.up;refine ⟨b,es,clock,L1,L2,_,rfl,rfl,h.find k,?_⟩;unfold AKW at he;cases hf:fnd k es.toList 0 with
 |none=>rw [hf] at he;simp only at he ⊢;rw [he];exact hk
 |some p=>obtain ⟨i,w⟩:=p;rw [hf] at he;simp only at he ⊢;rw [he];exact hk
theorem AHG (hk:∀b,K (.map (some b)) I ((b,.map #[] 0)::L)):TJ K I L:=hk
end rules
theorem CalV.mono {P:Program}{ω:Om}{x:Value}{args:Array Value}{K K':Value→M}{I:Imm}{L:LH}(h:CalV P ω x args K I L)(hk:∀v I' L',K v I' L'→K' v I' L'):CalV P ω x args K' I L:=by
 match x,h with
 | .func (.func f) first cap,h=>
  simp only [CalV] at h ⊢;by_cases he:CJ P f=true
  ·rw [if_pos he] at h ⊢;exact Cal.mono h hk
  ·rw [if_neg he] at h ⊢;cases hx:PI P f with
   |none=>rw [hx] at h;exact h.elim
   |some e=>
    rw [hx] at h;intro w hs;obtain ⟨v,w',I',L',h1,h2,h3⟩:=h w hs;exact ⟨v,w',I',L',h1,h2,hk _ _ _ h3⟩
 | .func (.yield l) first cap,h=>
  intro w hs;obtain ⟨f,tmps,assign,body,h1,h2⟩:=h w hs;exact ⟨f,tmps,assign,body,h1,RoundIn.mono h2 fun e w' ⟨v,I',L',e1,e2,e3⟩=>⟨v,I',L',e1,e2,hk _ _ _ e3⟩⟩
section iter
variable {I:Imm}{L0:LH}{K:Value→M}{b r clock:Nat}{es:Array MapEntry}{m:Key→Option Value}{vis:List MapEntry}
end iter
abbrev FI:=Int
def EN (k:FI):Value:=.int .i64 k
def Ef (e:MapEntry):FI:=match e.key with
 | .int _ n=>n
 |_=>0
def EG (k:FI):List MapEntry→Nat→Option (Nat×Value)
 |[],_=>none
 |e::r,i=>if Ef e=k then some (i,e.val) else EG k r (i+1)
def QF (m:FI→Option Value)(k:FI)(v:Option Value):FI→Option Value:=fun q=>if q=k then v else m q
structure MapSi (es:Array MapEntry)(clock:Nat)(m:FI→Option Value):Prop where
 str:∀e∈es.toList,∃s:Int,e.key= .int .i64 s
 nod:(es.toList.map Ef).Nodup
 brn:∀e∈es.toList,e.born < clock
 bnd:(es.toList.map (·.born)).Nodup
 val:∀k,m k=(EG k es.toList 0).map (·.2)
theorem KO {k:FI}:∀{l:List MapEntry} {i:Nat},(∀e∈l,∃s:Int,e.key= .int .i64 s)→Instr.findNow (.int .i64) (EN k) l i=some (EG k l i)
 |[],_,_=>rfl
 |e::l,i,h=>by
  obtain ⟨s,hs⟩:=h e (List.mem_cons_self ..);have ih:=KO (k:=k) (l:=l) (i:=i+1) (fun x hx=>h x (List.mem_cons_of_mem _ hx));simp only [Instr.findNow,EG,Ef,hs,EN,Instr.sameNow,if_true];by_cases hk:s=k
  ·have:(k==s)=true:=by simp [hk]
   rw [this,if_pos hk]
  ·have:(k==s)=false:=by simp;exact fun h=>hk h.symm
   rw [this,if_neg hk];exact ih
theorem MapSi.find {es:Array MapEntry}{clock:Nat}{m:FI→Option Value}(h:MapSi es clock m)(k:FI):Instr.findNow (.int .i64) (EN k) es.toList 0=some (EG k es.toList 0):=KO h.str
theorem MapSi.empty:MapSi #[] 0 (fun _=>none):=⟨fun e h=>by simp at h,by simp,fun e h=>by simp at h,by simp,fun k=>rfl⟩
theorem fnd_nonei {k:FI}:∀{l:List MapEntry} {i:Nat},EG k l i=none↔k ∉ l.map Ef
 |[],_=>by simp [EG]
 |e::l,i=>by
  simp only [EG,List.map_cons,List.mem_cons,not_or];by_cases h:Ef e=k
  ·simp [h]
  ·rw [if_neg h,fnd_nonei (l:=l)];exact ⟨fun h'=>⟨fun e'=>h e'.symm,h'⟩,fun h'=>h'.2⟩
theorem Ql {k:FI}:∀{l:List MapEntry} {i j:Nat} {v:Value},EG k l i=some (j,v)→∃n e,j=i+n∧l[n]? =some e∧Ef e=k∧e.val=v
 |[],_,_,_,h=>by simp [EG] at h
 |e::l,i,j,v,h=>by
  simp only [EG] at h;split at h
  ·rename_i hk
   simp only [Option.some.injEq,Prod.mk.injEq] at h;exact ⟨0,e,by omega,rfl,hk,h.2⟩
  ·obtain ⟨n,e',h1,h2,h3,h4⟩:=Ql h;exact ⟨n+1,e',by omega,by simpa using h2,h3,h4⟩
theorem Hz {k:FI}:∀{l:List MapEntry} {i j:Nat},(EG k l i).map (·.2)=(EG k l j).map (·.2)
 |[],_,_=>rfl
 |e::l,i,j=>by
  simp only [EG];split
  ·rfl
  ·exact Hz
theorem MO {k:FI}:∀{l l':List MapEntry} {i:Nat},(EG k (l++l') i).map (·.2)=match (EG k l i).map (·.2) with
  |some v=>some v
  |none=>(EG k l' 0).map (·.2)
 |[],l',i=>by simp only [List.nil_append,EG,Option.map_none];exact Hz
 |e::l,l',i=>by
  simp only [List.cons_append,EG];split
  ·rfl
  ·exact MO
theorem Uf {k q:FI}{v:Value}:∀{l:List MapEntry} {n:Nat} {e:MapEntry},l[n]? =some e→Ef e=k→(l.map Ef).Nodup→
  (EG q (l.set n {e with key:=EN k,val:=v}) 0).map (·.2)=if q=k then some v else (EG q l 0).map (·.2)
 |[],n,e,h,_,_=>by simp at h
 |x::l,0,e,h,hk,hn=>by
  simp only [List.getElem?_cons_zero,Option.some.injEq] at h;subst h;have hko:Ef {x with key:=EN k,val:=v}=k:=by simp [Ef,EN]
  simp only [List.set_cons_zero,EG,hko,hk];by_cases h:k=q
  ·simp [h]
  ·rw [if_neg h,if_neg (fun e=>h e.symm),if_neg h]
 |x::l,n+1,e,h,hk,hn=>by
  simp only [List.getElem?_cons_succ] at h;simp only [List.map_cons,List.nodup_cons] at hn;simp only [List.set_cons_succ,EG];have hmem:k∈l.map Ef:=List.mem_map.2 ⟨e,List.mem_of_getElem? h,hk⟩;by_cases hx:Ef x=q
  ·rw [if_pos hx,if_pos hx,if_neg];intro e';rw [hx,e'] at hn;exact hn.1 hmem
  ·rw [if_neg hx,if_neg hx];have ih:=Uf (q:=q) (v:=v) h hk hn.2;rw [Hz (j:=0),ih,Hz (i:=0+1) (j:=0)]
theorem QN {k:FI}{v:Value}:∀{l:List MapEntry} {n:Nat} {e:MapEntry},l[n]? =some e→Ef e=k→(l.set n {e with key:=EN k,val:=v}).map Ef=l.map Ef
 |[],n,e,h,_=>by simp at h
 |x::l,0,e,h,hk=>by
  simp only [List.getElem?_cons_zero,Option.some.injEq] at h;subst h;simp [Ef,EN] at hk ⊢;exact hk.symm
 |x::l,n+1,e,h,hk=>by
  simp only [List.getElem?_cons_succ] at h;simp only [List.set_cons_succ,List.map_cons,QN h hk]
theorem OW {k:FI}{v:Value}:∀{l:List MapEntry} {n:Nat} {e:MapEntry},l[n]? =some e→(l.set n {e with key:=EN k,val:=v}).map (·.born)=l.map (·.born)
 |[],n,e,h=>by simp at h
 |x::l,0,e,h=>by
  simp only [List.getElem?_cons_zero,Option.some.injEq] at h;subst h;simp
 |x::l,n+1,e,h=>by
  simp only [List.getElem?_cons_succ] at h;simp only [List.set_cons_succ,List.map_cons,OW (k:=k) h]
def Yq (k:FI)(v:Value)(es:Array MapEntry)(clock:Nat):Obj:=match EG k es.toList 0 with
 |some (i,_)=>.map (es.modify i fun e=>{e with key:=EN k,val:=v}) clock
 |none=>.map (es.push {key:=EN k,val:=v,born:=clock}) (clock+1)
theorem MapSi.put {es:Array MapEntry}{clock:Nat}{m:FI→Option Value}(h:MapSi es clock m)(k:FI)(v:Value):∃es' clock',Yq k v es clock= .map es' clock'∧MapSi es' clock' (QF m k (some v)):=by
 unfold Yq;cases hf:EG k es.toList 0 with
 |none=>
  refine ⟨_,_,rfl,?_⟩;have hn:=fnd_nonei.1 hf;have hl:(es.push {key:=EN k,val:=v,born:=clock}).toList=es.toList++[{key:=EN k,val:=v,born:=clock}]:=by simp
  have hko:Ef {key:=EN k,val:=v,born:=clock}=k:=by simp [Ef,EN]
  refine ⟨fun e he=>?_,?_,fun e he=>?_,?_,fun q=>?_⟩
  ·rw [hl] at he;rcases List.mem_append.1 he with he|he
   ·exact h.str e he
   ·simp only [List.mem_singleton] at he;subst he;exact ⟨_,rfl⟩
  ·rw [hl,List.map_append,List.nodup_append];refine ⟨h.nod,by simp,fun a ha b hb=>?_⟩;simp only [List.map_cons,List.map_nil,List.mem_singleton,hko] at hb;subst hb;exact fun e=>hn (e ▸ ha)
  ·rw [hl] at he;rcases List.mem_append.1 he with he|he
   ·have:=h.brn e he;omega
   ·simp only [List.mem_singleton] at he;subst he;simp
  ·rw [hl,List.map_append,List.nodup_append];refine ⟨h.bnd,by simp,fun a ha b hb=>?_⟩;simp only [List.map_cons,List.map_nil,List.mem_singleton] at hb;subst hb;obtain ⟨e,he,rfl⟩:=List.mem_map.1 ha;have:=h.brn e he;omega
  ·rw [hl,MO,←h.val q];unfold QF;by_cases e:q=k
   ·subst e;rw [if_pos rfl,h.val q,hf];simp [EG,hko]
   ·rw [if_neg e];have hf0:EG q [{key:=EN k,val:=v,born:=clock}] 0=none:=by
     simp only [EG,hko];rw [if_neg (fun e'=>e (Eq.symm e'))]
    rw [hf0];cases m q <;> rfl
 |some p=>
  obtain ⟨i,u⟩:=p;obtain ⟨n,e,h1,h2,h3,h4⟩:=Ql hf;obtain rfl:i=n:=by omega
  refine ⟨_,_,rfl,?_⟩;have hl:=Oo (f:=fun e=>{e with key:=EN k,val:=v}) h2;refine ⟨fun x hx=>?_,?_,fun x hx=>?_,?_,fun q=>?_⟩
  ·rw [hl] at hx;rcases List.mem_or_eq_of_mem_set hx with hx|rfl
   ·exact h.str x hx
   ·exact ⟨_,rfl⟩
  ·rw [hl,QN h2 h3];exact h.nod
  ·rw [hl] at hx;rcases List.mem_or_eq_of_mem_set hx with hx|rfl
   ·exact h.brn x hx
   ·exact h.brn e (List.mem_of_getElem? h2)
  ·rw [hl,OW (k:=k) h2];exact h.bnd
  ·rw [hl,Uf h2 h3 h.nod,←h.val q];rfl
section rules
variable {I:Imm}{L:LH}{K:Value→M}{b:Nat}{es:Array MapEntry}{clock:Nat}{m:FI→Option Value}{k:FI}{v:Value}{S:M}
theorem ANV {zero:Value}{ok:Bool}(h:MapSi es clock m):(match EG k es.toList 0 with
  |some (_,u)=>if ok then .tuple #[u,.bool true] else u
  |none=>if ok then .tuple #[zero,.bool false] else zero)=lkV zero ok (m k):=by
 rw [h.val k];cases EG k es.toList 0 <;> rfl
theorem ANW {zero:Value}{ok:Bool}(ha:MapAt I L b es clock)(h:MapSi es clock m):lkR (.int .i64) zero ok (.map (some b)) (EN k) I L (lkV zero ok (m k)):=
 ⟨es,_,.inr ⟨b,clock,rfl,ha⟩,h.find k,(ANV h).symm⟩
theorem ARa {zero:Value}{ok:Bool}[hin:InL b L (.map es clock)](h:MapSi es clock m)(hk:K (lkV zero ok (m k)) I L):Rv none (lkR (.int .i64) zero ok (.map (some b)) (EN k)) K I L:=
 ⟨_,ANW (.inl hin.mem) h,hk⟩
theorem AGq {L':LH}{es':Array MapEntry}{clock':Nat}(h:MapSi es clock m)(he:Yq k v es clock= .map es' clock')[u:UpL b L (.map es clock) (.map es' clock') L'](hk:K undef I L'):
  Fq (.int .i64) (.map (some b)) (EN k) v K I L:=by
 obtain ⟨L1,L2,rfl,rfl⟩:=u.up;refine ⟨b,es,clock,L1,L2,_,rfl,rfl,h.find k,?_⟩;unfold Yq at he;cases hf:EG k es.toList 0 with
 |none=>rw [hf] at he;simp only at he ⊢;rw [he];exact hk
 |some p=>obtain ⟨i,w⟩:=p;rw [hf] at he;simp only at he ⊢;rw [he];exact hk
end rules
section iter
variable {I:Imm}{L0:LH}{K:Value→M}{b r clock:Nat}{es:Array MapEntry}{m:FI→Option Value}{vis:List MapEntry}
end iter
end Go.SL
namespace Go.Proofs.YthkaekjoemhjaaaGreatDoor
open Go.SL
class Foc (b:Nat) (L:LH) (o:outParam Obj) (C:outParam (Obj→LH)):Prop where
 foc:∃L1 L2,L=L1++(b,o)::L2∧C=fun o'=>L1++(b,o')::L2
instance focRight (b:Nat)(A L:LH)(o:Obj)(C:Obj→LH)[h:Foc b L o C]:Foc b (A++L) o (fun o'=>A++C o'):=by
 obtain ⟨L1,L2,rfl,rfl⟩:=h.foc;exact ⟨A++L1,L2,by simp,by simp⟩
instance focThere (b:Nat)(x:Nat×Obj)(L:LH)(o:Obj)(C:Obj→LH)[h:Foc b L o C]:Foc b (x::L) o (fun o'=>x::C o'):=by
 obtain ⟨L1,L2,rfl,rfl⟩:=h.foc;exact ⟨x::L1,L2,rfl,rfl⟩
instance focHere (b:Nat)(L:LH)(o:Obj):Foc b ((b,o)::L) o (fun o'=>(b,o')::L):=⟨[],L,rfl,rfl⟩
instance (priority:=95) lsubCC (L L':LH)(y:Nat×Obj)[h:LSub L L']:LSub (y::L) (y::L'):=⟨fun x hx=>by
 rcases List.mem_cons.1 hx with rfl|hx
 ·exact List.mem_cons_self ..
 ·exact List.mem_cons_of_mem _ (h.sub x hx)⟩
instance (priority:=95) lsubAA (A L L':LH)[h:LSub L L']:LSub (A++L) (A++L'):=⟨fun x hx=>by
 rcases List.mem_append.1 hx with hx|hx
 ·exact List.mem_append_left _ hx
 ·exact List.mem_append_right _ (h.sub x hx)⟩
instance delApp (b:Nat)(A L X:LH)[h:DelB b L X]:DelB b (A++L) (A++X):=⟨fun x hx=>by
 rcases List.mem_append.1 hx with hx|hx
 ·exact List.mem_append_left _ hx
 ·exact List.mem_append_right _ (h.sub x hx)⟩
theorem Be {I:Imm}{L X:LH}{B:M→M}{b:Nat}[h:DelB b L X](hB:B (Stay I X) I L):CY B I L:=draw _ ⟨Ext.refl I,h.sub⟩ hB
section
variable {α:Type}{R:Imm→α→List Value→Prop}{I:Imm}{L:LH}{K:Value→M}
theorem QW {R:α→List Value→Prop}{n:Nat}:∀{xs:List α} {cs:List (List Value)},(∀c∈cs,c.length=n)→xs.length=cs.length→(∀p∈xs.zip cs,R p.1 p.2)→Recs R n xs cs.flatten
 |[],[],_,_,_=>rfl
 |x::xs,c::cs,h1,h2,h3=>by
  have hc:=h1 c (List.mem_cons_self ..);rw [List.flatten_cons];exact Recs.append (Recs.one hc (h3 (x,c) (List.mem_cons_self ..))) (QW (fun d hd=>h1 d (List.mem_cons_of_mem _ hd)) (by simpa using h2) (fun p hp=>h3 p (List.mem_cons_of_mem _ hp)))
theorem Ea {T n len:Nat}{z:Array Value}{parts:List (Nat×Value)}(xs:List α)(cs:List (List Value))(hp:parts=Va 0 (cs.map fun c=>.agg c.toArray))(hl:cs.length=len)(hx:xs.length=cs.length)(hn:∀c∈cs,c.length=n)
  (hR:∀p∈xs.zip cs,R I p.1 p.2) (hm:∀{I I':Imm} {x:α} {c:List Value},Ext I I'→R I x c→R I' x c)
  (hk:∀I' a,Ext I I'→RL R n I' [] (.slice a len len) xs→Gh (K (.slice a len len)) I' L):AU T n z len parts (gh K) I L:=by
 refine KZ (cs.map fun c=>.agg c.toArray) hp (by simp [hl]) (by simp only [List.mem_map];rintro v ⟨c,hc,rfl⟩;simpa [Value.cells] using hn c hc) (fun I' a hI hS=>hk I' a hI ?_);subst hl;rw [←hx] at hS ⊢;refine RL.ofI hS ?_;have:(cs.map fun c=>Value.agg c.toArray).flatMap (·.cells.toList)=cs.flatten:=by
  clear hS hp hn hR hx hk;induction cs with
  |nil=>rfl
  |cons c cs ih=>
   rw [List.map_cons,List.flatMap_cons,List.flatten_cons,ih];rfl
 rw [this];exact QW hn hx fun p hp=>hm hI (hR p hp)
theorem DR {T len:Nat}{z:Array Value}{parts:List (Nat×Value)}(xs:List Bs)(hp:parts=Va 0 (xs.map fun c=>.string ⟨c.toArray⟩))(hl:xs.length=len)
  (hk:∀I' a,Ext I I'→StL I' (.slice a len len) xs→Gh (K (.slice a len len)) I' L):AU T 1 z len parts (gh K) I L:=by
 refine KZ (n:=1) (xs.map fun c=>.string ⟨c.toArray⟩) hp (by simp [hl]) (by simp only [List.mem_map];rintro v ⟨c,hc,rfl⟩;rfl) (fun I' a hI hS=>hk I' a hI ?_);subst hl;refine RL.ofI hS ?_;clear hS hp hk;induction xs with
 |nil=>rfl
 |cons c cs ih=>exact ⟨rfl,rfl,ih⟩
end
def TokV (_:Imm)(t:Tok)(c:List Value):Prop:=c=[.int .i64 t.kind,.int .i64 t.at',.string ⟨t.text.toArray⟩,.int .i64 t.num]
theorem TokV.mono {I I':Imm}{t:Tok}{c:List Value}(h:TokV I t c):TokV I' t c:=h
abbrev TL (I:Imm)(v:Value)(l:List Tok):Prop:=RL TokV 4 I [] v l
theorem TL.mono {I I':Imm}{v:Value}{l:List Tok}(h:TL I v l)(hI:Ext I I'):TL I' v l:=RL.mono (fun _ _ h=>TokV.mono h) h hI (fun _ h=>h)
def ZO (t:Tok):Prop:=t.kind≠6∧(t.kind=2→t.text∈wordsL)∧(t.kind=5→t.text∈signsL)∧(t.kind=3→0≤t.num∧t.num≤9223372036854775807)
def Toks:List Tok→Prop
 |[]=>False
 |[t]=>t.kind=6
 |t::u::l=>ZO t∧Toks (u::l)
theorem Toks.ne {l:List Tok}(h:Toks l):∃t r,l=t::r:=by
 match l,h with
 |t::r,_=>exact ⟨t,r,rfl⟩
theorem Toks.tail {l:List Tok}(h:Toks l)(hk:(hd l).kind≠6):Toks l.tail:=by
 match l,h with
 |[t],h=>exact absurd h hk
 |t::u::r,h=>exact h.2
theorem AHT {l:List Tok}{s:Bs}(h:isT l s=true):(hd l).kind≠6:=by
 simp only [isT,Bool.and_eq_true,Bool.or_eq_true,beq_iff_eq] at h;rcases h.1 with h|h <;> omega
theorem Toks.tailT {l:List Tok}{s:Bs}(h:Toks l)(hs:isT l s=true):Toks l.tail:=h.tail (AHT hs)
theorem AHU {l:List Tok}{k:Int}(h:isK l k=true):(hd l).kind=k:=by simpa [isK] using h
theorem Toks.tailK {l:List Tok}{k:Int}(h:Toks l)(hs:isK l k=true)(hk:k≠6:=by decide):Toks l.tail:=h.tail (by rw [AHU hs];exact hk)
theorem Toks.len {l:List Tok}(h:Toks l):l.tail.length+1=l.length:=by
 obtain ⟨t,r,rfl⟩:=h.ne;rfl
abbrev PBo (v:Value):Obj:=.cells [v].toArray 245 (0,0)
def Eh (e:Nat):Value:=.iface 241 (.agg #[.int .i64 e])
abbrev Ai (b:Nat):Value:=.pointer (some ⟨b,0,none⟩)
abbrev POk {α:Type}(g:Res α)(V:Imm→α→Value→Prop)(n:Nat)(K:Value→M)(C:Obj→LH)(I:Imm):Prop:=
 ∀x r,g= .ok x r→Toks r→r.length≤n→∀I' v' c,Ext I I'→TL I' v' r→V I' x c→K c I' (C (PBo v'))
abbrev PEr {α:Type}(g:Res α)(Pn:Value→M)(C:Obj→LH)(I:Imm):Prop:=∀e,g= .err e→∀I' v',Ext I I'→Pn (Eh e) I' (C (PBo v'))
section
variable {ω:Om}{I:Imm}{L:LH}{K Pn:Value→M}{C:Obj→LH}{b:Nat}{v:Value}{l:List Tok}
theorem TL.hd (h:TL I v l)(hT:Toks l):∃bt off,ixV 4 v (.int .i64 0)=some (.pointer (some ⟨bt,off,none⟩))∧∀I' L',Ext I I'→Cells I' L' bt off [.int .i64 (hd l).kind,.int .i64 (hd l).at',.string ⟨(hd l).text.toArray⟩,.int .i64 (hd l).num]:=by
 obtain ⟨t,r,rfl⟩:=hT.ne;obtain ⟨bt,off,c,h1,_,h2,h3⟩:=RL.ix h (i:=0) (by omega) (by simp);refine ⟨bt,off,h1,fun I' L' hI=>?_⟩;have:Ou (t::r) 0=t:=rfl;rw [this] at h2;rw [show c=_ from h2] at h3;exact h3 I' L' hI (fun _ h=>by cases h)
theorem TL.tl (h:TL I v l)(hT:Toks l):∃v',CV 4 v (some (.int .i64 1)) none none=some v'∧v'.oneCell'=true∧TL I v' l.tail:=by
 obtain ⟨t,r,rfl⟩:=hT.ne;obtain ⟨v',h1,h2⟩:=RL.part h (lo:=1) (hi:=(t::r).length) (by simp) (Nat.le_refl _) (some (.int .i64 1)) none (by simp [Ci];omega) (fun cap hc=>by simp [Ci]);refine ⟨v',h1,?_,by simpa using h2⟩;obtain ⟨a,c,rfl⟩:=h2.form;rfl
theorem Hu (s:Bs)[hF:Foc b L (PBo v) C](h:TL I v l)(hT:Toks l)(ht:isT l s=true→K (.bool true) I L)(hf:isT l s=false→K (.bool false) I L):CT ω 154 #[Ai b,.string ⟨s.toArray⟩] K I L:=by
 obtain ⟨L1,L2,rfl,rfl⟩:=hF.foc;obtain ⟨bt,off,h1,h2⟩:=h.hd hT;refine APR ?_;unfold AFD;have hk:∀{x:Bool} {L':LH},(isT l s=x)→SubP (L1++(b,PBo v)::L2) L'→Gh (K (.bool x)) I L':=by
  intro x L' hx hs;refine Gh.to (L1++(b,PBo v)::L2) (Gh.done ?_);cases x
  ·exact hf hx
  ·exact ht hx
 simp only [PBo];repeat' (first|(with_reducible first|refine Aw ?_|refine Ag ?_|refine Ak ?_|refine keepA ?_|refine AZ (fun _=>?_))|(refine SK (h2 _ [] (Ext.refl _)) (Ext.refl _) rfl ?_)|(with_reducible refine rdb ?_)|((with_reducible first|refine st1 ?_ ?_|refine rdB ?_ ?_);rfl)|(with_reducible refine Ah ?_)|((with_reducible refine BB ?_ ?_);rfl)|((with_reducible refine stB ?_ ?_ ?_ ?_);rfl;rfl;exact AL rfl)|((with_reducible first|refine rdP _ rfl ?_ ?_|refine BC _ rfl ?_ ?_);rfl)|((with_reducible refine stP _ rfl ?_ ?_ ?_ ?_);rfl;rfl;rfl)|(with_reducible refine And.intro ?_ ?_)|(simp only [SSg,Int.reduceBEq,Int.reduceBNe,Int.reduceLT,Int.reduceLE,beq_self_eq_true,bne_self_eq_false])|(with_reducible first|refine AP (fun _=>?_) (fun _=>?_)|refine AB (fun _=>?_) (fun _=>?_))|(simp only [SSd,Nat.reduceAdd,h1]))
 all_goals (first|exact hk (by simp_all [isT]) inferInstance|skip)
theorem Ap [hF:Foc b L (PBo v) C](h:TL I v l)(hT:Toks l)(hp:Pn (Eh (hd l).at') I L):CalP Tryz.prog ω 155 #[Ai b] K Pn I L:=by
 obtain ⟨L1,L2,rfl,rfl⟩:=hF.foc;obtain ⟨bt,off,h1,h2⟩:=h.hd hT;refine APQ ?_;unfold AFB;have hp:Gh (Pn (Eh (hd l).at')) I (L1++(b,PBo v)::L2):=Gh.done hp;simp only [PBo] at hp ⊢;repeat' (first|(with_reducible first|refine Aw ?_|refine Ag ?_|refine Ak ?_|refine keepA ?_|refine AZ (fun _=>?_))|(refine rd1 ((h2 _ [] (Ext.refl _) 1 _ rfl).mono (Ext.refl _) (fun _ h=>by cases h)) ?_)|(with_reducible refine rdb ?_)|((with_reducible first|refine st1 ?_ ?_|refine rdB ?_ ?_);rfl)|(with_reducible refine Ah ?_)|((with_reducible refine BB ?_ ?_);rfl)|((with_reducible refine stB ?_ ?_ ?_ ?_);rfl;rfl;exact AL rfl)|((with_reducible first|refine rdP _ rfl ?_ ?_|refine BC _ rfl ?_ ?_);rfl)|((with_reducible refine stP _ rfl ?_ ?_ ?_ ?_);rfl;rfl;rfl)|(with_reducible refine And.intro ?_ ?_)|(simp only [SSg,Int.reduceBEq,Int.reduceBNe,Int.reduceLT,Int.reduceLE,beq_self_eq_true,bne_self_eq_false])|(with_reducible first|refine AP (fun _=>?_) (fun _=>?_)|refine AB (fun _=>?_) (fun _=>?_))|(simp only [SSd,Nat.reduceAdd,h1]))
 exact hp
theorem Gi [hF:Foc b L (PBo v) C](h:TL I v l)(hT:Toks l)(hk:∀v',TL I v' l.tail→K (.agg #[.int .i64 (hd l).kind,.int .i64 (hd l).at',.string ⟨(hd l).text.toArray⟩,.int .i64 (hd l).num]) I (C (PBo v'))):
  CT ω 185 #[Ai b] K I L:=by
 obtain ⟨L1,L2,rfl,rfl⟩:=hF.foc;obtain ⟨bt,off,h1,h2⟩:=h.hd hT;obtain ⟨v',h3,h4,h5⟩:=h.tl hT;have hk:Gh (K (.agg #[.int .i64 (hd l).kind,.int .i64 (hd l).at',.string ⟨(hd l).text.toArray⟩,.int .i64 (hd l).num])) I (L1++(b,PBo v')::L2):=Gh.done (hk v' h5);refine APK ?_;unfold AEp;simp only [PBo] at hk ⊢;repeat' (first|(with_reducible first|refine Aw ?_|refine Ag ?_|refine Ak ?_|refine keepA ?_|refine AZ (fun _=>?_))|(refine SK (h2 _ [] (Ext.refl _)) (Ext.refl _) rfl ?_)|((with_reducible refine st1 ?_ ?_);exact h4)|(with_reducible refine rdb ?_)|((with_reducible first|refine st1 ?_ ?_|refine rdB ?_ ?_);rfl)|(with_reducible refine Ah ?_)|((with_reducible refine BB ?_ ?_);rfl)|((with_reducible refine stB ?_ ?_ ?_ ?_);rfl;rfl;exact AL rfl)|((with_reducible first|refine rdP _ rfl ?_ ?_|refine BC _ rfl ?_ ?_);rfl)|((with_reducible refine stP _ rfl ?_ ?_ ?_ ?_);rfl;rfl;rfl)|(with_reducible refine And.intro ?_ ?_)|(simp only [SSg,Int.reduceBEq,Int.reduceBNe,Int.reduceLT,Int.reduceLE,beq_self_eq_true,bne_self_eq_false])|(with_reducible first|refine AP (fun _=>?_) (fun _=>?_)|refine AB (fun _=>?_) (fun _=>?_))|(simp only [SSd,Nat.reduceAdd,h1,h3]))
 exact Gh.to _ hk
end
section
variable {ω:Om}{I:Imm}{L:LH}{K Pn:Value→M}{C:Obj→LH}{b:Nat}{v:Value}{l:List Tok}
theorem EK (s:Bs)[hF:Foc b L (PBo v) C](h:TL I v l)(hT:Toks l)(ht:isT l s=true→∀v',TL I v' l.tail→K (.bool true) I (C (PBo v')))(hf:isT l s=false→K (.bool false) I L):CT ω 152 #[Ai b,.string ⟨s.toArray⟩] K I L:=by
 refine APT ?_;unfold AFG;refine call (Hu s h hT (fun hb=>?_) (fun hb=>?_))
 ·try simp only [SSd,Nat.reduceAdd]
  exact call (Gi h hT (fun v' hv=>Gh.done (ht hb v' hv)))
 ·try simp only [SSd,Nat.reduceAdd]
  exact Gh.done (hf hb)
def Ei:List Bs→Pr Unit
 |[],l=>.ok () l
 |s::ss,l=>(AV s l).bind fun _ r=>Ei ss r
theorem QE (ws:List Bs){w:Value}(hw:StL I w ws)(hws:ws.length < 1000)[hF:Foc b L (PBo v) C](h:TL I v l)(hT:Toks l)
  (hok:∀r,Ei ws l= .ok () r→Toks r→r.length≤l.length→∀v',TL I v' r→K (.tuple #[]) I (C (PBo v'))) (herr:∀e,Ei ws l= .err e→∀v',Pn (Eh e) I (C (PBo v'))):
  CalP Tryz.prog ω 187 #[Ai b,w] K Pn I L:=by
 obtain ⟨L1,L2,rfl,rfl⟩:=hF.foc;refine API ?_;unfold AEl;simp only [RL.len hw,SSd,Nat.reduceAdd];refine loop (fun m s I' L'=>∃(k:Nat) (v':Value) (l':List Tok),k+m=ws.length∧s=(.int .i64 k,())∧I'=I∧L'=L1++(b,PBo v')::L2∧Ei ws l=Ei (ws.drop k) l'∧Toks l'∧l'.length≤l.length∧TL I v' l') ws.length ⟨0,v,l,by omega,rfl,rfl,rfl,rfl,hT,Nat.le_refl _,h⟩ ?_;rintro m s I' L' ⟨k,v',l',hkm,rfl,rfl,rfl,hg,hT',hlen,hTL⟩;unfold YM;try simp only [SSd,Nat.reduceAdd]
 refine AB (fun hlt=>?_) (fun hlt=>?_)
 ·simp at hlt;have hlt:k < ws.length:=by omega
  obtain ⟨bw,off,c,h1,_,h2,h3⟩:=RL.ix hw (i:=k) (by omega) (by omega);rw [BM hlt] at h2;obtain rfl:=h2;have hdr:ws.drop k=ws[k]::ws.drop (k+1):=List.drop_eq_getElem_cons hlt;rw [hdr] at hg;simp only [h1,SSd,Nat.reduceAdd];refine rd1 ((h3 _ [] (Ext.refl _) (fun _ h=>h) 0 _ rfl).mono (Ext.refl _) (fun _ h=>by cases h)) ?_;refine Az (EK ws[k] hTL hT' (fun hb v2 hv2=>?_) (fun hb=>?_))
  ·try simp only [SSd,Nat.reduceAdd]
   unfold Rz;simp only [SSd,Nat.reduceAdd,wrap_i64 ((k:Int)+1) (by omega)];refine Gh.done ⟨m - 1,by omega,k+1,v2,l'.tail,by omega,rfl,rfl,rfl,?_,hT'.tailT hb,?_,hv2⟩
   ·rw [hg];simp only [Ei,AV,hb,if_true,Res.bind]
   ·have:=hT'.len;omega
  ·try simp only [SSd,Nat.reduceAdd]
   refine Ac (Ap hTL hT' (Gh.done (herr _ ?_ v')));rw [hg];simp [Ei,AV,hb,Res.bind,bad]
 ·simp at hlt;have:ws.drop k=[]:=List.drop_eq_nil_of_le (by omega);rw [this] at hg;exact Gh.done (hok l' hg hT' hlen v' hTL)
abbrev ARX (t:Tok):Value:=.agg #[.int .i64 t.kind,.int .i64 t.at',.string ⟨t.text.toArray⟩,.int .i64 t.num]
theorem SY (k:Int)(hk6:k≠6)[hF:Foc b L (PBo v) C](h:TL I v l)(hT:Toks l)
  (hok:isK l k=true→∀v',TL I v' l.tail→K (ARX (hd l)) I (C (PBo v'))) (herr:isK l k=false→Pn (Eh (hd l).at') I L):
  CalP Tryz.prog ω 231 #[Ai b,.int .i64 k] K Pn I L:=by
 obtain ⟨L1,L2,rfl,rfl⟩:=hF.foc;obtain ⟨bt,off,h1,h2⟩:=h.hd hT;refine AOe ?_;unfold ADi;repeat' (first|(with_reducible first|refine Aw ?_|refine Ag ?_|refine Ak ?_|refine keepA ?_|refine AZ (fun _=>?_))|(refine rd1 ((h2 _ [] (Ext.refl _) 0 _ rfl).mono (Ext.refl _) (fun _ h=>by cases h)) ?_)|(with_reducible refine rdb ?_)|((with_reducible first|refine st1 ?_ ?_|refine rdB ?_ ?_);rfl)|(with_reducible refine Ah ?_)|((with_reducible refine BB ?_ ?_);rfl)|((with_reducible refine stB ?_ ?_ ?_ ?_);rfl;rfl;exact AL rfl)|((with_reducible first|refine rdP _ rfl ?_ ?_|refine BC _ rfl ?_ ?_);rfl)|((with_reducible refine stP _ rfl ?_ ?_ ?_ ?_);rfl;rfl;rfl)|(with_reducible refine And.intro ?_ ?_)|(simp only [SSg,Int.reduceBEq,Int.reduceBNe,Int.reduceLT,Int.reduceLE,beq_self_eq_true,bne_self_eq_false])|(with_reducible first|refine AP (fun _=>?_) (fun _=>?_)|refine AB (fun _=>?_) (fun _=>?_))|(simp only [SSd,Nat.reduceAdd,h1]))
 ·rename_i hb
  refine Ac (Ap h hT (Gh.to (L1++(b,PBo v)::L2) (Gh.done (herr ?_))));simpa [isK] using hb
 ·rename_i hb
  have hb:isK l k=true:=by simpa [isK] using hb
  unfold Rj;refine Az (Gi h hT (fun v' hv'=>?_));repeat' (first|(with_reducible first|refine Aw ?_|refine Ag ?_|refine Ak ?_|refine keepA ?_|refine AZ (fun _=>?_)|refine rdb ?_)|((with_reducible first|refine st1 ?_ ?_|refine rdB ?_ ?_);rfl)|(with_reducible refine Ah ?_)|((with_reducible refine BB ?_ ?_);rfl)|((with_reducible refine stB ?_ ?_ ?_ ?_);rfl;rfl;exact AL rfl)|((with_reducible first|refine rdP _ rfl ?_ ?_|refine BC _ rfl ?_ ?_);rfl)|((with_reducible refine stP _ rfl ?_ ?_ ?_ ?_);rfl;rfl;rfl)|(with_reducible refine And.intro ?_ ?_)|(simp only [SSg,Int.reduceBEq,Int.reduceBNe,Int.reduceLT,Int.reduceLE,beq_self_eq_true,bne_self_eq_false])|(with_reducible first|refine AP (fun _=>?_) (fun _=>?_)|refine AB (fun _=>?_) (fun _=>?_))|(simp only [SSd,Nat.reduceAdd]))
  exact Gh.to (L1++(b,PBo v')::L2) (Gh.done (hok hb v' hv'))
theorem AAd [hF:Foc b L (PBo v) C](h:TL I v l)(hT:Toks l)
  (hok:isK l 1=true→∀v',TL I v' l.tail→K (.string ⟨(hd l).text.toArray⟩) I (C (PBo v'))) (herr:isK l 1=false→Pn (Eh (hd l).at') I L):
  CalP Tryz.prog ω 188 #[Ai b] K Pn I L:=by
 refine APH ?_;unfold AEj;refine Ac (SY 1 (by decide) h hT (fun hb v' hv'=>?_) (fun hb=>Gh.done (herr hb)));try simp only [SSd,Nat.reduceAdd]
 exact Gh.done (hok hb v' hv')
end
theorem Ey {p:UInt8→Bool}(h:(List.range 256).all (fun n=>p (UInt8.ofNat n))=true)(c:UInt8):p c=true:=by
 have:=List.all_eq_true.1 h c.toNat (List.mem_range.2 c.toNat_lt);simpa using this
theorem ixS (s:Bs){a:Nat}{c:UInt8}(h:s[a]? =some c):FD (.string ⟨s.toArray⟩) (.int .i64 (a:Nat))=some (.int .u8 c.toNat):=by
 obtain ⟨hlt,rfl⟩:=List.getElem?_eq_some_iff.1 h;have:(⟨s.toArray⟩:ByteArray)[a]? =some s[a]:=by
  rw [getElem?_pos _ _ (by simpa [ByteArray.size] using hlt)];rfl
 simp [FD,this]
theorem Jp (s:Bs)(a b:Nat):(⟨s.toArray⟩:ByteArray).extract a b=⟨((s.drop a).take (b - a)).toArray⟩:=by
 apply ByteArray.ext
 simp [ByteArray.data_extract]
theorem slS (s:Bs){a b:Nat}(h1:a≤b)(h2:b≤s.length):Dn (.string ⟨s.toArray⟩) (some (.int .i64 (a:Nat))) (some (.int .i64 (b:Nat)))=some (.string ⟨((s.drop a).take (b - a)).toArray⟩):=by
 have hs:(⟨s.toArray⟩:ByteArray).size=s.length:=rfl;simp [Dn,Ci,hs,h1,h2,Jp]
theorem AMI (s:Bs){b:Nat}(h2:b≤s.length):Dn (.string ⟨s.toArray⟩) none (some (.int .i64 (b:Nat)))=some (.string ⟨(s.take b).toArray⟩):=by
 have hs:(⟨s.toArray⟩:ByteArray).size=s.length:=rfl;simp [Dn,Ci,hs,h2,Jp]
theorem AAJ (s:Bs){a:Nat}(h1:a≤s.length):Dn (.string ⟨s.toArray⟩) (some (.int .i64 (a:Nat))) none=some (.string ⟨(s.drop a).toArray⟩):=by
 have hs:(⟨s.toArray⟩:ByteArray).size=s.length:=rfl;have:List.take (s.length - a) (s.drop a)=s.drop a:=List.take_of_length_le (by simp);simp [Dn,Ci,hs,h1,Jp,this]
section
variable {ω:Om}{I:Imm}{L:LH}{K Pn:Value→M}
theorem Ij (c:UInt8)(hk:K (.bool (DL c)) I L):CT ω 214 #[.int .u8 c.toNat] K I L:=by
 refine AOv ?_;unfold AEM;have ht:=Ey (p:=fun c=>(DL c==(((c.toNat:Int)==95)||(decide (97≤Dx .or .u8 c.toNat 32)&&decide (Dx .or .u8 c.toNat 32≤122))))) (by decide+kernel) c;have ht:=eq_of_beq ht;rw [ht] at hk;repeat' (first|(with_reducible first|refine Aw ?_|refine Ag ?_|refine Ak ?_|refine keepA ?_|refine AZ (fun _=>?_)|refine rdb ?_)|((with_reducible first|refine st1 ?_ ?_|refine rdB ?_ ?_);rfl)|(with_reducible refine Ah ?_)|((with_reducible refine BB ?_ ?_);rfl)|((with_reducible refine stB ?_ ?_ ?_ ?_);rfl;rfl;exact AL rfl)|((with_reducible first|refine rdP _ rfl ?_ ?_|refine BC _ rfl ?_ ?_);rfl)|((with_reducible refine stP _ rfl ?_ ?_ ?_ ?_);rfl;rfl;rfl)|(with_reducible refine And.intro ?_ ?_)|(simp only [SSg,Int.reduceBEq,Int.reduceBNe,Int.reduceLT,Int.reduceLE,beq_self_eq_true,bne_self_eq_false])|(with_reducible first|refine AP (fun _=>?_) (fun _=>?_)|refine AB (fun _=>?_) (fun _=>?_))|(simp only [SSd,Nat.reduceAdd]))
 all_goals (refine Gh.done ?_;simp_all)
theorem Jh (c:UInt8)(hk:K (.bool (Bv c)) I L):CT ω 219 #[.int .u8 c.toNat] K I L:=by
 refine AOq ?_;unfold AED;have ht:=Ey (p:=fun c=>(Bv c==(decide ((48:Int)≤c.toNat)&&decide ((c.toNat:Int)≤57)))) (by decide+kernel) c;have ht:=eq_of_beq ht;rw [ht] at hk;repeat' (first|(with_reducible first|refine Aw ?_|refine Ag ?_|refine Ak ?_|refine keepA ?_|refine AZ (fun _=>?_)|refine rdb ?_)|((with_reducible first|refine st1 ?_ ?_|refine rdB ?_ ?_);rfl)|(with_reducible refine Ah ?_)|((with_reducible refine BB ?_ ?_);rfl)|((with_reducible refine stB ?_ ?_ ?_ ?_);rfl;rfl;exact AL rfl)|((with_reducible first|refine rdP _ rfl ?_ ?_|refine BC _ rfl ?_ ?_);rfl)|((with_reducible refine stP _ rfl ?_ ?_ ?_ ?_);rfl;rfl;rfl)|(with_reducible refine And.intro ?_ ?_)|(simp only [SSg,Int.reduceBEq,Int.reduceBNe,Int.reduceLT,Int.reduceLE,beq_self_eq_true,bne_self_eq_false])|(with_reducible first|refine AP (fun _=>?_) (fun _=>?_)|refine AB (fun _=>?_) (fun _=>?_))|(simp only [SSd,Nat.reduceAdd]))
 all_goals (refine Gh.done ?_;simp_all)
def Fp (l:Bs)(c:UInt8):Int:=match l.findIdx? (·==c) with
 |some i=>i
 |none=> -1
theorem TE (l:Bs)(i:Nat)(h:i < l.length):(⟨l.toArray⟩:ByteArray)[i]! =l[i]:=by
 rw [getElem!_pos _ _ (by simpa [ByteArray.size] using h)];rfl
theorem Ui (l:Bs)(c:UInt8):(List.range (⟨l.toArray⟩:ByteArray).size).find? (fun i=>(⟨l.toArray⟩:ByteArray)[i]! ==c)=l.findIdx? (·==c):=by
 have hs:(⟨l.toArray⟩:ByteArray).size=l.length:=rfl;cases h:l.findIdx? (·==c) with
 |none=>
  rw [List.find?_eq_none];intro i hi;rw [hs,List.mem_range] at hi;rw [TE _ _ hi];have:=List.findIdx?_eq_none_iff.1 h l[i] (List.getElem_mem hi);simpa using this
 |some i=>
  obtain ⟨hi,h1,h2⟩:=List.findIdx?_eq_some_iff_getElem.1 h;rw [List.find?_range_eq_some];refine ⟨by rw [TE _ _ hi];exact h1,by rw [hs];simpa using hi,fun j hj=>?_⟩;rw [TE _ _ (by omega)];have:=h2 j hj;simpa using this
theorem FZ (l:Bs)(c:UInt8)(hk:K (.int .i64 (Fp l c)) I L):CT ω 120 #[.string ⟨l.toArray⟩,.int .u8 c.toNat] K I L:=by
 refine APh ?_;unfold AFj;refine call ?_;refine APY ?_;unfold AFQ;refine ExtE.ret ⟨_,fun w hs=>?_,Gh.done (Gh.done (Gh.done hk))⟩;show Sem.run _ (do
  let b ←Extern.Bytes.bytesOf (.string ⟨l.toArray⟩)
  let c ←Extern.Bytes.asByte (.int .u8 c.toNat)
  match (List.range b.size).find? fun i=>b[i]! ==c with
  |some i=>pure (goInt i)
  |none=>pure (goInt (-1))) w=_
 have hc:((c.toNat:Int).toNat).toUInt8=c:=by simp
 simp only [Sem.run_bind,Extern.Bytes.bytesOf,Result.andThen_ok,Extern.Bytes.asByte,Sem.run_pure,hc,Ui];unfold Fp;cases l.findIdx? (·==c) <;> rfl
end
end Go.Proofs.YthkaekjoemhjaaaGreatDoor
