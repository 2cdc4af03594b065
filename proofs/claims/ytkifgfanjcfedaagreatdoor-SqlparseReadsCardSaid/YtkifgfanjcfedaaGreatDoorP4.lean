/- lemmas -/
import Derived.Test.YtkifgfanjcfedaaGreatDoorP3
import Derived.Test.YtkifgfanjcfedaaGreatDoorP2
set_option maxRecDepth 100000
set_option maxHeartbeats 40000000
set_option linter.unusedVariables false
set_option linter.unusedSimpArgs false
set_option linter.unusedSectionVars false
set_option linter.defProp false
namespace Go.Proofs.YtkifgfanjcfedaaGreatDoor
open Go.SL
def ALc (ω:Om)(a0 a1:Value)(a2 a3:Value)(K:Value→M):M:=Pv (AZ .eql a1 a2) λa=>Gd a false (Pv (AA .eql a3 I0) λa=>Br a (K a0) (CT ω 239 #[a0,a1]<|gh λa=>Pv (AA .eql a I0) λb=>Br b (K a0) (AAz ω a0 a1 a2 a3 Q0 a K))) (K a0)
variable {ω:Om}{K:Value→M}{I:Imm}{L:LH}{a0 a1 a2 a3 a4 a5 a6 a7 a8:Value}
def APJ:=zkc4 ALc 225 Tryz.func225
def ALb (ω:Om)(a0:Value)(K:Value→M):M:=Br a0 (K (zS [116,114,117,101])) (K (zS [102,97,108,115,101]))
def API:=zkc1 ALb 226 Tryz.func226
def sh227_3 (ω:Om)(p0 p2:Value)(p3 p5:Value)(K:Value→M):M:=CT ω 86 #[p0,(zS [110,117,108,108])]<|gh λ_=>Rn (AC 11 p3) λa=>AU 37 11 Za 1 [(0,a)]<|gh λa=>CT ω 186 #[p5,a]<|gh λa=>Sto 11 p2 a<|gh λ_=>Rn (AC 11 p2) λa=>K a
def sh227_8 (ω:Om)(p2 p3 p9:Value)(K:Value→M):M:=Br p9 (Rn (AC 11 p3) λa=>AU 37 11 Za 1 [(0,a)]<|gh λa=>CT ω 186 #[(.int .i64 5),a]<|gh λa=>Sto 11 p2 a<|gh λ_=>Rn (AC 11 p2) λa=>K a) (Rn (AC 11 p3) λa=>Sto 11 p2 a<|gh λ_=>Rn (AC 11 p2) λa=>K a)
def sh227_6 (ω:Om)(p0 p2:Value)(p3 p9:Value)(p10 p11 p12:Value)(K:Value→M):M:=Br p10 (CT ω 131 #[p0]<|gh λa=>Rn (AC 11 p3) λb=>AU 37 11 Za 1 [(0,b)]<|gh λb=>App 37 11 128 Za b a<|gh λa=>Pv (Ai Za Zg [(0,(.int .i64 24)),(7,a)]) λa=>Sto 11 p3 a<|gh λ_=>sh227_8 ω p2 p3 p9 K) (Br p11 (CT ω 241 #[p0]<|gh λa=>New (.cells Za 37 (0,0))<|gh λb=>Sto 11 b a<|gh λ_=>CT ω 86 #[p0,(zS [97,110,100])]<|gh λ_=>CT ω 241 #[p0]<|gh λa=>New (.cells Za 37 (0,0))<|gh λc=>Sto 11 c a<|gh λ_=>Rn (AC 11 p3) λa=>Rn (AC 11 b) λb=>Rn (AC 11 c) λc=>AU 37 11 Za 3 [(0,a),(1,b),(2,c)]<|gh λa=>CT ω 186 #[(.int .i64 25),a]<|gh λa=>Sto 11 p3 a<|gh λ_=>sh227_8 ω p2 p3 p9 K) (Br p12 (CT ω 241 #[p0]<|gh λa=>New (.cells Za 37 (0,0))<|gh λb=>Sto 11 b a<|gh λ_=>Rn (AC 11 p3) λa=>Rn (AC 11 b) λb=>AU 37 11 Za 2 [(0,a),(1,b)]<|gh λa=>CT ω 186 #[(.int .i64 23),a]<|gh λa=>Sto 11 p3 a<|gh λ_=>sh227_8 ω p2 p3 p9 K) (Br p9 (Pv (Ae p0) λa=>Pv (AO 2 a) λa=>Sto 1 a Bt<|gh λ_=>sh227_8 ω p2 p3 p9 K) (sh227_8 ω p2 p3 p9 K))))
def sh227_5 (ω:Om)(p0 p2:Value)(p3 p9:Value)(p10 p11 p12:Value)(K:Value→M):M:=CT ω 35 #[p0,(zS [108,105,107,101])]<|gh λa=>sh227_6 ω p0 p2 p3 p9 p10 p11 a K
def sh227_4 (ω:Om)(p0 p2:Value)(p3 p9:Value)(p10 p11 p12:Value)(K:Value→M):M:=Pv (unV .not p10) λa=>Gd a true (Pv (unV .not p11) λa=>Br a (sh227_5 ω p0 p2 p3 p9 p10 p11 p12 K) (sh227_6 ω p0 p2 p3 p9 p10 p11 p12 K)) (sh227_6 ω p0 p2 p3 p9 p10 p11 p12 K)
def KG (ω:Om)(p0 p2:Value)(p3 p5:Value)(K:Value→M):M:=Pv (AA .neq p5 I0) λa=>Br a (Pv (Ae p0) λa=>Lf 1 a λa=>Pv (AA .add a (.int .i64 1)) λa=>Pv (Ae p0) λb=>Pv (AO 1 b) λb=>Sto 1 b a<|gh λ_=>CT ω 241 #[p0]<|gh λa=>New (.cells Za 37 (0,0))<|gh λb=>Sto 11 b a<|gh λ_=>Rn (AC 11 p3) λa=>Rn (AC 11 b) λb=>AU 37 11 Za 2 [(0,a),(1,b)]<|gh λa=>CT ω 186 #[p5,a]<|gh λa=>Sto 11 p2 a<|gh λ_=>Rn (AC 11 p2) λa=>K a) (CT ω 35 #[p0,(zS [105,115])]<|gh λa=>Br a (CT ω 35 #[p0,(zS [110,111,116])]<|gh λa=>Br a (sh227_3 ω p0 p2 p3 (.int .i64 7) K) (sh227_3 ω p0 p2 p3 (.int .i64 6) K)) (CT ω 35 #[p0,(zS [110,111,116])]<|gh λa=>CT ω 35 #[p0,(zS [105,110])]<|gh λb=>Pv (unV .not b) λc=>Br c (CT ω 35 #[p0,(zS [98,101,116,119,101,101,110])]<|gh λc=>sh227_4 ω p0 p2 p3 a b c Bf K) (sh227_4 ω p0 p2 p3 a b Bf Bf K)))
def AAx (ω:Om)(p0 p2:Value)(p3 p4 p5:Value)(K:Value→M):M:=Lf 1 p4 λa=>CT ω 242 #[a]<|gh λa=>KG ω p0 p2 p3 a K
def ALa (ω:Om)(a0:Value)(K:Value→M):M:=New (.cells Za 37 (0,0))<|gh λa=>CT ω 241 #[a0]<|gh λb=>New (.cells Za 37 (0,0))<|gh λc=>Sto 11 c b<|gh λ_=>Bg λS=>Pv (Ae a0) λb=>Lg S 0 b λb=>Pv (Ae a0) λd=>Lg S 1 d λd=>Pv (ixV 4 b d) λb=>Rs S (AC 4 b) λb=>New (.cells Zi 74 (0,0))<|gh<|Cf S λd=>Sto 4 d b<|gh λ_=>Lf 0 d λb=>Pv (AA .eql b (.int .i64 5)) λb=>Gd b true (Pv (Ae a0) λb=>Lf 2 b λb=>Pv (unV .not b) λb=>Br b (AAx ω a0 a c d I0 K) (KG ω a0 a c I0 K)) (KG ω a0 a c I0 K)
def APH:=zkc1 ALa 227 Tryz.func227
def sh228_2 (ω:Om)(p0 p2:Value)(p3 p5:Value)(K:Value→M):M:=Pv (Ae p0) λa=>Lf 1 a λa=>Pv (AA .add a (.int .i64 1)) λa=>Pv (Ae p0) λb=>Pv (AO 1 b) λb=>Sto 1 b a<|gh λ_=>Rn (AC 11 p5) λa=>Sto 11 p2 a<|gh λ_=>Rn (AC 11 p2) λa=>K (Value.tuple #[a,Bt])
def sh228_3 (ω:Om)(p0 p2:Value)(p3 p5:Value)(K:Value→M):M:=Pv (Ai Zr Zk [(0,(.int .i64 2)),(2,(.int .i64 1))]) λa=>Pv (AO 1 p5) λb=>Sto 4 b a<|gh λ_=>sh228_2 ω p0 p2 p3 p5 K
def sh228_5 (ω:Om)(p0 p2:Value)(p3 p5:Value)(K:Value→M):M:=Pv (Ai Zr Zk [(0,(.int .i64 2))]) λa=>Pv (AO 1 p5) λb=>Sto 4 b a<|gh λ_=>sh228_2 ω p0 p2 p3 p5 K
def sh228_7 (ω:Om)(p0 p2:Value)(p3 p5:Value)(K:Value→M):M:=Pv (Ai Zr Zk [(0,(.int .i64 4)),(1,Bt)]) λa=>Pv (AO 1 p5) λb=>Sto 4 b a<|gh λ_=>sh228_2 ω p0 p2 p3 p5 K
def sh228_8 (ω:Om)(p2 p3:Value)(K:Value→M):M:=Pv (Ai Za Zg []) λa=>Sto 11 p2 a<|gh λ_=>Rn (AC 11 p2) λa=>K (Value.tuple #[a,Bf])
def sh228_6 (ω:Om)(p0 p2:Value)(p3 p4 p5:Value)(K:Value→M):M:=Lf 0 p4 λa=>Pv (AA .eql a (.int .i64 2)) λa=>Gd a true (Lf 1 p4 λa=>Pv (AZ .eql a (zS [110,117,108,108])) λa=>Br a (sh228_7 ω p0 p2 p3 p5 K) (sh228_8 ω p2 p3 K)) (sh228_8 ω p2 p3 K)
def sh228_4 (ω:Om)(p0 p2:Value)(p3 p4 p5:Value)(K:Value→M):M:=Lf 0 p4 λa=>Pv (AA .eql a (.int .i64 2)) λa=>Gd a true (Lf 1 p4 λa=>Pv (AZ .eql a (zS [102,97,108,115,101])) λa=>Br a (sh228_5 ω p0 p2 p3 p5 K) (sh228_6 ω p0 p2 p3 p4 p5 K)) (sh228_6 ω p0 p2 p3 p4 p5 K)
def sh228 (ω:Om)(a0:Value)(K:Value→M):M:=New (.cells Za 37 (0,0))<|gh λa=>Bg λS=>Pv (Ae a0) λb=>Lg S 0 b λb=>Pv (Ae a0) λc=>Lg S 1 c λc=>Pv (ixV 4 b c) λb=>Rs S (AC 4 b) λb=>New (.cells Zi 74 (0,0))<|gh<|Cf S λc=>Sto 4 c b<|gh λ_=>Pv (Ae a0) λb=>Lf 2 b λb=>Br b (Pv (Ai Za Zg []) λb=>Sto 11 a b<|gh λ_=>Rn (AC 11 a) λa=>K (Value.tuple #[a,Bf])) (Pv (Ai Za Zg [(0,(.int .i64 1))]) λb=>New (.cells Za 37 (0,0))<|gh λd=>Sto 11 d b<|gh λ_=>Lf 0 c λb=>Pv (AA .eql b (.int .i64 4)) λb=>Br b (Lf 1 c λb=>Pv (Ai Zr Zk [(0,(.int .i64 3)),(3,b)]) λb=>Pv (AO 1 d) λc=>Sto 4 c b<|gh λ_=>sh228_2 ω a0 a Bf d K) (Lf 0 c λb=>Pv (AA .eql b (.int .i64 2)) λb=>Gd b true (Lf 1 c λb=>Pv (AZ .eql b (zS [116,114,117,101])) λb=>Br b (sh228_3 ω a0 a Bf d K) (sh228_4 ω a0 a Bf c d K)) (sh228_4 ω a0 a Bf c d K)))
def APG:=zkc1 sh228 228 Tryz.func228
def sh229_1 (ω:Om)(p0 p2:Value)(K:Value→M):M:=Pv (Ae p0) λa=>Pv (AO 2 a) λa=>Sto 1 a Bt<|gh λ_=>Pv (Ai Za Zg []) λa=>Sto 11 p2 a<|gh λ_=>Rn (AC 11 p2) λa=>K a
def sh229 (ω:Om)(a0:Value)(K:Value→M):M:=New (.cells Za 37 (0,0))<|gh λa=>Bg λS=>Pv (Ae a0) λb=>Lg S 0 b λb=>Pv (Ae a0) λc=>Lg S 1 c λc=>Pv (ixV 4 b c) λb=>Rs S (AC 4 b) λb=>New (.cells Zi 74 (0,0))<|gh<|Cf S λc=>Sto 4 c b<|gh λ_=>Pv (Ae a0) λb=>Lf 2 b λb=>Gd b false (Lf 0 c λb=>Pv (AA .neq b (.int .i64 3)) λb=>Br b (sh229_1 ω a0 a K) (Pv (Ae a0) λb=>Lf 1 b λb=>Pv (AA .add b (.int .i64 1)) λb=>Pv (Ae a0) λd=>Pv (AO 1 d) λd=>Sto 1 d b<|gh λ_=>Lf 2 c λb=>Pv (Ai Zr Zk [(0,(.int .i64 1)),(2,b)]) λb=>Pv (Ai Za Zg [(0,(.int .i64 1)),(1,b)]) λb=>Sto 11 a b<|gh λ_=>Rn (AC 11 a) λa=>K a)) (sh229_1 ω a0 a K)
def APF:=zkc1 sh229 229 Tryz.func229
def sh232_4 (ω:Om)(p0 p2:Value)(p3 p6:Value)(K:Value→M)(Pn:Value→M):M:=AU 9 1 Zb 1 [(0,(zS [110,117,108,108]))]<|gh λa=>AV Tryz.prog ω 95 #[p0,a] Pn<|gh λ_=>Rn (AC 11 p3) λa=>AU 37 11 Za 1 [(0,a)]<|gh λa=>AV Tryz.prog ω 202 #[p6,a] Pn<|gh λa=>Sto 11 p2 a<|gh λ_=>Rn (AC 11 p2) λa=>K a
def sh232_7 (ω:Om)(p2 p3 p7:Value)(K:Value→M)(Pn:Value→M):M:=Br p7 (Rn (AC 11 p3) λa=>AU 37 11 Za 1 [(0,a)]<|gh λa=>AV Tryz.prog ω 202 #[(.int .i64 5),a] Pn<|gh λa=>Sto 11 p2 a<|gh λ_=>Rn (AC 11 p2) λa=>K a) (Rn (AC 11 p3) λa=>Sto 11 p2 a<|gh λ_=>Rn (AC 11 p2) λa=>K a)
def sh232_3 (ω:Om)(p0 p2 p3:Value)(K:Value→M)(Pn:Value→M):M:=AV Tryz.prog ω 43 #[p0,(zS [105,115])] Pn<|gh λa=>Br a (AV Tryz.prog ω 43 #[p0,(zS [110,111,116])] Pn<|gh λa=>Br a (sh232_4 ω p0 p2 p3 (.int .i64 7) K Pn) (sh232_4 ω p0 p2 p3 (.int .i64 6) K Pn)) (AV Tryz.prog ω 43 #[p0,(zS [110,111,116])] Pn<|gh λa=>AV Tryz.prog ω 43 #[p0,(zS [105,110])] Pn<|gh λb=>Br b (Bg λS=>Rs S (AC 11 p3) λb=>(λc d=>(AU 37 11 Za 1 [(0,b)]<|gh λb=>AV Tryz.prog ω 99 #[p0] Pn<|gh<|Cf S λc=>App 37 11 128 Za b c<|gh λb=>AV Tryz.prog ω 202 #[(.int .i64 24),b] Pn<|gh λb=>Sto 11 p3 b<|gh λ_=>sh232_7 ω p2 p3 a K Pn) c d∧(AV Tryz.prog ω 99 #[p0] Pn<|gh<|Cf S λc=>AU 37 11 Za 1 [(0,b)]<|gh λb=>App 37 11 128 Za b c<|gh λb=>AV Tryz.prog ω 202 #[(.int .i64 24),b] Pn<|gh λb=>Sto 11 p3 b<|gh λ_=>sh232_7 ω p2 p3 a K Pn) c d)) (AV Tryz.prog ω 43 #[p0,(zS [98,101,116,119,101,101,110])] Pn<|gh λb=>Br b (AV Tryz.prog ω 243 #[p0] Pn<|gh λb=>New (.cells Za 37 (0,0))<|gh λc=>Sto 11 c b<|gh λ_=>AU 9 1 Zb 1 [(0,(zS [97,110,100]))]<|gh λb=>AV Tryz.prog ω 95 #[p0,b] Pn<|gh λ_=>Bg λS=>Rs S (AC 11 p3) λb=>Rs S (AC 11 c) λc=>AV Tryz.prog ω 243 #[p0] Pn<|gh<|Cf S λd=>AU 37 11 Za 3 [(0,b),(1,c),(2,d)]<|gh λb=>AV Tryz.prog ω 202 #[(.int .i64 25),b] Pn<|gh λb=>Sto 11 p3 b<|gh λ_=>sh232_7 ω p2 p3 a K Pn) (AV Tryz.prog ω 43 #[p0,(zS [108,105,107,101])] Pn<|gh λb=>Br b (Bg λS=>Rs S (AC 11 p3) λb=>AV Tryz.prog ω 243 #[p0] Pn<|gh<|Cf S λc=>AU 37 11 Za 2 [(0,b),(1,c)]<|gh λb=>AV Tryz.prog ω 202 #[(.int .i64 23),b] Pn<|gh λb=>Sto 11 p3 b<|gh λ_=>sh232_7 ω p2 p3 a K Pn) (Br a (AV Tryz.prog ω 46 #[p0] Pn<|gh λ_=>sh232_7 ω p2 p3 a K Pn) (sh232_7 ω p2 p3 a K Pn)))))
def sh232_1 (ω:Om)(p0 p2:Value)(p3 p11:Value)(p12 x13:Value)(Kn0:(Value×Unit)→M)(K:Value→M)(Pn:Value→M):M:=Pv (AA .lss x13 p12) λa=>Br a (Pv (ixV 1 p11 x13) λa=>Rn (BA a) λa=>AV Tryz.prog ω 43 #[p0,a] Pn<|gh λa=>Br a (Bg λS=>Pv (AA .add (.int .i64 15) x13) λa=>Rs S (AC 11 p3) λb=>AV Tryz.prog ω 243 #[p0] Pn<|gh<|Cf S λc=>AU 37 11 Za 2 [(0,b),(1,c)]<|gh λb=>AV Tryz.prog ω 202 #[a,b] Pn<|gh λa=>Sto 11 p2 a<|gh λ_=>Rn (AC 11 p2) λa=>K a) (Pv (AA .add x13 (.int .i64 1)) λa=>Kn0 (a,()))) (sh232_3 ω p0 p2 p3 K Pn)
def sh232 (ω:Om)(a0:Value)(K:Value→M)(Pn:Value→M):M:=New (.cells Za 37 (0,0))<|gh λa=>AV Tryz.prog ω 243 #[a0] Pn<|gh λb=>New (.cells Za 37 (0,0))<|gh λc=>Sto 11 c b<|gh λ_=>AU 9 1 Zb 6 [(0,(zS [61])),(1,(zS [60,62])),(2,(zS [60])),(3,(zS [60,61])),(4,(zS [62])),(5,(zS [62,61]))]<|gh λb=>Pv (lenV b) λd=>Ac ((I0,()):Value×Unit) λs e=>sh232_1 ω a0 a c b d s.1 e K Pn
def APE:=zkp1 sh232 232 Tryz.func232
def sh233_2 (ω:Om)(p0 p2:Value)(p3 p4:Value)(K:Value→M):M:=CT ω 93 #[p0]<|gh λ_=>Rn (AC 4 p4) λa=>Pv (Ai Za Zg [(0,(.int .i64 1)),(1,a)]) λa=>Sto 11 p2 a<|gh λ_=>Rn (AC 11 p2) λa=>K (Value.tuple #[a,Bt])
def sh233 (ω:Om)(a0:Value)(K:Value→M):M:=New (.cells Za 37 (0,0))<|gh λa=>New (.cells Zr 34 (0,0))<|gh λb=>Pv (Ae a0) λc=>Lf 0 c λc=>Pv (ixV 4 c I0) λc=>Lf 0 c λc=>Pv (AA .eql c (.int .i64 4)) λc=>Br c (Pv (Ae a0) λc=>Lf 0 c λc=>Pv (ixV 4 c I0) λc=>Lf 2 c λc=>Pv (Ai Zr Zk [(0,(.int .i64 3)),(3,c)]) λc=>Sto 4 b c<|gh λ_=>sh233_2 ω a0 a Bf b K) (CT ω 45 #[a0,(zS [116,114,117,101])]<|gh λc=>Br c (Pv (Ai Zr Zk [(0,(.int .i64 2)),(2,(.int .i64 1))]) λc=>Sto 4 b c<|gh λ_=>sh233_2 ω a0 a Bf b K) (CT ω 45 #[a0,(zS [102,97,108,115,101])]<|gh λc=>Br c (Pv (Ai Zr Zk [(0,(.int .i64 2))]) λc=>Sto 4 b c<|gh λ_=>sh233_2 ω a0 a Bf b K) (CT ω 45 #[a0,(zS [110,117,108,108])]<|gh λc=>Br c (Pv (Ai Zr Zk [(0,(.int .i64 4)),(1,Bt)]) λc=>Sto 4 b c<|gh λ_=>sh233_2 ω a0 a Bf b K) (Pv (Ai Za Zg []) λb=>Sto 11 a b<|gh λ_=>Rn (AC 11 a) λa=>K (Value.tuple #[a,Bf])))))
def APD:=zkc1 sh233 233 Tryz.func233
def ALZ (ω:Om)(a0:Value)(K:Value→M)(Pn:Value→M):M:=New (.cells Za 37 (0,0))<|gh λa=>AV Tryz.prog ω 152 #[a0,(.int .i64 3)] Pn<|gh λb=>Pv (IM false 3 1 b) λb=>Pv (Ai Zr Zk [(0,(.int .i64 1)),(2,b)]) λb=>Pv (Ai Za Zg [(0,(.int .i64 1)),(1,b)]) λb=>Sto 11 a b<|gh λ_=>Rn (AC 11 a) λa=>K a
def APC:=zkp1 ALZ 234 Tryz.func234
def AJx (ω:Om)(p1 x0:Value)(x4 x5:Value)(Kn0:(Value×Value×Value×Unit)→M)(K:Value→M):M:=CT ω 240 #[x0,p1]<|gh λa=>Pv (AA .eql a (.int .i64 (-1))) λb=>Br b (K x5) (Pv (AA .add x5 (.int .i64 1)) λb=>Pv (BR p1) λc=>Pv (AA .add a c) λa=>Pv (DN x0 (some a) none) λa=>Kn0 (a,x4,b,()))
def ALY (ω:Om)(a0 a1:Value)(K:Value→M):M:=Pv (BR a1) λa=>Pv (AA .eql a I0) λa=>Br a (CT ω 249 #[a0]<|gh λa=>Pv (AA .add a (.int .i64 1)) λa=>K a) (Pv (BR a1) λa=>Pv (AA .eql a (.int .i64 1)) λa=>Br a (Pv (Cb a1 I0) λa=>ExtE Tryz.prog ω Extern.BytealgCount.count #[a0,a]<|gh λa=>K a) (Ac ((a0,I0,I0,()):Value×Value×Value×Unit) λs a=>AJx ω a1 s.1 s.2.1 s.2.2.1 a K))
def APB:=zkc2 ALY 239 Tryz.func239
def ALX (ω:Om)(a0 a1:Value)(K:Value→M):M:=CT ω 251 #[a0,a1]<|gh λa=>K a
def APA:=zkc2 ALX 240 Tryz.func240
def MK (ω:Om)(p2 p3:Value)(K:Value→M):M:=Rn (AC 11 p3) λa=>Sto 11 p2 a<|gh λ_=>Rn (AC 11 p2) λa=>K a
def AAv (ω:Om)(p0 p2 p3:Value)(Kn0:(Unit)→M)(K:Value→M):M:=Bg λS=>Pv (Ae p0) λa=>Lg S 2 a λa=>Pv (unV .not a) λa=>Gd a true (Pv (Ae p0) λa=>Lg S 0 a λa=>Pv (Ae p0) λb=>Lg S 1 b λb=>Pv (ixV 4 a b) λa=>Lg S 0 a λa=>Pv (AA .eql a (.int .i64 5)) λa=>Br a (Bg λS=>Pv (Ae p0) λa=>Lg S 0 a λa=>Pv (Ae p0) λb=>Lg S 1 b λb=>Pv (ixV 4 a b) λa=>Lg S 1 a λa=>CT ω 253 #[a,Bf]<|gh λa=>Pv (AA .eql a I0) λb=>Br b (MK ω p2 p3 K) (Pv (Ae p0) λb=>Lf 1 b λb=>Pv (AA .add b (.int .i64 1)) λb=>Pv (Ae p0) λc=>Pv (AO 1 c) λc=>Sto 1 c b<|gh λ_=>CT ω 252 #[p0]<|gh λb=>New (.cells Za 37 (0,0))<|gh λc=>Sto 11 c b<|gh λ_=>Rn (AC 11 p3) λb=>Rn (AC 11 c) λc=>AU 37 11 Za 2 [(0,b),(1,c)]<|gh λb=>CT ω 186 #[a,b]<|gh λa=>Sto 11 p3 a<|gh λ_=>Kn0 (()))) (MK ω p2 p3 K)) (MK ω p2 p3 K)
def ALW (ω:Om)(a0:Value)(K:Value→M):M:=New (.cells Za 37 (0,0))<|gh λa=>CT ω 252 #[a0]<|gh λb=>New (.cells Za 37 (0,0))<|gh λc=>Sto 11 c b<|gh λ_=>Ac ((()):Unit) λs b=>AAv ω a0 a c b K
def AOz:=zkc1 ALW 241 Tryz.func241
def ALV (ω:Om)(a0:Value)(K:Value→M):M:=Pv (AZ .eql a0 (zS [61])) λa=>Br a (K (.int .i64 15)) (Pv (AZ .eql a0 (zS [60,62])) λa=>Br a (K (.int .i64 16)) (Pv (AZ .eql a0 (zS [60])) λa=>Br a (K (.int .i64 17)) (Pv (AZ .eql a0 (zS [60,61])) λa=>Br a (K (.int .i64 18)) (Pv (AZ .eql a0 (zS [62])) λa=>Br a (K (.int .i64 19)) (Pv (AZ .eql a0 (zS [62,61])) λa=>Br a (K (.int .i64 20)) (K I0))))))
def AOy:=zkc1 ALV 242 Tryz.func242
def ALU (ω:Om)(a0:Value)(K:Value→M)(Pn:Value→M):M:=New (.cells Za 37 (0,0))<|gh λa=>WF<|gh λb=>ES .string b (zS [43]) (.int .i64 9)<|gh λ_=>ES .string b (zS [45]) (.int .i64 10)<|gh λ_=>ES .string b (zS [124,124]) (.int .i64 14)<|gh λ_=>AV Tryz.prog ω 254 #[a0,(Value.func (Fn.func 255) #[a0] #[]),b] Pn<|gh λb=>Sto 11 a b<|gh λ_=>Rn (AC 11 a) λa=>K a
def AOx:=zkp1 ALU 243 Tryz.func243
def AJw (ω:Om)(p0 p1 p4:Value)(K:Value→M):M:=ExtE Tryz.prog ω Extern.BytealgIndex.index #[p0,p1]<|gh λa=>K a
def AAs (ω:Om)(p0 p1:Value)(p4 p8:Value)(K:Value→M):M:=Pv (DN p0 (some p8) none) λa=>ExtE Tryz.prog ω Extern.BytealgIndex.index #[a,p1]<|gh λa=>Pv (AA .geq a I0) λb=>Br b (Pv (AA .add a p8) λa=>K a) (K (.int .i64 (-1)))
def AGJ (ω:Om)(p0 p1:Value)(p4 p8:Value)(K:Value→M):M:=Pv (DN p0 (some p8) none) λa=>CT ω 260 #[a,p1]<|gh λa=>Pv (AA .lss a I0) λb=>Br b (K (.int .i64 (-1))) (Pv (AA .add p8 a) λa=>K a)
def PI (ω:Om)(p0 p1:Value)(p4 p5:Value)(p8 p9 p10:Value)(Kn0:(Value×Value×Value×Unit)→M)(K:Value→M):M:=Rn (BA (.pointer (some ⟨2,0,none⟩))) λa=>Pv (AA .gtr p5 a) λa=>Gd a true (Pv (AA .shr p8 (.int .u64 4)) λa=>Pv (AA .add (.int .i64 4) a) λa=>Pv (AA .geq p10 a) λa=>Gd a true (Pv (AA .lss p8 p9) λa=>Br a (AGJ ω p0 p1 p4 p8 K) (Kn0 (p4,p8,p10,()))) (Kn0 (p4,p8,p10,()))) (Kn0 (p4,p8,p10,()))
def Uz (ω:Om)(p0 p1:Value)(p4 p5:Value)(p7 p8:Value)(p9 p10:Value)(Kn0:(Value×Value×Value×Unit)→M)(K:Value→M):M:=Pv (AA .add p8 (.int .i64 1)) λa=>Pv (Cb p0 a) λa=>Pv (AA .eql a p7) λa=>Gd a true (Pv (AA .add p8 p5) λa=>Pv (DN p0 (some p8) (some a)) λa=>Pv (AZ .eql a p1) λa=>Br a (K p8) (Pv (AA .add p8 (.int .i64 1)) λa=>Pv (AA .add p10 (.int .i64 1)) λb=>Rn (BA (.pointer (some ⟨2,0,none⟩))) λc=>Pv (AA .leq p5 c) λc=>Gd c true (CT ω 259 #[a]<|gh λc=>Pv (AA .gtr b c) λc=>Br c (AAs ω p0 p1 p4 a K) (PI ω p0 p1 p4 p5 a p9 b Kn0 K)) (PI ω p0 p1 p4 p5 a p9 b Kn0 K))) (Pv (AA .add p8 (.int .i64 1)) λa=>Pv (AA .add p10 (.int .i64 1)) λb=>Rn (BA (.pointer (some ⟨2,0,none⟩))) λc=>Pv (AA .leq p5 c) λc=>Gd c true (CT ω 259 #[a]<|gh λc=>Pv (AA .gtr b c) λc=>Br c (AAs ω p0 p1 p4 a K) (PI ω p0 p1 p4 p5 a p9 b Kn0 K)) (PI ω p0 p1 p4 p5 a p9 b Kn0 K))
def AAt (ω:Om)(p0 p1:Value)(p4 p5:Value)(p6 p7:Value)(p8 p9 p10:Value)(Kn0:(Value×Value×Value×Unit)→M)(K:Value→M):M:=Pv (AA .add p8 (.int .i64 1)) λa=>Pv (DN p0 (some a) (some p9)) λa=>CT ω 188 #[a,p6]<|gh λa=>Pv (AA .lss a I0) λb=>Br b (K (.int .i64 (-1))) (Pv (AA .add a (.int .i64 1)) λa=>Pv (AA .add p8 a) λa=>Uz ω p0 p1 p4 p5 p7 a p9 p10 Kn0 K)
def AJv (ω:Om)(p0 p1:Value)(p5 p6:Value)(p7 p9:Value)(x4 x8 x10:Value)(Kn0:(Value×Value×Value×Unit)→M)(K:Value→M):M:=Pv (AA .lss x8 p9) λa=>Br a (Pv (Cb p0 x8) λa=>Pv (AA .neq a p6) λa=>Br a (AAt ω p0 p1 x4 p5 p6 p7 x8 p9 x10 Kn0 K) (Uz ω p0 p1 x4 p5 p7 x8 p9 x10 Kn0 K)) (K (.int .i64 (-1)))
def AGI (ω:Om)(p0 p1:Value)(p5 p6:Value)(p7 p9:Value)(x4 x8 x10:Value)(Kn0:(Value×Value×Value×Unit)→M)(K:Value→M):M:=Pv (AA .lss x8 p9) λa=>Br a (Pv (Cb p0 x8) λa=>Pv (AA .neq a p6) λa=>Br a (AAt ω p0 p1 x4 p5 p6 p7 x8 p9 x10 Kn0 K) (Uz ω p0 p1 x4 p5 p7 x8 p9 x10 Kn0 K)) (K (.int .i64 (-1)))
def AAu (ω:Om)(p0 p1:Value)(p4 p5:Value)(K:Value→M):M:=Pv (AA .eql p5 (.int .i64 1)) λa=>Br a (Pv (Cb p1 I0) λa=>CT ω 188 #[p0,a]<|gh λa=>K a) (Pv (BR p0) λa=>Pv (AA .geq p5 a) λa=>Br a (K (.int .i64 (-1))) (Rn (BA (.pointer (some ⟨2,0,none⟩))) λa=>Pv (AA .leq p5 a) λa=>Gd a true (Pv (BR p0) λa=>Pv (AA .leq a (.int .i64 64)) λa=>Br a (AJw ω p0 p1 p4 K) (Pv (Cb p1 I0) λa=>Pv (Cb p1 (.int .i64 1)) λb=>Pv (BR p0) λc=>Pv (AA .sub c p5) λc=>Pv (AA .add c (.int .i64 1)) λc=>Ac ((p4,I0,I0,()):Value×Value×Value×Unit) λs d=>AJv ω p0 p1 p5 a b c s.1 s.2.1 s.2.2.1 d K)) (Pv (Cb p1 I0) λa=>Pv (Cb p1 (.int .i64 1)) λb=>Pv (BR p0) λc=>Pv (AA .sub c p5) λc=>Pv (AA .add c (.int .i64 1)) λc=>Ac ((p4,I0,I0,()):Value×Value×Value×Unit) λs d=>AGI ω p0 p1 p5 a b c s.1 s.2.1 s.2.2.1 d K)))
def ALT (ω:Om)(a0 a1:Value)(K:Value→M):M:=Pv (BR a1) λa=>Pv (AA .eql a I0) λb=>Gd b false (Pv (AZ .eql a1 a0) λb=>Br b (K I0) (AAu ω a0 a1 I0 a K)) (K I0)
def AOw:=zkc2 ALT 251 Tryz.func251
def MJ (ω:Om)(p2 p3:Value)(K:Value→M):M:=Rn (AC 11 p3) λa=>Sto 11 p2 a<|gh λ_=>Rn (AC 11 p2) λa=>K a
def AAr (ω:Om)(p0 p2 p3:Value)(Kn0:(Unit)→M)(K:Value→M):M:=Bg λS=>Pv (Ae p0) λa=>Lg S 2 a λa=>Pv (unV .not a) λa=>Gd a true (Pv (Ae p0) λa=>Lg S 0 a λa=>Pv (Ae p0) λb=>Lg S 1 b λb=>Pv (ixV 4 a b) λa=>Lg S 0 a λa=>Pv (AA .eql a (.int .i64 5)) λa=>Br a (Bg λS=>Pv (Ae p0) λa=>Lg S 0 a λa=>Pv (Ae p0) λb=>Lg S 1 b λb=>Pv (ixV 4 a b) λa=>Lg S 1 a λa=>CT ω 253 #[a,Bt]<|gh λa=>Pv (AA .eql a I0) λb=>Br b (MJ ω p2 p3 K) (Pv (Ae p0) λb=>Lf 1 b λb=>Pv (AA .add b (.int .i64 1)) λb=>Pv (Ae p0) λc=>Pv (AO 1 c) λc=>Sto 1 c b<|gh λ_=>CT ω 261 #[p0]<|gh λb=>New (.cells Za 37 (0,0))<|gh λc=>Sto 11 c b<|gh λ_=>Rn (AC 11 p3) λb=>Rn (AC 11 c) λc=>AU 37 11 Za 2 [(0,b),(1,c)]<|gh λb=>CT ω 186 #[a,b]<|gh λa=>Sto 11 p3 a<|gh λ_=>Kn0 (()))) (MJ ω p2 p3 K)) (MJ ω p2 p3 K)
def ALS (ω:Om)(a0:Value)(K:Value→M):M:=New (.cells Za 37 (0,0))<|gh λa=>CT ω 261 #[a0]<|gh λb=>New (.cells Za 37 (0,0))<|gh λc=>Sto 11 c b<|gh λ_=>Ac ((()):Unit) λs b=>AAr ω a0 a c b K
def AOv:=zkc1 ALS 252 Tryz.func252
def sh253_10 (ω:Om)(p0 p1 p4:Value)(K:Value→M):M:=Pv (AZ .eql p0 (zS [37])) λa=>Gd a true (Br p1 (K (.int .i64 13)) (K I0)) (K I0)
def sh253_8 (ω:Om)(p0 p1 p4:Value)(K:Value→M):M:=Pv (AZ .eql p0 (zS [47])) λa=>Gd a true (Br p1 (K (.int .i64 12)) (sh253_10 ω p0 p1 p4 K)) (sh253_10 ω p0 p1 p4 K)
def sh253_6 (ω:Om)(p0 p1 p4:Value)(K:Value→M):M:=Pv (AZ .eql p0 (zS [42])) λa=>Gd a true (Br p1 (K (.int .i64 11)) (sh253_8 ω p0 p1 p4 K)) (sh253_8 ω p0 p1 p4 K)
def sh253_4 (ω:Om)(p0 p1 p4:Value)(K:Value→M):M:=Pv (AZ .eql p0 (zS [124,124])) λa=>Gd a true (Pv (unV .not p1) λa=>Br a (K (.int .i64 14)) (sh253_6 ω p0 p1 p4 K)) (sh253_6 ω p0 p1 p4 K)
def sh253_2 (ω:Om)(p0 p1 p4:Value)(K:Value→M):M:=Pv (AZ .eql p0 (zS [45])) λa=>Gd a true (Pv (unV .not p1) λa=>Br a (K (.int .i64 10)) (sh253_4 ω p0 p1 p4 K)) (sh253_4 ω p0 p1 p4 K)
def sh253 (ω:Om)(a0 a1:Value)(K:Value→M):M:=Pv (AZ .eql a0 (zS [43])) λa=>Gd a true (Pv (unV .not a1) λa=>Br a (K (.int .i64 9)) (sh253_2 ω a0 a1 I0 K)) (sh253_2 ω a0 a1 I0 K)
def AOu:=zkc2 sh253 253 Tryz.func253
def sh254_3 (ω:Om)(p6 p7:Value)(K:Value→M)(Pn:Value→M):M:=Rn (AC 11 p7) λa=>Sto 11 p6 a<|gh λ_=>Rn (AC 11 p6) λa=>K a
def sh254_1 (ω:Om)(p0 p1:Value)(p2 p6 p7:Value)(Kn0:(Unit)→M)(K:Value→M)(Pn:Value→M):M:=Pv (Ae p0) λa=>Lf 0 a λa=>Pv (ixV 4 a I0) λa=>Lf 0 a λa=>Pv (AA .eql a (.int .i64 5)) λa=>Br a (Pv (Ae p0) λa=>Lf 0 a λa=>Pv (ixV 4 a I0) λa=>Lf 2 a λa=>Rn (lkR .string I0 true p2 a) λa=>Pv (exV a 0) λb=>Pv (exV a 1) λa=>Pv (unV .not a) λa=>Br a (sh254_3 ω p6 p7 K Pn) (AV Tryz.prog ω 93 #[p0] Pn<|gh λ_=>Bg λS=>Rs S (AC 11 p7) λa=>IQ Tryz.prog ω p1 #[] Pn<|gh<|Cf S λc=>AU 37 11 Za 2 [(0,a),(1,c)]<|gh λa=>AV Tryz.prog ω 202 #[b,a] Pn<|gh λa=>Sto 11 p7 a<|gh λ_=>Kn0 (()))) (sh254_3 ω p6 p7 K Pn)
def sh254 (ω:Om)(a0 a1 a2:Value)(K:Value→M)(Pn:Value→M):M:=New (.cells Za 37 (0,0))<|gh λa=>IQ Tryz.prog ω a1 #[] Pn<|gh λb=>New (.cells Za 37 (0,0))<|gh λc=>Sto 11 c b<|gh λ_=>Ac ((()):Unit) λs b=>sh254_1 ω a0 a1 a2 a c b K Pn
def AOt:=zkp3 sh254 254 Tryz.func254
def ALR (ω:Om)(a0:Value)(K:Value→M)(Pn:Value→M):M:=New (.cells Za 37 (0,0))<|gh λa=>WF<|gh λb=>ES .string b (zS [42]) (.int .i64 11)<|gh λ_=>ES .string b (zS [47]) (.int .i64 12)<|gh λ_=>ES .string b (zS [37]) (.int .i64 13)<|gh λ_=>AV Tryz.prog ω 254 #[a0,(Value.func (Fn.func 262) #[a0] #[]),b] Pn<|gh λb=>Sto 11 a b<|gh λ_=>Rn (AC 11 a) λa=>K a
def AOs:=zkp1 ALR 255 Tryz.func255
def sh261_1 (ω:Om)(p0 p2 p10:Value)(K:Value→M):M:=CT ω 265 #[p0,p10]<|gh λa=>Sto 11 p2 a<|gh λ_=>Rn (AC 11 p2) λa=>K a
def sh261_2 (ω:Om)(p0 p2 p10:Value)(K:Value→M):M:=CT ω 87 #[p0]<|gh λa=>Pv (Ai Za Zg [(0,(.int .i64 2)),(2,p10),(3,a)]) λa=>Sto 11 p2 a<|gh λ_=>Rn (AC 11 p2) λa=>K a
def sh261 (ω:Om)(a0:Value)(K:Value→M):M:=New (.cells Za 37 (0,0))<|gh λa=>CT ω 35 #[a0,(zS [45])]<|gh λb=>Br b (CT ω 261 #[a0]<|gh λb=>New (.cells Za 37 (0,0))<|gh λc=>Sto 11 c b<|gh λ_=>Rn (AC 11 c) λb=>AU 37 11 Za 1 [(0,b)]<|gh λb=>CT ω 186 #[(.int .i64 4),b]<|gh λb=>Sto 11 a b<|gh λ_=>Rn (AC 11 a) λa=>K a) (CT ω 35 #[a0,(zS [40])]<|gh λb=>Br b (CT ω 127 #[a0]<|gh λb=>New (.cells Za 37 (0,0))<|gh λc=>Sto 11 c b<|gh λ_=>CT ω 86 #[a0,(zS [41])]<|gh λ_=>Rn (AC 11 c) λb=>Sto 11 a b<|gh λ_=>Rn (AC 11 a) λa=>K a) (CT ω 35 #[a0,(zS [99,97,115,101])]<|gh λb=>Br b (CT ω 264 #[a0]<|gh λb=>Sto 11 a b<|gh λ_=>Rn (AC 11 a) λa=>K a) (CT ω 228 #[a0]<|gh λb=>Pv (exV b 0) λc=>Pv (exV b 1) λb=>New (.cells Za 37 (0,0))<|gh λd=>Sto 11 d c<|gh λ_=>Br b (Rn (AC 11 d) λb=>Sto 11 a b<|gh λ_=>Rn (AC 11 a) λa=>K a) (Bg λS=>Pv (Ae a0) λb=>Lg S 0 b λb=>Pv (Ae a0) λc=>Lg S 1 c λc=>Pv (ixV 4 b c) λb=>Lg S 0 b λb=>Pv (AA .eql b (.int .i64 3)) λb=>Br b (CT ω 229 #[a0]<|gh λb=>Sto 11 a b<|gh λ_=>Rn (AC 11 a) λa=>K a) (CT ω 87 #[a0]<|gh λb=>AU 9 1 Zb 7 [(0,(zS [108,101,110,103,116,104])),(1,(zS [99,111,97,108,101,115,99,101])),(2,(zS [99,111,117,110,116])),(3,(zS [115,117,109])),(4,(zS [109,105,110])),(5,(zS [109,97,120])),(6,(zS [97,118,103]))]<|gh λc=>CT ω 80 #[c,b]<|gh λc=>CT ω 37 #[a0,(zS [40])]<|gh λd=>Gd c true (Br d (sh261_1 ω a0 a b K) (CT ω 35 #[a0,(zS [46])]<|gh λc=>Br c (sh261_2 ω a0 a b K) (Pv (Ai Za Zg [(0,(.int .i64 2)),(3,b)]) λb=>Sto 11 a b<|gh λ_=>Rn (AC 11 a) λa=>K a))) (CT ω 35 #[a0,(zS [46])]<|gh λc=>Br c (sh261_2 ω a0 a b K) (Pv (Ai Za Zg [(0,(.int .i64 2)),(3,b)]) λb=>Sto 11 a b<|gh λ_=>Rn (AC 11 a) λa=>K a)))))))
def AOr:=zkc1 sh261 261 Tryz.func261
def sh262_1 (ω:Om)(p0 p2 p6:Value)(K:Value→M)(Pn:Value→M):M:=AV Tryz.prog ω 43 #[p0,(zS [46])] Pn<|gh λa=>Br a (AV Tryz.prog ω 96 #[p0] Pn<|gh λa=>Pv (Ai Za Zg [(0,(.int .i64 2)),(2,p6),(3,a)]) λa=>Sto 11 p2 a<|gh λ_=>Rn (AC 11 p2) λa=>K a) (Pv (Ai Za Zg [(0,(.int .i64 2)),(3,p6)]) λa=>Sto 11 p2 a<|gh λ_=>Rn (AC 11 p2) λa=>K a)
def sh262 (ω:Om)(a0:Value)(K:Value→M)(Pn:Value→M):M:=New (.cells Za 37 (0,0))<|gh λa=>AV Tryz.prog ω 43 #[a0,(zS [45])] Pn<|gh λb=>Br b (AV Tryz.prog ω 262 #[a0] Pn<|gh λb=>AU 37 11 Za 1 [(0,b)]<|gh λb=>AV Tryz.prog ω 202 #[(.int .i64 4),b] Pn<|gh λb=>Sto 11 a b<|gh λ_=>Rn (AC 11 a) λa=>K a) (AV Tryz.prog ω 43 #[a0,(zS [40])] Pn<|gh λb=>Br b (AV Tryz.prog ω 148 #[a0] Pn<|gh λb=>New (.cells Za 37 (0,0))<|gh λc=>Sto 11 c b<|gh λ_=>AU 9 1 Zb 1 [(0,(zS [41]))]<|gh λb=>AV Tryz.prog ω 95 #[a0,b] Pn<|gh λ_=>Rn (AC 11 c) λb=>Sto 11 a b<|gh λ_=>Rn (AC 11 a) λa=>K a) (AV Tryz.prog ω 43 #[a0,(zS [99,97,115,101])] Pn<|gh λb=>Br b (AV Tryz.prog ω 266 #[a0] Pn<|gh λb=>Sto 11 a b<|gh λ_=>Rn (AC 11 a) λa=>K a) (Pv (Ae a0) λb=>Lf 0 b λb=>Pv (ixV 4 b I0) λb=>Lf 0 b λb=>Pv (AA .eql b (.int .i64 3)) λb=>Br b (AV Tryz.prog ω 234 #[a0] Pn<|gh λb=>Sto 11 a b<|gh λ_=>Rn (AC 11 a) λa=>K a) (AV Tryz.prog ω 233 #[a0] Pn<|gh λb=>Pv (exV b 0) λc=>Pv (exV b 1) λb=>New (.cells Za 37 (0,0))<|gh λd=>Sto 11 d c<|gh λ_=>Br b (Rn (AC 11 d) λb=>Sto 11 a b<|gh λ_=>Rn (AC 11 a) λa=>K a) (AV Tryz.prog ω 96 #[a0] Pn<|gh λb=>AV Tryz.prog ω 45 #[a0,(zS [40])] Pn<|gh λc=>Br c (AV Tryz.prog ω 267 #[a0,b] Pn<|gh λc=>Pv (exV c 0) λd=>Pv (exV c 1) λc=>New (.cells Za 37 (0,0))<|gh λe=>Sto 11 e d<|gh λ_=>Br c (Rn (AC 11 e) λb=>Sto 11 a b<|gh λ_=>Rn (AC 11 a) λa=>K a) (sh262_1 ω a0 a b K Pn)) (sh262_1 ω a0 a b K Pn))))))
def AOq:=zkp1 sh262 262 Tryz.func262
def PG (ω:Om)(p0 p2 p3:Value)(K:Value→M):M:=CT ω 86 #[p0,(zS [101,110,100])]<|gh λ_=>Rn (AC 11 p3) λa=>Sto 11 p2 a<|gh λ_=>Rn (AC 11 p2) λa=>K a
def PH (ω:Om)(p0 p2 p3:Value)(K:Value→M):M:=CT ω 35 #[p0,(zS [101,108,115,101])]<|gh λa=>Br a (CT ω 127 #[p0]<|gh λa=>New (.cells Za 37 (0,0))<|gh λb=>Sto 11 b a<|gh λ_=>Lf 10 p3 λa=>Rn (AC 11 b) λb=>AU 37 11 Za 1 [(0,b)]<|gh λb=>App 37 11 128 Za a b<|gh λa=>Pv (AO 10 p3) λb=>Sto 1 b a<|gh λ_=>PG ω p0 p2 p3 K) (PG ω p0 p2 p3 K)
def AAq (ω:Om)(p0 p2:Value)(p3 x4:Value)(Kn0:(Value×Unit)→M)(K:Value→M):M:=Pv (Ae p0) λa=>Lf 2 a λa=>Pv (unV .not a) λa=>Br a (CT ω 37 #[p0,(zS [119,104,101,110])]<|gh λa=>Pv (unV .not a) λa=>Gd a true (Pv (unV .not x4) λa=>Br a (PH ω p0 p2 p3 K) (CT ω 86 #[p0,(zS [119,104,101,110])]<|gh λ_=>CT ω 127 #[p0]<|gh λa=>New (.cells Za 37 (0,0))<|gh λb=>Sto 11 b a<|gh λ_=>CT ω 86 #[p0,(zS [116,104,101,110])]<|gh λ_=>CT ω 127 #[p0]<|gh λa=>New (.cells Za 37 (0,0))<|gh λc=>Sto 11 c a<|gh λ_=>Lf 10 p3 λa=>Rn (AC 11 b) λb=>Rn (AC 11 c) λc=>AU 37 11 Za 2 [(0,b),(1,c)]<|gh λb=>App 37 11 128 Za a b<|gh λa=>Pv (AO 10 p3) λb=>Sto 1 b a<|gh λ_=>Kn0 (Bf,()))) (CT ω 86 #[p0,(zS [119,104,101,110])]<|gh λ_=>CT ω 127 #[p0]<|gh λa=>New (.cells Za 37 (0,0))<|gh λb=>Sto 11 b a<|gh λ_=>CT ω 86 #[p0,(zS [116,104,101,110])]<|gh λ_=>CT ω 127 #[p0]<|gh λa=>New (.cells Za 37 (0,0))<|gh λc=>Sto 11 c a<|gh λ_=>Lf 10 p3 λa=>Rn (AC 11 b) λb=>Rn (AC 11 c) λc=>AU 37 11 Za 2 [(0,b),(1,c)]<|gh λb=>App 37 11 128 Za a b<|gh λa=>Pv (AO 10 p3) λb=>Sto 1 b a<|gh λ_=>Kn0 (Bf,()))) (PH ω p0 p2 p3 K)
def ALQ (ω:Om)(a0:Value)(K:Value→M):M:=New (.cells Za 37 (0,0))<|gh λa=>Pv (Ai Za Zg [(0,(.int .i64 26))]) λb=>New (.cells Za 37 (0,0))<|gh λc=>Sto 11 c b<|gh λ_=>Ac ((Bt,()):Value×Unit) λs b=>AAq ω a0 a c s.1 b K
def AOp:=zkc1 ALQ 264 Tryz.func264
def sh265_1 (ω:Om)(p0 p4 p6:Value)(K:Value→M):M:=CT ω 127 #[p0]<|gh λa=>New (.cells Za 37 (0,0))<|gh λb=>Sto 11 b a<|gh λ_=>CT ω 86 #[p0,(zS [41])]<|gh λ_=>Rn (AC 11 b) λa=>AU 37 11 Za 1 [(0,a)]<|gh λa=>Pv (AO 10 p6) λb=>Sto 1 b a<|gh λ_=>Rn (AC 11 p6) λa=>Sto 11 p4 a<|gh λ_=>Rn (AC 11 p4) λa=>K a
def sh265_2 (ω:Om)(p0 p4:Value)(p6 p7:Value)(K:Value→M):M:=Br p7 (CT ω 86 #[p0,(zS [41])]<|gh λ_=>Pv (Ai Za Zg [(0,(.int .i64 3))]) λa=>AU 37 11 Za 1 [(0,a)]<|gh λa=>Pv (AO 10 p6) λb=>Sto 1 b a<|gh λ_=>Rn (AC 11 p6) λa=>Sto 11 p4 a<|gh λ_=>Rn (AC 11 p4) λa=>K a) (CT ω 35 #[p0,(zS [100,105,115,116,105,110,99,116])]<|gh λa=>Pv (AO 9 p6) λb=>Sto 1 b a<|gh λ_=>sh265_1 ω p0 p4 p6 K)
def sh265 (ω:Om)(a0 a1:Value)(K:Value→M):M:=New (.cells Za 37 (0,0))<|gh λa=>Pv (AZ .eql a1 (zS [99,111,97,108,101,115,99,101])) λb=>Br b (CT ω 131 #[a0]<|gh λb=>Pv (Ai Za Zg [(0,(.int .i64 27)),(7,b)]) λb=>Sto 11 a b<|gh λ_=>Rn (AC 11 a) λa=>K a) (CT ω 86 #[a0,(zS [40])]<|gh λ_=>Pv (Ai Za Zg [(0,(.int .i64 28)),(3,a1)]) λb=>New (.cells Za 37 (0,0))<|gh λc=>Sto 11 c b<|gh λ_=>Pv (AZ .eql a1 (zS [108,101,110,103,116,104])) λb=>Br b (Pv (Ai Za Zg [(0,(.int .i64 8))]) λb=>Sto 11 c b<|gh λ_=>sh265_1 ω a0 a c K) (Pv (AZ .eql a1 (zS [99,111,117,110,116])) λb=>Br b (CT ω 35 #[a0,(zS [42])]<|gh λb=>sh265_2 ω a0 a c b K) (sh265_2 ω a0 a c Bf K)))
def AOo:=zkc2 sh265 265 Tryz.func265
def PD (ω:Om)(p0 p2 p3:Value)(K:Value→M)(Pn:Value→M):M:=AU 9 1 Zb 1 [(0,(zS [101,110,100]))]<|gh λa=>AV Tryz.prog ω 95 #[p0,a] Pn<|gh λ_=>Rn (AC 11 p3) λa=>Sto 11 p2 a<|gh λ_=>Rn (AC 11 p2) λa=>K a
def AAo (ω:Om)(p0 p2 p3:Value)(K:Value→M)(Pn:Value→M):M:=AV Tryz.prog ω 43 #[p0,(zS [101,108,115,101])] Pn<|gh λa=>Br a (Bg λS=>Lg S 10 p3 λa=>AV Tryz.prog ω 148 #[p0] Pn<|gh<|Cf S λb=>AU 37 11 Za 1 [(0,b)]<|gh<|Cf S λb=>App 37 11 128 Za a b<|gh λa=>Pv (AO 10 p3) λb=>Sto 1 b a<|gh λ_=>PD ω p0 p2 p3 K Pn) (PD ω p0 p2 p3 K Pn)
def AAp (ω:Om)(p0 p2 p3:Value)(Kn0:(Unit)→M)(K:Value→M)(Pn:Value→M):M:=Lf 10 p3 λa=>Pv (JZ .eql a S0) λa=>Gd a false (AV Tryz.prog ω 45 #[p0,(zS [119,104,101,110])] Pn<|gh λa=>Br a (AU 9 1 Zb 1 [(0,(zS [119,104,101,110]))]<|gh λa=>AV Tryz.prog ω 95 #[p0,a] Pn<|gh λ_=>AV Tryz.prog ω 148 #[p0] Pn<|gh λa=>New (.cells Za 37 (0,0))<|gh λb=>Sto 11 b a<|gh λ_=>AU 9 1 Zb 1 [(0,(zS [116,104,101,110]))]<|gh λa=>AV Tryz.prog ω 95 #[p0,a] Pn<|gh λ_=>Bg λS=>Lg S 10 p3 λa=>Rs S (AC 11 b) λb=>AV Tryz.prog ω 148 #[p0] Pn<|gh<|Cf S λc=>AU 37 11 Za 2 [(0,b),(1,c)]<|gh<|Cf S λb=>App 37 11 128 Za a b<|gh λa=>Pv (AO 10 p3) λb=>Sto 1 b a<|gh λ_=>Kn0 (())) (AAo ω p0 p2 p3 K Pn)) (AU 9 1 Zb 1 [(0,(zS [119,104,101,110]))]<|gh λa=>AV Tryz.prog ω 95 #[p0,a] Pn<|gh λ_=>AV Tryz.prog ω 148 #[p0] Pn<|gh λa=>New (.cells Za 37 (0,0))<|gh λb=>Sto 11 b a<|gh λ_=>AU 9 1 Zb 1 [(0,(zS [116,104,101,110]))]<|gh λa=>AV Tryz.prog ω 95 #[p0,a] Pn<|gh λ_=>Bg λS=>Lg S 10 p3 λa=>Rs S (AC 11 b) λb=>AV Tryz.prog ω 148 #[p0] Pn<|gh<|Cf S λc=>AU 37 11 Za 2 [(0,b),(1,c)]<|gh<|Cf S λb=>App 37 11 128 Za a b<|gh λa=>Pv (AO 10 p3) λb=>Sto 1 b a<|gh λ_=>Kn0 (()))
def ALP (ω:Om)(a0:Value)(K:Value→M)(Pn:Value→M):M:=New (.cells Za 37 (0,0))<|gh λa=>Pv (Ai Za Zg [(0,(.int .i64 26))]) λb=>New (.cells Za 37 (0,0))<|gh λc=>Sto 11 c b<|gh λ_=>Ac ((()):Unit) λs b=>AAp ω a0 a c b K Pn
def AOn:=zkp1 ALP 266 Tryz.func266
def sh267_3 (ω:Om)(p0 p4:Value)(p5 p7:Value)(K:Value→M)(Pn:Value→M):M:=AU 9 1 Zb 1 [(0,(zS [41]))]<|gh λa=>AV Tryz.prog ω 95 #[p0,a] Pn<|gh λ_=>Rn (AC 11 p7) λa=>Sto 11 p4 a<|gh λ_=>Rn (AC 11 p4) λa=>K (Value.tuple #[a,Bt])
def sh267_2 (ω:Om)(p0 p4:Value)(p5 p7:Value)(K:Value→M)(Pn:Value→M):M:=Pv (Ai Za Zg [(0,(.int .i64 3))]) λa=>AU 37 11 Za 1 [(0,a)]<|gh λa=>Pv (AO 10 p7) λb=>Sto 1 b a<|gh λ_=>sh267_3 ω p0 p4 p5 p7 K Pn
def sh267_4 (ω:Om)(p0 p4:Value)(p5 p7:Value)(K:Value→M)(Pn:Value→M):M:=AV Tryz.prog ω 43 #[p0,(zS [100,105,115,116,105,110,99,116])] Pn<|gh λa=>Pv (AO 9 p7) λb=>Sto 1 b a<|gh λ_=>AV Tryz.prog ω 148 #[p0] Pn<|gh λa=>AU 37 11 Za 1 [(0,a)]<|gh λa=>Pv (AO 10 p7) λb=>Sto 1 b a<|gh λ_=>sh267_3 ω p0 p4 p5 p7 K Pn
def sh267_1 (ω:Om)(p0 p1:Value)(p4 p5 p27:Value)(K:Value→M)(Pn:Value→M):M:=Br p27 (AU 9 1 Zb 1 [(0,(zS [40]))]<|gh λa=>AV Tryz.prog ω 95 #[p0,a] Pn<|gh λ_=>Pv (Ai Za Zg [(0,(.int .i64 28)),(3,p1)]) λa=>New (.cells Za 37 (0,0))<|gh λb=>Sto 11 b a<|gh λ_=>Pv (AZ .eql p1 (zS [99,111,117,110,116])) λa=>Gd a true (AV Tryz.prog ω 43 #[p0,(zS [42])] Pn<|gh λa=>Br a (sh267_2 ω p0 p4 p5 b K Pn) (sh267_4 ω p0 p4 p5 b K Pn)) (sh267_4 ω p0 p4 p5 b K Pn)) (Pv (Ai Za Zg []) λa=>Sto 11 p4 a<|gh λ_=>Rn (AC 11 p4) λa=>K (Value.tuple #[a,Bf]))
def sh267 (ω:Om)(a0 a1:Value)(K:Value→M)(Pn:Value→M):M:=New (.cells Za 37 (0,0))<|gh λa=>Pv (AZ .eql a1 (zS [99,111,97,108,101,115,99,101])) λb=>Br b (AV Tryz.prog ω 99 #[a0] Pn<|gh λb=>AV Tryz.prog ω 202 #[(.int .i64 27),b] Pn<|gh λb=>Sto 11 a b<|gh λ_=>Rn (AC 11 a) λa=>K (Value.tuple #[a,Bt])) (Pv (AZ .eql a1 (zS [108,101,110,103,116,104])) λb=>Br b (AU 9 1 Zb 1 [(0,(zS [40]))]<|gh λb=>AV Tryz.prog ω 95 #[a0,b] Pn<|gh λ_=>AV Tryz.prog ω 148 #[a0] Pn<|gh λb=>AU 37 11 Za 1 [(0,b)]<|gh λb=>AV Tryz.prog ω 202 #[(.int .i64 8),b] Pn<|gh λb=>New (.cells Za 37 (0,0))<|gh λc=>Sto 11 c b<|gh λ_=>AU 9 1 Zb 1 [(0,(zS [41]))]<|gh λb=>AV Tryz.prog ω 95 #[a0,b] Pn<|gh λ_=>Rn (AC 11 c) λb=>Sto 11 a b<|gh λ_=>Rn (AC 11 a) λa=>K (Value.tuple #[a,Bt])) (Pv (AZ .eql a1 (zS [99,111,117,110,116])) λb=>Br b (sh267_1 ω a0 a1 a Bf b K Pn) (Pv (AZ .eql a1 (zS [115,117,109])) λb=>Br b (sh267_1 ω a0 a1 a Bf b K Pn) (Pv (AZ .eql a1 (zS [109,105,110])) λb=>Br b (sh267_1 ω a0 a1 a Bf b K Pn) (Pv (AZ .eql a1 (zS [109,97,120])) λb=>Br b (sh267_1 ω a0 a1 a Bf b K Pn) (Pv (AZ .eql a1 (zS [97,118,103])) λb=>sh267_1 ω a0 a1 a Bf b K Pn))))))
def AOm:=zkp2 sh267 267 Tryz.func267
theorem ANU (x0:Int)(x1:Int):Ai Zh #[(0,1),(1,1)] [(0,.int .i64 x0),(1,.int .i64 x1)]=some (.agg #[.int .i64 x0,.int .i64 x1]):=by kernel_rfl
theorem ANT (x0:Int):Ai Zh #[(0,1),(1,1)] [(0,.int .i64 x0)]=some (.agg #[.int .i64 x0,(.int .i64 0)]):=by kernel_rfl
theorem ANR:Ai Zh #[(0,1),(1,1)] []=some (.agg Zh):=by kernel_rfl
theorem ANQ (x0:Int)(x1:Int):Ai Zi Zk [(0,.int .i64 x0),(3,.int .i64 x1)]=some (.agg #[.int .i64 x0,(Value.string (ByteArray.mk #[])),(.int .i64 0),.int .i64 x1]):=by kernel_rfl
theorem ANP (x0:Option Addr)(x1:Nat)(x2:Nat):Ai #[(.slice none 0 0),(.int .i64 0),(.bool false)] #[(0,1),(1,1),(2,1)] [(0,.slice x0 x1 x2)]=some (.agg #[.slice x0 x1 x2,(.int .i64 0),(.bool false)]):=by kernel_rfl
theorem ANO (x0:Option Addr)(x1:Nat)(x2:Nat):Ai #[(.slice none 0 0)] #[(0,1)] [(0,.slice x0 x1 x2)]=some (.agg #[.slice x0 x1 x2]):=by kernel_rfl
theorem ANN (x0:Option Addr)(x1:Nat)(x2:Nat):Ai #[(.pointer none),(.slice none 0 0),(.slice none 0 0)] #[(0,2),(2,1)] [(1,.slice x0 x1 x2)]=some (.agg #[(.pointer none),(.slice none 0 0),.slice x0 x1 x2]):=by kernel_rfl
theorem ANM (x0:Int):Ai Zi Zk [(3,.int .i64 x0)]=some (.agg #[(.int .i64 0),(Value.string (ByteArray.mk #[])),(.int .i64 0),.int .i64 x0]):=by kernel_rfl
theorem ANL (x0:Int)(x1:Bool)(x2:Option Addr)(x3:Nat)(x4:Nat)(x5:Option Addr)(x6:Nat)(x7:Nat)(x8:Int)(x9:Int)(x10:Bool)(x11:Int)(x12:ByteArray)(x13:ByteArray)(x14:ByteArray)(x15:Int)(x16:Int)(x17:Bool)(x18:Option Addr)(x19:Nat)(x20:Nat)(x21:Option Addr)(x22:Nat)(x23:Nat)(x24:Int)(x25:Int)(x26:Bool)(x27:Int)(x28:ByteArray)(x29:ByteArray)(x30:ByteArray)(x31:Int)(x32:Int)(x33:Bool)(x34:Option Addr)(x35:Nat)(x36:Nat)(x37:Option Addr)(x38:Nat)(x39:Nat)(x40:Int)(x41:Int):Ai Zc Zj [(0,.int .i64 x0),(1,.agg #[.bool x1,.slice x2 x3 x4,.slice x5 x6 x7,.int .i64 x8,.int .i64 x9,.bool x10,.int .i64 x11,.string x12,.string x13,.string x14,.int .i64 x15,.int .i64 x16,.bool x17,.slice x18 x19 x20,.slice x21 x22 x23,.int .i64 x24,.int .i64 x25,.bool x26,.int .i64 x27,.string x28,.string x29,.string x30,.int .i64 x31,.int .i64 x32,.bool x33,.slice x34 x35 x36,.slice x37 x38 x39,.int .i64 x40,.int .i64 x41])]=some (.agg #[.int .i64 x0,.bool x1,.slice x2 x3 x4,.slice x5 x6 x7,.int .i64 x8,.int .i64 x9,.bool x10,.int .i64 x11,.string x12,.string x13,.string x14,.int .i64 x15,.int .i64 x16,.bool x17,.slice x18 x19 x20,.slice x21 x22 x23,.int .i64 x24,.int .i64 x25,.bool x26,.int .i64 x27,.string x28,.string x29,.string x30,.int .i64 x31,.int .i64 x32,.bool x33,.slice x34 x35 x36,.slice x37 x38 x39,.int .i64 x40,.int .i64 x41,(Value.string (ByteArray.mk #[])),(.slice none 0 0),(.slice none 0 0),(.slice none 0 0),(.int .i64 0),(.int .i64 0),(.bool false),(.int .i64 0),(Value.string (ByteArray.mk #[])),(Value.string (ByteArray.mk #[])),(Value.string (ByteArray.mk #[])),(.int .i64 0),(.int .i64 0),(.bool false),(.slice none 0 0),(.slice none 0 0),(.slice none 0 0),(Value.string (ByteArray.mk #[])),(Value.string (ByteArray.mk #[])),(.slice none 0 0),(.bool false)]):=by kernel_rfl
theorem AJZ (x0:Int):Ai Zc Zj [(0,.int .i64 x0)]=some (.agg #[.int .i64 x0,(.bool false),(.slice none 0 0),(.slice none 0 0),(.int .i64 0),(.int .i64 0),(.bool false),(.int .i64 0),(Value.string (ByteArray.mk #[])),(Value.string (ByteArray.mk #[])),(Value.string (ByteArray.mk #[])),(.int .i64 0),(.int .i64 0),(.bool false),(.slice none 0 0),(.slice none 0 0),(.int .i64 0),(.int .i64 0),(.bool false),(.int .i64 0),(Value.string (ByteArray.mk #[])),(Value.string (ByteArray.mk #[])),(Value.string (ByteArray.mk #[])),(.int .i64 0),(.int .i64 0),(.bool false),(.slice none 0 0),(.slice none 0 0),(.int .i64 0),(.int .i64 0),(Value.string (ByteArray.mk #[])),(.slice none 0 0),(.slice none 0 0),(.slice none 0 0),(.int .i64 0),(.int .i64 0),(.bool false),(.int .i64 0),(Value.string (ByteArray.mk #[])),(Value.string (ByteArray.mk #[])),(Value.string (ByteArray.mk #[])),(.int .i64 0),(.int .i64 0),(.bool false),(.slice none 0 0),(.slice none 0 0),(.slice none 0 0),(Value.string (ByteArray.mk #[])),(Value.string (ByteArray.mk #[])),(.slice none 0 0),(.bool false)]):=by kernel_rfl
theorem AJY:Ai Zc Zj []=some (.agg Zc):=by kernel_rfl
theorem AJX (x0:ByteArray)(x1:Option Addr)(x2:Nat)(x3:Nat):Ai #[(Value.string (ByteArray.mk #[])),(.int .i64 0),(.slice none 0 0)] #[(0,1),(1,1),(2,1)] [(0,.string x0),(2,.slice x1 x2 x3)]=some (.agg #[.string x0,(.int .i64 0),.slice x1 x2 x3]):=by kernel_rfl
theorem AJW (x0:Int)(x1:Int):Ai Zn Zk [(0,.int .i64 x0),(1,.int .i64 x1)]=some (.agg #[.int .i64 x0,.int .i64 x1,(Value.string (ByteArray.mk #[])),(.int .i64 0)]):=by kernel_rfl
theorem AJV (x0:Int)(x1:ByteArray):Ai Zc Zj [(0,.int .i64 x0),(2,.string x1)]=some (.agg #[.int .i64 x0,(.bool false),(.slice none 0 0),(.slice none 0 0),(.int .i64 0),(.int .i64 0),(.bool false),(.int .i64 0),(Value.string (ByteArray.mk #[])),(Value.string (ByteArray.mk #[])),(Value.string (ByteArray.mk #[])),(.int .i64 0),(.int .i64 0),(.bool false),(.slice none 0 0),(.slice none 0 0),(.int .i64 0),(.int .i64 0),(.bool false),(.int .i64 0),(Value.string (ByteArray.mk #[])),(Value.string (ByteArray.mk #[])),(Value.string (ByteArray.mk #[])),(.int .i64 0),(.int .i64 0),(.bool false),(.slice none 0 0),(.slice none 0 0),(.int .i64 0),(.int .i64 0),.string x1,(.slice none 0 0),(.slice none 0 0),(.slice none 0 0),(.int .i64 0),(.int .i64 0),(.bool false),(.int .i64 0),(Value.string (ByteArray.mk #[])),(Value.string (ByteArray.mk #[])),(Value.string (ByteArray.mk #[])),(.int .i64 0),(.int .i64 0),(.bool false),(.slice none 0 0),(.slice none 0 0),(.slice none 0 0),(Value.string (ByteArray.mk #[])),(Value.string (ByteArray.mk #[])),(.slice none 0 0),(.bool false)]):=by kernel_rfl
theorem AJU (x0:ByteArray):Ai Zs Zk [(0,.string x0)]=some (.agg #[.string x0,(Value.string (ByteArray.mk #[])),(.slice none 0 0),(.bool false)]):=by kernel_rfl
theorem AJT (x0:Int)(x1:ByteArray)(x2:ByteArray)(x3:Option Addr)(x4:Nat)(x5:Nat)(x6:Bool):Ai Zc Zj [(0,.int .i64 x0),(9,.agg #[.string x1,.string x2,.slice x3 x4 x5,.bool x6])]=some (.agg #[.int .i64 x0,(.bool false),(.slice none 0 0),(.slice none 0 0),(.int .i64 0),(.int .i64 0),(.bool false),(.int .i64 0),(Value.string (ByteArray.mk #[])),(Value.string (ByteArray.mk #[])),(Value.string (ByteArray.mk #[])),(.int .i64 0),(.int .i64 0),(.bool false),(.slice none 0 0),(.slice none 0 0),(.int .i64 0),(.int .i64 0),(.bool false),(.int .i64 0),(Value.string (ByteArray.mk #[])),(Value.string (ByteArray.mk #[])),(Value.string (ByteArray.mk #[])),(.int .i64 0),(.int .i64 0),(.bool false),(.slice none 0 0),(.slice none 0 0),(.int .i64 0),(.int .i64 0),(Value.string (ByteArray.mk #[])),(.slice none 0 0),(.slice none 0 0),(.slice none 0 0),(.int .i64 0),(.int .i64 0),(.bool false),(.int .i64 0),(Value.string (ByteArray.mk #[])),(Value.string (ByteArray.mk #[])),(Value.string (ByteArray.mk #[])),(.int .i64 0),(.int .i64 0),(.bool false),(.slice none 0 0),(.slice none 0 0),(.slice none 0 0),.string x1,.string x2,.slice x3 x4 x5,.bool x6]):=by kernel_rfl
theorem AJS (x0:Int):Ai #[(.int .i64 0)] #[(0,1)] [(0,.int .i64 x0)]=some (.agg #[.int .i64 x0]):=by kernel_rfl
theorem AJR (x0:Int):Ai Zq Zw [(7,.int .i64 x0)]=some (.agg #[(.bool false),(.slice none 0 0),(.slice none 0 0),(.int .i64 0),(.int .i64 0),(.bool false),(.int .i64 0),(Value.string (ByteArray.mk #[])),(Value.string (ByteArray.mk #[])),(Value.string (ByteArray.mk #[])),(.int .i64 0),(.int .i64 0),(.bool false),(.slice none 0 0),(.slice none 0 0),(.int .i64 0),(.int .i64 0),(.bool false),(.int .i64 0),(Value.string (ByteArray.mk #[])),(Value.string (ByteArray.mk #[])),(Value.string (ByteArray.mk #[])),(.int .i64 0),(.int .i64 0),(.bool false),(.slice none 0 0),(.slice none 0 0),.int .i64 x0,(.int .i64 0)]):=by kernel_rfl
theorem AJQ (x0:ByteArray)(x1:Int)(x2:Int)(x3:Bool)(x4:Int)(x5:ByteArray)(x6:ByteArray)(x7:ByteArray)(x8:Int)(x9:Int)(x10:Bool)(x11:Option Addr)(x12:Nat)(x13:Nat):Ai Zp #[(0,1),(1,11)] [(0,.string x0),(1,.agg #[.int .i64 x1,.int .i64 x2,.bool x3,.int .i64 x4,.string x5,.string x6,.string x7,.int .i64 x8,.int .i64 x9,.bool x10,.slice x11 x12 x13])]=some (.agg #[.string x0,.int .i64 x1,.int .i64 x2,.bool x3,.int .i64 x4,.string x5,.string x6,.string x7,.int .i64 x8,.int .i64 x9,.bool x10,.slice x11 x12 x13]):=by kernel_rfl
theorem AJP:Ai Za Zg []=some (.agg Za):=by kernel_rfl
theorem AJO:Ai Zs Zk []=some (.agg Zs):=by kernel_rfl
theorem AJN (x0:Int):Ai Zn Zk [(1,.int .i64 x0)]=some (.agg #[(.int .i64 0),.int .i64 x0,(Value.string (ByteArray.mk #[])),(.int .i64 0)]):=by kernel_rfl
theorem AJM (x0:Int)(x1:Bool):Ai Zq Zw [(7,.int .i64 x0),(0,.bool x1)]=some (.agg #[.bool x1,(.slice none 0 0),(.slice none 0 0),(.int .i64 0),(.int .i64 0),(.bool false),(.int .i64 0),(Value.string (ByteArray.mk #[])),(Value.string (ByteArray.mk #[])),(Value.string (ByteArray.mk #[])),(.int .i64 0),(.int .i64 0),(.bool false),(.slice none 0 0),(.slice none 0 0),(.int .i64 0),(.int .i64 0),(.bool false),(.int .i64 0),(Value.string (ByteArray.mk #[])),(Value.string (ByteArray.mk #[])),(Value.string (ByteArray.mk #[])),(.int .i64 0),(.int .i64 0),(.bool false),(.slice none 0 0),(.slice none 0 0),.int .i64 x0,(.int .i64 0)]):=by kernel_rfl
theorem AJL (x0:ByteArray):Ai Zp #[(0,1),(1,11)] [(0,.string x0)]=some (.agg #[.string x0,(.int .i64 0),(.int .i64 0),(.bool false),(.int .i64 0),(Value.string (ByteArray.mk #[])),(Value.string (ByteArray.mk #[])),(Value.string (ByteArray.mk #[])),(.int .i64 0),(.int .i64 0),(.bool false),(.slice none 0 0)]):=by kernel_rfl
theorem AJK (x0:Bool):Ai Zs Zk [(3,.bool x0)]=some (.agg #[(Value.string (ByteArray.mk #[])),(Value.string (ByteArray.mk #[])),(.slice none 0 0),.bool x0]):=by kernel_rfl
theorem AJJ (x0:Bool):Ai Zd Zm [(0,.bool x0)]=some (.agg #[.bool x0,(Value.string (ByteArray.mk #[])),(.int .i64 0),(.int .i64 0),(.bool false),(.int .i64 0),(Value.string (ByteArray.mk #[])),(Value.string (ByteArray.mk #[])),(Value.string (ByteArray.mk #[])),(.int .i64 0),(.int .i64 0),(.bool false),(.slice none 0 0),(Value.string (ByteArray.mk #[]))]):=by kernel_rfl
theorem AJI (x0:Bool)(x1:ByteArray):Ai Zd Zm [(0,.bool x0),(1,.string x1)]=some (.agg #[.bool x0,.string x1,(.int .i64 0),(.int .i64 0),(.bool false),(.int .i64 0),(Value.string (ByteArray.mk #[])),(Value.string (ByteArray.mk #[])),(Value.string (ByteArray.mk #[])),(.int .i64 0),(.int .i64 0),(.bool false),(.slice none 0 0),(Value.string (ByteArray.mk #[]))]):=by kernel_rfl
theorem AJH:Ai Zd Zm []=some (.agg Zd):=by kernel_rfl
theorem AJG (x0:Int)(x1:Int)(x2:Bool)(x3:Int)(x4:ByteArray)(x5:ByteArray)(x6:ByteArray)(x7:Int)(x8:Int)(x9:Bool)(x10:Option Addr)(x11:Nat)(x12:Nat)(x13:Bool):Ai Zo #[(0,11),(11,1)] [(0,.agg #[.int .i64 x0,.int .i64 x1,.bool x2,.int .i64 x3,.string x4,.string x5,.string x6,.int .i64 x7,.int .i64 x8,.bool x9,.slice x10 x11 x12]),(1,.bool x13)]=some (.agg #[.int .i64 x0,.int .i64 x1,.bool x2,.int .i64 x3,.string x4,.string x5,.string x6,.int .i64 x7,.int .i64 x8,.bool x9,.slice x10 x11 x12,.bool x13]):=by kernel_rfl
theorem AJF (x0:Int)(x1:Int)(x2:Bool)(x3:Int)(x4:ByteArray)(x5:ByteArray)(x6:ByteArray)(x7:Int)(x8:Int)(x9:Bool)(x10:Option Addr)(x11:Nat)(x12:Nat):Ai Zd Zm [(2,.agg #[.int .i64 x0,.int .i64 x1,.bool x2,.int .i64 x3,.string x4,.string x5,.string x6,.int .i64 x7,.int .i64 x8,.bool x9,.slice x10 x11 x12])]=some (.agg #[(.bool false),(Value.string (ByteArray.mk #[])),.int .i64 x0,.int .i64 x1,.bool x2,.int .i64 x3,.string x4,.string x5,.string x6,.int .i64 x7,.int .i64 x8,.bool x9,.slice x10 x11 x12,(Value.string (ByteArray.mk #[]))]):=by kernel_rfl
theorem AJE (x0:Int)(x1:Int)(x2:Bool)(x3:Int)(x4:ByteArray)(x5:ByteArray)(x6:ByteArray)(x7:Int)(x8:Int)(x9:Bool)(x10:Option Addr)(x11:Nat)(x12:Nat):Ai Zo #[(0,11),(11,1)] [(0,.agg #[.int .i64 x0,.int .i64 x1,.bool x2,.int .i64 x3,.string x4,.string x5,.string x6,.int .i64 x7,.int .i64 x8,.bool x9,.slice x10 x11 x12])]=some (.agg #[.int .i64 x0,.int .i64 x1,.bool x2,.int .i64 x3,.string x4,.string x5,.string x6,.int .i64 x7,.int .i64 x8,.bool x9,.slice x10 x11 x12,(.bool false)]):=by kernel_rfl
theorem AJD (x0:ByteArray)(x1:Int):Ai Ze #[(0,1),(1,1)] [(0,.string x0),(1,.int .i64 x1)]=some (.agg #[.string x0,.int .i64 x1]):=by kernel_rfl
theorem AJC (x0:Bool)(x1:ByteArray):Ai Zt #[(0,1),(1,1)] [(0,.bool x0),(1,.string x1)]=some (.agg #[.bool x0,.string x1]):=by kernel_rfl
theorem AJB:Ai Zf #[(0,1),(1,1),(2,1),(3,11)] []=some (.agg Zf):=by kernel_rfl
theorem AJA (x0:Int)(x1:Option Addr)(x2:Nat)(x3:Nat):Ai Za Zg [(0,.int .i64 x0),(7,.slice x1 x2 x3)]=some (.agg #[.int .i64 x0,(.int .i64 0),(.bool false),(.int .i64 0),(Value.string (ByteArray.mk #[])),(Value.string (ByteArray.mk #[])),(Value.string (ByteArray.mk #[])),(.int .i64 0),(.int .i64 0),(.bool false),.slice x1 x2 x3]):=by kernel_rfl
theorem AIz:Ai Zl Zy []=some (.agg Zl):=by kernel_rfl
theorem AIy (x0:ByteArray):Ai Zf #[(0,1),(1,1),(2,1),(3,11)] [(0,.string x0)]=some (.agg #[.string x0,(Value.string (ByteArray.mk #[])),(.bool false),(.int .i64 0),(.int .i64 0),(.bool false),(.int .i64 0),(Value.string (ByteArray.mk #[])),(Value.string (ByteArray.mk #[])),(Value.string (ByteArray.mk #[])),(.int .i64 0),(.int .i64 0),(.bool false),(.slice none 0 0)]):=by kernel_rfl
theorem AIx (x0:ByteArray):Ai Zl Zy [(0,.string x0)]=some (.agg #[.string x0,(.int .i64 0),(.bool false),(.bool false),(.bool false),(.int .i64 0),(.int .i64 0),(.bool false),(.int .i64 0),(Value.string (ByteArray.mk #[])),(Value.string (ByteArray.mk #[])),(Value.string (ByteArray.mk #[])),(.int .i64 0),(.int .i64 0),(.bool false),(.slice none 0 0)]):=by kernel_rfl
theorem AIw (x0:Int):Ai Za Zg [(0,.int .i64 x0)]=some (.agg #[.int .i64 x0,(.int .i64 0),(.bool false),(.int .i64 0),(Value.string (ByteArray.mk #[])),(Value.string (ByteArray.mk #[])),(Value.string (ByteArray.mk #[])),(.int .i64 0),(.int .i64 0),(.bool false),(.slice none 0 0)]):=by kernel_rfl
theorem AIv (x0:Int)(x1:ByteArray):Ai Zr Zk [(0,.int .i64 x0),(3,.string x1)]=some (.agg #[.int .i64 x0,(.bool false),(.int .i64 0),.string x1]):=by kernel_rfl
theorem AIu (x0:Int)(x1:Int):Ai Zr Zk [(0,.int .i64 x0),(2,.int .i64 x1)]=some (.agg #[.int .i64 x0,(.bool false),.int .i64 x1,(Value.string (ByteArray.mk #[]))]):=by kernel_rfl
theorem AIt (x0:Int):Ai Zr Zk [(0,.int .i64 x0)]=some (.agg #[.int .i64 x0,(.bool false),(.int .i64 0),(Value.string (ByteArray.mk #[]))]):=by kernel_rfl
theorem AIs (x0:Int)(x1:Bool):Ai Zr Zk [(0,.int .i64 x0),(1,.bool x1)]=some (.agg #[.int .i64 x0,.bool x1,(.int .i64 0),(Value.string (ByteArray.mk #[]))]):=by kernel_rfl
theorem AIr (x0:Int)(x1:Int)(x2:Bool)(x3:Int)(x4:ByteArray):Ai Za Zg [(0,.int .i64 x0),(1,.agg #[.int .i64 x1,.bool x2,.int .i64 x3,.string x4])]=some (.agg #[.int .i64 x0,.int .i64 x1,.bool x2,.int .i64 x3,.string x4,(Value.string (ByteArray.mk #[])),(Value.string (ByteArray.mk #[])),(.int .i64 0),(.int .i64 0),(.bool false),(.slice none 0 0)]):=by kernel_rfl
theorem AIq (x0:Int)(x1:ByteArray)(x2:ByteArray):Ai Za Zg [(0,.int .i64 x0),(2,.string x1),(3,.string x2)]=some (.agg #[.int .i64 x0,(.int .i64 0),(.bool false),(.int .i64 0),(Value.string (ByteArray.mk #[])),.string x1,.string x2,(.int .i64 0),(.int .i64 0),(.bool false),(.slice none 0 0)]):=by kernel_rfl
theorem AIp (x0:Int)(x1:ByteArray):Ai Za Zg [(0,.int .i64 x0),(3,.string x1)]=some (.agg #[.int .i64 x0,(.int .i64 0),(.bool false),(.int .i64 0),(Value.string (ByteArray.mk #[])),(Value.string (ByteArray.mk #[])),.string x1,(.int .i64 0),(.int .i64 0),(.bool false),(.slice none 0 0)]):=by kernel_rfl
end Go.Proofs.YtkifgfanjcfedaaGreatDoor
namespace Go.SL
abbrev blt:List UInt8→List UInt8→Bool:=Op.bytesLess
theorem KU (a:List UInt8):(⟨a.toArray⟩:ByteArray).toList=a:=by simp [Go.ByteArray.toList_mk]
theorem QI (a:List UInt8):(⟨a.toArray⟩:ByteArray).size=a.length:=by simp [ByteArray.size]
section
variable (a b:List UInt8)
theorem sEq:AZ .eql (.string ⟨a.toArray⟩) (.string ⟨b.toArray⟩)=some (.bool (a==b)):=by simp only [AZ,KU]
theorem sNe:AZ .neq (.string ⟨a.toArray⟩) (.string ⟨b.toArray⟩)=some (.bool (!(a==b))):=by simp only [AZ,KU]
theorem sLt:AZ .lss (.string ⟨a.toArray⟩) (.string ⟨b.toArray⟩)=some (.bool (blt a b)):=by simp only [AZ,KU]
theorem sLe:AZ .leq (.string ⟨a.toArray⟩) (.string ⟨b.toArray⟩)=some (.bool (blt a b||a==b)):=by simp only [AZ,KU]
theorem sGt:AZ .gtr (.string ⟨a.toArray⟩) (.string ⟨b.toArray⟩)=some (.bool (!(blt a b||a==b))):=by simp only [AZ,KU]
theorem sGe:AZ .geq (.string ⟨a.toArray⟩) (.string ⟨b.toArray⟩)=some (.bool (!(blt a b))):=by simp only [AZ,KU]
theorem AVE (h:a.length+b.length≤9223372036854775807):AZ .add (.string ⟨a.toArray⟩) (.string ⟨b.toArray⟩)=some (.string ⟨(a++b).toArray⟩):=by
 simp only [AZ,QI];rw [if_pos h];have:(⟨a.toArray⟩:ByteArray)++⟨b.toArray⟩=⟨(a++b).toArray⟩:=by
  apply ByteArray.ext
  simp
 rw [this]
theorem VS:BR (.string ⟨a.toArray⟩)=some (.int .i64 a.length):=by rw [AKY,QI]
end
theorem UQ (a b c d:Int):Gl .eql [(TypeDesc.int .i64,0),(TypeDesc.int .i64,1)] (.agg #[.int .i64 a,.int .i64 b]) (.agg #[.int .i64 c,.int .i64 d])=some (.bool ((a==c)&&(b==d))):=by
 simp [Gl,LC,eqD]
theorem AAh (a b c d:Int):Gl .neq [(TypeDesc.int .i64,0),(TypeDesc.int .i64,1)] (.agg #[.int .i64 a,.int .i64 b]) (.agg #[.int .i64 c,.int .i64 d])=some (.bool !((a==c)&&(b==d))):=by
 simp [Gl,LC,eqD]
theorem Xd (off n:Nat)(l:List Value):IM true off n (.agg l.toArray)=some (.agg ((l.drop off).take n).toArray):=by
 simp only [IM,if_true];congr 2
 apply Array.ext'
 simp [List.take_drop,Nat.add_comm]
theorem Xc (off n:Nat)(l:List Value):IM false off n (.agg l.toArray)=l[off]? :=by
 simp [IM]
def cmpL (a b:List UInt8):Int:=match (List.range (min a.length b.length)).find? λi=>a.getD i 0 != b.getD i 0 with
 |some i=>if a.getD i 0 < b.getD i 0 then -1 else 1
 |none=>if a.length < b.length then -1 else if a.length > b.length then 1 else 0
theorem AVM (a:List UInt8)(i:Nat):(⟨a.toArray⟩:ByteArray)[i]! =a.getD i 0:=by
 by_cases h:i < a.length
 ·have hs:i < (⟨a.toArray⟩:ByteArray).size:=by rw [QI];exact h
  rw [getElem!_pos (⟨a.toArray⟩:ByteArray) i hs];show a.toArray[i]'(by simpa using h)=_;simp [List.getD,h]
 ·have hs:¬i < (⟨a.toArray⟩:ByteArray).size:=by rw [QI];exact h
  rw [getElem!_neg (⟨a.toArray⟩:ByteArray) i hs];simp [List.getD,List.getElem?_eq_none (Nat.le_of_not_lt h)];rfl
section
variable {P:Program}{ω:Om}{I:Imm}{L:LH}{K:Value→M}
end
section
variable {I I0:Imm}{L L' X:LH}{K:Value→M}{b off n T:Nat}
theorem IX {l:List Value}{T:Nat}{fr:Nat×Nat}[h:InL b X (.cells l.toArray T fr)](vs:List Value)(he:(l.drop off).take n=vs)(hl:vs.length=n)(hk:K (.agg vs.toArray) I L):Rv (some (Stay I0 X)) (AC n (.pointer (some ⟨b,off,none⟩))) K I L:=
 ANz hl (λI' L' hS j u hu=>Cell.own (hS.2 _ h.mem) (by
  subst he;rw [zaZ] at hu;split at hu
  ·rw [zaR] at hu;simpa using hu
  ·cases hu)) hk
theorem stP {l vs:List Value}(l':List Value)[h:InL b L (.cells l.toArray T (0,0))](he:l.take off++(vs++l.drop (off+n))=l')(hl:vs.length=n)(hleb:Nat.ble (off+n) l.length=true)(h1:vs.all (·.oneCell')=true)[u:UpL b L (.cells l.toArray T (0,0)) (.cells l'.toArray T (0,0)) L'](hk:K undef I L'):
  Sto n (.pointer (some ⟨b,off,none⟩)) (.agg vs.toArray) (gh K) I L:=by
 have hle:=Nat.le_of_ble_eq_true hleb;obtain ⟨L1,L2,rfl,rfl⟩:=u.up;refine ⟨b,off,l.toArray,T,(0,0),L1,L2,rfl,by simp [Value.cells,hl],by simpa [Value.cells] using AY h1,by simpa using hle,.inl rfl,rfl,?_⟩;simp only [Value.cells];rw [SY vs l.toArray off zu];subst he;refine zAA ?_;rw [hl];simpa using hk
end
class MemB (x:Nat×Obj) (L:LH):Prop where
 mem:x∈L
instance memBRight (x:Nat×Obj)(A L:LH)[h:MemB x L]:MemB x (A++L):=⟨zba _ h.mem⟩
instance memBThere (x y:Nat×Obj)(L:LH)[h:MemB x L]:MemB x (y::L):=⟨zN _ h.mem⟩
instance memBHere (x:Nat×Obj)(L:LH):MemB x (x::L):=⟨zK ..⟩
instance (priority:=70) lsubConsL (x:Nat×Obj)(X L:LH)[h:MemB x L][h':LSub X L]:LSub (x::X) L:=⟨λy hy=>by
 rcases zZ.1 hy with rfl|hy
 ·exact h.mem
 ·exact h'.sub y hy⟩
class DelB (b:Nat) (L:LH) (L':outParam LH):Prop where
 sub:∀x∈L',x∈L
instance delBThere (b:Nat)(x:Nat×Obj)(L L':LH)[h:DelB b L L']:DelB b (x::L) (x::L'):=⟨λy hy=>by
 rcases zZ.1 hy with rfl|hy
 ·exact zK ..
 ·exact zN _ (h.sub y hy)⟩
instance delBHere (b:Nat)(o:Obj)(L:LH):DelB b ((b,o)::L) L:=⟨λy hy=>zN _ hy⟩
theorem EN {I:Imm}{L X:LH}{B:M→M}{b off:Nat}[h:DelB b L X](hB:B (Stay I X) I L):ACs [.pointer (some ⟨b,off,none⟩)] B I L:=draw _ ⟨zAC I,h.sub⟩ hB
theorem EM {I:Imm}{L X Y:LH}{B:M→M}{b off c off':Nat}[h:DelB b L X][h':DelB c X Y](hB:B (Stay I Y) I L):ACs [.pointer (some ⟨b,off,none⟩),.pointer (some ⟨c,off',none⟩)] B I L:=draw _ ⟨zAC I,λx hx=>h.sub x (h'.sub x hx)⟩ hB
class PickB (b:Nat) (L:LH) (o:outParam Obj) (R:outParam LH):Prop where
 perm:L.Perm ((b,o)::R)
instance pickBRight (b:Nat)(o:Obj)(A L R:LH)[h:PickB b L o R]:PickB b (A++L) o (A++R):=⟨(zaB A h.perm).trans zaw⟩
instance pickBThere (b:Nat)(o:Obj)(y:Nat×Obj)(L R:LH)[h:PickB b L o R]:PickB b (y::L) o (y::R):=⟨(List.Perm.cons y h.perm).trans (List.Perm.swap ..)⟩
instance pickBHere (b:Nat)(o:Obj)(R:LH):PickB b ((b,o)::R) o R:=⟨List.Perm.refl _⟩
section
variable {α:Type}{R:Imm→α→List Value→Prop}{I:Imm}{T n bytes:Nat}{z:Array Value}{X6 L0 F:LH}{v:Value}{xs:List α}{x:α}{c cells:List Value}{K:Value→M}
theorem CZ [SplitL X6 L0 F](hz:z.size=n)(hn:0 < n)(h6:SlO T n X6 v cells xs.length)(hR:Recs (R I) n xs cells)(hx:R I x c)(hcl:c.length=n)(h1:∀u∈c,u.oneCell'=true)(hb:(xs.length+1) * bytes≤150000000000000)(hl:xs.length+1≤150000000000000)
  (hk:∀X1 X6' v' cells',SlO T n X6' v' cells' (xs++[x]).length→Recs (R I) n (xs++[x]) cells'→K v' I (X6'++(X1++F))):
  AU T n z 1 [(0,.agg c.toArray)] (gh λu=>App T n bytes z v u (gh K)) I L0:=by
 refine Dw hz hn (by simpa [Value.cells] using hcl) (λX1 u hX1=>?_);refine Dx (X:=X6) hz h6 (hX1.news (λx hx=>zaq _ hx)) (λu hu=>h1 u (by simpa [Value.cells] using hu)) hb hl (λX' v' hX'=>?_);exact hk X1 X' v' _ (by simpa [Value.cells] using hX') (zAS hR (Recs.one (by simpa [Value.cells] using hcl) (by simpa [Value.cells] using hx)))
theorem Qn [SplitL X6 L0 F]{w:Value}(hz:z.size=1)(h6:SlO T 1 X6 v cells xs.length)(hR:Recs (R I) 1 xs cells)(hx:R I x [w])(h1:w.oneCell'=true)(hb:(xs.length+1) * bytes≤150000000000000)(hl:xs.length+1≤150000000000000)
  (hk:∀X1 X6' v' cells',SlO T 1 X6' v' cells' (xs++[x]).length→Recs (R I) 1 (xs++[x]) cells'→K v' I (X6'++(X1++F))):
  AU T 1 z 1 [(0,w)] (gh λu=>App T 1 bytes z v u (gh K)) I L0:=by
 have hc:w.cells=#[w]:=by cases w <;> first|rfl|simp [Value.oneCell'] at h1
 refine Dw hz zo (by rw [hc];rfl) (λX1 u hX1=>?_);rw [hc] at hX1;refine Dx (X:=X6) hz h6 (hX1.news (λx hx=>zaq _ hx)) (by simpa using h1) hb hl (λX' v' hX'=>?_);exact hk X1 X' v' _ (by simpa using hX') (zAS hR (Recs.one rfl hx))
theorem RL.ofO {A:M}{X F:LH}(hm:∀{I I':Imm} {x:α} {c:List Value},R I x c→Ext I I'→R I' x c)(h:SlO T n X v cells xs.length)(hR:Recs (R I) n xs cells)(hk:∀I',Ext I I'→RL R n I' [] v xs→Gh A I' F):Gh A I (X++F):=
 SlO.freeze h (λI' hI hS=>hk I' hI (RL.ofI hS (hR.imp λ_ _ h=>hm h hI)))
end
end Go.SL
namespace Go.Proofs.YtkifgfanjcfedaaGreatDoor
open Go.SL
theorem ANX (k:Nat)(p:Value)(K:Value→M):Lf k p K=Pv (AO k p) λa=>Rn (BA a) K:=rfl
theorem ANW (S:M)(k:Nat)(p:Value)(K:Value→M):Lg S k p K=Pv (AO k p) λa=>Rs S (BA a) K:=rfl
theorem SSd:type_of% (And.intro @ANX <| And.intro @ANW <| And.intro @DY<|And.intro @AIL<|And.intro @AHr<|And.intro @AHs<|And.intro @AIE<|And.intro @AIk<|And.intro @VS<|And.intro @AHy<|And.intro @AIA<|And.intro @AFH<|And.intro @AAd<|And.intro @AAe<|And.intro @ACO<|And.intro @ACP<|And.intro @ANI<|And.intro @AId<|And.intro @YI<|And.intro @Xy<|And.intro @YB<|And.intro @YG<|And.intro @YA<|And.intro @YC<|And.intro @YD<|And.intro @YE<|And.intro @YF<|And.intro @YH<|And.intro @ACl<|And.intro @YK<|And.intro @YJ<|And.intro @sEq<|And.intro @sNe<|And.intro @sLt<|And.intro @sLe<|And.intro @sGt<|And.intro @sGe<|And.intro @UQ<|And.intro @AAh<|And.intro @Xd<|And.intro @Xc<|And.intro @Gn<|And.intro @NV<|And.intro @NY<|And.intro @NW<|And.intro @Ob<|And.intro @Oa<|And.intro @QJ<|And.intro @NZ<|And.intro @ACn<|And.intro @ACp<|And.intro @ACo<|And.intro @ACq<|And.intro @UM<|And.intro (@zam Value)<|And.intro (@zah Value)<|And.intro (@zaf Value)<|And.intro @zaA<|And.intro @Nat.add_zero<|And.intro @Nat.zero_mul<|And.intro (@List.drop_succ_cons Value)<|And.intro (@List.drop_zero Value)<|And.intro (@List.take_succ_cons Value)<|And.intro (@List.take_zero Value)<|And.intro (@zat Value)<|And.intro (@zai Value)<|And.intro (@List.drop_nil Value)<|And.intro (@List.take_nil Value)<|And.intro @ANU<|And.intro @ANT<|And.intro @ANR<|And.intro @ANQ<|And.intro @ANP<|And.intro @ANO<|And.intro @ANN<|And.intro @ANM<|And.intro @ANL<|And.intro @AJZ<|And.intro @AJY<|And.intro @AJX<|And.intro @AJW<|And.intro @AJV<|And.intro @AJU<|And.intro @AJT<|And.intro @AJS<|And.intro @AJR<|And.intro @AJQ<|And.intro @AJP<|And.intro @AJO<|And.intro @AJN<|And.intro @AJM<|And.intro @AJL<|And.intro @AJK<|And.intro @AJJ<|And.intro @AJI<|And.intro @AJH<|And.intro @AJG<|And.intro @AJF<|And.intro @AJE<|And.intro @AJD<|And.intro @AJC<|And.intro @AJB<|And.intro @AJA<|And.intro @AIz<|And.intro @AIy<|And.intro @AIx<|And.intro @AIw<|And.intro @AIv<|And.intro @AIu<|And.intro @AIt<|And.intro @AIs<|And.intro @AIr<|And.intro @AIq<|And.intro @AIp<|And.intro (@zat (Nat×Obj))<|(@zai (Nat×Obj))):=And.intro @ANX <| And.intro @ANW <| And.intro @DY<|And.intro @AIL<|And.intro @AHr<|And.intro @AHs<|And.intro @AIE<|And.intro @AIk<|And.intro @VS<|And.intro @AHy<|And.intro @AIA<|And.intro @AFH<|And.intro @AAd<|And.intro @AAe<|And.intro @ACO<|And.intro @ACP<|And.intro @ANI<|And.intro @AId<|And.intro @YI<|And.intro @Xy<|And.intro @YB<|And.intro @YG<|And.intro @YA<|And.intro @YC<|And.intro @YD<|And.intro @YE<|And.intro @YF<|And.intro @YH<|And.intro @ACl<|And.intro @YK<|And.intro @YJ<|And.intro @sEq<|And.intro @sNe<|And.intro @sLt<|And.intro @sLe<|And.intro @sGt<|And.intro @sGe<|And.intro @UQ<|And.intro @AAh<|And.intro @Xd<|And.intro @Xc<|And.intro @Gn<|And.intro @NV<|And.intro @NY<|And.intro @NW<|And.intro @Ob<|And.intro @Oa<|And.intro @QJ<|And.intro @NZ<|And.intro @ACn<|And.intro @ACp<|And.intro @ACo<|And.intro @ACq<|And.intro @UM<|And.intro (@zam Value)<|And.intro (@zah Value)<|And.intro (@zaf Value)<|And.intro @zaA<|And.intro @Nat.add_zero<|And.intro @Nat.zero_mul<|And.intro (@List.drop_succ_cons Value)<|And.intro (@List.drop_zero Value)<|And.intro (@List.take_succ_cons Value)<|And.intro (@List.take_zero Value)<|And.intro (@zat Value)<|And.intro (@zai Value)<|And.intro (@List.drop_nil Value)<|And.intro (@List.take_nil Value)<|And.intro @ANU<|And.intro @ANT<|And.intro @ANR<|And.intro @ANQ<|And.intro @ANP<|And.intro @ANO<|And.intro @ANN<|And.intro @ANM<|And.intro @ANL<|And.intro @AJZ<|And.intro @AJY<|And.intro @AJX<|And.intro @AJW<|And.intro @AJV<|And.intro @AJU<|And.intro @AJT<|And.intro @AJS<|And.intro @AJR<|And.intro @AJQ<|And.intro @AJP<|And.intro @AJO<|And.intro @AJN<|And.intro @AJM<|And.intro @AJL<|And.intro @AJK<|And.intro @AJJ<|And.intro @AJI<|And.intro @AJH<|And.intro @AJG<|And.intro @AJF<|And.intro @AJE<|And.intro @AJD<|And.intro @AJC<|And.intro @AJB<|And.intro @AJA<|And.intro @AIz<|And.intro @AIy<|And.intro @AIx<|And.intro @AIw<|And.intro @AIv<|And.intro @AIu<|And.intro @AIt<|And.intro @AIs<|And.intro @AIr<|And.intro @AIq<|And.intro @AIp<|And.intro (@zat (Nat×Obj))<|(@zai (Nat×Obj))
theorem SSg:type_of% (And.intro @zQ<|And.intro @zG<|And.intro @Bool.and_self<|And.intro @Bool.true_and<|And.intro @decide_true<|And.intro @decide_false<|And.intro @QJ<|And.intro @NZ<|And.intro @ACn<|And.intro @ACp<|And.intro @ACo<|@ACq):=And.intro @zQ<|And.intro @zG<|And.intro @Bool.and_self<|And.intro @Bool.true_and<|And.intro @decide_true<|And.intro @decide_false<|And.intro @QJ<|And.intro @NZ<|And.intro @ACn<|And.intro @ACp<|And.intro @ACo<|@ACq
end Go.Proofs.YtkifgfanjcfedaaGreatDoor
namespace Go.SL
def YP:Nat→List Value→List (Nat×Value)
 |_,[]=>[]
 |i,v::r=>(i,v)::YP (i+1) r
theorem ACZ:∀(vs:List Value) (cs:Array Value) (off k:Nat),off+k+vs.length≤cs.size→(vs.zipIdx k).foldl (λcs (c,j)=>cs.setIfInBounds (off+j) c) cs=wr cs (off+k) vs
 |[],cs,off,k,_=>rfl
 |v::vs,cs,off,k,h=>by
  simp only [List.zipIdx_cons,List.foldl_cons,wr];simp only [zh] at h;exact ACZ vs (cs.setIfInBounds (off+k) v) off (k+1) zu
theorem Xf {n:Nat}:∀(vs:List Value) (k:Nat) (cells:Array Value),(∀v∈vs,v.cells.size=n)→(k+vs.length) * n≤cells.size→
  ∃r,Instr.fill (λi=>some (i * n,n)) cells (YP k vs)=some r∧r.toList=cells.toList.take (k * n)++vs.flatMap (·.cells.toList)++cells.toList.drop ((k+vs.length) * n)
 |[],k,cells,_,h=>⟨cells,rfl,by simp⟩
 |v::vs,k,cells,hv,h=>by
  have hv0:=hv v (zK ..);simp only [zh] at h;have e1:(k+1) * n=k * n+n:=by rw [zaC,Nat.one_mul]
  have e2:(k+(vs.length+1)) * n=(k+1+vs.length) * n:=by congr 1;omega
  have e3:(k+1) * n≤(k+1+vs.length) * n:=zaE n zo;have hsz:k * n+v.cells.size≤cells.size:=by omega
  simp only [YP,Instr.fill];rw [if_neg (by simp [hv0];omega)];have hf:v.cells.zipIdx.foldl (λcs (c,j)=>cs.setIfInBounds (k * n+j) c) cells=wr cells (k * n) v.cells.toList:=by
   rw [←Array.foldl_toList];simp only [Array.toList_zipIdx];exact ACZ v.cells.toList cells (k * n) 0 zu
  rw [hf];obtain ⟨r,h1,h2⟩:=Xf vs (k+1) (wr cells (k * n) v.cells.toList) (λu hu=>hv u (zN _ hu)) (by rw [Ot];omega);refine ⟨r,h1,?_⟩;rw [h2,SY _ _ _ zu];have hlt:(cells.toList.take (k * n)).length=k * n:=by rw [zaG,Array.length_toList];omega
  have hvl:v.cells.toList.length=n:=by rw [Array.length_toList,hv0]
  have e4:k * n+n≤(k+1+vs.length) * n:=by omega
  have e5:(k+(vs.length+1)) * n=(k+1+vs.length) * n:=e2;rw [hvl];simp only [List.toList_toArray,zbp,zh,e5,e1];have a1:(cells.toList.take (k * n)++v.cells.toList++cells.toList.drop (k * n+n)).take (k * n+n)=cells.toList.take (k * n)++v.cells.toList:=by
   rw [List.take_append_of_le_length (by rw [zn,hlt,hvl];exact zW _),zg (by rw [zn,hlt,hvl];exact zW _)]
  have a2:(cells.toList.take (k * n)++v.cells.toList++cells.toList.drop (k * n+n)).drop ((k+1+vs.length) * n)=cells.toList.drop ((k+1+vs.length) * n):=by
   rw [List.drop_append,zaa (by rw [zn,hlt,hvl];exact e4),zat,zbr,zn,hlt,hvl];congr 1
   omega
  rw [a1,a2];simp only [zi]
section
variable {I:Imm}{F:LH}{T n len:Nat}{z:Array Value}{parts:List (Nat×Value)}{K:Value→M}
theorem ARK (vs:List Value)(hp:parts=YP 0 vs)(hl:vs.length=len)(hv:∀v∈vs,v.cells.size=n)
  (hk:∀X a,SlO T n X (.slice a len len) (vs.flatMap (·.cells.toList)) len→Gh (K (.slice a len len)) I (X++F)):AU T n z len parts (gh K) I F:=by
 subst hp hl;obtain ⟨r,h1,h2⟩:=Xf vs 0 ((Array.range (vs.length * n)).map (z[· % z.size]!)) hv zy;have h2:r=(vs.flatMap (·.cells.toList)).toArray:=by
  apply Array.ext'
  rw [h2];simp only [Nat.zero_mul,List.take_zero,zat,zaA];rw [zaa zy,zao]
 subst h2;have hlen:(vs.flatMap (·.cells.toList)).length=vs.length * n:=by
  clear h1 h2 hk;induction vs with
  |nil=>simp
  |cons v vs ih=>
   have h0:=ih (λu hu=>hv u (zN _ hu));rw [zbp,zn,Array.length_toList,hv v (zK ..),h0,zh,zaC,Nat.one_mul,Nat.add_comm]
 refine ⟨_,h1,λb=>?_⟩;exact hk [(b,_)] _ ⟨hlen,.inr ⟨b,vs.length,_,rfl,rfl,by simp [hlen],zW _,λj u hu=>by simpa using hu⟩⟩
theorem ACj (vs:List Value)(hp:parts=YP 0 vs)(hl:vs.length=len)(hv:∀v∈vs,v.cells.size=n)
  (hk:∀I' a,Ext I I'→SlI I' n (.slice a len len) (vs.flatMap (·.cells.toList)) len→Gh (K (.slice a len len)) I' F):AU T n z len parts (gh K) I F:=
 ARK vs hp hl hv λX a h=>SlO.freeze h λI' hI hS=>hk I' a hI hS
end
def ACV (α:Type):Setoid (List α):=⟨List.Perm,List.Perm.refl,List.Perm.symm,List.Perm.trans⟩
def MS (α:Type):Type:=Quotient (ACV α)
def ms {α:Type}(l:List α):MS α:=Quotient.mk (ACV α) l
def ANG {α:Type}(a b:MS α):MS α:=Quotient.liftOn₂ a b (λx y=>ms (x++y)) (λ_ _ _ _ h1 h2=>Quotient.sound (s:=ACV α) (List.Perm.append h1 h2))
instance {α:Type}:Std.Associative (ANG (α:=α)):=⟨λa b c=>by
 refine Quotient.inductionOn₃ a b c λx y z=>?_;show ms (x++y++z)=ms (x++(y++z));rw [zi]⟩
instance {α:Type}:Std.Commutative (ANG (α:=α)):=⟨λa b=>by
 refine Quotient.inductionOn₂ a b λx y=>?_;exact Quotient.sound (s:=ACV α) List.perm_append_comm⟩
abbrev Key:=List UInt8
def Ie (k:Key):Value:=.string ⟨k.toArray⟩
def Ja (e:MapEntry):Key:=match e.key with
 | .string s=>s.data.toList
 |_=>[]
def fnd (k:Key):List MapEntry→Nat→Option (Nat×Value)
 |[],_=>none
 |e::r,i=>if Ja e=k then some (i,e.val) else fnd k r (i+1)
def Jc (m:Key→Option Value)(k:Key)(v:Option Value):Key→Option Value:=λq=>if q=k then v else m q
structure MapS (es:Array MapEntry)(clock:Nat)(m:Key→Option Value):Prop where
 str:∀e∈es.toList,∃s:ByteArray,e.key= .string s
 nod:(es.toList.map Ja).Nodup
 brn:∀e∈es.toList,e.born < clock
 bnd:(es.toList.map (·.born)).Nodup
 val:∀k,m k=(fnd k es.toList 0).map (·.2)
theorem AEl {a b:ByteArray}:(a==b)=decide (a.data.toList=b.data.toList):=by
 cases a with
 |mk a=>cases b with
  |mk b=>
   show (a==b)=_;rw [Bool.eq_iff_iff];simp only [beq_iff_eq,decide_eq_true_eq];exact ⟨λh=>by rw [h],λh=>by cases a;cases b;simpa using h⟩
theorem OU {k:Key}:∀{l:List MapEntry} {i:Nat},(∀e∈l,∃s:ByteArray,e.key= .string s)→Instr.findNow .string (Ie k) l i=some (fnd k l i)
 |[],_,_=>rfl
 |e::l,i,h=>by
  obtain ⟨s,hs⟩:=h e (zK ..);have ih:=OU (k:=k) (l:=l) (i:=i+1) (λx hx=>h x (zN _ hx));simp only [Instr.findNow,fnd,Ja,hs,Ie,Instr.sameNow];rw [AEl];by_cases hk:s.data.toList=k
  ·have:decide ((⟨k.toArray⟩:ByteArray).data.toList=s.data.toList)=true:=by simp [hk]
   rw [this,if_pos hk]
  ·have:decide ((⟨k.toArray⟩:ByteArray).data.toList=s.data.toList)=false:=by simp;exact λh=>hk h.symm
   rw [this,if_neg hk];exact ih
theorem MapS.find {es:Array MapEntry}{clock:Nat}{m:Key→Option Value}(h:MapS es clock m)(k:Key):Instr.findNow .string (Ie k) es.toList 0=some (fnd k es.toList 0):=OU h.str
theorem MapS.empty:MapS #[] 0 (λ_=>none):=⟨λe h=>by simp at h,by simp,λe h=>by simp at h,by simp,λk=>rfl⟩
theorem fnd_none {k:Key}:∀{l:List MapEntry} {i:Nat},fnd k l i=none↔k ∉ l.map Ja
 |[],_=>by simp [fnd]
 |e::l,i=>by
  simp only [fnd,zM,zZ,not_or];by_cases h:Ja e=k
  ·simp [h]
  ·rw [if_neg h,fnd_none (l:=l)];exact ⟨λh'=>⟨λe'=>h e'.symm,h'⟩,λh'=>h'.2⟩
theorem Xa {k:Key}:∀{l:List MapEntry} {i j:Nat} {v:Value},fnd k l i=some (j,v)→∃n e,j=i+n∧l[n]? =some e∧Ja e=k∧e.val=v
 |[],_,_,_,h=>by simp [fnd] at h
 |e::l,i,j,v,h=>by
  simp only [fnd] at h;split at h
  ·rename_i hk
   simp only [zf,zaV] at h;exact ⟨0,e,by omega,rfl,hk,h.2⟩
  ·obtain ⟨n,e',h1,h2,h3,h4⟩:=Xa h;exact ⟨n+1,e',by omega,by simpa using h2,h3,h4⟩
theorem KR {k:Key}:∀{l:List MapEntry} {i j:Nat},(fnd k l i).map (·.2)=(fnd k l j).map (·.2)
 |[],_,_=>rfl
 |e::l,i,j=>by
  simp only [fnd];split
  ·rfl
  ·exact KR
theorem RS {k:Key}:∀{l l':List MapEntry} {i:Nat},(fnd k (l++l') i).map (·.2)=match (fnd k l i).map (·.2) with
  |some v=>some v
  |none=>(fnd k l' 0).map (·.2)
 |[],l',i=>by simp only [zat,fnd,zbv];exact KR
 |e::l,l',i=>by
  simp only [zai,fnd];split
  ·rfl
  ·exact RS
theorem ACa {k q:Key}{v:Value}:∀{l:List MapEntry} {n:Nat} {e:MapEntry},l[n]? =some e→Ja e=k→(l.map Ja).Nodup→
  (fnd q (l.set n {e with key:=Ie k,val:=v}) 0).map (·.2)=if q=k then some v else (fnd q l 0).map (·.2)
 |[],n,e,h,_,_=>by simp at h
 |x::l,0,e,h,hk,hn=>by
  simp only [zah,zf] at h;subst h;have hko:Ja {x with key:=Ie k,val:=v}=k:=by simp [Ja,Ie]
  simp only [List.set_cons_zero,fnd,hko,hk];by_cases h:k=q
  ·simp [h]
  ·rw [if_neg h,if_neg (λe=>h e.symm),if_neg h]
 |x::l,n+1,e,h,hk,hn=>by
  simp only [zaf] at h;simp only [zM,zaS] at hn;simp only [zbj,fnd];have hmem:k∈l.map Ja:=zaz.2 ⟨e,zbc h,hk⟩;by_cases hx:Ja x=q
  ·rw [if_pos hx,if_pos hx,if_neg];intro e';rw [hx,e'] at hn;exact hn.1 hmem
  ·rw [if_neg hx,if_neg hx];have ih:=ACa (q:=q) (v:=v) h hk hn.2;rw [KR (j:=0),ih,KR (i:=0+1) (j:=0)]
theorem Wp {k:Key}{v:Value}:∀{l:List MapEntry} {n:Nat} {e:MapEntry},l[n]? =some e→Ja e=k→(l.set n {e with key:=Ie k,val:=v}).map Ja=l.map Ja
 |[],n,e,h,_=>by simp at h
 |x::l,0,e,h,hk=>by
  simp only [zah,zf] at h;subst h;simp [Ja,Ie] at hk ⊢;exact hk.symm
 |x::l,n+1,e,h,hk=>by
  simp only [zaf] at h;simp only [zbj,zM,Wp h hk]
theorem TI {k:Key}{v:Value}:∀{l:List MapEntry} {n:Nat} {e:MapEntry},l[n]? =some e→(l.set n {e with key:=Ie k,val:=v}).map (·.born)=l.map (·.born)
 |[],n,e,h=>by simp at h
 |x::l,0,e,h=>by
  simp only [zah,zf] at h;subst h;simp
 |x::l,n+1,e,h=>by
  simp only [zaf] at h;simp only [zbj,zM,TI (k:=k) h]
def AKR (k:Key)(v:Value)(es:Array MapEntry)(clock:Nat):Obj:=match fnd k es.toList 0 with
 |some (i,_)=>.map (es.modify i λe=>{e with key:=Ie k,val:=v}) clock
 |none=>.map (es.push {key:=Ie k,val:=v,born:=clock}) (clock+1)
theorem RH {α:Type}{a:Array α}{i:Nat}{f:α→α}{x:α}(h:a.toList[i]? =some x):(a.modify i f).toList=a.toList.set i (f x):=by
 have hlt:i < a.size:=by
  have:=(zY.1 h).1;simpa using this
 apply List.ext_getElem?
 intro j;simp only [Array.getElem?_toList,Array.getElem?_modify];rw [List.getElem?_set];by_cases e:i=j
 ·subst e;simp only [Array.getElem?_toList] at h;rw [h];simp [hlt]
 ·simp [e]
theorem MapS.put {es:Array MapEntry}{clock:Nat}{m:Key→Option Value}(h:MapS es clock m)(k:Key)(v:Value):∃es' clock',AKR k v es clock= .map es' clock'∧MapS es' clock' (Jc m k (some v)):=by
 unfold AKR;cases hf:fnd k es.toList 0 with
 |none=>
  refine ⟨_,_,rfl,?_⟩;have hn:=fnd_none.1 hf;have hl:(es.push {key:=Ie k,val:=v,born:=clock}).toList=es.toList++[{key:=Ie k,val:=v,born:=clock}]:=by simp
  have hko:Ja {key:=Ie k,val:=v,born:=clock}=k:=by simp [Ja,Ie]
  refine ⟨λe he=>?_,?_,λe he=>?_,?_,λq=>?_⟩
  ·rw [hl] at he;rcases zal.1 he with he|he
   ·exact h.str e he
   ·simp only [zX] at he;subst he;exact ⟨_,rfl⟩
  ·rw [hl,zab,zbq];refine ⟨h.nod,by simp,λa ha b hb=>?_⟩;simp only [zM,zay,zX,hko] at hb;subst hb;exact λe=>hn (e ▸ ha)
  ·rw [hl] at he;rcases zal.1 he with he|he
   ·have:=h.brn e he;omega
   ·simp only [zX] at he;subst he;simp
  ·rw [hl,zab,zbq];refine ⟨h.bnd,by simp,λa ha b hb=>?_⟩;simp only [zM,zay,zX] at hb;subst hb;obtain ⟨e,he,rfl⟩:=zaz.1 ha;have:=h.brn e he;omega
  ·rw [hl,RS,←h.val q];unfold Jc;by_cases e:q=k
   ·subst e;rw [if_pos rfl,h.val q,hf];simp [fnd,hko]
   ·rw [if_neg e];have hf0:fnd q [{key:=Ie k,val:=v,born:=clock}] 0=none:=by
     simp only [fnd,hko];rw [if_neg (λe'=>e (Eq.symm e'))]
    rw [hf0];cases m q <;> rfl
 |some p=>
  obtain ⟨i,u⟩:=p;obtain ⟨n,e,h1,h2,h3,h4⟩:=Xa hf;obtain rfl:i=n:=by omega
  refine ⟨_,_,rfl,?_⟩;have hl:=RH (f:=λe=>{e with key:=Ie k,val:=v}) h2;refine ⟨λx hx=>?_,?_,λx hx=>?_,?_,λq=>?_⟩
  ·rw [hl] at hx;rcases List.mem_or_eq_of_mem_set hx with hx|rfl
   ·exact h.str x hx
   ·exact ⟨_,rfl⟩
  ·rw [hl,Wp h2 h3];exact h.nod
  ·rw [hl] at hx;rcases List.mem_or_eq_of_mem_set hx with hx|rfl
   ·exact h.brn x hx
   ·exact h.brn e (zbc h2)
  ·rw [hl,TI (k:=k) h2];exact h.bnd
  ·rw [hl,ACa h2 h3 h.nod,←h.val q];rfl
section rules
variable {I:Imm}{L:LH}{K:Value→M}{b:Nat}{es:Array MapEntry}{clock:Nat}{m:Key→Option Value}{k:Key}{v:Value}{S:M}
def lkV (zero:Value)(ok:Bool):Option Value→Value
 |some u=>if ok then .tuple #[u,.bool true] else u
 |none=>if ok then .tuple #[zero,.bool false] else zero
theorem ASu {zero:Value}{ok:Bool}(h:MapS es clock m):(match fnd k es.toList 0 with
  |some (_,u)=>if ok then .tuple #[u,.bool true] else u
  |none=>if ok then .tuple #[zero,.bool false] else zero)=lkV zero ok (m k):=by
 rw [h.val k];cases fnd k es.toList 0 <;> rfl
theorem ANH {zero:Value}{ok:Bool}(ha:MapAt I L b es clock)(h:MapS es clock m):lkR .string zero ok (.map (some b)) (Ie k) I L (lkV zero ok (m k)):=
 ⟨es,_,.inr ⟨b,clock,rfl,ha⟩,h.find k,(ASu h).symm⟩
theorem lkm {zero:Value}{ok:Bool}[hin:InL b L (.map es clock)](h:MapS es clock m)(hk:K (lkV zero ok (m k)) I L):Rv none (lkR .string zero ok (.map (some b)) (Ie k)) K I L:=
 ⟨_,ANH (.inl hin.mem) h,hk⟩
theorem Ol {L':LH}{es':Array MapEntry}{clock':Nat}(h:MapS es clock m)(he:AKR k v es clock= .map es' clock')[u:UpL b L (.map es clock) (.map es' clock') L'](hk:K undef I L'):
  ES .string (.map (some b)) (Ie k) v K I L:=by
 obtain ⟨L1,L2,rfl,rfl⟩:=u.up;refine ⟨b,es,clock,L1,L2,_,rfl,rfl,h.find k,?_⟩;unfold AKR at he;cases hf:fnd k es.toList 0 with
 |none=>rw [hf] at he;simp only at he ⊢;rw [he];exact hk
 |some p=>obtain ⟨i,w⟩:=p;rw [hf] at he;simp only at he ⊢;rw [he];exact hk
theorem AHt (hk:∀b,K (.map (some b)) I ((b,.map #[] 0)::L)):WF K I L:=hk
end rules
theorem CalV.mono {P:Program}{ω:Om}{x:Value}{args:Array Value}{K K':Value→M}{I:Imm}{L:LH}(h:CalV P ω x args K I L)(hk:∀v I' L',K v I' L'→K' v I' L'):CalV P ω x args K' I L:=by
 match x,h with
 | .func (.func f) first cap,h=>
  simp only [CalV] at h ⊢;by_cases he:Ce P f=true
  ·rw [if_pos he] at h ⊢;exact Cal.mono h hk
  ·rw [if_neg he] at h ⊢;cases hx:RY P f with
   |none=>rw [hx] at h;exact h.elim
   |some e=>
    rw [hx] at h;intro w hs;obtain ⟨v,w',I',L',h1,h2,h3⟩:=h w hs;exact ⟨v,w',I',L',h1,h2,hk _ _ _ h3⟩
 | .func (.yield l) first cap,h=>
  intro w hs;obtain ⟨f,tmps,assign,body,h1,h2⟩:=h w hs;exact ⟨f,tmps,assign,body,h1,RoundIn.mono h2 λe w' ⟨v,I',L',e1,e2,e3⟩=>⟨v,I',L',e1,e2,hk _ _ _ e3⟩⟩
section iter
variable {I:Imm}{L0:LH}{K:Value→M}{b r clock:Nat}{es:Array MapEntry}{m:Key→Option Value}{vis:List MapEntry}
end iter
abbrev Hy:=Int
def FB (k:Hy):Value:=.int .i64 k
def Fb (e:MapEntry):Hy:=match e.key with
 | .int _ n=>n
 |_=>0
def Es (k:Hy):List MapEntry→Nat→Option (Nat×Value)
 |[],_=>none
 |e::r,i=>if Fb e=k then some (i,e.val) else Es k r (i+1)
def EZ (m:Hy→Option Value)(k:Hy)(v:Option Value):Hy→Option Value:=λq=>if q=k then v else m q
structure MapSi (es:Array MapEntry)(clock:Nat)(m:Hy→Option Value):Prop where
 str:∀e∈es.toList,∃s:Int,e.key= .int .i64 s
 nod:(es.toList.map Fb).Nodup
 brn:∀e∈es.toList,e.born < clock
 bnd:(es.toList.map (·.born)).Nodup
 val:∀k,m k=(Es k es.toList 0).map (·.2)
theorem NQ {k:Hy}:∀{l:List MapEntry} {i:Nat},(∀e∈l,∃s:Int,e.key= .int .i64 s)→Instr.findNow (.int .i64) (FB k) l i=some (Es k l i)
 |[],_,_=>rfl
 |e::l,i,h=>by
  obtain ⟨s,hs⟩:=h e (zK ..);have ih:=NQ (k:=k) (l:=l) (i:=i+1) (λx hx=>h x (zN _ hx));simp only [Instr.findNow,Es,Fb,hs,FB,Instr.sameNow,if_true];by_cases hk:s=k
  ·have:(k==s)=true:=by simp [hk]
   rw [this,if_pos hk]
  ·have:(k==s)=false:=by simp;exact λh=>hk h.symm
   rw [this,if_neg hk];exact ih
theorem MapSi.find {es:Array MapEntry}{clock:Nat}{m:Hy→Option Value}(h:MapSi es clock m)(k:Hy):Instr.findNow (.int .i64) (FB k) es.toList 0=some (Es k es.toList 0):=NQ h.str
theorem MapSi.empty:MapSi #[] 0 (λ_=>none):=⟨λe h=>by simp at h,by simp,λe h=>by simp at h,by simp,λk=>rfl⟩
theorem fnd_nonei {k:Hy}:∀{l:List MapEntry} {i:Nat},Es k l i=none↔k ∉ l.map Fb
 |[],_=>by simp [Es]
 |e::l,i=>by
  simp only [Es,zM,zZ,not_or];by_cases h:Fb e=k
  ·simp [h]
  ·rw [if_neg h,fnd_nonei (l:=l)];exact ⟨λh'=>⟨λe'=>h e'.symm,h'⟩,λh'=>h'.2⟩
theorem Tv {k:Hy}:∀{l:List MapEntry} {i j:Nat} {v:Value},Es k l i=some (j,v)→∃n e,j=i+n∧l[n]? =some e∧Fb e=k∧e.val=v
 |[],_,_,_,h=>by simp [Es] at h
 |e::l,i,j,v,h=>by
  simp only [Es] at h;split at h
  ·rename_i hk
   simp only [zf,zaV] at h;exact ⟨0,e,by omega,rfl,hk,h.2⟩
  ·obtain ⟨n,e',h1,h2,h3,h4⟩:=Tv h;exact ⟨n+1,e',by omega,by simpa using h2,h3,h4⟩
theorem JI {k:Hy}:∀{l:List MapEntry} {i j:Nat},(Es k l i).map (·.2)=(Es k l j).map (·.2)
 |[],_,_=>rfl
 |e::l,i,j=>by
  simp only [Es];split
  ·rfl
  ·exact JI
theorem OT {k:Hy}:∀{l l':List MapEntry} {i:Nat},(Es k (l++l') i).map (·.2)=match (Es k l i).map (·.2) with
  |some v=>some v
  |none=>(Es k l' 0).map (·.2)
 |[],l',i=>by simp only [zat,Es,zbv];exact JI
 |e::l,l',i=>by
  simp only [zai,Es];split
  ·rfl
  ·exact OT
theorem Xb {k q:Hy}{v:Value}:∀{l:List MapEntry} {n:Nat} {e:MapEntry},l[n]? =some e→Fb e=k→(l.map Fb).Nodup→
  (Es q (l.set n {e with key:=FB k,val:=v}) 0).map (·.2)=if q=k then some v else (Es q l 0).map (·.2)
 |[],n,e,h,_,_=>by simp at h
 |x::l,0,e,h,hk,hn=>by
  simp only [zah,zf] at h;subst h;have hko:Fb {x with key:=FB k,val:=v}=k:=by simp [Fb,FB]
  simp only [List.set_cons_zero,Es,hko,hk];by_cases h:k=q
  ·simp [h]
  ·rw [if_neg h,if_neg (λe=>h e.symm),if_neg h]
 |x::l,n+1,e,h,hk,hn=>by
  simp only [zaf] at h;simp only [zM,zaS] at hn;simp only [zbj,Es];have hmem:k∈l.map Fb:=zaz.2 ⟨e,zbc h,hk⟩;by_cases hx:Fb x=q
  ·rw [if_pos hx,if_pos hx,if_neg];intro e';rw [hx,e'] at hn;exact hn.1 hmem
  ·rw [if_neg hx,if_neg hx];have ih:=Xb (q:=q) (v:=v) h hk hn.2;rw [JI (j:=0),ih,JI (i:=0+1) (j:=0)]
theorem TG {k:Hy}{v:Value}:∀{l:List MapEntry} {n:Nat} {e:MapEntry},l[n]? =some e→Fb e=k→(l.set n {e with key:=FB k,val:=v}).map Fb=l.map Fb
 |[],n,e,h,_=>by simp at h
 |x::l,0,e,h,hk=>by
  simp only [zah,zf] at h;subst h;simp [Fb,FB] at hk ⊢;exact hk.symm
 |x::l,n+1,e,h,hk=>by
  simp only [zaf] at h;simp only [zbj,zM,TG h hk]
theorem Qj {k:Hy}{v:Value}:∀{l:List MapEntry} {n:Nat} {e:MapEntry},l[n]? =some e→(l.set n {e with key:=FB k,val:=v}).map (·.born)=l.map (·.born)
 |[],n,e,h=>by simp at h
 |x::l,0,e,h=>by
  simp only [zah,zf] at h;subst h;simp
 |x::l,n+1,e,h=>by
  simp only [zaf] at h;simp only [zbj,zM,Qj (k:=k) h]
def ACK (k:Hy)(v:Value)(es:Array MapEntry)(clock:Nat):Obj:=match Es k es.toList 0 with
 |some (i,_)=>.map (es.modify i λe=>{e with key:=FB k,val:=v}) clock
 |none=>.map (es.push {key:=FB k,val:=v,born:=clock}) (clock+1)
theorem MapSi.put {es:Array MapEntry}{clock:Nat}{m:Hy→Option Value}(h:MapSi es clock m)(k:Hy)(v:Value):∃es' clock',ACK k v es clock= .map es' clock'∧MapSi es' clock' (EZ m k (some v)):=by
 unfold ACK;cases hf:Es k es.toList 0 with
 |none=>
  refine ⟨_,_,rfl,?_⟩;have hn:=fnd_nonei.1 hf;have hl:(es.push {key:=FB k,val:=v,born:=clock}).toList=es.toList++[{key:=FB k,val:=v,born:=clock}]:=by simp
  have hko:Fb {key:=FB k,val:=v,born:=clock}=k:=by simp [Fb,FB]
  refine ⟨λe he=>?_,?_,λe he=>?_,?_,λq=>?_⟩
  ·rw [hl] at he;rcases zal.1 he with he|he
   ·exact h.str e he
   ·simp only [zX] at he;subst he;exact ⟨_,rfl⟩
  ·rw [hl,zab,zbq];refine ⟨h.nod,by simp,λa ha b hb=>?_⟩;simp only [zM,zay,zX,hko] at hb;subst hb;exact λe=>hn (e ▸ ha)
  ·rw [hl] at he;rcases zal.1 he with he|he
   ·have:=h.brn e he;omega
   ·simp only [zX] at he;subst he;simp
  ·rw [hl,zab,zbq];refine ⟨h.bnd,by simp,λa ha b hb=>?_⟩;simp only [zM,zay,zX] at hb;subst hb;obtain ⟨e,he,rfl⟩:=zaz.1 ha;have:=h.brn e he;omega
  ·rw [hl,OT,←h.val q];unfold EZ;by_cases e:q=k
   ·subst e;rw [if_pos rfl,h.val q,hf];simp [Es,hko]
   ·rw [if_neg e];have hf0:Es q [{key:=FB k,val:=v,born:=clock}] 0=none:=by
     simp only [Es,hko];rw [if_neg (λe'=>e (Eq.symm e'))]
    rw [hf0];cases m q <;> rfl
 |some p=>
  obtain ⟨i,u⟩:=p;obtain ⟨n,e,h1,h2,h3,h4⟩:=Tv hf;obtain rfl:i=n:=by omega
  refine ⟨_,_,rfl,?_⟩;have hl:=RH (f:=λe=>{e with key:=FB k,val:=v}) h2;refine ⟨λx hx=>?_,?_,λx hx=>?_,?_,λq=>?_⟩
  ·rw [hl] at hx;rcases List.mem_or_eq_of_mem_set hx with hx|rfl
   ·exact h.str x hx
   ·exact ⟨_,rfl⟩
  ·rw [hl,TG h2 h3];exact h.nod
  ·rw [hl] at hx;rcases List.mem_or_eq_of_mem_set hx with hx|rfl
   ·exact h.brn x hx
   ·exact h.brn e (zbc h2)
  ·rw [hl,Qj (k:=k) h2];exact h.bnd
  ·rw [hl,Xb h2 h3 h.nod,←h.val q];rfl
section rules
variable {I:Imm}{L:LH}{K:Value→M}{b:Nat}{es:Array MapEntry}{clock:Nat}{m:Hy→Option Value}{k:Hy}{v:Value}{S:M}
theorem AOI {zero:Value}{ok:Bool}(h:MapSi es clock m):(match Es k es.toList 0 with
  |some (_,u)=>if ok then .tuple #[u,.bool true] else u
  |none=>if ok then .tuple #[zero,.bool false] else zero)=lkV zero ok (m k):=by
 rw [h.val k];cases Es k es.toList 0 <;> rfl
theorem AOJ {zero:Value}{ok:Bool}(ha:MapAt I L b es clock)(h:MapSi es clock m):lkR (.int .i64) zero ok (.map (some b)) (FB k) I L (lkV zero ok (m k)):=
 ⟨es,_,.inr ⟨b,clock,rfl,ha⟩,h.find k,(AOI h).symm⟩
theorem ASt {zero:Value}{ok:Bool}[hin:InL b L (.map es clock)](h:MapSi es clock m)(hk:K (lkV zero ok (m k)) I L):Rv none (lkR (.int .i64) zero ok (.map (some b)) (FB k)) K I L:=
 ⟨_,AOJ (.inl hin.mem) h,hk⟩
theorem FZ {L':LH}{es':Array MapEntry}{clock':Nat}(h:MapSi es clock m)(he:ACK k v es clock= .map es' clock')[u:UpL b L (.map es clock) (.map es' clock') L'](hk:K undef I L'):
  ES (.int .i64) (.map (some b)) (FB k) v K I L:=by
 obtain ⟨L1,L2,rfl,rfl⟩:=u.up;refine ⟨b,es,clock,L1,L2,_,rfl,rfl,h.find k,?_⟩;unfold ACK at he;cases hf:Es k es.toList 0 with
 |none=>rw [hf] at he;simp only at he ⊢;rw [he];exact hk
 |some p=>obtain ⟨i,w⟩:=p;rw [hf] at he;simp only at he ⊢;rw [he];exact hk
end rules
section iter
variable {I:Imm}{L0:LH}{K:Value→M}{b r clock:Nat}{es:Array MapEntry}{m:Hy→Option Value}{vis:List MapEntry}
end iter
end Go.SL
namespace Go.Proofs.YtkifgfanjcfedaaGreatDoor
open Go.SL
class Foc (b:Nat) (L:LH) (o:outParam Obj) (C:outParam (Obj→LH)):Prop where
 foc:∃L1 L2,L=L1++(b,o)::L2∧C=λo'=>L1++(b,o')::L2
instance focRight (b:Nat)(A L:LH)(o:Obj)(C:Obj→LH)[h:Foc b L o C]:Foc b (A++L) o (λo'=>A++C o'):=by
 obtain ⟨L1,L2,rfl,rfl⟩:=h.foc;exact ⟨A++L1,L2,by simp,by simp⟩
instance focThere (b:Nat)(x:Nat×Obj)(L:LH)(o:Obj)(C:Obj→LH)[h:Foc b L o C]:Foc b (x::L) o (λo'=>x::C o'):=by
 obtain ⟨L1,L2,rfl,rfl⟩:=h.foc;exact ⟨x::L1,L2,rfl,rfl⟩
instance focHere (b:Nat)(L:LH)(o:Obj):Foc b ((b,o)::L) o (λo'=>(b,o')::L):=⟨[],L,rfl,rfl⟩
instance (priority:=95) lsubCC (L L':LH)(y:Nat×Obj)[h:LSub L L']:LSub (y::L) (y::L'):=⟨λx hx=>by
 rcases zZ.1 hx with rfl|hx
 ·exact zK ..
 ·exact zN _ (h.sub x hx)⟩
instance (priority:=95) lsubAA (A L L':LH)[h:LSub L L']:LSub (A++L) (A++L'):=⟨λx hx=>by
 rcases zal.1 hx with hx|hx
 ·exact zaq _ hx
 ·exact zba _ (h.sub x hx)⟩
instance delApp (b:Nat)(A L X:LH)[h:DelB b L X]:DelB b (A++L) (A++X):=⟨λx hx=>by
 rcases zal.1 hx with hx|hx
 ·exact zaq _ hx
 ·exact zba _ (h.sub x hx)⟩
theorem CX {I:Imm}{L X:LH}{B:M→M}{b:Nat}[h:DelB b L X](hB:B (Stay I X) I L):Bg B I L:=draw _ ⟨zAC I,h.sub⟩ hB
section
variable {α:Type}{R:Imm→α→List Value→Prop}{I:Imm}{L:LH}{K:Value→M}
theorem TN {R:α→List Value→Prop}{n:Nat}:∀{xs:List α} {cs:List (List Value)},(∀c∈cs,c.length=n)→xs.length=cs.length→(∀p∈xs.zip cs,R p.1 p.2)→Recs R n xs cs.flatten
 |[],[],_,_,_=>rfl
 |x::xs,c::cs,h1,h2,h3=>by
  have hc:=h1 c (zK ..);rw [zaD];exact zAS (Recs.one hc (h3 (x,c) (zK ..))) (TN (λd hd=>h1 d (zN _ hd)) (by simpa using h2) (λp hp=>h3 p (zN _ hp)))
theorem EQ {T n len:Nat}{z:Array Value}{parts:List (Nat×Value)}(xs:List α)(cs:List (List Value))(hp:parts=YP 0 (cs.map λc=>.agg c.toArray))(hl:cs.length=len)(hx:xs.length=cs.length)(hn:∀c∈cs,c.length=n)
  (hR:∀p∈xs.zip cs,R I p.1 p.2) (hm:∀{I I':Imm} {x:α} {c:List Value},Ext I I'→R I x c→R I' x c)
  (hk:∀I' a,Ext I I'→RL R n I' [] (.slice a len len) xs→Gh (K (.slice a len len)) I' L):AU T n z len parts (gh K) I L:=by
 refine ACj (cs.map λc=>.agg c.toArray) hp (by simp [hl]) (by simp only [zaz];rintro v ⟨c,hc,rfl⟩;simpa [Value.cells] using hn c hc) (λI' a hI hS=>hk I' a hI ?_);subst hl;rw [←hx] at hS ⊢;refine RL.ofI hS ?_;have:(cs.map λc=>Value.agg c.toArray).flatMap (·.cells.toList)=cs.flatten:=by
  clear hS hp hn hR hx hk;induction cs with
  |nil=>rfl
  |cons c cs ih=>
   rw [zM,zbp,zaD,ih];rfl
 rw [this];exact TN hn hx λp hp=>hm hI (hR p hp)
theorem DT {T len:Nat}{z:Array Value}{parts:List (Nat×Value)}(xs:List Bs)(hp:parts=YP 0 (xs.map λc=>.string ⟨c.toArray⟩))(hl:xs.length=len)
  (hk:∀I' a,Ext I I'→StL I' (.slice a len len) xs→Gh (K (.slice a len len)) I' L):AU T 1 z len parts (gh K) I L:=by
 refine ACj (n:=1) (xs.map λc=>.string ⟨c.toArray⟩) hp (by simp [hl]) (by simp only [zaz];rintro v ⟨c,hc,rfl⟩;rfl) (λI' a hI hS=>hk I' a hI ?_);subst hl;refine RL.ofI hS ?_;clear hS hp hk;induction xs with
 |nil=>rfl
 |cons c cs ih=>exact ⟨rfl,rfl,ih⟩
end
def TokV (_:Imm)(t:Tok)(c:List Value):Prop:=c=[.int .i64 t.kind,.int .i64 t.at',.string ⟨t.text.toArray⟩,.int .i64 t.num]
theorem TokV.mono {I I':Imm}{t:Tok}{c:List Value}(h:TokV I t c):TokV I' t c:=h
abbrev TL (I:Imm)(v:Value)(l:List Tok):Prop:=RL TokV 4 I [] v l
theorem TL.mono {I I':Imm}{v:Value}{l:List Tok}(h:TL I v l)(hI:Ext I I'):TL I' v l:=zAL (λ_ _ h=>TokV.mono h) h hI (λ_ h=>h)
def UN (t:Tok):Prop:=t.kind≠6∧(t.kind=2→t.text∈wordsL)∧(t.kind=5→t.text∈signsL)∧(t.kind=3→0≤t.num∧t.num≤9223372036854775807)
def Toks:List Tok→Prop
 |[]=>False
 |[t]=>t.kind=6
 |t::u::l=>UN t∧Toks (u::l)
theorem Toks.ne {l:List Tok}(h:Toks l):∃t r,l=t::r:=by
 match l,h with
 |t::r,_=>exact ⟨t,r,rfl⟩
theorem Toks.tail {l:List Tok}(h:Toks l)(hk:(hd l).kind≠6):Toks l.tail:=by
 match l,h with
 |[t],h=>exact absurd h hk
 |t::u::r,h=>exact h.2
theorem Toks.ok {l:List Tok}(h:Toks l)(hk:(hd l).kind≠6):UN (hd l):=by
 match l,h with
 |[t],h=>exact absurd h hk
 |t::u::r,h=>exact h.1
theorem NL {l:List Tok}{s:Bs}(h:isT l s=true):(hd l).kind≠6:=by
 simp only [isT,zF,zaF,beq_iff_eq] at h;rcases h.1 with h|h <;> omega
theorem Toks.tailT {l:List Tok}{s:Bs}(h:Toks l)(hs:isT l s=true):Toks l.tail:=h.tail (NL hs)
theorem Ih {l:List Tok}{k:Int}(h:isK l k=true):(hd l).kind=k:=by simpa [isK] using h
theorem Toks.tailK {l:List Tok}{k:Int}(h:Toks l)(hs:isK l k=true)(hk:k≠6:=by decide):Toks l.tail:=h.tail (by rw [Ih hs];exact hk)
theorem Toks.len {l:List Tok}(h:Toks l):l.tail.length+1=l.length:=by
 obtain ⟨t,r,rfl⟩:=h.ne;rfl
abbrev PBo (v:Value):Obj:=.cells [v].toArray 91 (0,0)
def Fh (e:Nat):Value:=.iface 87 (.agg #[.int .i64 e])
abbrev AL (b:Nat):Value:=.pointer (some ⟨b,0,none⟩)
abbrev POk {α:Type}(g:Res α)(V:Imm→α→Value→Prop)(n:Nat)(K:Value→M)(C:Obj→LH)(I:Imm):Prop:=
 ∀x r,g= .ok x r→Toks r→r.length≤n→∀I' v' c,Ext I I'→TL I' v' r→V I' x c→K c I' (C (PBo v'))
abbrev PEr {α:Type}(g:Res α)(Pn:Value→M)(C:Obj→LH)(I:Imm):Prop:=∀e,g= .err e→∀I' v',Ext I I'→Pn (Fh e) I' (C (PBo v'))
section
variable {ω:Om}{I:Imm}{L:LH}{K Pn:Value→M}{C:Obj→LH}{b:Nat}{v:Value}{l:List Tok}
theorem TL.hd (h:TL I v l)(hT:Toks l):∃bt off,ixV 4 v (.int .i64 0)=some (.pointer (some ⟨bt,off,none⟩))∧∀I' L',Ext I I'→Cells I' L' bt off [.int .i64 (hd l).kind,.int .i64 (hd l).at',.string ⟨(hd l).text.toArray⟩,.int .i64 (hd l).num]:=by
 obtain ⟨t,r,rfl⟩:=hT.ne;obtain ⟨bt,off,c,h1,_,h2,h3⟩:=zAR h (i:=0) zo zy;refine ⟨bt,off,h1,λI' L' hI=>?_⟩;have:Lj (t::r) 0=t:=rfl;rw [this] at h2;rw [show c=_ from h2] at h3;exact h3 I' L' hI (λ_ h=>by cases h)
theorem TL.tl (h:TL I v l)(hT:Toks l):∃v',Gw 4 v (some (.int .i64 1)) none none=some v'∧v'.oneCell'=true∧TL I v' l.tail:=by
 obtain ⟨t,r,rfl⟩:=hT.ne;obtain ⟨v',h1,h2⟩:=RL.part h (lo:=1) (hi:=(t::r).length) zy (zW _) (some (.int .i64 1)) none (by simp [EF];omega) (λcap hc=>by simp [EF]);refine ⟨v',h1,?_,by simpa using h2⟩;obtain ⟨a,c,rfl⟩:=h2.form;rfl
theorem zqa {P Q:Prop}(k:Q)(h:Q→P:=by intro hq;first|(with_reducible refine BM ?_;exact hq)|(with_reducible refine EN ?_;exact hq)|(with_reducible refine EM ?_;exact hq)|(with_reducible refine keepA ?_;exact hq)):P:=h k
theorem zqr {P Q:Prop}(k:Q)(h:Q→P:=by intro hq;first|(with_reducible refine rdb ?_;exact hq)):P:=h k
theorem zqb {P Q:Prop}(k:Q)(h:Q→P:=by intro hq;first|((with_reducible first|refine st1 ?_ ?_|refine rdB ?_ ?_);rfl;exact hq)|(with_reducible refine CB ?_;exact hq)|((with_reducible refine GK ?_ ?_);rfl;exact hq)|((with_reducible refine stB ?_ ?_ ?_ ?_);rfl;rfl;exact AY rfl;exact hq)|((with_reducible first|refine rdP _ rfl ?_ ?_|refine IX _ rfl ?_ ?_);rfl;exact hq)|((with_reducible refine stP _ rfl ?_ ?_ ?_ ?_);rfl;rfl;rfl;exact hq)):P:=h k
theorem zqc {P Q:Prop}(k:Q)(h:Q→P:=by intro hq;first|(simp only [SSg,Int.reduceBEq,Int.reduceBNe,Int.reduceLT,Int.reduceLE,beq_self_eq_true,bne_self_eq_false];exact hq)):P:=h k
theorem zqe {P Q:Prop}(k:Q)(h:Q→P:=by intro hq;first|(simp only [SSd,Nat.reduceAdd];exact hq)):P:=h k
theorem zqg {P A B C D:Prop}(k:A→C)(l:B→D)(h:(A→C)→(B→D)→P:=by intro h1 h2;with_reducible first|exact BD h1 h2|exact AB h1 h2):P:=h k l
theorem zqh {P:Prop}{α:Type}{Q:α→Prop}(k:∀x,Q x)(h:(∀x,Q x)→P:=by intro h;with_reducible exact AQ h):P:=h k
theorem zqi {P A B:Prop}(k:A)(l:B)(h:A→B→P:=by intro h1 h2;with_reducible exact And.intro h1 h2):P:=h k l
theorem JG (s:Bs)[hF:Foc b L (PBo v) C](h:TL I v l)(hT:Toks l)(ht:isT l s=true→K (.bool true) I L)(hf:isT l s=false→K (.bool false) I L):CT ω 45 #[AL b,.string ⟨s.toArray⟩] K I L:=by
 obtain ⟨L1,L2,rfl,rfl⟩:=hF.foc;obtain ⟨bt,off,h1,h2⟩:=h.hd hT;refine AUI ?_;unfold ASJ;have hk:∀{x:Bool} {L':LH},(isT l s=x)→SubP (L1++(b,PBo v)::L2) L'→Gh (K (.bool x)) I L':=by
  intro x L' hx hs;refine zAE (L1++(b,PBo v)::L2) (zAA ?_);cases x
  ·exact hf hx
  ·exact ht hx
 simp only [PBo];repeat' (first|refine zqa ?_|refine zqh (λ_=>?_)|(refine Ep (h2 _ [] (zAC _)) (zAC _) rfl ?_)|refine zqr ?_|refine zqb ?_|refine zqi ?_ ?_|refine zqc ?_|refine zqg (λ_=>?_) (λ_=>?_)|(simp only [SSd,Nat.reduceAdd,h1]))
 all_goals (first|exact hk (by simp_all [isT]) inferInstance|skip)
theorem Ak [hF:Foc b L (PBo v) C](h:TL I v l)(hT:Toks l)(hp:Pn (Fh (hd l).at') I L):CalP Tryz.prog ω 46 #[AL b] K Pn I L:=by
 obtain ⟨L1,L2,rfl,rfl⟩:=hF.foc;obtain ⟨bt,off,h1,h2⟩:=h.hd hT;refine AUH ?_;unfold ASI;have hp:Gh (Pn (Fh (hd l).at')) I (L1++(b,PBo v)::L2):=zAA hp;simp only [PBo] at hp ⊢;repeat' (first|refine zqa ?_|refine zqh (λ_=>?_)|(refine rd1 ((h2 _ [] (zAC _) 1 _ rfl).mono (zAC _) (λ_ h=>by cases h)) ?_)|refine zqr ?_|refine zqb ?_|refine zqi ?_ ?_|refine zqc ?_|refine zqg (λ_=>?_) (λ_=>?_)|(simp only [SSd,Nat.reduceAdd,h1]))
 exact hp
theorem IW [hF:Foc b L (PBo v) C](h:TL I v l)(hT:Toks l)(hk:∀v',TL I v' l.tail→K (.agg #[.int .i64 (hd l).kind,.int .i64 (hd l).at',.string ⟨(hd l).text.toArray⟩,.int .i64 (hd l).num]) I (C (PBo v'))):
  CT ω 93 #[AL b] K I L:=by
 obtain ⟨L1,L2,rfl,rfl⟩:=hF.foc;obtain ⟨bt,off,h1,h2⟩:=h.hd hT;obtain ⟨v',h3,h4,h5⟩:=h.tl hT;have hk:Gh (K (.agg #[.int .i64 (hd l).kind,.int .i64 (hd l).at',.string ⟨(hd l).text.toArray⟩,.int .i64 (hd l).num])) I (L1++(b,PBo v')::L2):=zAA (hk v' h5);refine ATa ?_;unfold ARf;simp only [PBo] at hk ⊢;repeat' (first|refine zqa ?_|refine zqh (λ_=>?_)|(refine Ep (h2 _ [] (zAC _)) (zAC _) rfl ?_)|((with_reducible refine st1 ?_ ?_);exact h4)|refine zqr ?_|refine zqb ?_|refine zqi ?_ ?_|refine zqc ?_|refine zqg (λ_=>?_) (λ_=>?_)|(simp only [SSd,Nat.reduceAdd,h1,h3]))
 exact zAE _ hk
end
section
variable {ω:Om}{I:Imm}{L:LH}{K Pn:Value→M}{C:Obj→LH}{b:Nat}{v:Value}{l:List Tok}
theorem Ew (s:Bs)[hF:Foc b L (PBo v) C](h:TL I v l)(hT:Toks l)(ht:isT l s=true→∀v',TL I v' l.tail→K (.bool true) I (C (PBo v')))(hf:isT l s=false→K (.bool false) I L):CT ω 43 #[AL b,.string ⟨s.toArray⟩] K I L:=by
 refine AUK ?_;unfold ASL;refine call (JG s h hT (λhb=>?_) (λhb=>?_))
 ·try refine zqe ?_
  exact call (IW h hT (λv' hv=>zAA (ht hb v' hv)))
 ·try refine zqe ?_
  exact zAA (hf hb)
def Fj:List Bs→Pr Unit
 |[],l=>.ok () l
 |s::ss,l=>(AP s l).bind λ_ r=>Fj ss r
theorem Sm (ws:List Bs){w:Value}(hw:StL I w ws)(hws:ws.length < 1000)[hF:Foc b L (PBo v) C](h:TL I v l)(hT:Toks l)
  (hok:∀r,Fj ws l= .ok () r→Toks r→r.length≤l.length→∀v',TL I v' r→K (.tuple #[]) I (C (PBo v'))) (herr:∀e,Fj ws l= .err e→∀v',Pn (Fh e) I (C (PBo v'))):
  CalP Tryz.prog ω 95 #[AL b,w] K Pn I L:=by
 obtain ⟨L1,L2,rfl,rfl⟩:=hF.foc;refine ATY ?_;unfold ARd;simp only [zAK hw,SSd,Nat.reduceAdd];refine loop (λm s I' L'=>∃(k:Nat) (v':Value) (l':List Tok),k+m=ws.length∧s=(.int .i64 k,())∧I'=I∧L'=L1++(b,PBo v')::L2∧Fj ws l=Fj (ws.drop k) l'∧Toks l'∧l'.length≤l.length∧TL I v' l') ws.length ⟨0,v,l,by omega,rfl,rfl,rfl,rfl,hT,zW _,h⟩ ?_;rintro m s I' L' ⟨k,v',l',hkm,rfl,rfl,rfl,hg,hT',hlen,hTL⟩;unfold AFR;try refine zqe ?_
 refine AB (λhlt=>?_) (λhlt=>?_)
 ·simp at hlt;have hlt:k < ws.length:=by omega
  obtain ⟨bw,off,c,h1,_,h2,h3⟩:=zAR hw (i:=k) zo zo;rw [Am hlt] at h2;obtain rfl:=h2;have hdr:ws.drop k=ws[k]::ws.drop (k+1):=zaj hlt;rw [hdr] at hg;simp only [h1,SSd,Nat.reduceAdd];refine rd1 ((h3 _ [] (zAC _) (λ_ h=>h) 0 _ rfl).mono (zAC _) (λ_ h=>by cases h)) ?_;refine Az (Ew ws[k] hTL hT' (λhb v2 hv2=>?_) (λhb=>?_))
  ·try refine zqe ?_
   unfold Yb;simp only [SSd,Nat.reduceAdd,wrap_i64 ((k:Int)+1) zo];refine zAA ⟨m - 1,by omega,k+1,v2,l'.tail,by omega,rfl,rfl,rfl,?_,hT'.tailT hb,?_,hv2⟩
   ·rw [hg];simp only [Fj,AP,hb,if_true,Res.bind]
   ·have:=hT'.len;omega
  ·try refine zqe ?_
   refine Aa (Ak hTL hT' (zAA (herr _ ?_ v')));rw [hg];simp [Fj,AP,hb,Res.bind,bad]
 ·simp at hlt;have:ws.drop k=[]:=zaa zo;rw [this] at hg;exact zAA (hok l' hg hT' hlen v' hTL)
abbrev AVC (t:Tok):Value:=.agg #[.int .i64 t.kind,.int .i64 t.at',.string ⟨t.text.toArray⟩,.int .i64 t.num]
theorem Vd (k:Int)(hk6:k≠6)[hF:Foc b L (PBo v) C](h:TL I v l)(hT:Toks l)
  (hok:isK l k=true→∀v',TL I v' l.tail→K (AVC (hd l)) I (C (PBo v'))) (herr:isK l k=false→Pn (Fh (hd l).at') I L):
  CalP Tryz.prog ω 152 #[AL b,.int .i64 k] K Pn I L:=by
 obtain ⟨L1,L2,rfl,rfl⟩:=hF.foc;obtain ⟨bt,off,h1,h2⟩:=h.hd hT;refine AQM ?_;unfold AMU;repeat' (first|refine zqa ?_|refine zqh (λ_=>?_)|(refine rd1 ((h2 _ [] (zAC _) 0 _ rfl).mono (zAC _) (λ_ h=>by cases h)) ?_)|refine zqr ?_|refine zqb ?_|refine zqi ?_ ?_|refine zqc ?_|refine zqg (λ_=>?_) (λ_=>?_)|(simp only [SSd,Nat.reduceAdd,h1]))
 ·rename_i hb
  refine Aa (Ak h hT (zAE (L1++(b,PBo v)::L2) (zAA (herr ?_))));simpa [isK] using hb
 ·rename_i hb
  have hb:isK l k=true:=by simpa [isK] using hb
  unfold VD;refine Az (IW h hT (λv' hv'=>?_));repeat' (first|refine zqa ?_|refine zqh (λ_=>?_)|refine zqr ?_|refine zqb ?_|refine zqi ?_ ?_|refine zqc ?_|refine zqg (λ_=>?_) (λ_=>?_)|refine zqe ?_|fail)
  exact zAE (L1++(b,PBo v')::L2) (zAA (hok hb v' hv'))
theorem ADr [hF:Foc b L (PBo v) C](h:TL I v l)(hT:Toks l)
  (hok:isK l 1=true→∀v',TL I v' l.tail→K (.string ⟨(hd l).text.toArray⟩) I (C (PBo v'))) (herr:isK l 1=false→Pn (Fh (hd l).at') I L):
  CalP Tryz.prog ω 96 #[AL b] K Pn I L:=by
 refine ATX ?_;unfold ARc;refine Aa (Vd 1 zx h hT (λhb v' hv'=>?_) (λhb=>zAA (herr hb)));try refine zqe ?_
 exact zAA (hok hb v' hv')
end
theorem CalVP.mono {P:Program}{ω:Om}{x:Value}{args:Array Value}{K K' Pn Pn':Value→M}{I:Imm}{L:LH}(h:CalVP P ω x args K Pn I L)(hk:∀v I' L',K v I' L'→K' v I' L')(hp:∀v I' L',Pn v I' L'→Pn' v I' L'):CalVP P ω x args K' Pn' I L:=by
 unfold CalVP at *;cases x with
 |func f first cap=>
  cases f with
  |func f=>
   simp only at h ⊢
   cases he:Ce P f with
   |true=>simp only [he,if_true] at h ⊢;exact CalP.mono h hk hp
   |false=>
    simp only [he,if_false,zt] at h ⊢;cases hx:RY P f with
    |some e=>simp only [hx] at h ⊢;intro w hs;obtain ⟨v,w',I',L',h1,h2,h3⟩:=h w hs;exact ⟨v,w',I',L',h1,h2,hk _ _ _ h3⟩
    |none=>simp only [hx] at h;exact h.elim
  |yield l=>
   intro w hs;obtain ⟨f,tmps,assign,body,h1,h2⟩:=h w hs;exact ⟨f,tmps,assign,body,h1,RoundIn.mono h2 λe w' ⟨v,I',L',h1,h2,h3⟩=>⟨v,I',L',h1,h2,hk _ _ _ h3⟩⟩
  |_=>exact h.elim
 |_=>exact h.elim
theorem FV {P:Program}{ω:Om}{x:Value}{args:Array Value}{K Pn:Value→M}{I:Imm}{L:LH}(h:CalVP P ω x args K Pn I L):CalVP P ω x args (SL.gh K) Pn I L:=CalVP.mono h (λ_ _ _ h=>zAA h) (λ_ _ _ h=>h)
theorem NU {P:Program}{ω:Om}{f:Nat}{first cap args:Array Value}{K Pn:Value→M}{I:Imm}{L:LH}(he:Ce P f=true)(h:CalP P ω f (first++args++cap) K Pn I L):CalVP P ω (.func (.func f) first cap) args K Pn I L:=by
 unfold CalVP;simp only [he,if_true];exact h
def Hz {α:Type}(R:Imm→α→List Value→Prop)(I:Imm)(x:α)(v:Value):Prop:=∃c,v= .agg c.toArray∧R I x c
def ARQ (_:Imm)(x:Bs)(v:Value):Prop:=v= .string ⟨x.toArray⟩
def AAa {α:Type}(R:Imm→α→List Value→Prop)(n:Nat)(I:Imm)(x:List α)(v:Value):Prop:=RL R n I [] v x
def OneP {α:Type}(ω:Om)(n b:Nat)(g:Pr α)(V:Imm→α→Value→Prop)(fv:Value)(I0:Imm):Prop:=
 ∀(K Pn:Value→M) (I:Imm) (L:LH) (C:Obj→LH) (v:Value) (l:List Tok),Foc b L (PBo v) C→Ext I0 I→TL I v l→Toks l→l.length≤n→POk (g l) V l.length K C I→PEr (g l) Pn C I→CalVP Tryz.prog ω fv #[] K Pn I L
theorem GX {α:Type}{R:Imm→α→List Value→Prop}{n:Nat}{I:Imm}{v:Value}{xs:List α}(h:RL R n I [] v xs):∃v',Gw n v none (some (.int .i64 xs.length)) (some (.int .i64 xs.length))=some v'∧RL R n I [] v' xs:=by
 obtain ⟨a',h1,h2⟩:=RL.clip h (zW _);rw [List.take_length] at h2;exact ⟨_,h1,h2⟩
section
variable {ω:Om}{I:Imm}{L:LH}{K Pn:Value→M}{C:Obj→LH}{b:Nat}{v:Value}{l:List Tok}
theorem AOi {w:Value}{xs:List (Ex)}(hw:RL ExV 11 I [] w xs)(hk:∀w',RL ExV 11 I [] w' xs→K w' I L):CT ω 200 #[w] K I L:=by
 refine APb ?_;unfold ALp;obtain ⟨w',h1,h2⟩:=GX hw;simp only [zAK hw,h1,SSd,Nat.reduceAdd];exact zAA (hk w' h2)
theorem AFK (n:Nat)(hn0:n≤1000000000){g:Pr (Ex)}{fv:Value}(hone:OneP ω n b g (Hz ExV) fv I)[hF:Foc b L (PBo v) C](h:TL I v l)(hT:Toks l)(hl:l.length≤n)
  (hok:POk (BL n g l) (λI x v=>RL ExV 11 I [] v x∧x.length≤l.length) l.length K C I) (herr:PEr (BL n g l) Pn C I):CalP Tryz.prog ω 147 #[AL b,fv] K Pn I L:=by
 obtain ⟨L1,L2,rfl,rfl⟩:=hF.foc;refine AQR ?_;unfold AMX;refine FV (hone _ _ I _ _ v l inferInstance (zAC _) h hT hl ?_ ?_)
 ·rintro x r hg hT1 hr I1 v1 c hI1 hTL1 hc;obtain ⟨cx,rfl,hx⟩:=hc;refine Dw rfl zo (by simpa [Value.cells] using ExV.len hx) (λX u hX=>?_);refine loop (λm s I2 Lx=>∃X v2 l2 w cells xs f,l2.length=m∧s=(w,())∧Ext I I2∧Lx=X++(L1++(b,PBo v2)::L2)∧TL I2 v2 l2∧Toks l2∧SlO 37 11 X w cells xs.length∧Recs (ExV I2) 11 xs cells∧l2.length≤f∧0 < xs.length∧xs.length+l2.length≤l.length+1∧BL n g l=Cm g f xs l2) r.length
   ⟨X,v1,r,u,_,[x],n,rfl,rfl,hI1,rfl,hTL1,hT1,hX,(by simpa [Value.cells] using Recs.one (ExV.len hx) hx),by omega,by simp,by simp;omega,by simp only [BL,hg,Res.bind]⟩ ?_
  rintro m s I2 Lx ⟨X,v2,l2,w,cells,xs,f,rfl,rfl,hI2,rfl,hTL2,hT2,hX,hR,hf,hpos,hlen,hm⟩;unfold ABa;refine Az (Ew [44] hTL2 hT2 (λhb v3 hv3=>?_) (λhb=>?_))
  ·try refine zqe ?_
   have hl2:=hT2.len;obtain ⟨f,rfl⟩:∃k,f=k+1:=⟨f - 1,by omega⟩;simp only [Cm,hb,if_true] at hm;refine FV (hone _ _ I2 _ _ v3 l2.tail inferInstance hI2 hv3 (hT2.tailT hb) zo ?_ ?_)
   ·rintro y r3 hg3 hT3 hr3 I3 v4 c hI3 hTL3 hc;have hR:=zAU (R':=ExV I3) (λ_ _ h=>ExV.mono hI3 h) hR;obtain ⟨cy,rfl,hy⟩:=hc;refine CZ (X6:=X) rfl zo hX hR hy (ExV.len hy) (ExV.one hy) zo zo (λX1 X6 w6 cells6 hX6 hR6=>zAE (X6++(L1++(b,PBo v4)::L2)) (zAA ⟨r3.length,by omega,X6,v4,r3,w6,cells6,xs++[y],f,rfl,rfl,zAB hI2 hI3,rfl,hTL3,hT3,hX6,hR6,by omega,by simp,by simp;omega,?_⟩));rw [hm];simp only [hg3,Res.bind]
   ·rintro e hg3 I3 v4 hI3;exact zAE (L1++(b,PBo v4)::L2) (herr e (by rw [hm];simp only [hg3,Res.bind]) I3 v4 (zAB hI2 hI3) |> zAA)
  ·try refine zqe ?_
   unfold ABZ;refine CalP.pre (RL.ofO (R:=ExV) (λ{I I' x c} h hI=>ExV.mono hI h) hX hR (λI3 hI3 hw=>zAA ?_));refine Az (AOi hw (λw' hw'=>?_));have hl2:=hT2.len;refine zAA (hok xs l2 ?_ hT2 ?_ I3 v2 w' (zAB hI2 hI3) (hTL2.mono hI3) ⟨hw',by omega⟩)
   ·rw [hm];cases f with
    |zero=>rfl
    |succ f=>simp [Cm,hb]
   ·omega
 ·rintro e hg I1 v1 hI1;exact zAA (herr e (by simp only [BL,hg,Res.bind]) I1 v1 hI1)
theorem AOh {w:Value}{xs:List (TItem)}(hw:RL TItemV 14 I [] w xs)(hk:∀w',RL TItemV 14 I [] w' xs→K w' I L):CT ω 197 #[w] K I L:=by
 refine APe ?_;unfold ALr;obtain ⟨w',h1,h2⟩:=GX hw;simp only [zAK hw,h1,SSd,Nat.reduceAdd];exact zAA (hk w' h2)
theorem ANp (n:Nat)(hn0:n≤1000000000){g:Pr (TItem)}{fv:Value}(hone:OneP ω n b g (Hz TItemV) fv I)[hF:Foc b L (PBo v) C](h:TL I v l)(hT:Toks l)(hl:l.length≤n)
  (hok:POk (BL n g l) (λI x v=>RL TItemV 14 I [] v x∧x.length≤l.length) l.length K C I) (herr:PEr (BL n g l) Pn C I):CalP Tryz.prog ω 144 #[AL b,fv] K Pn I L:=by
 obtain ⟨L1,L2,rfl,rfl⟩:=hF.foc;refine AQU ?_;unfold AMZ;refine FV (hone _ _ I _ _ v l inferInstance (zAC _) h hT hl ?_ ?_)
 ·rintro x r hg hT1 hr I1 v1 c hI1 hTL1 hc;obtain ⟨cx,rfl,hx⟩:=hc;refine Dw rfl zo (by simpa [Value.cells] using TItemV.len hx) (λX u hX=>?_);refine loop (λm s I2 Lx=>∃X v2 l2 w cells xs f,l2.length=m∧s=(w,())∧Ext I I2∧Lx=X++(L1++(b,PBo v2)::L2)∧TL I2 v2 l2∧Toks l2∧SlO 119 14 X w cells xs.length∧Recs (TItemV I2) 14 xs cells∧l2.length≤f∧0 < xs.length∧xs.length+l2.length≤l.length+1∧BL n g l=Cm g f xs l2) r.length
   ⟨X,v1,r,u,_,[x],n,rfl,rfl,hI1,rfl,hTL1,hT1,hX,(by simpa [Value.cells] using Recs.one (TItemV.len hx) hx),by omega,by simp,by simp;omega,by simp only [BL,hg,Res.bind]⟩ ?_
  rintro m s I2 Lx ⟨X,v2,l2,w,cells,xs,f,rfl,rfl,hI2,rfl,hTL2,hT2,hX,hR,hf,hpos,hlen,hm⟩;unfold ABc;refine Az (Ew [44] hTL2 hT2 (λhb v3 hv3=>?_) (λhb=>?_))
  ·try refine zqe ?_
   have hl2:=hT2.len;obtain ⟨f,rfl⟩:∃k,f=k+1:=⟨f - 1,by omega⟩;simp only [Cm,hb,if_true] at hm;refine FV (hone _ _ I2 _ _ v3 l2.tail inferInstance hI2 hv3 (hT2.tailT hb) zo ?_ ?_)
   ·rintro y r3 hg3 hT3 hr3 I3 v4 c hI3 hTL3 hc;have hR:=zAU (R':=TItemV I3) (λ_ _ h=>TItemV.mono h hI3) hR;obtain ⟨cy,rfl,hy⟩:=hc;refine CZ (X6:=X) rfl zo hX hR hy (TItemV.len hy) (TItemV.one hy) zo zo (λX1 X6 w6 cells6 hX6 hR6=>zAE (X6++(L1++(b,PBo v4)::L2)) (zAA ⟨r3.length,by omega,X6,v4,r3,w6,cells6,xs++[y],f,rfl,rfl,zAB hI2 hI3,rfl,hTL3,hT3,hX6,hR6,by omega,by simp,by simp;omega,?_⟩));rw [hm];simp only [hg3,Res.bind]
   ·rintro e hg3 I3 v4 hI3;exact zAE (L1++(b,PBo v4)::L2) (herr e (by rw [hm];simp only [hg3,Res.bind]) I3 v4 (zAB hI2 hI3) |> zAA)
  ·try refine zqe ?_
   unfold ABb;refine CalP.pre (RL.ofO (R:=TItemV) (λ{I I' x c} h hI=>TItemV.mono h hI) hX hR (λI3 hI3 hw=>zAA ?_));refine Az (AOh hw (λw' hw'=>?_));have hl2:=hT2.len;refine zAA (hok xs l2 ?_ hT2 ?_ I3 v2 w' (zAB hI2 hI3) (hTL2.mono hI3) ⟨hw',by omega⟩)
   ·rw [hm];cases f with
    |zero=>rfl
    |succ f=>simp [Cm,hb]
   ·omega
 ·rintro e hg I1 v1 hI1;exact zAA (herr e (by simp only [BL,hg,Res.bind]) I1 v1 hI1)
theorem AOf {w:Value}{xs:List (TOrder)}(hw:RL TOrderV 12 I [] w xs)(hk:∀w',RL TOrderV 12 I [] w' xs→K w' I L):CT ω 203 #[w] K I L:=by
 refine APY ?_;unfold ALm;obtain ⟨w',h1,h2⟩:=GX hw;simp only [zAK hw,h1,SSd,Nat.reduceAdd];exact zAA (hk w' h2)
theorem ANn (n:Nat)(hn0:n≤1000000000){g:Pr (TOrder)}{fv:Value}(hone:OneP ω n b g (Hz TOrderV) fv I)[hF:Foc b L (PBo v) C](h:TL I v l)(hT:Toks l)(hl:l.length≤n)
  (hok:POk (BL n g l) (λI x v=>RL TOrderV 12 I [] v x∧x.length≤l.length) l.length K C I) (herr:PEr (BL n g l) Pn C I):CalP Tryz.prog ω 149 #[AL b,fv] K Pn I L:=by
 obtain ⟨L1,L2,rfl,rfl⟩:=hF.foc;refine AQP ?_;unfold AMV;refine FV (hone _ _ I _ _ v l inferInstance (zAC _) h hT hl ?_ ?_)
 ·rintro x r hg hT1 hr I1 v1 c hI1 hTL1 hc;obtain ⟨cx,rfl,hx⟩:=hc;refine Dw rfl zo (by simpa [Value.cells] using TOrderV.len hx) (λX u hX=>?_);refine loop (λm s I2 Lx=>∃X v2 l2 w cells xs f,l2.length=m∧s=(w,())∧Ext I I2∧Lx=X++(L1++(b,PBo v2)::L2)∧TL I2 v2 l2∧Toks l2∧SlO 127 12 X w cells xs.length∧Recs (TOrderV I2) 12 xs cells∧l2.length≤f∧0 < xs.length∧xs.length+l2.length≤l.length+1∧BL n g l=Cm g f xs l2) r.length
   ⟨X,v1,r,u,_,[x],n,rfl,rfl,hI1,rfl,hTL1,hT1,hX,(by simpa [Value.cells] using Recs.one (TOrderV.len hx) hx),by omega,by simp,by simp;omega,by simp only [BL,hg,Res.bind]⟩ ?_
  rintro m s I2 Lx ⟨X,v2,l2,w,cells,xs,f,rfl,rfl,hI2,rfl,hTL2,hT2,hX,hR,hf,hpos,hlen,hm⟩;unfold ABW;refine Az (Ew [44] hTL2 hT2 (λhb v3 hv3=>?_) (λhb=>?_))
  ·try refine zqe ?_
   have hl2:=hT2.len;obtain ⟨f,rfl⟩:∃k,f=k+1:=⟨f - 1,by omega⟩;simp only [Cm,hb,if_true] at hm;refine FV (hone _ _ I2 _ _ v3 l2.tail inferInstance hI2 hv3 (hT2.tailT hb) zo ?_ ?_)
   ·rintro y r3 hg3 hT3 hr3 I3 v4 c hI3 hTL3 hc;have hR:=zAU (R':=TOrderV I3) (λ_ _ h=>zAO h hI3) hR;obtain ⟨cy,rfl,hy⟩:=hc;refine CZ (X6:=X) rfl zo hX hR hy (TOrderV.len hy) (TOrderV.one hy) zo zo (λX1 X6 w6 cells6 hX6 hR6=>zAE (X6++(L1++(b,PBo v4)::L2)) (zAA ⟨r3.length,by omega,X6,v4,r3,w6,cells6,xs++[y],f,rfl,rfl,zAB hI2 hI3,rfl,hTL3,hT3,hX6,hR6,by omega,by simp,by simp;omega,?_⟩));rw [hm];simp only [hg3,Res.bind]
   ·rintro e hg3 I3 v4 hI3;exact zAE (L1++(b,PBo v4)::L2) (herr e (by rw [hm];simp only [hg3,Res.bind]) I3 v4 (zAB hI2 hI3) |> zAA)
  ·try refine zqe ?_
   unfold ABV;refine CalP.pre (RL.ofO (R:=TOrderV) (λ{I I' x c} h hI=>zAO h hI) hX hR (λI3 hI3 hw=>zAA ?_));refine Az (AOf hw (λw' hw'=>?_));have hl2:=hT2.len;refine zAA (hok xs l2 ?_ hT2 ?_ I3 v2 w' (zAB hI2 hI3) (hTL2.mono hI3) ⟨hw',by omega⟩)
   ·rw [hm];cases f with
    |zero=>rfl
    |succ f=>simp [Cm,hb]
   ·omega
 ·rintro e hg I1 v1 hI1;exact zAA (herr e (by simp only [BL,hg,Res.bind]) I1 v1 hI1)
theorem AOc {w:Value}{xs:List (TSet)}(hw:RL TSetV 12 I [] w xs)(hk:∀w',RL TSetV 12 I [] w' xs→K w' I L):CT ω 156 #[w] K I L:=by
 refine AQI ?_;unfold AMQ;obtain ⟨w',h1,h2⟩:=GX hw;simp only [zAK hw,h1,SSd,Nat.reduceAdd];exact zAA (hk w' h2)
theorem ANl (n:Nat)(hn0:n≤1000000000){g:Pr (TSet)}{fv:Value}(hone:OneP ω n b g (Hz TSetV) fv I)[hF:Foc b L (PBo v) C](h:TL I v l)(hT:Toks l)(hl:l.length≤n)
  (hok:POk (BL n g l) (λI x v=>RL TSetV 12 I [] v x∧x.length≤l.length) l.length K C I) (herr:PEr (BL n g l) Pn C I):CalP Tryz.prog ω 100 #[AL b,fv] K Pn I L:=by
 obtain ⟨L1,L2,rfl,rfl⟩:=hF.foc;refine ARH ?_;unfold ANE;refine FV (hone _ _ I _ _ v l inferInstance (zAC _) h hT hl ?_ ?_)
 ·rintro x r hg hT1 hr I1 v1 c hI1 hTL1 hc;obtain ⟨cx,rfl,hx⟩:=hc;refine Dw rfl zo (by simpa [Value.cells] using TSetV.len hx) (λX u hX=>?_);refine loop (λm s I2 Lx=>∃X v2 l2 w cells xs f,l2.length=m∧s=(w,())∧Ext I I2∧Lx=X++(L1++(b,PBo v2)::L2)∧TL I2 v2 l2∧Toks l2∧SlO 99 12 X w cells xs.length∧Recs (TSetV I2) 12 xs cells∧l2.length≤f∧0 < xs.length∧xs.length+l2.length≤l.length+1∧BL n g l=Cm g f xs l2) r.length
   ⟨X,v1,r,u,_,[x],n,rfl,rfl,hI1,rfl,hTL1,hT1,hX,(by simpa [Value.cells] using Recs.one (TSetV.len hx) hx),by omega,by simp,by simp;omega,by simp only [BL,hg,Res.bind]⟩ ?_
  rintro m s I2 Lx ⟨X,v2,l2,w,cells,xs,f,rfl,rfl,hI2,rfl,hTL2,hT2,hX,hR,hf,hpos,hlen,hm⟩;unfold ABz;refine Az (Ew [44] hTL2 hT2 (λhb v3 hv3=>?_) (λhb=>?_))
  ·try refine zqe ?_
   have hl2:=hT2.len;obtain ⟨f,rfl⟩:∃k,f=k+1:=⟨f - 1,by omega⟩;simp only [Cm,hb,if_true] at hm;refine FV (hone _ _ I2 _ _ v3 l2.tail inferInstance hI2 hv3 (hT2.tailT hb) zo ?_ ?_)
   ·rintro y r3 hg3 hT3 hr3 I3 v4 c hI3 hTL3 hc;have hR:=zAU (R':=TSetV I3) (λ_ _ h=>TSetV.mono h hI3) hR;obtain ⟨cy,rfl,hy⟩:=hc;refine CZ (X6:=X) rfl zo hX hR hy (TSetV.len hy) (TSetV.one hy) zo zo (λX1 X6 w6 cells6 hX6 hR6=>zAE (X6++(L1++(b,PBo v4)::L2)) (zAA ⟨r3.length,by omega,X6,v4,r3,w6,cells6,xs++[y],f,rfl,rfl,zAB hI2 hI3,rfl,hTL3,hT3,hX6,hR6,by omega,by simp,by simp;omega,?_⟩));rw [hm];simp only [hg3,Res.bind]
   ·rintro e hg3 I3 v4 hI3;exact zAE (L1++(b,PBo v4)::L2) (herr e (by rw [hm];simp only [hg3,Res.bind]) I3 v4 (zAB hI2 hI3) |> zAA)
  ·try refine zqe ?_
   unfold ABy;refine CalP.pre (RL.ofO (R:=TSetV) (λ{I I' x c} h hI=>TSetV.mono h hI) hX hR (λI3 hI3 hw=>zAA ?_));refine Az (AOc hw (λw' hw'=>?_));have hl2:=hT2.len;refine zAA (hok xs l2 ?_ hT2 ?_ I3 v2 w' (zAB hI2 hI3) (hTL2.mono hI3) ⟨hw',by omega⟩)
   ·rw [hm];cases f with
    |zero=>rfl
    |succ f=>simp [Cm,hb]
   ·omega
 ·rintro e hg I1 v1 hI1;exact zAA (herr e (by simp only [BL,hg,Res.bind]) I1 v1 hI1)
theorem AOd {w:Value}{xs:List (Bs)}(hw:RL StrV 1 I [] w xs)(hk:∀w',RL StrV 1 I [] w' xs→K w' I L):CT ω 221 #[w] K I L:=by
 refine APL ?_;unfold ALd;obtain ⟨w',h1,h2⟩:=GX hw;simp only [zAK hw,h1,SSd,Nat.reduceAdd];exact zAA (hk w' h2)
theorem ANm (n:Nat)(hn0:n≤1000000000){g:Pr (Bs)}{fv:Value}(hone:OneP ω n b g (ARQ) fv I)[hF:Foc b L (PBo v) C](h:TL I v l)(hT:Toks l)(hl:l.length≤n)
  (hok:POk (BL n g l) (λI x v=>RL StrV 1 I [] v x∧x.length≤l.length) l.length K C I) (herr:PEr (BL n g l) Pn C I):CalP Tryz.prog ω 204 #[AL b,fv] K Pn I L:=by
 obtain ⟨L1,L2,rfl,rfl⟩:=hF.foc;refine APX ?_;unfold ALl;refine FV (hone _ _ I _ _ v l inferInstance (zAC _) h hT hl ?_ ?_)
 ·rintro x r hg hT1 hr I1 v1 c hI1 hTL1 hc;obtain rfl:=hc;refine Dw rfl zo rfl (λX u hX=>?_);refine loop (λm s I2 Lx=>∃X v2 l2 w cells xs f,l2.length=m∧s=(w,())∧Ext I I2∧Lx=X++(L1++(b,PBo v2)::L2)∧TL I2 v2 l2∧Toks l2∧SlO 9 1 X w cells xs.length∧Recs (StrV I2) 1 xs cells∧l2.length≤f∧0 < xs.length∧xs.length+l2.length≤l.length+1∧BL n g l=Cm g f xs l2) r.length
   ⟨X,v1,r,u,_,[x],n,rfl,rfl,hI1,rfl,hTL1,hT1,hX,(by simpa [Value.cells] using Recs.one (R:=StrV I1) rfl rfl),by omega,by simp,by simp;omega,by simp only [BL,hg,Res.bind]⟩ ?_
  rintro m s I2 Lx ⟨X,v2,l2,w,cells,xs,f,rfl,rfl,hI2,rfl,hTL2,hT2,hX,hR,hf,hpos,hlen,hm⟩;unfold ABC;refine Az (Ew [44] hTL2 hT2 (λhb v3 hv3=>?_) (λhb=>?_))
  ·try refine zqe ?_
   have hl2:=hT2.len;obtain ⟨f,rfl⟩:∃k,f=k+1:=⟨f - 1,by omega⟩;simp only [Cm,hb,if_true] at hm;refine FV (hone _ _ I2 _ _ v3 l2.tail inferInstance hI2 hv3 (hT2.tailT hb) zo ?_ ?_)
   ·rintro y r3 hg3 hT3 hr3 I3 v4 c hI3 hTL3 hc;have hR:=zAU (R':=StrV I3) (λ_ _ h=>StrV.mono h hI3) hR;obtain rfl:=hc;refine Qn (X6:=X) rfl hX hR (x:=y) rfl rfl zo zo (λX1 X6 w6 cells6 hX6 hR6=>zAE (X6++(L1++(b,PBo v4)::L2)) (zAA ⟨r3.length,by omega,X6,v4,r3,w6,cells6,xs++[y],f,rfl,rfl,zAB hI2 hI3,rfl,hTL3,hT3,hX6,hR6,by omega,by simp,by simp;omega,?_⟩));rw [hm];simp only [hg3,Res.bind]
   ·rintro e hg3 I3 v4 hI3;exact zAE (L1++(b,PBo v4)::L2) (herr e (by rw [hm];simp only [hg3,Res.bind]) I3 v4 (zAB hI2 hI3) |> zAA)
  ·try refine zqe ?_
   unfold ABB;refine CalP.pre (RL.ofO (R:=StrV) (λ{I I' x c} h hI=>StrV.mono h hI) hX hR (λI3 hI3 hw=>zAA ?_));refine Az (AOd hw (λw' hw'=>?_));have hl2:=hT2.len;refine zAA (hok xs l2 ?_ hT2 ?_ I3 v2 w' (zAB hI2 hI3) (hTL2.mono hI3) ⟨hw',by omega⟩)
   ·rw [hm];cases f with
    |zero=>rfl
    |succ f=>simp [Cm,hb]
   ·omega
 ·rintro e hg I1 v1 hI1;exact zAA (herr e (by simp only [BL,hg,Res.bind]) I1 v1 hI1)
theorem AOg {w:Value}{xs:List (List Ex)}(hw:RL (FX ExV 11) 1 I [] w xs)(hk:∀w',RL (FX ExV 11) 1 I [] w' xs→K w' I L):CT ω 154 #[w] K I L:=by
 refine AQK ?_;unfold AMS;obtain ⟨w',h1,h2⟩:=GX hw;simp only [zAK hw,h1,SSd,Nat.reduceAdd];exact zAA (hk w' h2)
theorem ANo (n:Nat)(hn0:n≤1000000000){g:Pr (List Ex)}{fv:Value}(hone:OneP ω n b g (AAa ExV 11) fv I)[hF:Foc b L (PBo v) C](h:TL I v l)(hT:Toks l)(hl:l.length≤n)
  (hok:POk (BL n g l) (λI x v=>RL (FX ExV 11) 1 I [] v x∧x.length≤l.length) l.length K C I) (herr:PEr (BL n g l) Pn C I):CalP Tryz.prog ω 98 #[AL b,fv] K Pn I L:=by
 obtain ⟨L1,L2,rfl,rfl⟩:=hF.foc;refine ATV ?_;unfold ARa;refine FV (hone _ _ I _ _ v l inferInstance (zAC _) h hT hl ?_ ?_)
 ·rintro x r hg hT1 hr I1 v1 c hI1 hTL1 hc;obtain ⟨ax,kx,ec⟩:=zAF hc;subst ec;refine Dw rfl zo rfl (λX u hX=>?_);refine loop (λm s I2 Lx=>∃X v2 l2 w cells xs f,l2.length=m∧s=(w,())∧Ext I I2∧Lx=X++(L1++(b,PBo v2)::L2)∧TL I2 v2 l2∧Toks l2∧SlO 35 1 X w cells xs.length∧Recs ((FX ExV 11) I2) 1 xs cells∧l2.length≤f∧0 < xs.length∧xs.length+l2.length≤l.length+1∧BL n g l=Cm g f xs l2) r.length
   ⟨X,v1,r,u,_,[x],n,rfl,rfl,hI1,rfl,hTL1,hT1,hX,(by simpa [Value.cells] using Recs.one (R:=(FX ExV 11) I1) rfl ⟨_,rfl,hc⟩),by omega,by simp,by simp;omega,by simp only [BL,hg,Res.bind]⟩ ?_
  rintro m s I2 Lx ⟨X,v2,l2,w,cells,xs,f,rfl,rfl,hI2,rfl,hTL2,hT2,hX,hR,hf,hpos,hlen,hm⟩;unfold AFQ;refine Az (Ew [44] hTL2 hT2 (λhb v3 hv3=>?_) (λhb=>?_))
  ·try refine zqe ?_
   have hl2:=hT2.len;obtain ⟨f,rfl⟩:∃k,f=k+1:=⟨f - 1,by omega⟩;simp only [Cm,hb,if_true] at hm;refine FV (hone _ _ I2 _ _ v3 l2.tail inferInstance hI2 hv3 (hT2.tailT hb) zo ?_ ?_)
   ·rintro y r3 hg3 hT3 hr3 I3 v4 c hI3 hTL3 hc;have hR:=zAU (R':=(FX ExV 11) I3) (λ_ _ h=>LstX.mono h hI3) hR;obtain ⟨ax,kx,ec⟩:=zAF hc;subst ec;refine Qn (X6:=X) rfl hX hR (x:=y) ⟨_,rfl,hc⟩ rfl zo zo (λX1 X6 w6 cells6 hX6 hR6=>zAE (X6++(L1++(b,PBo v4)::L2)) (zAA ⟨r3.length,by omega,X6,v4,r3,w6,cells6,xs++[y],f,rfl,rfl,zAB hI2 hI3,rfl,hTL3,hT3,hX6,hR6,by omega,by simp,by simp;omega,?_⟩));rw [hm];simp only [hg3,Res.bind]
   ·rintro e hg3 I3 v4 hI3;exact zAE (L1++(b,PBo v4)::L2) (herr e (by rw [hm];simp only [hg3,Res.bind]) I3 v4 (zAB hI2 hI3) |> zAA)
  ·try refine zqe ?_
   unfold AFP;refine CalP.pre (RL.ofO (R:=(FX ExV 11)) (λ{I I' x c} h hI=>LstX.mono h hI) hX hR (λI3 hI3 hw=>zAA ?_));refine Az (AOg hw (λw' hw'=>?_));have hl2:=hT2.len;refine zAA (hok xs l2 ?_ hT2 ?_ I3 v2 w' (zAB hI2 hI3) (hTL2.mono hI3) ⟨hw',by omega⟩)
   ·rw [hm];cases f with
    |zero=>rfl
    |succ f=>simp [Cm,hb]
   ·omega
 ·rintro e hg I1 v1 hI1;exact zAA (herr e (by simp only [BL,hg,Res.bind]) I1 v1 hI1)
end
abbrev EOk (g:Res Ex)(n:Nat)(K:Value→M)(C:Obj→LH)(I:Imm):Prop:=
 ∀x r,g= .ok x r→Toks r→r.length≤n→∀I' v' w,Ext I I'→TL I' v' r→ExL I' w x.args→K (.agg (Ag x w).toArray) I' (C (PBo v'))
def FnE (ω:Om)(n b f:Nat)(g:Pr Ex):Prop:=
 ∀(K Pn:Value→M) (I:Imm) (L:LH) (C:Obj→LH) (v:Value) (l:List Tok),Foc b L (PBo v) C→TL I v l→Toks l→l.length≤n→EOk (g l) l.length K C I→PEr (g l) Pn C I→CalP Tryz.prog ω f #[AL b] K Pn I L
theorem FnE.go {ω:Om}{n b f:Nat}{g:Pr Ex}(h:FnE ω n b f g){I:Imm}{L:LH}{K Pn:Value→M}{C:Obj→LH}{v:Value}{l:List Tok}[hF:Foc b L (PBo v) C](hv:TL I v l)(hT:Toks l)(hl:l.length≤n)
  (hok:∀x r,g l= .ok x r→Toks r→r.length≤l.length→∀I' v' a k,Ext I I'→TL I' v' r→ExL I' (.slice a x.args.length k) x.args→K (.agg (Ag x (.slice a x.args.length k)).toArray) I' (C (PBo v'))) (herr:PEr (g l) Pn C I):CalP Tryz.prog ω f #[AL b] K Pn I L:=
 h K Pn I L C v l hF hv hT hl (λx r hg hT' hr I' v' w hI hv' hw=>by
  obtain ⟨a,k,rfl⟩:=zAF hw;exact hok x r hg hT' hr I' v' a k hI hv' hw) herr
theorem FnE.one {ω:Om}{n b f:Nat}{g:Pr Ex}{I0:Imm}(h:FnE ω n b f g)(he:Ce Tryz.prog f=true):OneP ω n b g (Hz ExV) (.func (.func f) #[AL b] #[]) I0:=by
 intro K Pn I L C v l hF hI hv hT hl hok herr;refine NU he (h K Pn I L C v l hF hv hT hl ?_ herr);intro x r hg hT' hr I' v' w hI' hv' hw;exact hok x r hg hT' hr I' v' _ hI' hv' ⟨_,rfl,ExV.mk hw⟩
section
variable {ω:Om}{I:Imm}{L:LH}{K Pn:Value→M}{C:Obj→LH}{b:Nat}{v:Value}{l:List Tok}
theorem CY (s:Bs)[hF:Foc b L (PBo v) C](h:TL I v l)(hT:Toks l)(ht:isT l s=true→Toks l.tail→l.tail.length+1=l.length→∀v',TL I v' l.tail→K (.bool true) I (C (PBo v')))(hf:isT l s=false→K (.bool false) I L):
  CT ω 43 #[AL b,.string ⟨s.toArray⟩] K I L:=Ew s h hT (λhb v' hv=>ht hb (hT.tailT hb) hT.len v' hv) hf
theorem CG (s:Bs)[hF:Foc b L (PBo v) C](h:TL I v l)(hT:Toks l)(hok:isT l s=true→Toks l.tail→l.tail.length+1=l.length→∀I' v',Ext I I'→TL I' v' l.tail→K (.tuple #[]) I' (C (PBo v')))
  (herr:isT l s=false→∀I' v',Ext I I'→Pn (Fh (hd l).at') I' (C (PBo v'))):
  AU 9 1 #[.string ⟨#[]⟩] 1 [(0,.string ⟨s.toArray⟩)] (gh λw=>AV Tryz.prog ω 95 #[AL b,w] Pn (gh K)) I L:=by
 refine DT [s] rfl rfl (λI' a hI hw=>zAA ?_);refine Aa (Sm [s] hw zy (h.mono hI) hT (λr hg hT' hr v' hv'=>?_) (λe hg v'=>?_))
 ·cases hb:isT l s with
  |true=>
   simp only [Fj,AP,hb,if_true,Res.bind,Res.ok.injEq,true_and] at hg;subst hg;exact hok hb hT' hT.len I' v' hI hv'
  |false=>simp [Fj,AP,hb,Res.bind,bad] at hg
 ·cases hb:isT l s with
  |true=>simp [Fj,AP,hb,Res.bind] at hg
  |false=>
   simp only [Fj,AP,hb,zt,if_false,Res.bind,bad,Res.err.injEq] at hg;subst hg;exact herr hb I' v' hI
theorem Cj [hF:Foc b L (PBo v) C](h:TL I v l)(hT:Toks l)
  (hok:isK l 1=true→Toks l.tail→l.tail.length+1=l.length→∀v',TL I v' l.tail→K (.string ⟨(hd l).text.toArray⟩) I (C (PBo v'))) (herr:isK l 1=false→Pn (Fh (hd l).at') I L):
  CalP Tryz.prog ω 96 #[AL b] K Pn I L:=ADr h hT (λhb v' hv=>hok hb (hT.tailK hb) hT.len v' hv) herr
theorem BV {k:Int}{w:Value}{l:List Ex}(hw:ExL I w l)(hk:K (.agg (Ag (exK k l) w).toArray) I L):CT ω 202 #[.int .i64 k,w] K I L:=by
 refine APZ ?_;unfold ALn;obtain ⟨a,c,rfl⟩:=zAF hw;have hk:Gh (K (.agg (Ag (exK k l) (.slice a l.length c)).toArray)) I L:=zAA hk;repeat' (first|refine zqa ?_|refine zqh (λ_=>?_)|refine zqr ?_|refine zqb ?_|refine zqi ?_ ?_|refine zqc ?_|refine zqg (λ_=>?_) (λ_=>?_)|refine zqe ?_|fail)
 exact zAE L hk
theorem BQ {x:Ex}{w:Value}(hw:ExL I w x.args)(hk:∀I' a,Ext I I'→ExL I' (.slice a 1 1) [x]→Gh (K (.slice a 1 1)) I' L):
  AU 37 11 #[.int .i64 0,.int .i64 0,.bool false,.int .i64 0,.string ⟨#[]⟩,.string ⟨#[]⟩,.string ⟨#[]⟩,.int .i64 0,.int .i64 0,.bool false,.slice none 0 0] 1 [(0,.agg (Ag x w).toArray)] (gh K) I L:=
 EQ (R:=ExV) [x] [Ag x w] rfl rfl rfl zy (by simp only [List.zip_cons_cons,List.zip_nil_right,zX,forall_eq];exact ExV.mk hw) (λhI h=>ExV.mono hI h) hk
theorem BJ {x y:Ex}{w u:Value}(hw:ExL I w x.args)(hu:ExL I u y.args)(hk:∀I' a,Ext I I'→ExL I' (.slice a 2 2) [x,y]→Gh (K (.slice a 2 2)) I' L):
  AU 37 11 #[.int .i64 0,.int .i64 0,.bool false,.int .i64 0,.string ⟨#[]⟩,.string ⟨#[]⟩,.string ⟨#[]⟩,.int .i64 0,.int .i64 0,.bool false,.slice none 0 0] 2 [(0,.agg (Ag x w).toArray),(1,.agg (Ag y u).toArray)] (gh K) I L:=
 EQ (R:=ExV) [x,y] [Ag x w,Ag y u] rfl rfl rfl zy (by simp only [List.zip_cons_cons,List.zip_nil_right,zZ,zaH,or_false,forall_eq_or_imp,forall_eq];exact ⟨ExV.mk hw,ExV.mk hu⟩) (λhI h=>ExV.mono hI h) hk
theorem Ba {x y z:Ex}{w u q:Value}(hw:ExL I w x.args)(hu:ExL I u y.args)(hq:ExL I q z.args)(hk:∀I' a,Ext I I'→ExL I' (.slice a 3 3) [x,y,z]→Gh (K (.slice a 3 3)) I' L):
  AU 37 11 #[.int .i64 0,.int .i64 0,.bool false,.int .i64 0,.string ⟨#[]⟩,.string ⟨#[]⟩,.string ⟨#[]⟩,.int .i64 0,.int .i64 0,.bool false,.slice none 0 0] 3 [(0,.agg (Ag x w).toArray),(1,.agg (Ag y u).toArray),(2,.agg (Ag z q).toArray)] (gh K) I L:=
 EQ (R:=ExV) [x,y,z] [Ag x w,Ag y u,Ag z q] rfl rfl rfl zy (by simp only [List.zip_cons_cons,List.zip_nil_right,zZ,zaH,or_false,forall_eq_or_imp,forall_eq];exact ⟨ExV.mk hw,ExV.mk hu,ExV.mk hq⟩) (λhI h=>ExV.mono hI h) hk
theorem Tc (n:Nat):FnE ω n b 234 KX:=by
 intro K Pn I L C v l hF h hT hl hok herr;obtain ⟨L1,L2,rfl,rfl⟩:=hF.foc;refine APC ?_;unfold ALZ;refine AQ (λ_=>?_);refine Aa (Vd 3 zx h hT (λhb v' hv'=>?_) (λhb=>zAE (L1++(b,PBo v)::L2) (zAA (herr _ (by simp [KX,hb,bad]) I v (zAC _)))));have hk:Gh (K _) I (L1++(b,PBo v')::L2):=zAA (hok (GU ⟨1,false,(hd l).num,[]⟩) l.tail (by simp [KX,hb]) (hT.tailK hb) (by have:=hT.len;omega) I v' (.slice none 0 0) (zAC _) hv' (zAD none 0));repeat' (first|refine zqa ?_|refine zqh (λ_=>?_)|refine zqr ?_|refine zqb ?_|refine zqi ?_ ?_|refine zqc ?_|refine zqg (λ_=>?_) (λ_=>?_)|refine zqe ?_|fail)
 exact zAE _ hk
theorem NJ [hF:Foc b L (PBo v) C](h:TL I v l)(hT:Toks l)(hok:∀x,GR l=some x→Toks l.tail→l.tail.length+1=l.length→∀v',TL I v' l.tail→K (.tuple #[.agg (Ag (GU x) (.slice none 0 0)).toArray,.bool true]) I (C (PBo v')))
  (hno:GR l=none→K (.tuple #[.agg exZ.toArray,.bool false]) I L):CT ω 233 #[AL b] K I L:=by
 obtain ⟨L1,L2,rfl,rfl⟩:=hF.foc;obtain ⟨bt,off,h1,h2⟩:=h.hd hT;refine APD ?_;unfold sh233;have fin:∀{x:TValue} {L':LH} {v':Value},GR l=some x→SubP (L1++(b,PBo v')::L2) L'→TL I v' l.tail→Gh (K (.tuple #[.agg (Ag (GU x) (.slice none 0 0)).toArray,.bool true])) I L':=by
  intro x L' v' hx hs hv';have hk6:(hd l).kind≠6:=by
   intro e;simp [GR,isK,isT,e] at hx
  exact zAE (L1++(b,PBo v')::L2) (zAA (hok x hx (hT.tail hk6) hT.len v' hv'))
 have no:∀{L':LH},GR l=none→SubP (L1++(b,PBo v)::L2) L'→Gh (K (.tuple #[.agg exZ.toArray,.bool false])) I L':=λhx hs=>zAE (L1++(b,PBo v)::L2) (zAA (hno hx));repeat' (first|refine zqa ?_|refine zqh (λ_=>?_)|(refine rd1 ((h2 _ [] (zAC _) 0 _ rfl).mono (zAC _) (λ_ h=>by cases h)) ?_)|(refine rd1 ((h2 _ [] (zAC _) 2 _ rfl).mono (zAC _) (λ_ h=>by cases h)) ?_)|(with_reducible refine call ?_;refine JG _ h hT (λhb=>?_) (λhb=>?_))|(with_reducible refine call ?_;refine IW h hT (λv' hv'=>?_))|refine zqr ?_|refine zqb ?_|(with_reducible first|refine Ap (sh233_2.eq_1 ..) ?_|refine Ap (sh233.eq_1 ..) ?_|refine And.intro ?_ ?_)|refine zqc ?_|refine zqg (λ_=>?_) (λ_=>?_)|(simp only [SSd,Nat.reduceAdd,h1]))
 all_goals first
  |exact fin (x:=⟨3,false,0,(hd l).text⟩) (by simp_all [GR,isK]) inferInstance zA
  |exact fin (x:=⟨2,false,1,[]⟩) (by simp_all [GR,isK]) inferInstance zA
  |exact fin (x:=⟨2,false,0,[]⟩) (by simp_all [GR,isK]) inferInstance zA
  |exact fin (x:=⟨4,true,0,[]⟩) (by simp_all [GR,isK]) inferInstance zA
  |exact no (by simp_all [GR,isK]) inferInstance
end
section
variable {ω:Om}{I:Imm}{L:LH}{K Pn:Value→M}{C:Obj→LH}{b:Nat}{v:Value}{l:List Tok}
theorem AKh (n:Nat){g:Pr Ex}(hg1:FnE ω (n+1) b 201 g):FnE ω (n+1) b 148 (Ci n g KW):=by
 intro K Pn I L C v l hF h hT hl hok herr;obtain ⟨L1,L2,rfl,rfl⟩:=hF.foc;refine AQQ ?_;unfold AMW;refine AQ (λb1=>?_);refine Aa (hg1 _ _ _ _ _ _ _ inferInstance h hT hl ?_ ?_);rotate_left
 ·intro e hg I' v' hI;exact zAE (L1++(b,PBo v')::L2) (zAA (herr e (by simp only [Ci,hg,Res.bind]) I' v' hI))
 intro x0 r0 hg0 hT0 hr0 I0 v0 w0 hI0 hTL0 hw0;refine AQ (λb3=>?_);obtain ⟨a0,c0,rfl⟩:=zAF hw0;repeat' (first|refine zqa ?_|refine zqh (λ_=>?_)|refine zqr ?_|refine zqb ?_|refine zqi ?_ ?_|refine zqc ?_|refine zqg (λ_=>?_) (λ_=>?_)|refine zqe ?_|fail)
 refine loop (λm s I2 Lx=>∃x a k v2 l2 f,l2.length=m∧Ext I I2∧Lx=(b3,Obj.cells (Ag x (.slice a x.args.length k)).toArray 37 (0,0))::(b1,Obj.cells exZ.toArray 37 (0,0))::(L1++(b,PBo v2)::L2)∧ExL I2 (.slice a x.args.length k) x.args∧TL I2 v2 l2∧Toks l2∧l2.length≤f+1∧l2.length≤l.length∧Ci n g KW l=Eb g KW f x l2) r0.length
  ⟨x0,a0,c0,v0,r0,n,rfl,hI0,rfl,hw0,hTL0,hT0,by omega,hr0,by simp only [Ci,hg0,Res.bind]⟩ ?_
 rintro m s I2 Lx ⟨x,a,k,v2,l2,f,rfl,hI2,rfl,hw,hTL,hT2,hf,hlen,hm⟩;unfold ABY;refine Az (CY [111,114] hTL hT2 (λhb hT' hl' v' hv'=>?_) (λhb=>?_))
 ·try refine zqe ?_
  obtain ⟨f,rfl⟩:∃q,f=q+1:=⟨f - 1,by have:=hT'.len;omega⟩;have hop:KW l2=22:=by simp [KW,hb]
  simp only [Eb,hop] at hm;refine CX (b:=b) ?_;refine GK rfl ?_;refine Aa (hg1 _ _ _ _ _ _ _ inferInstance hv' hT' zo ?_ ?_);rotate_left
  ·intro e hg I3 v3 hI3;exact zAE (L1++(b,PBo v3)::L2) (zAA (herr e (by rw [hm];simp [hg,Res.bind]) I3 v3 (zAB hI2 hI3)))
  intro y r hg hT3 hr I3 v3 u hI3 hTL3 hu;refine CV hI3 ?_;refine BJ (zAI hw hI3) hu (λI4 a4 hI4 h4=>zAA ?_);refine Az (BV h4 ?_);repeat' (first|refine zqa ?_|refine zqh (λ_=>?_)|refine zqr ?_|refine zqb ?_|refine zqi ?_ ?_|refine zqc ?_|refine zqg (λ_=>?_) (λ_=>?_)|refine zqe ?_|fail)
  refine zAA ⟨r.length,by omega,exK 22 [x,y],a4,2,v3,r,f,rfl,zAB hI2 (zAB hI3 hI4),rfl,h4,hTL3.mono hI4,hT3,by omega,by omega,?_⟩;rw [hm];simp [hg,Res.bind]
 ·try refine zqe ?_
  unfold ABX;repeat' (first|refine zqa ?_|refine zqh (λ_=>?_)|refine zqr ?_|refine zqb ?_|refine zqi ?_ ?_|refine zqc ?_|refine zqg (λ_=>?_) (λ_=>?_)|refine zqe ?_|fail)
  refine zAE (L1++(b,PBo v2)::L2) (zAA (hok x l2 ?_ hT2 hlen I2 v2 _ hI2 hTL hw));rw [hm];cases f with
  |zero=>rfl
  |succ f=>simp [Eb,KW,hb]
theorem ARN (n:Nat){g:Pr Ex}(hg1:FnE ω (n+1) b 220 g):FnE ω (n+1) b 201 (Ci n g Gi):=by
 intro K Pn I L C v l hF h hT hl hok herr;obtain ⟨L1,L2,rfl,rfl⟩:=hF.foc;refine APa ?_;unfold ALo;refine AQ (λb1=>?_);refine Aa (hg1 _ _ _ _ _ _ _ inferInstance h hT hl ?_ ?_);rotate_left
 ·intro e hg I' v' hI;exact zAE (L1++(b,PBo v')::L2) (zAA (herr e (by simp only [Ci,hg,Res.bind]) I' v' hI))
 intro x0 r0 hg0 hT0 hr0 I0 v0 w0 hI0 hTL0 hw0;refine AQ (λb3=>?_);obtain ⟨a0,c0,rfl⟩:=zAF hw0;repeat' (first|refine zqa ?_|refine zqh (λ_=>?_)|refine zqr ?_|refine zqb ?_|refine zqi ?_ ?_|refine zqc ?_|refine zqg (λ_=>?_) (λ_=>?_)|refine zqe ?_|fail)
 refine loop (λm s I2 Lx=>∃x a k v2 l2 f,l2.length=m∧Ext I I2∧Lx=(b3,Obj.cells (Ag x (.slice a x.args.length k)).toArray 37 (0,0))::(b1,Obj.cells exZ.toArray 37 (0,0))::(L1++(b,PBo v2)::L2)∧ExL I2 (.slice a x.args.length k) x.args∧TL I2 v2 l2∧Toks l2∧l2.length≤f+1∧l2.length≤l.length∧Ci n g Gi l=Eb g Gi f x l2) r0.length
  ⟨x0,a0,c0,v0,r0,n,rfl,hI0,rfl,hw0,hTL0,hT0,by omega,hr0,by simp only [Ci,hg0,Res.bind]⟩ ?_
 rintro m s I2 Lx ⟨x,a,k,v2,l2,f,rfl,hI2,rfl,hw,hTL,hT2,hf,hlen,hm⟩;unfold ABE;refine Az (CY [97,110,100] hTL hT2 (λhb hT' hl' v' hv'=>?_) (λhb=>?_))
 ·try refine zqe ?_
  obtain ⟨f,rfl⟩:∃q,f=q+1:=⟨f - 1,by have:=hT'.len;omega⟩;have hop:Gi l2=21:=by simp [Gi,hb]
  simp only [Eb,hop] at hm;refine CX (b:=b) ?_;refine GK rfl ?_;refine Aa (hg1 _ _ _ _ _ _ _ inferInstance hv' hT' zo ?_ ?_);rotate_left
  ·intro e hg I3 v3 hI3;exact zAE (L1++(b,PBo v3)::L2) (zAA (herr e (by rw [hm];simp [hg,Res.bind]) I3 v3 (zAB hI2 hI3)))
  intro y r hg hT3 hr I3 v3 u hI3 hTL3 hu;refine CV hI3 ?_;refine BJ (zAI hw hI3) hu (λI4 a4 hI4 h4=>zAA ?_);refine Az (BV h4 ?_);repeat' (first|refine zqa ?_|refine zqh (λ_=>?_)|refine zqr ?_|refine zqb ?_|refine zqi ?_ ?_|refine zqc ?_|refine zqg (λ_=>?_) (λ_=>?_)|refine zqe ?_|fail)
  refine zAA ⟨r.length,by omega,exK 21 [x,y],a4,2,v3,r,f,rfl,zAB hI2 (zAB hI3 hI4),rfl,h4,hTL3.mono hI4,hT3,by omega,by omega,?_⟩;rw [hm];simp [hg,Res.bind]
 ·try refine zqe ?_
  unfold ABD;repeat' (first|refine zqa ?_|refine zqh (λ_=>?_)|refine zqr ?_|refine zqb ?_|refine zqi ?_ ?_|refine zqc ?_|refine zqg (λ_=>?_) (λ_=>?_)|refine zqe ?_|fail)
  refine zAE (L1++(b,PBo v2)::L2) (zAA (hok x l2 ?_ hT2 hlen I2 v2 _ hI2 hTL hw));rw [hm];cases f with
  |zero=>rfl
  |succ f=>simp [Eb,Gi,hb]
theorem SC (n:Nat){g:Pr Ex}{fv:Value}{bm:Nat}{es:Array MapEntry}{clock:Nat}{q:Bs→Option Int}(hq:∀s,q s≠some 0)(hone:OneP ω (n+1) b g (Hz ExV) fv I)(hma:I bm=some (.map es clock))(hms:MapS es clock λk=>(q k).map (.int .i64))
  [hF:Foc b L (PBo v) C] (h:TL I v l) (hT:Toks l) (hl:l.length≤n+1) (hok:EOk (Ci n g (IA q) l) l.length K C I) (herr:PEr (Ci n g (IA q) l) Pn C I):
  CalP Tryz.prog ω 254 #[AL b,fv,.map (some bm)] K Pn I L:=by
 obtain ⟨L1,L2,rfl,rfl⟩:=hF.foc;refine AOt ?_;unfold sh254;refine AQ (λb1=>?_);refine FV (hone _ _ _ _ _ _ _ inferInstance (zAC _) h hT hl ?_ ?_);rotate_left
 ·intro e hg I' v' hI;exact zAE (L1++(b,PBo v')::L2) (zAA (herr e (by simp only [Ci,hg,Res.bind]) I' v' hI))
 rintro x0 r0 hg0 hT0 hr0 I0 v0 c hI0 hTL0 ⟨cx,rfl,hx⟩;obtain ⟨w0,rfl,hw0⟩:=ExV.iff.1 hx;refine AQ (λb3=>?_);obtain ⟨a0,c0,rfl⟩:=zAF hw0;repeat' (first|refine zqa ?_|refine zqh (λ_=>?_)|refine zqr ?_|refine zqb ?_|refine zqi ?_ ?_|refine zqc ?_|refine zqg (λ_=>?_) (λ_=>?_)|refine zqe ?_|fail)
 refine loop (λm s I2 Lx=>∃x a k v2 l2 f,l2.length=m∧Ext I I2∧Lx=(b3,Obj.cells (Ag x (.slice a x.args.length k)).toArray 37 (0,0))::(b1,Obj.cells exZ.toArray 37 (0,0))::(L1++(b,PBo v2)::L2)∧ExL I2 (.slice a x.args.length k) x.args∧TL I2 v2 l2∧Toks l2∧l2.length≤f+1∧l2.length≤l.length∧Ci n g (IA q) l=Eb g (IA q) f x l2) r0.length
  ⟨x0,a0,c0,v0,r0,n,rfl,hI0,rfl,hw0,hTL0,hT0,by omega,hr0,by simp only [Ci,hg0,Res.bind]⟩ ?_
 rintro m s I2 Lx ⟨x,a,k,v2,l2,f,rfl,hI2,rfl,hw,hTL,hT2,hf,hlen,hm⟩;obtain ⟨bt,off,h1,h2⟩:=hTL.hd hT2;have fin:∀{L':LH},IA q l2=0→SubP (L1++(b,PBo v2)::L2) L'→Gh (K (.agg (Ag x (.slice a x.args.length k)).toArray)) I2 L':=λh0 hs=>by
  refine zAE (L1++(b,PBo v2)::L2) (zAA (hok x l2 ?_ hT2 hlen I2 v2 _ hI2 hTL hw));rw [hm];cases f with
  |zero=>rfl
  |succ f=>simp only [Eb,h0,if_true]
 unfold sh254_1;repeat' (first|refine zqa ?_|refine zqh (λ_=>?_)|(refine rd1 ((h2 _ [] (zAC _) 0 _ rfl).mono (zAC _) (λ_ h=>by cases h)) ?_)|refine zqr ?_|refine zqb ?_|refine zqi ?_ ?_|refine zqc ?_|refine zqg (λ_=>?_) (λ_=>?_)|(simp only [SSd,Nat.reduceAdd,h1]))
 ·rename_i hb
  have hb:isK l2 5=true:=by simpa [isK] using hb
  refine rd1 ((h2 I2 [] (zAC _) 2 _ rfl).mono (zAC _) (λ_ h=>by cases h)) ?_;refine ⟨_,ANH (.inr (hI2 _ _ hma)) hms (k:=(hd l2).text),?_⟩;cases hqt:q (hd l2).text with
  |none=>
   simp only [zbv,lkV,if_true];repeat' (first|refine zqa ?_|refine zqh (λ_=>?_)|refine zqr ?_|refine zqb ?_|(with_reducible first|refine Ap (sh254_3.eq_1 ..) ?_|refine Ap (sh254_1.eq_1 ..) ?_|refine Ap (sh254.eq_1 ..) ?_|refine And.intro ?_ ?_)|refine zqc ?_|refine zqg (λ_=>?_) (λ_=>?_)|refine zqe ?_|fail)
   exact fin (by simp [IA,hb,hqt]) inferInstance
  |some kd=>
   have hop:IA q l2=kd:=by simp [IA,hb,hqt]
   have hkd:kd≠0:=λe=>hq _ (by rw [hqt,e]);have hT':=hT2.tailK hb;obtain ⟨f,rfl⟩:∃q,f=q+1:=⟨f - 1,by have:=hT'.len;have:=hT2.len;omega⟩;simp only [Eb,hop,if_neg hkd] at hm;simp only [Option.map_some,lkV,if_true];try refine zqe ?_
   refine Az (IW hTL hT2 (λv' hv'=>?_));refine CX (b:=b) ?_;refine GK rfl ?_;have hl2:=hT2.len;refine FV (hone _ _ _ _ _ _ _ inferInstance hI2 hv' hT' zo ?_ ?_);rotate_left
   ·intro e hg I3 v3 hI3;exact zAE (L1++(b,PBo v3)::L2) (zAA (herr e (by rw [hm];simp [hg,Res.bind]) I3 v3 (zAB hI2 hI3)))
   rintro y r hg hT3 hr I3 v3 c hI3 hTL3 ⟨cy,rfl,hy⟩;obtain ⟨u,rfl,hu⟩:=ExV.iff.1 hy;dsimp only
   refine CV hI3 ?_;refine BJ (zAI hw hI3) hu (λI4 a4 hI4 h4=>zAA ?_);refine Az (BV h4 ?_);repeat' (first|refine zqa ?_|refine zqh (λ_=>?_)|refine zqr ?_|refine zqb ?_|refine zqi ?_ ?_|refine zqc ?_|refine zqg (λ_=>?_) (λ_=>?_)|refine zqe ?_|fail)
   refine zAA ⟨r.length,by omega,exK kd [x,y],a4,2,v3,r,f,rfl,zAB hI2 (zAB hI3 hI4),rfl,h4,hTL3.mono hI4,hT3,by omega,by omega,?_⟩;rw [hm];simp [hg,Res.bind]
 ·rename_i hb
  have hb:isK l2 5=false:=by simpa [isK] using hb
  repeat' (first|refine zqa ?_|refine zqh (λ_=>?_)|refine zqr ?_|refine zqb ?_|(with_reducible first|refine Ap (sh254_3.eq_1 ..) ?_|refine Ap (sh254_1.eq_1 ..) ?_|refine Ap (sh254.eq_1 ..) ?_|refine And.intro ?_ ?_)|refine zqc ?_|refine zqg (λ_=>?_) (λ_=>?_)|refine zqe ?_|fail)
  exact fin (by simp [IA,hb]) inferInstance
end
section
variable {ω:Om}{I:Imm}{L:LH}{K Pn:Value→M}{C:Obj→LH}{b:Nat}{v:Value}{l:List Tok}
theorem AFG:Jc (Jc (Jc (λ_=>none) [43] (some (.int .i64 9))) [45] (some (.int .i64 10))) [124,124] (some (.int .i64 14))=λk=>(MH k).map (.int .i64):=by
 funext k
 simp only [Jc,MH];by_cases h1:k=[43]
 ·subst h1;rfl
 ·by_cases h2:k=[45]
  ·subst h2;rfl
  ·by_cases h3:k=[124,124]
   ·subst h3;rfl
   ·simp only [h1,h2,h3,if_false];rfl
theorem ADF:Jc (Jc (Jc (λ_=>none) [42] (some (.int .i64 11))) [47] (some (.int .i64 12))) [37] (some (.int .i64 13))=λk=>(IB k).map (.int .i64):=by
 funext k
 simp only [Jc,IB];by_cases h1:k=[42]
 ·subst h1;rfl
 ·by_cases h2:k=[47]
  ·subst h2;rfl
  ·by_cases h3:k=[37]
   ·subst h3;rfl
   ·simp only [h1,h2,h3,if_false];rfl
theorem AJr (s:Bs):MH s≠some 0:=by unfold MH;repeat' split <;> simp
theorem AFC (s:Bs):IB s≠some 0:=by unfold IB;repeat' split <;> simp
theorem ANj (n:Nat){g:Pr Ex}(hg1:FnE ω (n+1) b 255 g):FnE ω (n+1) b 243 (Ci n g (IA MH)):=by
 intro K Pn I L C v l hF h hT hl hok herr;obtain ⟨L1,L2,rfl,rfl⟩:=hF.foc;refine AOx ?_;unfold ALU;refine AQ (λb1=>?_);refine AHt (λbm=>?_);obtain ⟨es1,c1,e1,h1⟩:=MapS.empty.put [43] (.int .i64 9);obtain ⟨es2,c2,e2,h2⟩:=h1.put [45] (.int .i64 10);obtain ⟨es3,c3,e3,h3⟩:=h2.put [124,124] (.int .i64 14);rw [AFG] at h3;refine zAA (Ol (k:=[43]) MapS.empty e1 ?_);refine zAA (Ol (k:=[45]) h1 e2 ?_);refine zAA (Ol (k:=[124,124]) h2 e3 ?_);refine zAA ?_;refine Aa (CalP.pre (Gh.freeze λhI1=>zAA ?_));refine SC n AJr (hg1.one (by kernel_rfl)) (es:=es3) (clock:=c3) (by simp [Imm.put]) h3 (h.mono hI1) hT hl (λx r hg hT' hr I' v' w hI' hv' hw=>?_) (λe hg I' v' hI'=>?_)
 ·obtain ⟨a,k,rfl⟩:=zAF hw;repeat' (first|(with_reducible first|refine CX (b:=b) ?_|refine keepA ?_|refine AQ (λ_=>?_))|(with_reducible refine Az ?_;refine CY _ zT zA (λhb hT' hl' v' hv'=>?_) (λhb=>?_))|(with_reducible refine CG _ zT zA (λhb hT' hl' I' v' hI' hv'=>?_) (λhb I' v' hI'=>?_))|(with_reducible refine Aa ?_;refine Cj zT zA (λhb hT' hl' v' hv'=>?_) (λhb=>?_))|(with_reducible refine Aa ?_;refine Ak zT zA ?_)|(with_reducible first|refine BQ zC (λI' a hI' hw'=>zAA ?_)|refine BJ zC zC (λI' a hI' hw'=>zAA ?_)|refine Ba zC zC zC (λI' a hI' hw'=>zAA ?_))|(with_reducible refine Az ?_;refine BV zC ?_)|refine zqr ?_|refine zqb ?_|refine zqi ?_ ?_|refine zqc ?_|refine zqg (λhb=>?_) (λhb=>?_)|refine zqe ?_|fail)
  exact zAE (L1++(b,PBo v')::L2) (zAA (hok x r hg hT' hr I' v' _ (zAB hI1 hI') hv' hw))
 ·exact zAE (L1++(b,PBo v')::L2) (zAA (herr e hg I' v' (zAB hI1 hI')))
theorem AJq (n:Nat){g:Pr Ex}(hg1:FnE ω (n+1) b 262 g):FnE ω (n+1) b 255 (Ci n g (IA IB)):=by
 intro K Pn I L C v l hF h hT hl hok herr;obtain ⟨L1,L2,rfl,rfl⟩:=hF.foc;refine AOs ?_;unfold ALR;refine AQ (λb1=>?_);refine AHt (λbm=>?_);obtain ⟨es1,c1,e1,h1⟩:=MapS.empty.put [42] (.int .i64 11);obtain ⟨es2,c2,e2,h2⟩:=h1.put [47] (.int .i64 12);obtain ⟨es3,c3,e3,h3⟩:=h2.put [37] (.int .i64 13);rw [ADF] at h3;refine zAA (Ol (k:=[42]) MapS.empty e1 ?_);refine zAA (Ol (k:=[47]) h1 e2 ?_);refine zAA (Ol (k:=[37]) h2 e3 ?_);refine zAA ?_;refine Aa (CalP.pre (Gh.freeze λhI1=>zAA ?_));refine SC n AFC (hg1.one (by kernel_rfl)) (es:=es3) (clock:=c3) (by simp [Imm.put]) h3 (h.mono hI1) hT hl (λx r hg hT' hr I' v' w hI' hv' hw=>?_) (λe hg I' v' hI'=>?_)
 ·obtain ⟨a,k,rfl⟩:=zAF hw;repeat' (first|(with_reducible first|refine CX (b:=b) ?_|refine keepA ?_|refine AQ (λ_=>?_))|(with_reducible refine Az ?_;refine CY _ zT zA (λhb hT' hl' v' hv'=>?_) (λhb=>?_))|(with_reducible refine CG _ zT zA (λhb hT' hl' I' v' hI' hv'=>?_) (λhb I' v' hI'=>?_))|(with_reducible refine Aa ?_;refine Cj zT zA (λhb hT' hl' v' hv'=>?_) (λhb=>?_))|(with_reducible refine Aa ?_;refine Ak zT zA ?_)|(with_reducible first|refine BQ zC (λI' a hI' hw'=>zAA ?_)|refine BJ zC zC (λI' a hI' hw'=>zAA ?_)|refine Ba zC zC zC (λI' a hI' hw'=>zAA ?_))|(with_reducible refine Az ?_;refine BV zC ?_)|refine zqr ?_|refine zqb ?_|refine zqi ?_ ?_|refine zqc ?_|refine zqg (λhb=>?_) (λhb=>?_)|refine zqe ?_|fail)
  exact zAE (L1++(b,PBo v')::L2) (zAA (hok x r hg hT' hr I' v' _ (zAB hI1 hI') hv' hw))
 ·exact zAE (L1++(b,PBo v')::L2) (zAA (herr e hg I' v' (zAB hI1 hI')))
theorem AOF (n:Nat){N Q:Pr Ex}(hN:FnE ω n b 220 N)(hQ:FnE ω (n+1) b 232 Q):FnE ω (n+1) b 220 (RF N Q):=by
 intro K Pn I L C v l hF h hT hl hok herr;obtain ⟨L1,L2,rfl,rfl⟩:=hF.foc;refine APM ?_;unfold ALe;refine AQ (λb1=>?_);refine Az (CY [110,111,116] h hT (λhb hT' hl' v' hv'=>?_) (λhb=>?_))
 ·try refine zqe ?_
  refine Aa (hN _ _ _ _ _ _ _ inferInstance hv' hT' zo (λx r hg hT2 hr I2 v2 w hI2 hv2 hw=>?_) (λe hg I2 v2 hI2=>zAE (L1++(b,PBo v2)::L2) (zAA (herr e (by simp only [RF,hb,if_true,hg,Res.bind]) I2 v2 hI2))));repeat' (first|(with_reducible first|refine CX (b:=b) ?_|refine keepA ?_|refine AQ (λ_=>?_))|(with_reducible refine Az ?_;refine CY _ zT zA (λhb hT' hl' v' hv'=>?_) (λhb=>?_))|(with_reducible refine CG _ zT zA (λhb hT' hl' I' v' hI' hv'=>?_) (λhb I' v' hI'=>?_))|(with_reducible refine Aa ?_;refine Cj zT zA (λhb hT' hl' v' hv'=>?_) (λhb=>?_))|(with_reducible refine Aa ?_;refine Ak zT zA ?_)|(with_reducible first|refine BQ zC (λI' a hI' hw'=>zAA ?_)|refine BJ zC zC (λI' a hI' hw'=>zAA ?_)|refine Ba zC zC zC (λI' a hI' hw'=>zAA ?_))|(with_reducible refine Az ?_;refine BV zC ?_)|refine zqr ?_|refine zqb ?_|refine zqi ?_ ?_|refine zqc ?_|refine zqg (λhb=>?_) (λhb=>?_)|refine zqe ?_|fail)
  exact zAE (L1++(b,PBo v2)::L2) (zAA (hok (exK 5 [x]) r (by simp only [RF,hb,if_true,hg,Res.bind]) hT2 zo _ v2 _ (zAB hI2 zA) (hv2.mono zA) zA))
 ·try refine zqe ?_
  refine Aa (hQ _ _ _ _ _ _ _ inferInstance h hT zo (λx r hg hT2 hr I2 v2 w hI2 hv2 hw=>?_) (λe hg I2 v2 hI2=>zAE (L1++(b,PBo v2)::L2) (zAA (herr e (by simp only [RF,hb,zt,if_false,hg]) I2 v2 hI2))));obtain ⟨a,k,rfl⟩:=zAF hw;repeat' (first|(with_reducible first|refine CX (b:=b) ?_|refine keepA ?_|refine AQ (λ_=>?_))|(with_reducible refine Az ?_;refine CY _ zT zA (λhb hT' hl' v' hv'=>?_) (λhb=>?_))|(with_reducible refine CG _ zT zA (λhb hT' hl' I' v' hI' hv'=>?_) (λhb I' v' hI'=>?_))|(with_reducible refine Aa ?_;refine Cj zT zA (λhb hT' hl' v' hv'=>?_) (λhb=>?_))|(with_reducible refine Aa ?_;refine Ak zT zA ?_)|(with_reducible first|refine BQ zC (λI' a hI' hw'=>zAA ?_)|refine BJ zC zC (λI' a hI' hw'=>zAA ?_)|refine Ba zC zC zC (λI' a hI' hw'=>zAA ?_))|(with_reducible refine Az ?_;refine BV zC ?_)|refine zqr ?_|refine zqb ?_|refine zqi ?_ ?_|refine zqc ?_|refine zqg (λhb=>?_) (λhb=>?_)|refine zqe ?_|fail)
  exact zAE (L1++(b,PBo v2)::L2) (zAA (hok x r (by simp only [RF,hb,zt,if_false,hg]) hT2 hr I2 v2 _ hI2 hv2 hw))
end
theorem OneP.mono {α:Type}{ω:Om}{n b:Nat}{g:Pr α}{V:Imm→α→Value→Prop}{fv:Value}{I I':Imm}(h:OneP ω n b g V fv I)(hI:Ext I I'):OneP ω n b g V fv I':=
 λK Pn I2 L C v l hF hI2=>h K Pn I2 L C v l hF (zAB hI hI2)
section
variable {ω:Om}{I:Imm}{L:LH}{K Pn:Value→M}{C:Obj→LH}{b:Nat}{v:Value}{l:List Tok}
theorem AEt (n:Nat)(hn0:n≤1000000000){g:Pr (Ex)}{fv:Value}(hone:OneP ω n b g (Hz ExV) fv I)[hF:Foc b L (PBo v) C](h:TL I v l)(hT:Toks l)(hl:l.length≤n)
  (hok:POk (Bc n g l) (λI x v=>RL ExV 11 I [] v x∧x.length≤l.length) l.length K C I) (herr:PEr (Bc n g l) Pn C I):CalP Tryz.prog ω 155 #[AL b,fv] K Pn I L:=by
 obtain ⟨L1,L2,rfl,rfl⟩:=hF.foc;refine AQJ ?_;unfold AMR;refine CG [40] h hT (λhb hT' hl' I1 v1 hI1 hv1=>?_) (λhb I1 v1 hI1=>zAA (herr _ (by simp [Bc,AP,hb,Res.bind,bad]) I1 v1 hI1));refine Aa (AFK n hn0 (hone.mono hI1) hv1 hT' zo (λx r hg hT2 hr I2 v2 c hI2 hv2 hc=>?_) (λe hg I2 v2 hI2=>zAA (herr e (by simp [Bc,AP,hb,Res.bind,hg]) I2 v2 (zAB hI1 hI2))));refine CG [41] hv2 hT2 (λhb2 hT3 hl3 I3 v3 hI3 hv3=>?_) (λhb2 I3 v3 hI3=>zAA (herr _ (by simp [Bc,AP,hb,hb2,Res.bind,hg,bad]) I3 v3 (zAB hI1 (zAB hI2 hI3))));exact (zAA (hok x r.tail (by simp [Bc,AP,hb,hb2,Res.bind,hg]) hT3 zo I3 v3 c (zAB hI1 (zAB hI2 hI3)) hv3 ⟨zAI hc.1 hI3,by have:=hc.2;omega⟩))
theorem AEs (n:Nat)(hn0:n≤1000000000){g:Pr (Bs)}{fv:Value}(hone:OneP ω n b g (ARQ) fv I)[hF:Foc b L (PBo v) C](h:TL I v l)(hT:Toks l)(hl:l.length≤n)
  (hok:POk (Bc n g l) (λI x v=>RL StrV 1 I [] v x∧x.length≤l.length) l.length K C I) (herr:PEr (Bc n g l) Pn C I):CalP Tryz.prog ω 153 #[AL b,fv] K Pn I L:=by
 obtain ⟨L1,L2,rfl,rfl⟩:=hF.foc;refine AQL ?_;unfold AMT;refine CG [40] h hT (λhb hT' hl' I1 v1 hI1 hv1=>?_) (λhb I1 v1 hI1=>zAA (herr _ (by simp [Bc,AP,hb,Res.bind,bad]) I1 v1 hI1));refine Aa (ANm n hn0 (hone.mono hI1) hv1 hT' zo (λx r hg hT2 hr I2 v2 c hI2 hv2 hc=>?_) (λe hg I2 v2 hI2=>zAA (herr e (by simp [Bc,AP,hb,Res.bind,hg]) I2 v2 (zAB hI1 hI2))));refine CG [41] hv2 hT2 (λhb2 hT3 hl3 I3 v3 hI3 hv3=>?_) (λhb2 I3 v3 hI3=>zAA (herr _ (by simp [Bc,AP,hb,hb2,Res.bind,hg,bad]) I3 v3 (zAB hI1 (zAB hI2 hI3))));exact (zAA (hok x r.tail (by simp [Bc,AP,hb,hb2,Res.bind,hg]) hT3 zo I3 v3 c (zAB hI1 (zAB hI2 hI3)) hv3 ⟨zAJ hc.1 hI3,by have:=hc.2;omega⟩))
theorem AHw (n:Nat):OneP ω n b Ar ARQ (.func (.func 96) #[AL b] #[]) I:=by
 intro K Pn I' L C v l hF hI h hT hl hok herr;refine NU (by kernel_rfl) (Cj h hT (λhb hT' hl' v' hv'=>?_) (λhb=>?_))
 ·exact hok (hd l).text l.tail (by simp [Ar,hb]) hT' zo I' v' _ (zAC _) hv' rfl
 ·have:=herr (hd l).at' (by simp [Ar,hb,bad]) I' v (zAC _);obtain ⟨L1,L2,rfl,rfl⟩:=hF.foc;exact this
theorem ZM (n:Nat)(hn0:n≤1000000000)[hF:Foc b L (PBo v) C](h:TL I v l)(hT:Toks l)(hl:l.length≤n)
  (hok:POk (Bc n Ar l) (λI x v=>StL I v x∧x.length≤l.length) l.length K C I) (herr:PEr (Bc n Ar l) Pn C I):CalP Tryz.prog ω 97 #[AL b] K Pn I L:=by
 refine ATW ?_;unfold ARb;refine Aa (AEs n hn0 (AHw n) h hT hl (λx r hg hT2 hr I2 v2 c hI2 hv2 hc=>zAA (hok x r hg hT2 hr I2 v2 c hI2 hv2 hc)) (λe hg I2 v2 hI2=>zAA (herr e hg I2 v2 hI2)))
theorem XA (n:Nat)(hn0:n≤1000000000){E:Pr Ex}(hE:FnE ω n b 148 E)[hF:Foc b L (PBo v) C](h:TL I v l)(hT:Toks l)(hl:l.length≤n)
  (hok:POk (Bc n E l) (λI x v=>ExL I v x∧x.length≤l.length) l.length K C I) (herr:PEr (Bc n E l) Pn C I):CalP Tryz.prog ω 99 #[AL b] K Pn I L:=by
 refine ATU ?_;unfold ARZ;refine Aa (AEt n hn0 (hE.one (by kernel_rfl)) h hT hl (λx r hg hT2 hr I2 v2 c hI2 hv2 hc=>zAA (hok x r hg hT2 hr I2 v2 c hI2 hv2 hc)) (λe hg I2 v2 hI2=>zAA (herr e hg I2 v2 hI2)))
theorem AHG (n:Nat)(hn0:n≤1000000000){E:Pr Ex}(hE:FnE ω n b 148 E)[hF:Foc b L (PBo v) C](h:TL I v l)(hT:Toks l)(hl:l.length≤n)
  (hok:∀x r,Bc n E l= .ok x r→Toks r→r.length≤l.length→x.length≤l.length→∀I' v' a k,Ext I I'→TL I' v' r→ExL I' (.slice a x.length k) x→K (.slice a x.length k) I' (C (PBo v'))) (herr:PEr (Bc n E l) Pn C I):CalP Tryz.prog ω 99 #[AL b] K Pn I L:=
 XA n hn0 hE h hT hl (λx r hg hT' hr I' v' w hI hv' hw=>by
  obtain ⟨a,k,rfl⟩:=zAF hw.1;exact hok x r hg hT' hr hw.2 I' v' a k hI hv' hw.1) herr
def cmpLq:List Bs:=[[61],[60,62],[60],[60,61],[62],[62,61]]
theorem AHm {r:List Tok}:∀{k:Nat} (hk:k < 6),(∀j,j < k→isT r (cmpLq.getD j [])=false)→isT r (cmpLq.getD k [])=true→DJ r=15+k
 |0,_,_,h=>by simp only [cmpLq,zaO] at h;simp [DJ,h]
 |1,_,h0,h=>by have:=h0 0 zo;simp only [cmpLq,zaO,zaT] at h this;simp [DJ,h,this]
 |2,_,h0,h=>by have h1:=h0 0 zo;have h2:=h0 1 zo;simp only [cmpLq,zaO,zaT] at h h1 h2;simp [DJ,h,h1,h2]
 |3,_,h0,h=>by have h1:=h0 0 zo;have h2:=h0 1 zo;have h3:=h0 2 zo;simp only [cmpLq,zaO,zaT] at h h1 h2 h3;simp [DJ,h,h1,h2,h3]
 |4,_,h0,h=>by have h1:=h0 0 zo;have h2:=h0 1 zo;have h3:=h0 2 zo;have h4:=h0 3 zo;simp only [cmpLq,zaO,zaT] at h h1 h2 h3 h4;simp [DJ,h,h1,h2,h3,h4]
 |5,_,h0,h=>by have h1:=h0 0 zo;have h2:=h0 1 zo;have h3:=h0 2 zo;have h4:=h0 3 zo;have h5:=h0 4 zo;simp only [cmpLq,zaO,zaT] at h h1 h2 h3 h4 h5;simp [DJ,h,h1,h2,h3,h4,h5]
theorem AHl {r:List Tok}(h0:∀j,j < 6→isT r (cmpLq.getD j [])=false):DJ r=0:=by
 have h1:=h0 0 zo;have h2:=h0 1 zo;have h3:=h0 2 zo;have h4:=h0 3 zo;have h5:=h0 4 zo;have h6:=h0 5 zo;simp only [cmpLq,zaO,zaT] at h1 h2 h3 h4 h5 h6;simp [DJ,h1,h2,h3,h4,h5,h6]
end
theorem RL.toI {α:Type}{R:Imm→α→List Value→Prop}{n:Nat}{I:Imm}{v:Value}{xs:List α}(hn:0 < n)(h:RL R n I [] v xs):∃cells,SlI I n v cells xs.length∧Recs (R I) n xs cells:=by
 obtain ⟨a,cap,cells,rfl,hc,hN,hR⟩:=h;refine ⟨cells,⟨hR.length,a,cap,rfl,hc,λh0=>?_⟩,hR⟩;rcases hN with ⟨a',cap',e,h1,_⟩|⟨b,off,cap',e,hl,hcs⟩|⟨s,e,_⟩
 ·omega
 ·simp only [Value.slice.injEq] at e;obtain ⟨rfl,_,rfl⟩:=e;have hpos:0 < cells.length:=by rw [hl];exact Nat.mul_pos zo hn
  obtain ⟨cs,T,fr,hm,hv⟩:=hcs 0 cells[0] (zan hpos);rcases hm with hm|hm
  ·cases hm
  ·refine ⟨b,off,cs,T,fr,rfl,hm,λj u hu=>?_⟩;obtain ⟨cs',T',fr',hm',hv'⟩:=hcs j u hu;rcases hm' with hm'|hm'
   ·cases hm'
   ·rw [hm] at hm';cases hm';exact hv'
 ·cases e
theorem AEn {I:Imm}{L F:LH}(hp:L.Perm F){T n bytes len m:Nat}{z:Array Value}{s x:Value}{a:Option Addr}{olds news:List Value}{K:Value→M}(hz:z.size=n)(hs:s= .slice a len len)(ho:News n s I L len olds)(hn:News n x I L m news)
  (h1:∀u∈news,u.oneCell'=true) (hm:0 < m) (hb:(len+m) * bytes≤150000000000000) (hm':len+m≤150000000000000) (hk:∀X' v',SlO T n X' v' (olds++news) (len+m)→Gh (K v') I (X'++F)):App T n bytes z s x (gh K) I L:=by
 have hol:=ho.length;have hnl:=hn.length;have hlen:(olds++news).length=(len+m) * n:=by rw [zn,hol,hnl,zaC]
 refine ⟨a,len,len,m,news,hs,hn,h1,.inr (.inr ⟨by omega,hb,hm',olds,L,ho,List.Sublist.refl _,λb c hc=>?_⟩)⟩;refine Gh.perm (List.Perm.cons _ hp) ((hk [(b,_)] _ ⟨hlen,.inr ⟨b,c,_,rfl,rfl,?_,hc,?_⟩⟩))
 ·simp only [Array.size_append,List.size_toArray,Fg,hz,hlen];rw [←zaC];congr 1;omega
 ·intro j u hu;have hlt:j < (olds++news).length:=(zY.1 hu).1;rw [zaL (by simpa using hlt)];simpa using hu
section
variable {ω:Om}{I:Imm}{L:LH}{K Pn:Value→M}{C:Obj→LH}{b:Nat}{v:Value}{l:List Tok}
theorem AUq {T bytes m:Nat}{z:Array Value}(hz:z.size=11){a:Option Addr}{w:Value}{xs ys:List Ex}(hm:m=xs.length)(hu:ExL I (.slice a m m) xs)(hw:ExL I w ys)(hb:(xs.length+ys.length) * bytes≤150000000000000)(hl:xs.length+ys.length≤150000000000000)
  (hk:∀I' a' k,Ext I I'→ExL I' (.slice a' (xs++ys).length k) (xs++ys)→Gh (K (.slice a' (xs++ys).length k)) I' L):App T 11 bytes z (.slice a m m) w (gh K) I L:=by
 subst hm;obtain ⟨c1,s1,r1⟩:=RL.toI zx hu;obtain ⟨c2,s2,r2⟩:=RL.toI zx hw;by_cases h0:ys.length=0
 ·obtain rfl:=zae h0;have hnil:c2=[]:=zae (by simpa using r2.length);subst hnil;refine ⟨a,xs.length,xs.length,0,[],rfl,s2.news,zy,.inl ⟨zW _,rfl,?_⟩⟩;have e:(xs++([]:List Ex)).length=xs.length:=by simp
  have:=hk I a xs.length (zAC _) (by simpa using hu);rw [e] at this;exact this
 ·exact AEn (List.Perm.refl _) hz rfl (SlI.news s1 (L:=L)) (SlI.news s2 (L:=L)) (r2.one_cells λx c h=>ExV.one h) zo hb hl (λX' v' h'=>SlO.freeze h' λI' hI hS=>by
   have hx:ExL I' v' (xs++ys):=RL.ofI (by rw [zn];exact hS) (zAS (r1.imp λ_ _ h=>ExV.mono hI h) (r2.imp λ_ _ h=>ExV.mono hI h));obtain ⟨a',k,rfl⟩:=zAF hx;exact hk I' a' k hI hx)
end
section
variable {ω:Om}{b:Nat}
theorem AKS (n:Nat)(hn0:n+1≤1000000000){E S:Pr Ex}(hE:FnE ω n b 148 E)(hS:FnE ω (n+1) b 243 S):FnE ω (n+1) b 232 (II n E S):=by
 intro K Pn I L C v l hF h hT hl hok herr;obtain ⟨L1,L2,rfl,rfl⟩:=hF.foc;refine APE ?_;unfold sh232;refine AQ (λb1=>?_);refine Aa (hS _ _ _ _ _ _ _ inferInstance h hT hl ?_ ?_);rotate_left
 ·intro e hg I' v' hI;exact zAE (L1++(b,PBo v')::L2) (zAA (herr e (by simp only [II,hg,Res.bind]) I' v' hI))
 intro x r0 hg0 hT0 hr0 I0 v0 w0 hI0 hTL0 hw0;refine AQ (λb3=>?_);obtain ⟨a,k0,rfl⟩:=zAF hw0;repeat' (first|refine zqa ?_|refine zqh (λ_=>?_)|refine zqr ?_|refine zqb ?_|refine zqi ?_ ?_|refine zqc ?_|refine zqg (λ_=>?_) (λ_=>?_)|refine zqe ?_|fail)
 refine DT cmpLq rfl rfl (λI1 ac hI1 hc=>zAA ?_);try refine zqe ?_
 have hw1:=zAI hw0 hI1;have hTL1:=hTL0.mono hI1;have hI01:=zAB hI0 hI1;refine loop (λm s I2 Lx=>∃k:Nat,k+m=6∧s=(.int .i64 k,())∧I2=I1∧Lx=(b3,Obj.cells (Ag x (.slice a x.args.length k0)).toArray 37 (0,0))::(b1,Obj.cells exZ.toArray 37 (0,0))::(L1++(b,PBo v0)::L2)∧∀j,j < k→isT r0 (cmpLq.getD j [])=false) 6
  ⟨0,rfl,rfl,rfl,rfl,λj hj=>by omega⟩ ?_
 rintro m s I2 Lx ⟨k,hkm,rfl,rfl,rfl,hno⟩;unfold sh232_1;try refine zqe ?_
 refine AB (λhlt=>?_) (λhlt=>?_)
 ·simp at hlt;have hlt:k < 6:=by omega
  obtain ⟨bw,off,c,h1,_,h2,h3⟩:=zAR hc (i:=k) zo (by simp [cmpLq];omega);have hgk:Lj cmpLq (k:Int)=cmpLq.getD k []:=by simp [Lj];rfl
  rw [hgk] at h2;obtain rfl:=h2;have h1:ixV 1 (.slice ac 6 6) (.int .i64 k)=some (.pointer (some ⟨bw,off,none⟩)):=h1;simp only [h1,SSd,Nat.reduceAdd];refine rd1 ((h3 _ [] (zAC _) (λ_ h=>h) 0 _ rfl).mono (zAC _) (λ_ h=>by cases h)) ?_;refine Az (CY (cmpLq.getD k []) hTL1 hT0 (λhb hT' hl' v' hv'=>?_) (λhb=>?_))
  ·try refine zqe ?_
   have hop:=AHm hlt hno hb;refine CX (b:=b) ?_;simp only [SSd,Nat.reduceAdd,wrap_i64 (15+(k:Int)) zo];refine GK rfl ?_;refine Aa (hS _ _ _ _ _ _ _ inferInstance hv' hT' zo ?_ ?_);rotate_left
   ·intro e hg I3 v3 hI3;exact zAE (L1++(b,PBo v3)::L2) (zAA (herr e (by simp [II,hg0,Res.bind,hop,hg];omega) I3 v3 (zAB hI01 hI3)))
   intro y r hg hT3 hr I3 v3 u hI3 hTL3 hu;refine CV hI3 ?_;refine BJ (zAI hw1 hI3) hu (λI4 a4 hI4 h4=>zAA ?_);refine Az (BV h4 ?_);repeat' (first|refine zqa ?_|refine zqh (λ_=>?_)|refine zqr ?_|refine zqb ?_|refine zqi ?_ ?_|refine zqc ?_|refine zqg (λ_=>?_) (λ_=>?_)|refine zqe ?_|fail)
   refine zAE (L1++(b,PBo v3)::L2) (zAA (hok (exK (15+k) [x,y]) r ?_ hT3 zo I4 v3 _ (zAB hI01 (zAB hI3 hI4)) (hTL3.mono hI4) h4));simp [II,hg0,Res.bind,hop,hg];omega
  ·simp only [SSd,Nat.reduceAdd,wrap_i64 ((k:Int)+1) zo];refine zAA ⟨m - 1,by omega,k+1,by omega,rfl,rfl,rfl,λj hj=>?_⟩;rcases Nat.lt_succ_iff_lt_or_eq.1 hj with hj|rfl
   ·exact hno j hj
   ·exact hb
 ·simp at hlt;have hop:DJ r0=0:=AHl λj hj=>hno j zo;clear hno hlt hkm hc;unfold sh232_3;repeat' (first|(with_reducible first|refine CX (b:=b) ?_|refine keepA ?_|refine AQ (λ_=>?_))|(with_reducible refine Aa ?_;refine hS.go zT zA zo (λy r' hg hT2 hr2 I' v' a' k' hI' hv' hw'=>?_) (λe hg I' v' hI'=>?_))|(with_reducible refine Aa ?_;refine AHG n zo hE zT zA zo (λy r' hg hT2 hr2 hyl I' v' a' k' hI' hv' hw'=>?_) (λe hg I' v' hI'=>?_))|(with_reducible refine AUq rfl rfl zC zC zL zL (λI' a' k' hI' hw'=>zAA ?_))|(with_reducible refine Az ?_;refine CY _ zT zA (λhb hT' hl' v' hv'=>?_) (λhb=>?_))|(with_reducible refine CG _ zT zA (λhb hT' hl' I' v' hI' hv'=>?_) (λhb I' v' hI'=>?_))|(with_reducible refine Aa ?_;refine Cj zT zA (λhb hT' hl' v' hv'=>?_) (λhb=>?_))|(with_reducible refine Aa ?_;refine Ak zT zA ?_)|(with_reducible first|refine BQ zC (λI' a hI' hw'=>zAA ?_)|refine BJ zC zC (λI' a hI' hw'=>zAA ?_)|refine Ba zC zC zC (λI' a hI' hw'=>zAA ?_))|(with_reducible refine Az ?_;refine BV zC ?_)|refine zqr ?_|refine zqb ?_|(with_reducible first|refine Ap (sh232_4.eq_1 ..) ?_|refine Ap (sh232_7.eq_1 ..) ?_|refine Ap (sh232_3.eq_1 ..) ?_|refine Ap (sh232_1.eq_1 ..) ?_|refine Ap (sh232.eq_1 ..) ?_|refine And.intro ?_ ?_)|refine zqc ?_|refine zqg (λhb=>?_) (λhb=>?_)|refine zqe ?_|fail)
  all_goals first
   |exact zAE (L1++(b,PBo v')::L2) (zAA (herr _ (by simp [II,hg0,hop,Res.bind,bad,AP, *] <;> rfl) _ _ zE))
   |exact zAE (L1++(b,PBo v')::L2) (zAA (hok _ _ (by simp [II,hg0,hop,Lh,Res.bind,bad,AP, *] <;> rfl) zA zo _ _ _ zE zT zC))
   |exact zAE (L1++(b,PBo v0)::L2) (zAA (hok _ _ (by simp [II,hg0,hop,Res.bind,bad,AP,Lh, *] <;> rfl) zA zo _ _ _ zE zT zC))
end
def OJ (E:Pr Ex)(a:List Ex)(r:List Tok):Res Ex:=(if isT r [101,108,115,101] then (E r.tail).bind λx r=>.ok (a++[x]) r else Res.ok a r).bind λa r=>(AP [101,110,100] r).bind λ_ r=>.ok (exK 26 a) r
theorem AIj (n:Nat)(E:Pr Ex)(l:List Tok):FD n E l=(Dl n E [] l).bind λa r=>(DV n E n a r).bind (OJ E):=rfl
abbrev NT (w:Value):List Value:=[.int .i64 26,.int .i64 0,.bool false,.int .i64 0,.string ⟨#[]⟩,.string ⟨#[]⟩,.string ⟨#[]⟩,.int .i64 0,.int .i64 0,.bool false,w]
section
variable {ω:Om}{b:Nat}
theorem AIi (n:Nat)(hn0:n≤1000000000){E:Pr Ex}(hE:FnE ω n b 148 E):FnE ω n b 266 (FD n E):=by
 intro K Pn I L C v l hF h hT hl hok herr;obtain ⟨L1,L2,rfl,rfl⟩:=hF.foc;refine AOn ?_;unfold ALP;refine AQ (λb1=>?_);try refine zqe ?_
 refine AQ (λb3=>?_);repeat' (first|refine zqa ?_|refine zqh (λ_=>?_)|refine zqr ?_|refine zqb ?_|refine zqi ?_ ?_|refine zqc ?_|refine zqg (λ_=>?_) (λ_=>?_)|refine zqe ?_|fail)
 refine loop (λm s I2 Lx=>∃(X:LH) (w:Value) (cells:List Value) (acc:List Ex) (v2:Value) (l2:List Tok) (f:Nat),l2.length=m∧Ext I I2∧Lx=(b3,Obj.cells (NT w).toArray 37 (0,0))::(b1,Obj.cells exZ.toArray 37 (0,0))::(X++(L1++(b,PBo v2)::L2))∧SlO 37 11 X w cells acc.length∧Recs (ExV I2) 11 acc cells∧TL I2 v2 l2∧Toks l2∧l2.length≤f∧l2.length≤l.length∧acc.length+l2.length≤l.length∧
   ((acc=[]∧w= .slice none 0 0∧FD n E l=(Dl n E acc l2).bind λa r=>(DV n E f a r).bind (OJ E))∨((∃bb cap,w= .slice (some bb) acc.length cap)∧FD n E l=(DV n E f acc l2).bind (OJ E)))) l.length
  ⟨[],.slice none 0 0,[],[],v,l,n,rfl,zAC _,rfl,SlO.none _ _,rfl,h,hT,hl,zW _,by simp,.inl ⟨rfl,rfl,AIj n E l⟩⟩ ?_
 rintro m s I2 Lx ⟨X,w,cells,acc,v2,l2,f,rfl,hI2,rfl,hX,hR,hTL,hT2,hf,hlen,hal,hm⟩;unfold AAp;rcases hm with ⟨rfl,rfl,hm⟩|⟨⟨bb,cap,rfl⟩,hm⟩
 ·try refine zqe ?_
  refine rdb ?_;try refine zqe ?_
  refine CG [119,104,101,110] hTL hT2 (λhb hT' hl' I3 v3 hI3 hv3=>?_) (λhb I3 v3 hI3=>zAE (L1++(b,PBo v3)::L2) (zAA (herr _ (by rw [hm];simp [Dl,AP,hb,Res.bind,bad]) I3 v3 (zAB hI2 hI3))));refine Aa (hE.go hv3 hT' zo (λx r hg hT3 hr I4 v4 a4 k4 hI4 hv4 hw4=>?_) (λe hg I4 v4 hI4=>zAE (L1++(b,PBo v4)::L2) (zAA (herr e (by rw [hm];simp [Dl,AP,hb,Res.bind,hg]) I4 v4 (zAB hI2 (zAB hI3 hI4))))));refine AQ (λbw=>?_);repeat' (first|refine zqa ?_|refine zqh (λ_=>?_)|refine zqr ?_|refine zqb ?_|refine zqi ?_ ?_|refine zqc ?_|refine zqg (λ_=>?_) (λ_=>?_)|refine zqe ?_|fail)
  refine CG [116,104,101,110] hv4 hT3 (λhb2 hT4 hl4 I5 v5 hI5 hv5=>?_) (λhb2 I5 v5 hI5=>zAE (L1++(b,PBo v5)::L2) (zAA (herr _ (by rw [hm];simp [Dl,AP,hb,hb2,Res.bind,hg,bad]) I5 v5 (zAB hI2 (zAB hI3 (zAB hI4 hI5))))));refine CX (b:=b) ?_;try refine zqe ?_
  refine CB ?_;refine GK rfl ?_;refine Aa (hE.go hv5 hT4 zo (λy r6 hg6 hT6 hr6 I6 v6 a6 k6 hI6 hv6 hw6=>?_) (λe hg6 I6 v6 hI6=>zAE (L1++(b,PBo v6)::L2) (zAA (herr e (by rw [hm];simp [Dl,AP,hb,hb2,Res.bind,hg,hg6]) I6 v6 (zAB hI2 (zAB hI3 (zAB hI4 (zAB hI5 hI6))))))));refine CV hI6 ?_;refine BJ (zAI hw4 (zAB hI5 hI6)) hw6 (λI7 a7 hI7 hw7=>zAA ?_);refine CV (zAB hI6 hI7) ?_;obtain ⟨c7,s7,r7⟩:=RL.toI zx hw7;refine Dx (X:=X) rfl hX s7.news (r7.one_cells λx c h=>ExV.one h) zL zL (λX8 w8 hX8=>?_);have hI27:Ext I2 I7:=zAB hI3 (zAB hI4 (zAB hI5 (zAB hI6 hI7)));have hR8:=zAS (zAU (R':=ExV I7) (λ_ _ h=>ExV.mono hI27 h) hR) r7;have e8:([]:List Ex).length+[x,y].length=(([]:List Ex)++[x,y]).length:=by simp
  rw [e8] at hX8;obtain ⟨a8,k8,ha8⟩:∃a k,w8= .slice (some a) (([]:List Ex)++[x,y]).length k:=by
   obtain ⟨_,h8⟩:=hX8;rcases h8 with ⟨_,h0,_⟩|⟨b8,k8,_,_,h8,_⟩
   ·simp at h0
   ·exact ⟨_,_,h8⟩
  subst ha8;repeat' (first|refine zqa ?_|refine zqh (λ_=>?_)|refine zqr ?_|refine zqb ?_|refine zqi ?_ ?_|refine zqc ?_|refine zqg (λ_=>?_) (λ_=>?_)|refine zqe ?_|fail)
  refine zAE ((b3,Obj.cells (NT (.slice (some a8) (([]:List Ex)++[x,y]).length k8)).toArray 37 (0,0))::(b1,Obj.cells exZ.toArray 37 (0,0))::(X8++(L1++(b,PBo v6)::L2))) (zAA ⟨r6.length,by omega,X8,_,_,([]:List Ex)++[x,y],v6,r6,f,rfl,zAB hI2 hI27,rfl,hX8,hR8,hv6.mono hI7,hT6,by omega,by omega,?_,.inr ⟨⟨a8,k8,rfl⟩,?_⟩⟩)
  ·simp only [zU] at hal ⊢;omega
  ·rw [hm];simp [Dl,AP,hb,hb2,Res.bind,hg,hg6]
 ·try refine zqe ?_
  refine rdb ?_;try refine zqe ?_
  refine Az (JG [119,104,101,110] hTL hT2 (λhw=>?_) (λhw=>?_))
  ·try refine zqe ?_
   obtain ⟨f,rfl⟩:∃q,f=q+1:=⟨f - 1,by have:=hT2.len;omega⟩;have hm:FD n E l=(Dl n E acc l2).bind λa r=>(DV n E f a r).bind (OJ E):=by
    rw [hm];simp only [DV,hw,if_true,Res.bind];cases Dl n E acc l2 <;> rfl
   refine CG [119,104,101,110] hTL hT2 (λhb hT' hl' I3 v3 hI3 hv3=>?_) (λhb I3 v3 hI3=>zAE (L1++(b,PBo v3)::L2) (zAA (herr _ (by rw [hm];simp [Dl,AP,hb,Res.bind,bad]) I3 v3 (zAB hI2 hI3))));refine Aa (hE.go hv3 hT' zo (λx r hg hT3 hr I4 v4 a4 k4 hI4 hv4 hw4=>?_) (λe hg I4 v4 hI4=>zAE (L1++(b,PBo v4)::L2) (zAA (herr e (by rw [hm];simp [Dl,AP,hb,Res.bind,hg]) I4 v4 (zAB hI2 (zAB hI3 hI4))))));refine AQ (λbw=>?_);repeat' (first|refine zqa ?_|refine zqh (λ_=>?_)|refine zqr ?_|refine zqb ?_|refine zqi ?_ ?_|refine zqc ?_|refine zqg (λ_=>?_) (λ_=>?_)|refine zqe ?_|fail)
   refine CG [116,104,101,110] hv4 hT3 (λhb2 hT4 hl4 I5 v5 hI5 hv5=>?_) (λhb2 I5 v5 hI5=>zAE (L1++(b,PBo v5)::L2) (zAA (herr _ (by rw [hm];simp [Dl,AP,hb,hb2,Res.bind,hg,bad]) I5 v5 (zAB hI2 (zAB hI3 (zAB hI4 hI5))))));refine CX (b:=b) ?_;try refine zqe ?_
   refine CB ?_;refine GK rfl ?_;refine Aa (hE.go hv5 hT4 zo (λy r6 hg6 hT6 hr6 I6 v6 a6 k6 hI6 hv6 hw6=>?_) (λe hg6 I6 v6 hI6=>zAE (L1++(b,PBo v6)::L2) (zAA (herr e (by rw [hm];simp [Dl,AP,hb,hb2,Res.bind,hg,hg6]) I6 v6 (zAB hI2 (zAB hI3 (zAB hI4 (zAB hI5 hI6))))))));refine CV hI6 ?_;refine BJ (zAI hw4 (zAB hI5 hI6)) hw6 (λI7 a7 hI7 hw7=>zAA ?_);refine CV (zAB hI6 hI7) ?_;obtain ⟨c7,s7,r7⟩:=RL.toI zx hw7;refine Dx (X:=X) rfl hX s7.news (r7.one_cells λx c h=>ExV.one h) zL zL (λX8 w8 hX8=>?_);have hI27:Ext I2 I7:=zAB hI3 (zAB hI4 (zAB hI5 (zAB hI6 hI7)));have hR8:=zAS (zAU (R':=ExV I7) (λ_ _ h=>ExV.mono hI27 h) hR) r7;have e8:acc.length+[x,y].length=(acc++[x,y]).length:=by simp
   rw [e8] at hX8;obtain ⟨a8,k8,ha8⟩:∃a k,w8= .slice (some a) (acc++[x,y]).length k:=by
    obtain ⟨_,h8⟩:=hX8;rcases h8 with ⟨_,h0,_⟩|⟨b8,k8,_,_,h8,_⟩
    ·simp at h0
    ·exact ⟨_,_,h8⟩
   subst ha8;repeat' (first|refine zqa ?_|refine zqh (λ_=>?_)|refine zqr ?_|refine zqb ?_|refine zqi ?_ ?_|refine zqc ?_|refine zqg (λ_=>?_) (λ_=>?_)|refine zqe ?_|fail)
   refine zAE ((b3,Obj.cells (NT (.slice (some a8) (acc++[x,y]).length k8)).toArray 37 (0,0))::(b1,Obj.cells exZ.toArray 37 (0,0))::(X8++(L1++(b,PBo v6)::L2))) (zAA ⟨r6.length,by omega,X8,_,_,acc++[x,y],v6,r6,f,rfl,zAB hI2 hI27,rfl,hX8,hR8,hv6.mono hI7,hT6,by omega,by omega,?_,.inr ⟨⟨a8,k8,rfl⟩,?_⟩⟩)
   ·simp only [zU] at hal ⊢;omega
   ·rw [hm];simp [Dl,AP,hb,hb2,Res.bind,hg,hg6]
  ·try refine zqe ?_
   have hm:FD n E l=OJ E acc l2:=by
    rw [hm];cases f with
    |zero=>rfl
    |succ f=>simp [DV,hw,Res.bind]
   unfold AAo;refine Az (CY [101,108,115,101] hTL hT2 (λhe hT' hl' v3 hv3=>?_) (λhe=>?_))
   ·try refine zqe ?_
    refine CX (b:=b) ?_;try refine zqe ?_
    refine CB ?_;refine Aa (hE.go hv3 hT' zo (λx r hg hT3 hr I3 v3 a3 k3 hI3 hv3 hw3=>?_) (λe hg I3 v3 hI3=>zAE (L1++(b,PBo v3)::L2) (zAA (herr e (by rw [hm];simp [OJ,he,hg,Res.bind]) I3 v3 (zAB hI2 hI3)))));refine CV hI3 ?_;refine BQ hw3 (λI4 a4 hI4 hw4=>zAA ?_);refine CV (zAB hI3 hI4) ?_;obtain ⟨c4,s4,r4⟩:=RL.toI zx hw4;refine Dx (X:=X) rfl hX s4.news (r4.one_cells λx c h=>ExV.one h) zL zL (λX5 w5 hX5=>?_);have e5:acc.length+[x].length=(acc++[x]).length:=by simp
    rw [e5] at hX5;obtain ⟨a5,k5,rfl⟩:=hX5.form;repeat' (first|refine zqa ?_|refine zqh (λ_=>?_)|refine zqr ?_|refine zqb ?_|refine zqi ?_ ?_|refine zqc ?_|refine zqg (λ_=>?_) (λ_=>?_)|refine zqe ?_|fail)
    have hR5:=zAS (zAU (R':=ExV I4) (λ_ _ h=>ExV.mono (zAB hI3 hI4) h) hR) r4;have hg9:FD n E l=((AP [101,110,100] r).bind λ_ r=>.ok (exK 26 (acc++[x])) r):=by rw [hm];simp only [OJ,he,if_true,hg,Res.bind]
    unfold PD;refine CG [101,110,100] (hv3.mono hI4) hT3 (λhb hT9 hl9 I9 v9 hI9 hv9=>?_) (λhb I9 v9 hI9=>zAE (L1++(b,PBo v9)::L2) (zAA (herr _ (by rw [hg9];simp [AP,hb,Res.bind,bad]) I9 v9 (zAB (zAB hI2 (zAB hI3 hI4)) hI9))));repeat' (first|refine zqa ?_|refine zqh (λ_=>?_)|refine zqr ?_|refine zqb ?_|refine zqi ?_ ?_|refine zqc ?_|refine zqg (λ_=>?_) (λ_=>?_)|refine zqe ?_|fail)
    refine zAE (X5++(L1++(b,PBo v9)::L2)) ?_;refine RL.ofO (R:=ExV) (λ{I I' x c} h hI=>ExV.mono hI h) hX5 (zAU (λ_ _ h=>ExV.mono hI9 h) hR5) (λI10 hI10 hw10=>zAA ?_);exact hok (exK 26 (acc++[x])) _ (by rw [hg9];simp only [AP,hb,if_true,Res.bind]) hT9 zo I10 v9 _ (zAB (zAB hI2 (zAB hI3 hI4)) (zAB hI9 hI10)) (hv9.mono hI10) hw10
   ·try refine zqe ?_
    have hg9:FD n E l=((AP [101,110,100] l2).bind λ_ r=>.ok (exK 26 acc) r):=by rw [hm];simp only [OJ,he,zt,if_false,Res.bind]
    unfold PD;refine CG [101,110,100] hTL hT2 (λhb hT9 hl9 I9 v9 hI9 hv9=>?_) (λhb I9 v9 hI9=>zAE (L1++(b,PBo v9)::L2) (zAA (herr _ (by rw [hg9];simp [AP,hb,Res.bind,bad]) I9 v9 (zAB hI2 hI9))));repeat' (first|refine zqa ?_|refine zqh (λ_=>?_)|refine zqr ?_|refine zqb ?_|refine zqi ?_ ?_|refine zqc ?_|refine zqg (λ_=>?_) (λ_=>?_)|refine zqe ?_|fail)
    refine zAE (X++(L1++(b,PBo v9)::L2)) ?_;refine RL.ofO (R:=ExV) (λ{I I' x c} h hI=>ExV.mono hI h) hX (zAU (λ_ _ h=>ExV.mono hI9 h) hR) (λI10 hI10 hw10=>zAA ?_);exact hok (exK 26 (acc)) _ (by rw [hg9];simp only [AP,hb,if_true,Res.bind]) hT9 zo I10 v9 _ (zAB hI2 (zAB hI9 hI10)) (hv9.mono hI10) hw10
end
section
variable {ω:Om}{b:Nat}
theorem ACk {I:Imm}{L:LH}{K:Value→M}(hk:∀I' a,Ext I I'→ExL I' (.slice a 1 1) [exK 3 []]→Gh (K (.slice a 1 1)) I' L):
  AU 37 11 #[.int .i64 0,.int .i64 0,.bool false,.int .i64 0,.string ⟨#[]⟩,.string ⟨#[]⟩,.string ⟨#[]⟩,.int .i64 0,.int .i64 0,.bool false,.slice none 0 0] 1
   [(0,.agg #[.int .i64 3,.int .i64 0,.bool false,.int .i64 0,.string ⟨#[]⟩,.string ⟨#[]⟩,.string ⟨#[]⟩,.int .i64 0,.int .i64 0,.bool false,.slice none 0 0])] (gh K) I L:=
 BQ (x:=exK 3 []) (w:=.slice none 0 0) (zAD none 0) hk
theorem AEj (n:Nat)(hn0:n≤1000000000){E:Pr Ex}(hE:FnE ω n b 148 E)(s:Bs){I:Imm}{L:LH}{K Pn:Value→M}{C:Obj→LH}{v:Value}{l:List Tok}[hF:Foc b L (PBo v) C](h:TL I v l)(hT:Toks l)(hl:l.length≤n)
  (hyes:Dt s=true→∀x r,DF n E s l= .ok x r→Toks r→r.length≤l.length→∀I' v' w,Ext I I'→TL I' v' r→ExL I' w x.args→K (.tuple #[.agg (Ag x w).toArray,.bool true]) I' (C (PBo v')))
  (herr:Dt s=true→PEr (DF n E s l) Pn C I) (hno:Dt s=false→K (.tuple #[.agg exZ.toArray,.bool false]) I L):CalP Tryz.prog ω 267 #[AL b,.string ⟨s.toArray⟩] K Pn I L:=by
 obtain ⟨L1,L2,rfl,rfl⟩:=hF.foc;refine AOm ?_;unfold sh267;refine AQ (λb1=>?_);have agg:∀c:Bool,isAgg s=c→(s==[99,111,97,108,101,115,99,101])=false→(s==[108,101,110,103,116,104])=false→
   sh267_1 ω (AL b) (.string ⟨s.toArray⟩) (AL b1) (.bool false) (.bool c) (λv=>Gh (K v)) (λv=>Gh (Pn v)) I ((b1,Obj.cells exZ.toArray 37 (0,0))::(L1++(b,PBo v)::L2)):=by
  intro c hc h1 h2;have hs1:s≠[99,111,97,108,101,115,99,101]:=by simpa using h1
  have hs2:s≠[108,101,110,103,116,104]:=by simpa using h2
  unfold sh267_1;cases c with
  |false=>
   repeat' (first|(with_reducible first|refine CX (b:=b) ?_|refine keepA ?_|refine AQ (λ_=>?_))|(with_reducible refine Az ?_;refine CY _ zT zA (λhb hT' hl' v' hv'=>?_) (λhb=>?_))|(with_reducible refine CG _ zT zA (λhb hT' hl' I' v' hI' hv'=>?_) (λhb I' v' hI'=>?_))|(with_reducible refine Aa ?_;refine Cj zT zA (λhb hT' hl' v' hv'=>?_) (λhb=>?_))|(with_reducible refine Aa ?_;refine Ak zT zA ?_)|(with_reducible first|refine BQ zC (λI' a hI' hw'=>zAA ?_)|refine BJ zC zC (λI' a hI' hw'=>zAA ?_)|refine Ba zC zC zC (λI' a hI' hw'=>zAA ?_))|(with_reducible refine Az ?_;refine BV zC ?_)|refine zqr ?_|refine zqb ?_|refine zqi ?_ ?_|refine zqc ?_|refine zqg (λhb=>?_) (λhb=>?_)|refine zqe ?_|fail)
   exact zAE (L1++(b,PBo v)::L2) (zAA (hno (by simp [Dt,h1,h2,hc])))
  |true=>
   have hok:=hyes (by simp [Dt,hc]);have herr:=herr (by simp [Dt,hc]);repeat' (first|(with_reducible first|refine CX (b:=b) ?_|refine keepA ?_|refine AQ (λ_=>?_))|(with_reducible refine Aa ?_;refine hE.go zT zA zo (λy r' hg hT2 hr2 I' v' a' k' hI' hv' hw'=>?_) (λe hg I' v' hI'=>?_))|(with_reducible refine ACk (λI' a hI' hw'=>zAA ?_))|(with_reducible refine Az ?_;refine CY _ zT zA (λhb hT' hl' v' hv'=>?_) (λhb=>?_))|(with_reducible refine CG _ zT zA (λhb hT' hl' I' v' hI' hv'=>?_) (λhb I' v' hI'=>?_))|(with_reducible refine Aa ?_;refine Cj zT zA (λhb hT' hl' v' hv'=>?_) (λhb=>?_))|(with_reducible refine Aa ?_;refine Ak zT zA ?_)|(with_reducible first|refine BQ zC (λI' a hI' hw'=>zAA ?_)|refine BJ zC zC (λI' a hI' hw'=>zAA ?_)|refine Ba zC zC zC (λI' a hI' hw'=>zAA ?_))|(with_reducible refine Az ?_;refine BV zC ?_)|refine zqr ?_|refine zqb ?_|(with_reducible first|refine Ap (sh267_3.eq_1 ..) ?_|refine Ap (sh267_2.eq_1 ..) ?_|refine Ap (sh267_4.eq_1 ..) ?_|refine Ap (sh267_1.eq_1 ..) ?_|refine Ap (sh267.eq_1 ..) ?_|refine And.intro ?_ ?_)|refine zqc ?_|refine zqg (λhb=>?_) (λhb=>?_)|refine zqe ?_|fail)
   all_goals (have hsc:(s==[99,111,117,110,116])=true→s=[99,111,117,110,116]:=λh=>by simpa using h)
   all_goals first
    |exact zAE (L1++(b,PBo v')::L2) (zAA (herr _ (by simp [DF,hs1,hs2,Res.bind,bad,AP, *] <;> rfl) _ _ zE))
    |exact zAE (L1++(b,PBo v')::L2) (zAA (hok (Ed s true [y]) _ (by simp [DF,hs1,hs2,Ed,Res.bind,bad,AP, *] <;> rfl) zA zo _ _ _ zE zT zC))
    |exact zAE (L1++(b,PBo v')::L2) (zAA (hok (Ed s false [y]) _ (by simp [DF,hs1,hs2,Ed,Res.bind,bad,AP, *] <;> rfl) zA zo _ _ _ zE zT zC))
    |exact zAE (L1++(b,PBo v')::L2) (zAA (hok (Ed s false [exK 3 []]) _ (by simp [DF,hs1,hs2,Ed,Res.bind,bad,AP, *] <;> rfl) zA zo _ _ _ zE zT zC))
 repeat' (first|(with_reducible first|refine CX (b:=b) ?_|refine keepA ?_|refine AQ (λ_=>?_))|(with_reducible refine Aa ?_;refine hE.go zT zA zo (λy r' hg hT2 hr2 I' v' a' k' hI' hv' hw'=>?_) (λe hg I' v' hI'=>?_))|(with_reducible refine Aa ?_;refine AHG n zo hE zT zA zo (λy r' hg hT2 hr2 hyl I' v' a' k' hI' hv' hw'=>?_) (λe hg I' v' hI'=>?_))|(with_reducible refine Az ?_;refine CY _ zT zA (λhb hT' hl' v' hv'=>?_) (λhb=>?_))|(with_reducible refine CG _ zT zA (λhb hT' hl' I' v' hI' hv'=>?_) (λhb I' v' hI'=>?_))|(with_reducible refine Aa ?_;refine Cj zT zA (λhb hT' hl' v' hv'=>?_) (λhb=>?_))|(with_reducible refine Aa ?_;refine Ak zT zA ?_)|(with_reducible first|refine BQ zC (λI' a hI' hw'=>zAA ?_)|refine BJ zC zC (λI' a hI' hw'=>zAA ?_)|refine Ba zC zC zC (λI' a hI' hw'=>zAA ?_))|(with_reducible refine Az ?_;refine BV zC ?_)|refine zqr ?_|refine zqb ?_|refine zqi ?_ ?_|refine zqc ?_|refine zqg (λhb=>?_) (λhb=>?_)|refine zqe ?_|fail)
 all_goals (have hsc:(s==[99,111,97,108,101,115,99,101])=true→s=[99,111,97,108,101,115,99,101]:=λh=>by simpa using h)
 all_goals (have hsl:(s==[108,101,110,103,116,104])=true→s=[108,101,110,103,116,104]:=λh=>by simpa using h)
 all_goals first
  |exact agg true (by simp [isAgg, *]) zA zA
  |exact agg _ (by simp [isAgg, *]) zA zA
  |(have hs:=hsc zA;have hyes:=hyes (by simp [Dt, *]);have herr:=herr (by simp [Dt, *]);first
    |exact zAE (L1++(b,PBo v')::L2) (zAA (herr _ (by simp [DF,hs,Res.bind,bad,AP, *] <;> rfl) _ _ zE))
    |exact zAE (L1++(b,PBo v')::L2) (zAA (hyes _ _ (by simp [DF,hs,Res.bind,bad,AP, *] <;> rfl) zA zo _ _ _ zE zT zC)))
  |(have hs:=hsl zA;have hyes:=hyes (by simp [Dt, *]);have herr:=herr (by simp [Dt, *]);first
    |exact zAE (L1++(b,PBo v')::L2) (zAA (herr _ (by simp [DF,hs,Res.bind,bad,AP, *] <;> rfl) _ _ zE))
    |exact zAE (L1++(b,PBo v')::L2) (zAA (hyes _ _ (by simp [DF,hs,Res.bind,bad,AP, *] <;> rfl) zA zo _ _ _ zE zT zC)))
end
section
variable {ω:Om}{b:Nat}
theorem ALB (n:Nat)(hn0:n≤1000000000){E:Pr Ex}(hE:FnE ω n b 148 E)(s:Bs){I:Imm}{L:LH}{K Pn:Value→M}{C:Obj→LH}{v:Value}{l:List Tok}[hF:Foc b L (PBo v) C](h:TL I v l)(hT:Toks l)(hl:l.length≤n)
  (hyes:Dt s=true→∀x r,DF n E s l= .ok x r→Toks r→r.length≤l.length→∀I' v' a k,Ext I I'→TL I' v' r→ExL I' (.slice a x.args.length k) x.args→K (.tuple #[.agg (Ag x (.slice a x.args.length k)).toArray,.bool true]) I' (C (PBo v')))
  (herr:Dt s=true→PEr (DF n E s l) Pn C I) (hno:Dt s=false→K (.tuple #[.agg exZ.toArray,.bool false]) I L):CalP Tryz.prog ω 267 #[AL b,.string ⟨s.toArray⟩] K Pn I L:=
 AEj n hn0 hE s h hT hl (λhc x r hg hT' hr I' v' w hI hv' hw=>by
  obtain ⟨a,k,rfl⟩:=zAF hw;exact hyes hc x r hg hT' hr I' v' a k hI hv' hw) herr hno
theorem AEw (n:Nat)(hn0:n≤1000000000){E U:Pr Ex}(hE:FnE ω n b 148 E)(hU:FnE ω n b 262 U):FnE ω (n+1) b 262 (Fp n E U):=by
 intro K Pn I L C v l hF h hT hl hok herr;obtain ⟨L1,L2,rfl,rfl⟩:=hF.foc;have hC:=AIi n hn0 hE;have hN:FnE ω (n+1) b 234 KX:=Tc (n+1);obtain ⟨bt,off,h1,h2⟩:=h.hd hT;refine AOq ?_;unfold sh262;repeat' (first|(with_reducible first|refine CX (b:=b) ?_|refine keepA ?_|refine AQ (λ_=>?_))|(with_reducible refine Aa ?_;refine hE.go zT zA zo (λy r' hg hT2 hr2 I' v' a' k' hI' hv' hw'=>?_) (λe hg I' v' hI'=>?_))|(with_reducible refine Aa ?_;refine hU.go zT zA zo (λy r' hg hT2 hr2 I' v' a' k' hI' hv' hw'=>?_) (λe hg I' v' hI'=>?_))|(with_reducible refine Aa ?_;refine hC.go zT zA zo (λy r' hg hT2 hr2 I' v' a' k' hI' hv' hw'=>?_) (λe hg I' v' hI'=>?_))|(with_reducible refine Aa ?_;refine hN.go zT zA zo (λy r' hg hT2 hr2 I' v' a' k' hI' hv' hw'=>?_) (λe hg I' v' hI'=>?_))|(with_reducible refine Az ?_;refine NJ zT zA (λx hx hT' hl' v' hv'=>?_) (λhx=>?_))|(with_reducible refine Az ?_;refine JG _ zT zA (λhb=>?_) (λhb=>?_))|(with_reducible refine Aa ?_;refine ALB n hn0 hE _ zT zA zo (λhcl y r' hg hT2 hr2 I' v' a' k' hI' hv' hw'=>?_) (λhcl e hg I' v' hI'=>?_) (λhcl=>?_))|((with_reducible refine rd1 (v:=.int .i64 (hd l).kind) ?_ ?_);exact (h2 _ [] (zAC _) 0 _ rfl).mono (zAC _) (λ_ h=>by cases h))|(with_reducible refine Az ?_;refine CY _ zT zA (λhb hT' hl' v' hv'=>?_) (λhb=>?_))|(with_reducible refine CG _ zT zA (λhb hT' hl' I' v' hI' hv'=>?_) (λhb I' v' hI'=>?_))|(with_reducible refine Aa ?_;refine Cj zT zA (λhb hT' hl' v' hv'=>?_) (λhb=>?_))|(with_reducible refine Aa ?_;refine Ak zT zA ?_)|(with_reducible first|refine BQ zC (λI' a hI' hw'=>zAA ?_)|refine BJ zC zC (λI' a hI' hw'=>zAA ?_)|refine Ba zC zC zC (λI' a hI' hw'=>zAA ?_))|(with_reducible refine Az ?_;refine BV zC ?_)|refine zqr ?_|refine zqb ?_|(with_reducible first|refine Ap (sh262_1.eq_1 ..) ?_|refine Ap (sh262.eq_1 ..) ?_|refine And.intro ?_ ?_)|refine zqc ?_|refine zqg (λhb=>?_) (λhb=>?_)|(simp only [SSd,Nat.reduceAdd,h1]))
 all_goals (try have hk3:isK l 3=false:=‹((hd l).kind==3)=false›)
 all_goals (try have hk3:isK l 3=true:=‹((hd l).kind==3)=true›)
 all_goals first
  |exact zAE (L1++(b,PBo v')::L2) (zAA (herr _ (by simp [Fp,Ar,Res.bind,bad,AP, *] <;> rfl) _ _ zE))
  |exact zAE (L1++(b,PBo v')::L2) (zAA (hok _ _ (by simp [Fp,Ar,Res.bind,bad,AP, *] <;> rfl) zA zo _ _ _ zE zT zC))
  |exact zAE (L1++(b,PBo v')::L2) (zAA (hok (FQ (hd l).text (hd l.tail.tail).text) _ (by simp [Fp,Ar,Res.bind,bad,AP, *] <;> rfl) zA zo _ _ _ zE zT zC))
  |exact zAE (L1++(b,PBo v')::L2) (zAA (hok (FQ [] (hd l).text) _ (by simp [Fp,Ar,Res.bind,bad,AP, *] <;> rfl) zA zo _ _ _ zE zT zC))
  |exact zAE (L1++(b,PBo v)::L2) (zAA (herr _ (by simp [Fp,Ar,Res.bind,bad,AP, *] <;> rfl) _ _ zE))
theorem exprs (ω:Om)(b:Nat):∀n,n≤1000000000→FnE ω n b 148 (eP n)∧FnE ω n b 220 (nP n)∧FnE ω n b 262 (uP n)
 |0,_=>by
  have h0:∀f g,FnE ω 0 b f g:=λf g K Pn I L C v l hF h hT hl _ _=>by have:=hT.len;omega
  exact ⟨h0 _ _,h0 _ _,h0 _ _⟩
 |n+1,hn=>by
  obtain ⟨hE,hN,hU⟩:=exprs ω b n zo;have u:=AEw n zo hE hU;have s:=ANj n (AJq n u);have nn:=AOF n hN (AKS n hn hE s);exact ⟨AKh n (ARN n nn),nn,u⟩
end
inductive Stt where
 |good (l:List Tok)
 |bad (e:Nat)
def Stt.sz:Stt→Nat
 | .good l=>l.length
 | .bad _=>0
def run {α:Type}(g:Pr α):Stt→Res α
 | .good l=>g l
 | .bad e=>.err e
def Out {α:Type}(q:Res α)(x:α)(s:Stt):Prop:=match q with
 | .ok y r=>x=y∧s= .good r
 | .err e=>s= .bad e
theorem out_ok {α:Type}{x:α}{s:Stt}:Out (run (λl=>.ok x l) s) x s:=by
 cases s with
 |good l=>exact ⟨rfl,rfl⟩
 |bad e=>exact rfl
theorem out_bad {α:Type}{g:Pr α}{x:α}{e:Nat}:Out (run g (.bad e)) x (.bad e):=rfl
theorem GN {α β:Type}{g:Pr α}{f:α→Pr β}{x:α}{y:β}{s s1 s2:Stt}(h1:Out (run g s) x s1)(h2:Out (run (f x) s1) y s2):Out (run (λl=>(g l).bind f) s) y s2:=by
 cases s with
 |bad e=>
  have h1:s1= .bad e:=h1;subst h1;exact h2
 |good l=>
  show Out ((g l).bind f) y s2;have h1:Out (g l) x s1:=h1;cases hg:g l with
  |err e=>
   rw [hg] at h1;have h1:s1= .bad e:=h1;subst h1;exact h2
  |ok z r=>
   rw [hg] at h1;obtain ⟨rfl,rfl⟩:=h1;exact h2
def Yes (s:Bs)(st:Stt)(l:List Tok):Prop:=st= .good l∧isT l s=true
def No (s:Bs)(st:Stt):Prop:=∀l,st= .good l→isT l s=false
theorem VY {α:Type}{w:Bs}{f g:Pr α}{x:α}{s s':Stt}{l:List Tok}(hy:Yes w s l)(h:Out (run f (.good l.tail)) x s'):Out (run (λl=>if isT l w=true then f l.tail else g l) s) x s':=by
 obtain ⟨rfl,hy⟩:=hy;show Out (if isT l w=true then f l.tail else g l) x s';rw [if_pos hy];exact h
theorem ZG {α:Type}{w:Bs}{f g:Pr α}{x:α}{s s':Stt}(hn:No w s)(h:Out (run g s) x s'):Out (run (λl=>if isT l w=true then f l.tail else g l) s) x s':=by
 cases s with
 |bad e=>exact h
 |good l=>
  show Out (if isT l w=true then f l.tail else g l) x s';rw [if_neg (by rw [hn l rfl];decide)];exact h
def AAY (_:Imm)(t:Tok)(c:List Value):Prop:=c=[.int .i64 t.kind,.string ⟨t.text.toArray⟩,.int .i64 t.num,.int .i64 t.at']
abbrev TD (I:Imm)(v:Value)(l:List Tok):Prop:=RL AAY 4 I [] v l
theorem TD.mono {I I':Imm}{v:Value}{l:List Tok}(h:TD I v l)(hI:Ext I I'):TD I' v l:=zAL (I:=I) (λ_ _ h=>h) h hI (λ_ h=>h)
abbrev RDo (w:Value)(k:Nat)(bd:Bool):Obj:=.cells [w,.int .i64 (k:Nat),.bool bd].toArray 79 (0,0)
structure RdS (toks:List Tok)(s:Stt)(k:Nat)(bd:Bool):Prop where
 ok:Toks (toks.drop k)
 le:toks.length≤1000000000
 st:bd=false∧s= .good (toks.drop k)∨bd=true∧s= .bad (hd (toks.drop k)).at'
theorem RdS.lt {toks:List Tok}{s:Stt}{k:Nat}{bd:Bool}(h:RdS toks s k bd):k < toks.length:=by
 obtain ⟨t,r,e⟩:=h.ok.ne;have:=congrArg List.length e;rw [zar,zh] at this;omega
theorem RdS.at {toks:List Tok}{s:Stt}{k:Nat}{bd:Bool}(h:RdS toks s k bd):Lj toks (k:Int)=hd (toks.drop k):=by
 rw [Am h.lt,zaj h.lt];rfl
theorem RdS.next {toks:List Tok}{s:Stt}{k:Nat}{bd:Bool}(h:RdS toks s k bd)(h6:(hd (toks.drop k)).kind≠6):RdS toks (.good (toks.drop k).tail) (k+1) false:=by
 have e:(toks.drop k).tail=toks.drop (k+1):=List.tail_drop;exact ⟨e ▸ h.ok.tail h6,h.le,.inl ⟨rfl,by rw [e]⟩⟩
theorem RdS.fail {toks:List Tok}{s:Stt}{k:Nat}{bd:Bool}(h:RdS toks s k bd):RdS toks (.bad (hd (toks.drop k)).at') k true:=⟨h.ok,h.le,.inr ⟨rfl,rfl⟩⟩
theorem RdS.peek {toks:List Tok}{s:Stt}{k:Nat}{bd:Bool}{I:Imm}{w:Value}(h:RdS toks s k bd)(hw:TD I w toks):∃bt off,ixV 4 w (.int .i64 (k:Nat))=some (.pointer (some ⟨bt,off,none⟩))∧∀I' L',Ext I I'→Cells I' L' bt off [.int .i64 (hd (toks.drop k)).kind,.string ⟨(hd (toks.drop k)).text.toArray⟩,.int .i64 (hd (toks.drop k)).num,.int .i64 (hd (toks.drop k)).at']:=by
 have hlt:=h.lt;obtain ⟨bt,off,c,h1,_,h2,h3⟩:=zAR hw (i:=k) zo zo;rw [h.at] at h2;rw [show c=_ from h2] at h3;exact ⟨bt,off,h1,λI' L' hI=>h3 I' L' hI (λ_ h=>by cases h)⟩
theorem RdS.cases {toks:List Tok}{s:Stt}{k:Nat}{bd:Bool}(h:RdS toks s k bd):(bd=false∧s= .good (toks.drop k))∨(bd=true∧∃e,s= .bad e):=by
 rcases h.st with h|⟨h1,h2⟩
 ·exact .inl h
 ·exact .inr ⟨h1,_,h2⟩
section
variable {ω:Om}{I:Imm}{L:LH}{K:Value→M}{C:Obj→LH}{b:Nat}{w:Value}{toks:List Tok}{st:Stt}{k:Nat}{bd:Bool}
theorem BP (s:Bs)[hF:Foc b L (RDo w k bd) C](h:TD I w toks)(hs:RdS toks st k bd)(ht:∀l,Yes s st l→K (.bool true) I L)(hf:No s st→K (.bool false) I L):CT ω 37 #[AL b,.string ⟨s.toArray⟩] K I L:=by
 obtain ⟨L1,L2,rfl,rfl⟩:=hF.foc;obtain ⟨bt,off,h1,h2⟩:=hs.peek h;refine AUP ?_;unfold ASQ;have hk:∀{x:Bool} {L':LH},(bd=false→isT (toks.drop k) s=x)→(bd=true→x=false)→SubP (L1++(b,RDo w k bd)::L2) L'→Gh (K (.bool x)) I L':=by
  intro x L' hx hx2 hsb;refine zAE (L1++(b,RDo w k bd)::L2) (zAA ?_);rcases hs.cases with ⟨rfl,rfl⟩|⟨rfl,e,rfl⟩
  ·cases x
   ·exact hf λl hl=>by cases hl;exact hx rfl
   ·exact ht _ ⟨rfl,hx rfl⟩
  ·rw [hx2 rfl];exact hf λl hl=>nomatch hl
 repeat' (first|refine zqa ?_|refine zqh (λ_=>?_)|(refine Qo (h2 _ [] (zAC _)) (zAC _) rfl ?_)|refine zqr ?_|refine zqb ?_|refine zqi ?_ ?_|refine zqc ?_|refine zqg (λ_=>?_) (λ_=>?_)|(simp only [SSd,Nat.reduceAdd,h1]))
 all_goals exact hk (by intro hb;simp_all [isT]) (by intro hb;simp_all) inferInstance
end
theorem WG {s:Bs}{st:Stt}{l:List Tok}(h:Yes s st l):(hd l).kind≠6:=NL h.2
theorem RdS.yes {toks:List Tok}{s:Stt}{k:Nat}{bd:Bool}{x:Bs}{l:List Tok}(h:RdS toks s k bd)(hy:Yes x s l):bd=false∧l=toks.drop k:=by
 rcases h.st with ⟨h1,h2⟩|⟨_,h2⟩
 ·exact ⟨h1,by have:=hy.1;rw [h2] at this;cases this;rfl⟩
 ·have:=hy.1;rw [h2] at this;cases this
theorem Yes.sz {toks:List Tok}{s:Stt}{k:Nat}{bd:Bool}{x:Bs}{l:List Tok}(h:RdS toks s k bd)(hy:Yes x s l):(Stt.good l.tail).sz+1=s.sz:=by
 obtain ⟨_,rfl⟩:=h.yes hy;rw [hy.1];exact h.ok.len
theorem RdS.sz {toks:List Tok}{k:Nat}{bd:Bool}{l:List Tok}(h:RdS toks (.good l) k bd):1≤l.length:=by
 rcases h.st with ⟨_,h2⟩|⟨_,h2⟩
 ·cases h2
  obtain ⟨t,r,e⟩:=h.ok.ne;rw [e];simp
 ·cases h2
section
variable {ω:Om}{I:Imm}{L:LH}{K:Value→M}{C:Obj→LH}{b:Nat}{w:Value}{toks:List Tok}{st:Stt}{k:Nat}{bd:Bool}
theorem Ad (s:Bs)[hF:Foc b L (RDo w k bd) C](h:TD I w toks)(hs:RdS toks st k bd)(ht:∀l k',Yes s st l→RdS toks (.good l.tail) k' false→(Stt.good l.tail).sz+1=st.sz→K (.bool true) I (C (RDo w k' false)))(hf:No s st→K (.bool false) I L):
  CT ω 35 #[AL b,.string ⟨s.toArray⟩] K I L:=by
 obtain ⟨L1,L2,rfl,rfl⟩:=hF.foc;refine AUR ?_;unfold ASS;refine call (BP s h hs (λl hy=>?_) (λhn=>?_))
 ·obtain ⟨rfl,rfl⟩:=hs.yes hy;have hlt:=hs.lt;have hle:=hs.le;have hk:=ht _ (k+1) hy (hs.next (WG hy)) (hy.sz hs);have e:IntKind.i64.wrap ((k:Int)+1)=((k+1:Nat):Int):=by
   rw [wrap_i64 _ zo];rfl
  try refine zqe ?_
  refine rdb ?_;try refine zqe ?_
  rw [e];refine st1 rfl ?_;exact zAA hk
 ·try refine zqe ?_
  exact zAA (hf hn)
def Fd {α:Type}(ω:Om)(n b:Nat)(w:Value)(toks:List Tok)(f:Nat)(args:Array Value)(g:Pr α)(V:Imm→α→Value→Prop):Prop:=
 ∀(K:Value→M) (I:Imm) (L:LH) (C:Obj→LH) (st:Stt) (k:Nat) (bd:Bool),Foc b L (RDo w k bd) C→TD I w toks→RdS toks st k bd→st.sz < n→
  (∀x s' k' bd' I' v,RdS toks s' k' bd'→Out (run g st) x s'→s'.sz≤st.sz→Ext I I'→V I' x v→K v I' (C (RDo w k' bd')))→CT ω f args K I L
theorem Fd.go {α:Type}{ω:Om}{n b:Nat}{w:Value}{toks:List Tok}{f:Nat}{args:Array Value}{g:Pr α}{V:Imm→α→Value→Prop}(h:Fd ω n b w toks f args g V){I:Imm}{L:LH}{K:Value→M}{C:Obj→LH}{st:Stt}{k:Nat}{bd:Bool}[hF:Foc b L (RDo w k bd) C](hw:TD I w toks)(hs:RdS toks st k bd)(hn:st.sz < n)
  (hk:∀x s' k' bd' I' v,RdS toks s' k' bd'→Out (run g st) x s'→s'.sz≤st.sz→Ext I I'→V I' x v→K v I' (C (RDo w k' bd'))):CT ω f args K I L:=h K I L C st k bd hF hw hs hn hk
theorem Aj (s:Bs)[hF:Foc b L (RDo w k bd) C](h:TD I w toks)(hs:RdS toks st k bd)(hk:∀s' k' bd',RdS toks s' k' bd'→Out (run (AP s) st) () s'→s'.sz≤st.sz - 1→(bd'=false→bd=false∧s'.sz+1≤st.sz)→K (.tuple #[]) I (C (RDo w k' bd'))):
  CT ω 86 #[AL b,.string ⟨s.toArray⟩] K I L:=by
 obtain ⟨L1,L2,rfl,rfl⟩:=hF.foc;refine ATh ?_;unfold ARi;refine call (Ad s h hs (λl k' hy hs' hsz=>?_) (λhn=>?_))
 ·simp only [zQ,SSd,Nat.reduceAdd];refine zAA (hk _ k' false hs' ?_ zo (λ_=>⟨(hs.yes hy).1,by omega⟩));obtain ⟨rfl,hy⟩:=hy;show Out (if isT l s then _ else _) () _;rw [if_pos hy];exact ⟨rfl,rfl⟩
 ·simp only [zG,SSd,Nat.reduceAdd];have hk':Gh (K (.tuple #[])) I (L1++(b,RDo w k true)::L2):=zAA (hk _ k true hs.fail (by
   rcases hs.st with ⟨h1,h2⟩|⟨h1,h2⟩
   ·subst h2;show Out (if isT _ s then _ else _) () _;rw [if_neg (by rw [hn _ rfl];decide)];exact rfl
   ·subst h2;exact rfl) (zak _) (λh=>by cases h))
  refine st1 rfl ?_;exact hk'
theorem BB [hF:Foc b L (RDo w k bd) C](h:TD I w toks)(hs:RdS toks st k bd)(hk:∀x s' k' bd',RdS toks s' k' bd'→Out (run Ar st) x s'→s'.sz≤st.sz - 1→(bd'=false→bd=false∧s'.sz+1≤st.sz)→K (.string ⟨x.toArray⟩) I (C (RDo w k' bd'))):
  CT ω 87 #[AL b] K I L:=by
 obtain ⟨L1,L2,rfl,rfl⟩:=hF.foc;obtain ⟨bt,off,h1,h2⟩:=hs.peek h;have hlt:=hs.lt;have hle:=hs.le;refine ATg ?_;unfold sh87;have e:IntKind.i64.wrap ((k:Int)+1)=((k+1:Nat):Int):=by rw [wrap_i64 _ zo];rfl
 have bad:(bd=false→isK (toks.drop k) 1=false)→Gh (K (.string ⟨[].toArray⟩)) I (L1++(b,RDo w k true)::L2):=λhb=>zAA (hk [] _ k true hs.fail (by
   rcases hs.st with ⟨h1,h2⟩|⟨h1,h2⟩
   ·subst h2;show Out (if isK _ 1 then _ else _) _ _;rw [if_neg (by rw [hb h1];decide)];exact rfl
   ·subst h2;exact rfl) (zak _) (λh=>by cases h))
 have good:bd=false→isK (toks.drop k) 1=true→Gh (K (.string ⟨(hd (toks.drop k)).text.toArray⟩)) I (L1++(b,RDo w (k+1) bd)::L2):=λhb hk1=>by
  subst hb;rcases hs.st with ⟨_,h2⟩|⟨h2,_⟩
  ·subst h2;have hs':=hs.next (by rw [Ih hk1];decide);have hsz:=hs.ok.len;refine zAA (hk _ _ (k+1) false hs' ?_ (by simp only [Stt.sz];omega) (λ_=>⟨rfl,by simp only [Stt.sz];omega⟩));show Out (if isK _ 1 then _ else _) _ _;rw [if_pos hk1];exact ⟨rfl,rfl⟩
  ·cases h2
 repeat' (first|refine zqa ?_|refine zqh (λ_=>?_)|(refine Qo (h2 _ [] (zAC _)) (zAC _) rfl ?_)|refine zqr ?_|refine zqb ?_|(with_reducible first|refine Ap (sh87_1.eq_1 ..) ?_|refine Ap (sh87.eq_1 ..) ?_|refine And.intro ?_ ?_)|refine zqc ?_|refine zqg (λ_=>?_) (λ_=>?_)|(simp only [SSd,Nat.reduceAdd,h1,e]))
 all_goals first
  |exact zAE _ (bad (by intro hb;simp_all [isK]))
  |exact zAE _ (good (by simp_all) (by simp_all [isK]))
theorem BN {k:Int}{w:Value}{l:List Ex}(hw:ExL I w l)(hk:K (.agg (Ag (exK k l) w).toArray) I L):CT ω 186 #[.int .i64 k,w] K I L:=by
 refine APn ?_;unfold AMA;obtain ⟨a,c,rfl⟩:=zAF hw;have hk:Gh (K (.agg (Ag (exK k l) (.slice a l.length c)).toArray)) I L:=zAA hk;repeat' (first|refine zqa ?_|refine zqh (λ_=>?_)|refine zqr ?_|refine zqb ?_|refine zqi ?_ ?_|refine zqc ?_|refine zqg (λ_=>?_) (λ_=>?_)|refine zqe ?_|fail)
 exact zAE L hk
def EW (I:Imm)(x:Ex)(v:Value):Prop:=∃a k,v= .agg (Ag x (.slice a x.args.length k)).toArray∧ExL I (.slice a x.args.length k) x.args
end
section
variable {ω:Om}{b:Nat}{w:Value}{toks:List Tok}
theorem AHZ {α:Type}{one:Pr α}{s:Stt}(h:No [44] s)(f:Nat)(acc:List α):Out (run (Cm one f acc) s) acc s:=by
 cases f with
 |zero=>exact out_ok
 |succ f=>exact ZG (w:=[44]) (f:=λl=>(one l).bind λx r=>Cm one f (acc++[x]) r) h out_ok
def Rest {α:Type}(n:Nat)(one:Pr α)(s1:Stt)(f:Nat)(xs:List α)(st:Stt):Prop:=∀y s',Out (run (λl=>(one l).bind λx r=>Cm one f (xs++[x]) r) st) y s'→Out (run (BL n one) s1) y s'
theorem Rest.start {α:Type}{n:Nat}{one:Pr α}{s1:Stt}:Rest n one s1 n [] s1:=λ_ _ h=>h
theorem Rest.bad {α:Type}{n f:Nat}{one:Pr α}{s1:Stt}{xs:List α}{e:Nat}(h:Rest n one s1 f xs (.bad e))(ys:List α):Out (run (BL n one) s1) ys (.bad e):=h _ _ out_bad
theorem Rest.stop {α:Type}{n f:Nat}{one:Pr α}{s1 st s3:Stt}{xs:List α}{x:α}(h:Rest n one s1 f xs st)(ho:Out (run one st) x s3)(hn:No [44] s3):Out (run (BL n one) s1) (xs++[x]) s3:=h _ _ (GN ho (AHZ hn _ _))
theorem Rest.next {α:Type}{n f:Nat}{one:Pr α}{s1 st s3:Stt}{xs:List α}{x:α}{l:List Tok}(h:Rest n one s1 (f+1) xs st)(ho:Out (run one st) x s3)(hy:Yes [44] s3 l):Rest n one s1 f (xs++[x]) (.good l.tail):=
 λ_ _ hh=>h _ _ (GN ho (VY (w:=[44]) (g:=λl=>Res.ok (xs++[x]) l) hy hh))
theorem RdS.zero {toks:List Tok}{s:Stt}{k:Nat}(h:RdS toks s k true):∃e,s= .bad e:=by
 rcases h.cases with ⟨h,_⟩|⟨_,h⟩
 ·cases h
 ·exact h
theorem RdS.one {toks:List Tok}{s:Stt}{k:Nat}(h:RdS toks s k false):1≤s.sz:=by
 rcases h.cases with ⟨_,rfl⟩|⟨h,_⟩
 ·exact h.sz
 ·cases h
theorem AEP (n:Nat):Fd ω n b w toks 130 #[AL b] (Bc n Ar) (AAa StrV 1):=by
 intro K I L C st k bd hF h hs hn hk;obtain ⟨L1,L2,rfl,rfl⟩:=hF.foc;refine AQi ?_;unfold AMm;refine call (Aj _ h hs (λs1 k1 bd1 hs1 ho1 hz1 _=>?_));have hle:=hs.le;have hsz:st.sz≤1000000000:=by
  rcases hs.cases with ⟨_,rfl⟩|⟨_,e,rfl⟩
  ·simp only [Stt.sz,zar];omega
  ·exact zak _
 refine loop (λm s I2 Lx=>∃(X:LH) (v:Value) (cells:List Value) (xs:List Bs) (f:Nat) (st2:Stt) (k2:Nat) (bd2:Bool),st2.sz=m∧s=(v,())∧I2=I∧Lx=X++(L1++(b,RDo w k2 bd2)::L2)∧SlO 9 1 X v cells xs.length∧Recs (StrV I) 1 xs cells∧RdS toks st2 k2 bd2∧st2.sz≤f+1∧xs.length+st2.sz≤st.sz∧Rest n Ar s1 f xs st2) s1.sz
  ⟨[],_,[],[],n,s1,k1,bd1,rfl,rfl,rfl,rfl,SlO.none _ _,rfl,hs1,by omega,by simp;omega,Rest.start⟩ ?_
 rintro m s I2 Lx ⟨X,v,cells,xs,f,st2,k2,bd2,rfl,rfl,rfl,rfl,hX,hR,hs2,hf,hlen,hm⟩;have last:∀{X Y:LH} {v:Value} {cells:List Value} {xs:List Bs} {st2:Stt} {k2:Nat} {bd2:Bool},SlO 9 1 X v cells xs.length→Recs (StrV I2) 1 xs cells→RdS toks st2 k2 bd2→st2.sz≤st.sz→Out (run (BL n Ar) s1) xs st2→Pm ω (AL b) (.slice none 0 0) v (λv=>Gh (K v)) I2 (X++(Y++(L1++(b,RDo w k2 bd2)::L2))):=by
  intro X Y v cells xs st2 k2 bd2 hX hR hs2 hz2 ho2;unfold Pm;refine call (Aj _ h hs2 (λs3 k3 bd3 hs3 ho3 hz3 _=>?_));exact RL.ofO (R:=StrV) (λh hI=>StrV.mono h hI) hX hR (λI3 hI3 hw=>zAE (L1++(b,RDo w k3 bd3)::L2) (zAA (hk xs s3 k3 bd3 I3 v hs3 (GN ho1 (GN ho2 (GN ho3 out_ok))) zo hI3 hw)))
 unfold ABo;try refine zqe ?_
 refine rdb ?_;cases bd2 with
 |true=>
  obtain ⟨e,rfl⟩:=hs2.zero;simp only [zQ,SSd,Nat.reduceAdd];exact last (Y:=[]) hX hR hs2 (zak _) (hm.bad xs)
 |false=>
  have h1:=hs2.one;simp only [zG,SSd,Nat.reduceAdd];refine call (BB h hs2 (λx s3 k3 bd3 hs3 ho3 hz3 hz3'=>?_));refine Qn (X6:=X) (R:=StrV) (x:=x) rfl hX hR rfl rfl zo zo (λX1 X6 w6 cells6 hX6 hR6=>?_);refine call (Ad _ h hs3 (λl k4 hy hs4 hz4=>?_) (λhn=>?_))
  ·have hz:s3.sz+1≤st2.sz:=(hz3' (hs3.yes hy).1).2;obtain ⟨f,rfl⟩:∃q,f=q+1:=⟨f - 1,by omega⟩;simp only [zQ,SSd,Nat.reduceAdd];exact zAE (X6++(L1++(b,RDo w k4 false)::L2)) (zAA ⟨_,by omega,X6,w6,cells6,xs++[x],f,.good l.tail,k4,false,rfl,rfl,rfl,rfl,hX6,hR6,hs4,by omega,by rw [zn,zV];omega,hm.next ho3 hy⟩)
  ·simp only [zG,SSd,Nat.reduceAdd];exact last hX6 hR6 hs3 zo (hm.stop ho3 hn)
end
theorem NI {one:Pr Ex}{op:List Tok→Int}{s:Stt}(h:∀l,s= .good l→op l=0)(f:Nat)(x:Ex):Out (run (Eb one op f x) s) x s:=by
 cases s with
 |bad e=>exact out_bad
 |good l=>
  show Out (Eb one op f x l) x _;cases f with
  |zero=>exact ⟨rfl,rfl⟩
  |succ f=>
   simp only [Eb,h l rfl,if_true];exact ⟨rfl,rfl⟩
def RestC (n:Nat)(one:Pr Ex)(op:List Tok→Int)(s1:Stt)(f:Nat)(x:Ex)(st:Stt):Prop:=∀y s',Out (run (Eb one op f x) st) y s'→Out (run (Ci n one op) s1) y s'
theorem RestC.start {n:Nat}{one:Pr Ex}{op:List Tok→Int}{s1 s2:Stt}{x:Ex}(h:Out (run one s1) x s2):RestC n one op s1 n x s2:=λ_ _ hh=>GN h hh
theorem RestC.next {n f:Nat}{one:Pr Ex}{op:List Tok→Int}{s1 s4:Stt}{x y:Ex}{l:List Tok}(h:RestC n one op s1 (f+1) x (.good l)){k:Int}(ho:op l=k)(h0:k≠0)(hy:Out (run one (.good l.tail)) y s4):RestC n one op s1 f (exK k [x,y]) s4:=λz s' hh=>h z s' (by
 show Out (Eb one op (f+1) x l) z s';subst ho;simp only [Eb,if_neg h0];exact GN (s:=.good l.tail) hy hh)
abbrev FdE (ω:Om)(n b:Nat)(w:Value)(toks:List Tok)(f:Nat)(g:Pr Ex):Prop:=Fd ω n b w toks f #[AL b] g EW
section
variable {ω:Om}{b:Nat}{w:Value}{toks:List Tok}
theorem SX (s:Bs){I:Imm}{L:LH}{K:Value→M}(hk:∀k:Int,(∀t r,t.kind=5→t.text=s→DJ (t::r)=k)→K (.int .i64 k) I L):CT ω 242 #[.string ⟨s.toArray⟩] K I L:=by
 refine AOy ?_;unfold ALV;repeat' (first|refine zqa ?_|refine zqh (λ_=>?_)|refine zqr ?_|refine zqb ?_|refine zqi ?_ ?_|refine zqc ?_|refine zqg (λ_=>?_) (λ_=>?_)|refine zqe ?_|fail)
 all_goals
  refine zAA (hk _ λt r h5 ht=>?_);simp_all [DJ,isT,hd]
theorem OZ (s:Bs)(tm:Bool){I:Imm}{L:LH}{K:Value→M}(hk:K (.int .i64 (((if tm then IB else MH) s).getD 0)) I L):CT ω 253 #[.string ⟨s.toArray⟩,.bool tm] K I L:=by
 refine AOu ?_;unfold sh253;cases tm
 ·have e:∀k:Int,MH s=some k∨(MH s=none∧k=0)→Gh (K (.int .i64 k)) I L:=λk h=>zAA (by
   rcases h with h|⟨h,rfl⟩
   ·simpa [h] using hk
   ·simpa [h] using hk)
  repeat' (first|refine zqa ?_|refine zqh (λ_=>?_)|refine zqr ?_|refine zqb ?_|(with_reducible first|refine Ap (sh253_10.eq_1 ..) ?_|refine Ap (sh253_8.eq_1 ..) ?_|refine Ap (sh253_6.eq_1 ..) ?_|refine Ap (sh253_4.eq_1 ..) ?_|refine Ap (sh253_2.eq_1 ..) ?_|refine Ap (sh253.eq_1 ..) ?_|refine And.intro ?_ ?_)|refine zqc ?_|refine zqg (λ_=>?_) (λ_=>?_)|(simp only [SSd,Nat.reduceAdd,zG]))
  all_goals exact e _ (by simp_all [MH])
 ·have e:∀k:Int,IB s=some k∨(IB s=none∧k=0)→Gh (K (.int .i64 k)) I L:=λk h=>zAA (by
   rcases h with h|⟨h,rfl⟩
   ·simpa [h] using hk
   ·simpa [h] using hk)
  repeat' (first|refine zqa ?_|refine zqh (λ_=>?_)|refine zqr ?_|refine zqb ?_|(with_reducible first|refine Ap (sh253_10.eq_1 ..) ?_|refine Ap (sh253_8.eq_1 ..) ?_|refine Ap (sh253_6.eq_1 ..) ?_|refine Ap (sh253_4.eq_1 ..) ?_|refine Ap (sh253_2.eq_1 ..) ?_|refine Ap (sh253.eq_1 ..) ?_|refine And.intro ?_ ?_)|refine zqc ?_|refine zqg (λ_=>?_) (λ_=>?_)|(simp only [SSd,Nat.reduceAdd,zQ]))
  all_goals exact e _ (by simp_all [IB])
theorem AKz (n:Nat){g:Pr Ex}(hg:FdE ω (n+1) b w toks 213 g):FdE ω (n+1) b w toks 185 (Ci n g Gi):=by
 intro K I L C st k bd hF h hs hn hk;obtain ⟨L1,L2,rfl,rfl⟩:=hF.foc;refine APo ?_;unfold AMB;refine AQ (λb1=>?_);refine call (hg.go h hs hn (λx0 s0 k0 bd0 I0 v0 hs0 ho0 hz0 hI0 hv0=>?_));obtain ⟨a0,c0,rfl,hx0⟩:=hv0;refine AQ (λb3=>?_);repeat' (first|refine zqa ?_|refine zqh (λ_=>?_)|refine zqr ?_|refine zqb ?_|refine zqi ?_ ?_|refine zqc ?_|refine zqg (λ_=>?_) (λ_=>?_)|refine zqe ?_|fail)
 refine loop (λm s I2 Lx=>∃x a c st2 k2 bd2 f,st2.sz=m∧Ext I I2∧Lx=(b3,Obj.cells (Ag x (.slice a x.args.length c)).toArray 37 (0,0))::(b1,Obj.cells exZ.toArray 37 (0,0))::(L1++(b,RDo w k2 bd2)::L2)∧ExL I2 (.slice a x.args.length c) x.args∧RdS toks st2 k2 bd2∧st2.sz≤f+1∧st2.sz≤st.sz∧RestC n g Gi st f x st2) s0.sz
  ⟨x0,a0,c0,s0,k0,bd0,n,rfl,hI0,rfl,hx0,hs0,by omega,hz0,.start ho0⟩ ?_
 rintro m s I2 Lx ⟨x,a,c,st2,k2,bd2,f,rfl,hI2,rfl,hx,hs2,hf,hlen,hm⟩;unfold ABJ;refine call (Ad _ (h.mono hI2) hs2 (λl k3 hy hs3 hz3=>?_) (λhno=>?_))
 ·have h1:=hs3.one;obtain ⟨f,rfl⟩:∃q,f=q+1:=⟨f - 1,by omega⟩;simp only [zQ,SSd,Nat.reduceAdd];refine call (hg.go (h.mono hI2) hs3 zo (λy s4 k4 bd4 I4 v4 hs4 ho4 hz4 hI4 hv4=>?_));obtain ⟨a4,c4,rfl,hy4⟩:=hv4;obtain ⟨rfl,hyt⟩:=hy;repeat' (first|(with_reducible first|refine BM ?_|refine EN ?_|refine EM ?_|refine keepA ?_|refine AQ (λ_=>?_)|refine BJ (zAI hx hI4) hy4 (λI5 a5 hI5 hw5=>zAA ?_))|(with_reducible refine call ?_;refine BN hw5 ?_)|refine zqr ?_|refine zqb ?_|refine zqi ?_ ?_|refine zqc ?_|refine zqg (λ_=>?_) (λ_=>?_)|refine zqe ?_|fail)
  refine zAE ((b3,Obj.cells (Ag (exK 21 [x,y]) (.slice a5 2 2)).toArray 37 (0,0))::(b1,Obj.cells exZ.toArray 37 (0,0))::(L1++(b,RDo w k4 bd4)::L2)) (zAA ⟨_,by omega,exK 21 [x,y],a5,2,s4,k4,bd4,f,rfl,zAB hI2 (zAB hI4 hI5),rfl,hw5,hs4,by omega,by omega,?_⟩);exact hm.next (by simp [Gi,hyt]) zx ho4
 ·simp only [zG,SSd,Nat.reduceAdd];repeat' (first|refine zqa ?_|refine zqh (λ_=>?_)|refine zqr ?_|refine zqb ?_|refine zqi ?_ ?_|refine zqc ?_|refine zqg (λ_=>?_) (λ_=>?_)|refine zqe ?_|fail)
  exact zAE (L1++(b,RDo w k2 bd2)::L2) (zAA (hk x st2 k2 bd2 I2 _ hs2 (hm _ _ (NI (λl hl=>by simp [Gi,hno l hl]) _ _)) hlen hI2 ⟨a,c,rfl,hx⟩))
theorem AOV (n:Nat){g:Pr Ex}(hg:FdE ω (n+1) b w toks 185 g):FdE ω (n+1) b w toks 127 (Ci n g KW):=by
 intro K I L C st k bd hF h hs hn hk;obtain ⟨L1,L2,rfl,rfl⟩:=hF.foc;refine AQl ?_;unfold AMo;refine AQ (λb1=>?_);refine call (hg.go h hs hn (λx0 s0 k0 bd0 I0 v0 hs0 ho0 hz0 hI0 hv0=>?_));obtain ⟨a0,c0,rfl,hx0⟩:=hv0;refine AQ (λb3=>?_);repeat' (first|refine zqa ?_|refine zqh (λ_=>?_)|refine zqr ?_|refine zqb ?_|refine zqi ?_ ?_|refine zqc ?_|refine zqg (λ_=>?_) (λ_=>?_)|refine zqe ?_|fail)
 refine loop (λm s I2 Lx=>∃x a c st2 k2 bd2 f,st2.sz=m∧Ext I I2∧Lx=(b3,Obj.cells (Ag x (.slice a x.args.length c)).toArray 37 (0,0))::(b1,Obj.cells exZ.toArray 37 (0,0))::(L1++(b,RDo w k2 bd2)::L2)∧ExL I2 (.slice a x.args.length c) x.args∧RdS toks st2 k2 bd2∧st2.sz≤f+1∧st2.sz≤st.sz∧RestC n g KW st f x st2) s0.sz
  ⟨x0,a0,c0,s0,k0,bd0,n,rfl,hI0,rfl,hx0,hs0,by omega,hz0,.start ho0⟩ ?_
 rintro m s I2 Lx ⟨x,a,c,st2,k2,bd2,f,rfl,hI2,rfl,hx,hs2,hf,hlen,hm⟩;unfold ABq;refine call (Ad _ (h.mono hI2) hs2 (λl k3 hy hs3 hz3=>?_) (λhno=>?_))
 ·have h1:=hs3.one;obtain ⟨f,rfl⟩:∃q,f=q+1:=⟨f - 1,by omega⟩;simp only [zQ,SSd,Nat.reduceAdd];refine call (hg.go (h.mono hI2) hs3 zo (λy s4 k4 bd4 I4 v4 hs4 ho4 hz4 hI4 hv4=>?_));obtain ⟨a4,c4,rfl,hy4⟩:=hv4;obtain ⟨rfl,hyt⟩:=hy;repeat' (first|(with_reducible first|refine BM ?_|refine EN ?_|refine EM ?_|refine keepA ?_|refine AQ (λ_=>?_)|refine BJ (zAI hx hI4) hy4 (λI5 a5 hI5 hw5=>zAA ?_))|(with_reducible refine call ?_;refine BN hw5 ?_)|refine zqr ?_|refine zqb ?_|refine zqi ?_ ?_|refine zqc ?_|refine zqg (λ_=>?_) (λ_=>?_)|refine zqe ?_|fail)
  refine zAE ((b3,Obj.cells (Ag (exK 22 [x,y]) (.slice a5 2 2)).toArray 37 (0,0))::(b1,Obj.cells exZ.toArray 37 (0,0))::(L1++(b,RDo w k4 bd4)::L2)) (zAA ⟨_,by omega,exK 22 [x,y],a5,2,s4,k4,bd4,f,rfl,zAB hI2 (zAB hI4 hI5),rfl,hw5,hs4,by omega,by omega,?_⟩);exact hm.next (by simp [KW,hyt]) zx ho4
 ·simp only [zG,SSd,Nat.reduceAdd];repeat' (first|refine zqa ?_|refine zqh (λ_=>?_)|refine zqr ?_|refine zqb ?_|refine zqi ?_ ?_|refine zqc ?_|refine zqg (λ_=>?_) (λ_=>?_)|refine zqe ?_|fail)
  exact zAE (L1++(b,RDo w k2 bd2)::L2) (zAA (hk x st2 k2 bd2 I2 _ hs2 (hm _ _ (NI (λl hl=>by simp [KW,hno l hl]) _ _)) hlen hI2 ⟨a,c,rfl,hx⟩))
theorem AIT (n : Nat) {g : Pr Ex} (hg : FdE ω (n + 1) b w toks 261 g) : FdE ω (n + 1) b w toks 252 (Ci n g IV) := by
  intro K I L C st k bd hF h hs hn hk
  obtain ⟨L1, L2, rfl, rfl⟩ := hF.foc
  refine AOv ?_
  unfold ALS
  refine AQ (λb1 => ?_)
  refine call (hg.go h hs hn (λx0 s0 k0 bd0 I0 v0 hs0 ho0 hz0 hI0 hv0 => ?_))
  obtain ⟨a0, c0, rfl, hx0⟩ := hv0
  refine AQ (λb3 => ?_)
  repeat' (first | (with_reducible first | refine BM ?_ | refine EN ?_ | refine EM ?_ | refine keepA ?_ | refine AQ (λ_ => ?_) | refine rdb ?_) | ((with_reducible first | refine st1 ?_ ?_ | refine rdB ?_ ?_); rfl) | (with_reducible refine CB ?_) | ((with_reducible refine GK ?_ ?_); rfl) | ((with_reducible refine stB ?_ ?_ ?_ ?_); rfl; rfl; exact AY rfl) | ((with_reducible first | refine rdP _ rfl ?_ ?_ | refine IX _ rfl ?_ ?_); rfl) | ((with_reducible refine stP _ rfl ?_ ?_ ?_ ?_); rfl; rfl; rfl) | refine zqi ?_ ?_ | (simp only [SSg, Int.reduceBEq, Int.reduceBNe, Int.reduceLT, Int.reduceLE, beq_self_eq_true, bne_self_eq_false]) | (with_reducible first | refine BD (λ_ => ?_) (λ_ => ?_) | refine AB (λ_ => ?_) (λ_ => ?_)) | (simp only [SSd, Nat.reduceAdd]))
  refine loop (λm s I2 Lx => ∃ x a c st2 k2 bd2 f, st2.sz = m ∧ Ext I I2 ∧ Lx = (b3, Obj.cells (Ag x (.slice a x.args.length c)).toArray 37 (0, 0)) :: (b1, Obj.cells exZ.toArray 37 (0, 0)) :: (L1 ++ (b, RDo w k2 bd2) :: L2) ∧ ExL I2 (.slice a x.args.length c) x.args ∧ RdS toks st2 k2 bd2 ∧ st2.sz ≤ f + 1 ∧ st2.sz ≤ st.sz ∧ RestC n g IV st f x st2) s0.sz
    ⟨x0, a0, c0, s0, k0, bd0, n, rfl, hI0, rfl, hx0, hs0, by omega, hz0, .start ho0⟩ ?_
  rintro m s I2 Lx ⟨x, a, c, st2, k2, bd2, f, rfl, hI2, rfl, hx, hs2, hf, hlen, hm⟩
  have last : (∀ l, st2 = .good l → IV l = 0) → ∀ {L' : LH} [SubP ((b3, Obj.cells (Ag x (.slice a x.args.length c)).toArray 37 (0, 0)) :: (b1, Obj.cells exZ.toArray 37 (0, 0)) :: (L1 ++ (b, RDo w k2 bd2) :: L2)) L'], L' = (b3, Obj.cells (Ag x (.slice a x.args.length c)).toArray 37 (0, 0)) :: (b1, Obj.cells exZ.toArray 37 (0, 0)) :: (L1 ++ (b, RDo w k2 bd2) :: L2) → MJ ω (AL b1) (AL b3) (λv => Gh (K v)) I2 L' := by
    rintro h0 L' _ rfl
    unfold MJ
    repeat' (first | (with_reducible first | refine BM ?_ | refine EN ?_ | refine EM ?_ | refine keepA ?_ | refine AQ (λ_ => ?_) | refine rdb ?_) | ((with_reducible first | refine st1 ?_ ?_ | refine rdB ?_ ?_); rfl) | (with_reducible refine CB ?_) | ((with_reducible refine GK ?_ ?_); rfl) | ((with_reducible refine stB ?_ ?_ ?_ ?_); rfl; rfl; exact AY rfl) | ((with_reducible first | refine rdP _ rfl ?_ ?_ | refine IX _ rfl ?_ ?_); rfl) | ((with_reducible refine stP _ rfl ?_ ?_ ?_ ?_); rfl; rfl; rfl) | refine zqi ?_ ?_ | (simp only [SSg, Int.reduceBEq, Int.reduceBNe, Int.reduceLT, Int.reduceLE, beq_self_eq_true, bne_self_eq_false]) | (with_reducible first | refine BD (λ_ => ?_) (λ_ => ?_) | refine AB (λ_ => ?_) (λ_ => ?_)) | (simp only [SSd, Nat.reduceAdd]))
    exact zAE (L1 ++ (b, RDo w k2 bd2) :: L2) (zAA (hk x st2 k2 bd2 I2 _ hs2 (hm _ _ (NI h0 _ _)) hlen hI2 ⟨a, c, rfl, hx⟩))
  obtain ⟨bt, off, p1, p2⟩ := hs2.peek (h.mono hI2)
  have hle := hs.le
  have hlt := hs2.lt
  have e1 : IntKind.i64.wrap ((k2 : Int) + 1) = ((k2 + 1 : Nat) : Int) := by rw [wrap_i64 _ zo]; rfl
  unfold AAr
  refine BM ?_
  try simp only [SSd, Nat.reduceAdd]
  refine CB ?_
  cases bd2 with
  | true =>
    obtain ⟨e, rfl⟩ := hs2.zero
    simp only [zQ, SSd, Nat.reduceAdd]
    exact last (λl hl =>by cases hl) rfl
  | false =>
    have h1 := hs2.one
    have hst : st2 = .good (toks.drop k2) := by
      rcases hs2.cases with ⟨_, h⟩ | ⟨h, _⟩
      · exact h
      · cases h
    simp only [zG, SSd, Nat.reduceAdd]
    refine CB ?_
    try simp only [SSd, Nat.reduceAdd]
    refine CB ?_
    simp only [p1, SSd, Nat.reduceAdd]
    refine Gm (v := .int .i64 (hd (toks.drop k2)).kind) (λI' L' hS => p2 I' L' hS.1 0 _ rfl) ?_
    try simp only [SSd, Nat.reduceAdd]
    refine AB (λh5 => ?_) (λh5 => ?_)
    rotate_left
    · exact last (λl hl => by rw [hst] at hl; cases hl; simp [IV, IA, isK, show ((hd (toks.drop k2)).kind == 5) = false from h5]) rfl
    refine BM ?_
    try simp only [SSd, Nat.reduceAdd]
    refine CB ?_
    try simp only [SSd, Nat.reduceAdd]
    refine CB ?_
    simp only [p1, SSd, Nat.reduceAdd]
    refine Gm (v := .string ⟨(hd (toks.drop k2)).text.toArray⟩) (λI' L' hS => p2 I' L' hS.1 1 _ rfl) ?_
    have hop : IV (toks.drop k2) = (IB (hd (toks.drop k2)).text).getD 0 := by simp [IV, IA, isK, show ((hd (toks.drop k2)).kind == 5) = true from h5]
    refine call (OZ _ true ?_)
    simp only [if_true, zt, if_false, ← hop, SSd, Nat.reduceAdd]
    refine AB (λh0 => ?_) (λh0 => ?_)
    · exact last (λl hl => by rw [hst] at hl; cases hl; simpa using h0) rfl
    have h0 : IV (toks.drop k2) ≠ 0 := by simpa using h0
    have hs3 := hs2.next (by have : (hd (toks.drop k2)).kind = 5 := by simpa using h5
                             omega)
    have hsz : (Stt.good (toks.drop k2).tail).sz + 1 = (Stt.good (toks.drop k2)).sz := hs2.ok.len
    have hz3 := hs3.one
    subst hst
    obtain ⟨f, rfl⟩ : ∃ q, f = q + 1 := ⟨f - 1, by omega⟩
    refine rdb ?_
    simp only [e1, SSd, Nat.reduceAdd]
    refine st1 rfl ?_
    refine call (hg.go (h.mono hI2) hs3 zo (λy s4 k4 bd4 I4 v4 hs4 ho4 hz4 hI4 hv4 => ?_))
    obtain ⟨a4, c4, rfl, hy4⟩ := hv4
    repeat' (first | (with_reducible first | refine BM ?_ | refine EN ?_ | refine EM ?_ | refine keepA ?_ | refine AQ (λ_ => ?_) | refine BJ (zAI hx hI4) hy4 (λI5 a5 hI5 hw5 => zAA ?_)) | (with_reducible refine call ?_;refine BN hw5 ?_) | (with_reducible refine rdb ?_) | ((with_reducible first | refine st1 ?_ ?_ | refine rdB ?_ ?_); rfl) | (with_reducible refine CB ?_) | ((with_reducible refine GK ?_ ?_); rfl) | ((with_reducible refine stB ?_ ?_ ?_ ?_); rfl; rfl; exact AY rfl) | ((with_reducible first | refine rdP _ rfl ?_ ?_ | refine IX _ rfl ?_ ?_); rfl) | ((with_reducible refine stP _ rfl ?_ ?_ ?_ ?_); rfl; rfl; rfl) | refine zqi ?_ ?_ | (simp only [SSg, Int.reduceBEq, Int.reduceBNe, Int.reduceLT, Int.reduceLE, beq_self_eq_true, bne_self_eq_false]) | (with_reducible first | refine BD (λ_ => ?_) (λ_ => ?_) | refine AB (λ_ => ?_) (λ_ => ?_)) | (simp only [SSd, Nat.reduceAdd]))
    refine zAE ((b3, Obj.cells (Ag (exK (IV (toks.drop k2)) [x, y]) (.slice a5 2 2)).toArray 37 (0, 0)) :: (b1, Obj.cells exZ.toArray 37 (0, 0)) :: (L1 ++ (b, RDo w k4 bd4) :: L2)) (zAA ⟨_, by omega, exK (IV (toks.drop k2)) [x, y], a5, 2, s4, k4, bd4, f, rfl, zAB hI2 (zAB hI4 hI5), rfl, hw5, hs4, by omega, by omega, ?_⟩)
    exact hm.next rfl h0 ho4
theorem AKr (n : Nat) {g : Pr Ex} (hg : FdE ω (n + 1) b w toks 252 g) : FdE ω (n + 1) b w toks 241 (Ci n g Kv) := by
  intro K I L C st k bd hF h hs hn hk
  obtain ⟨L1, L2, rfl, rfl⟩ := hF.foc
  refine AOz ?_
  unfold ALW
  refine AQ (λb1 => ?_)
  refine call (hg.go h hs hn (λx0 s0 k0 bd0 I0 v0 hs0 ho0 hz0 hI0 hv0 => ?_))
  obtain ⟨a0, c0, rfl, hx0⟩ := hv0
  refine AQ (λb3 => ?_)
  repeat' (first | (with_reducible first | refine BM ?_ | refine EN ?_ | refine EM ?_ | refine keepA ?_ | refine AQ (λ_ => ?_) | refine rdb ?_) | ((with_reducible first | refine st1 ?_ ?_ | refine rdB ?_ ?_); rfl) | (with_reducible refine CB ?_) | ((with_reducible refine GK ?_ ?_); rfl) | ((with_reducible refine stB ?_ ?_ ?_ ?_); rfl; rfl; exact AY rfl) | ((with_reducible first | refine rdP _ rfl ?_ ?_ | refine IX _ rfl ?_ ?_); rfl) | ((with_reducible refine stP _ rfl ?_ ?_ ?_ ?_); rfl; rfl; rfl) | refine zqi ?_ ?_ | (simp only [SSg, Int.reduceBEq, Int.reduceBNe, Int.reduceLT, Int.reduceLE, beq_self_eq_true, bne_self_eq_false]) | (with_reducible first | refine BD (λ_ => ?_) (λ_ => ?_) | refine AB (λ_ => ?_) (λ_ => ?_)) | (simp only [SSd, Nat.reduceAdd]))
  refine loop (λm s I2 Lx => ∃ x a c st2 k2 bd2 f, st2.sz = m ∧ Ext I I2 ∧ Lx = (b3, Obj.cells (Ag x (.slice a x.args.length c)).toArray 37 (0, 0)) :: (b1, Obj.cells exZ.toArray 37 (0, 0)) :: (L1 ++ (b, RDo w k2 bd2) :: L2) ∧ ExL I2 (.slice a x.args.length c) x.args ∧ RdS toks st2 k2 bd2 ∧ st2.sz ≤ f + 1 ∧ st2.sz ≤ st.sz ∧ RestC n g Kv st f x st2) s0.sz
    ⟨x0, a0, c0, s0, k0, bd0, n, rfl, hI0, rfl, hx0, hs0, by omega, hz0, .start ho0⟩ ?_
  rintro m s I2 Lx ⟨x, a, c, st2, k2, bd2, f, rfl, hI2, rfl, hx, hs2, hf, hlen, hm⟩
  have last : (∀ l, st2 = .good l → Kv l = 0) → ∀ {L' : LH} [SubP ((b3, Obj.cells (Ag x (.slice a x.args.length c)).toArray 37 (0, 0)) :: (b1, Obj.cells exZ.toArray 37 (0, 0)) :: (L1 ++ (b, RDo w k2 bd2) :: L2)) L'], L' = (b3, Obj.cells (Ag x (.slice a x.args.length c)).toArray 37 (0, 0)) :: (b1, Obj.cells exZ.toArray 37 (0, 0)) :: (L1 ++ (b, RDo w k2 bd2) :: L2) → MK ω (AL b1) (AL b3) (λv => Gh (K v)) I2 L' := by
    rintro h0 L' _ rfl
    unfold MK
    repeat' (first | (with_reducible first | refine BM ?_ | refine EN ?_ | refine EM ?_ | refine keepA ?_ | refine AQ (λ_ => ?_) | refine rdb ?_) | ((with_reducible first | refine st1 ?_ ?_ | refine rdB ?_ ?_); rfl) | (with_reducible refine CB ?_) | ((with_reducible refine GK ?_ ?_); rfl) | ((with_reducible refine stB ?_ ?_ ?_ ?_); rfl; rfl; exact AY rfl) | ((with_reducible first | refine rdP _ rfl ?_ ?_ | refine IX _ rfl ?_ ?_); rfl) | ((with_reducible refine stP _ rfl ?_ ?_ ?_ ?_); rfl; rfl; rfl) | refine zqi ?_ ?_ | (simp only [SSg, Int.reduceBEq, Int.reduceBNe, Int.reduceLT, Int.reduceLE, beq_self_eq_true, bne_self_eq_false]) | (with_reducible first | refine BD (λ_ => ?_) (λ_ => ?_) | refine AB (λ_ => ?_) (λ_ => ?_)) | (simp only [SSd, Nat.reduceAdd]))
    exact zAE (L1 ++ (b, RDo w k2 bd2) :: L2) (zAA (hk x st2 k2 bd2 I2 _ hs2 (hm _ _ (NI h0 _ _)) hlen hI2 ⟨a, c, rfl, hx⟩))
  obtain ⟨bt, off, p1, p2⟩ := hs2.peek (h.mono hI2)
  have hle := hs.le
  have hlt := hs2.lt
  have e1 : IntKind.i64.wrap ((k2 : Int) + 1) = ((k2 + 1 : Nat) : Int) := by rw [wrap_i64 _ zo]; rfl
  unfold AAv
  refine BM ?_
  try simp only [SSd, Nat.reduceAdd]
  refine CB ?_
  cases bd2 with
  | true =>
    obtain ⟨e, rfl⟩ := hs2.zero
    simp only [zQ, SSd, Nat.reduceAdd]
    exact last (λl hl =>by cases hl) rfl
  | false =>
    have h1 := hs2.one
    have hst : st2 = .good (toks.drop k2) := by
      rcases hs2.cases with ⟨_, h⟩ | ⟨h, _⟩
      · exact h
      · cases h
    simp only [zG, SSd, Nat.reduceAdd]
    refine CB ?_
    try simp only [SSd, Nat.reduceAdd]
    refine CB ?_
    simp only [p1, SSd, Nat.reduceAdd]
    refine Gm (v := .int .i64 (hd (toks.drop k2)).kind) (λI' L' hS => p2 I' L' hS.1 0 _ rfl) ?_
    try simp only [SSd, Nat.reduceAdd]
    refine AB (λh5 => ?_) (λh5 => ?_)
    rotate_left
    · exact last (λl hl => by rw [hst] at hl; cases hl; simp [Kv, IA, isK, show ((hd (toks.drop k2)).kind == 5) = false from h5]) rfl
    refine BM ?_
    try simp only [SSd, Nat.reduceAdd]
    refine CB ?_
    try simp only [SSd, Nat.reduceAdd]
    refine CB ?_
    simp only [p1, SSd, Nat.reduceAdd]
    refine Gm (v := .string ⟨(hd (toks.drop k2)).text.toArray⟩) (λI' L' hS => p2 I' L' hS.1 1 _ rfl) ?_
    have hop : Kv (toks.drop k2) = (MH (hd (toks.drop k2)).text).getD 0 := by simp [Kv, IA, isK, show ((hd (toks.drop k2)).kind == 5) = true from h5]
    refine call (OZ _ false ?_)
    simp only [if_true, zt, if_false, ← hop, SSd, Nat.reduceAdd]
    refine AB (λh0 => ?_) (λh0 => ?_)
    · exact last (λl hl => by rw [hst] at hl; cases hl; simpa using h0) rfl
    have h0 : Kv (toks.drop k2) ≠ 0 := by simpa using h0
    have hs3 := hs2.next (by have : (hd (toks.drop k2)).kind = 5 := by simpa using h5
                             omega)
    have hsz : (Stt.good (toks.drop k2).tail).sz + 1 = (Stt.good (toks.drop k2)).sz := hs2.ok.len
    have hz3 := hs3.one
    subst hst
    obtain ⟨f, rfl⟩ : ∃ q, f = q + 1 := ⟨f - 1, by omega⟩
    refine rdb ?_
    simp only [e1, SSd, Nat.reduceAdd]
    refine st1 rfl ?_
    refine call (hg.go (h.mono hI2) hs3 zo (λy s4 k4 bd4 I4 v4 hs4 ho4 hz4 hI4 hv4 => ?_))
    obtain ⟨a4, c4, rfl, hy4⟩ := hv4
    repeat' (first | (with_reducible first | refine BM ?_ | refine EN ?_ | refine EM ?_ | refine keepA ?_ | refine AQ (λ_ => ?_) | refine BJ (zAI hx hI4) hy4 (λI5 a5 hI5 hw5 => zAA ?_)) | (with_reducible refine call ?_;refine BN hw5 ?_) | (with_reducible refine rdb ?_) | ((with_reducible first | refine st1 ?_ ?_ | refine rdB ?_ ?_); rfl) | (with_reducible refine CB ?_) | ((with_reducible refine GK ?_ ?_); rfl) | ((with_reducible refine stB ?_ ?_ ?_ ?_); rfl; rfl; exact AY rfl) | ((with_reducible first | refine rdP _ rfl ?_ ?_ | refine IX _ rfl ?_ ?_); rfl) | ((with_reducible refine stP _ rfl ?_ ?_ ?_ ?_); rfl; rfl; rfl) | refine zqi ?_ ?_ | (simp only [SSg, Int.reduceBEq, Int.reduceBNe, Int.reduceLT, Int.reduceLE, beq_self_eq_true, bne_self_eq_false]) | (with_reducible first | refine BD (λ_ => ?_) (λ_ => ?_) | refine AB (λ_ => ?_) (λ_ => ?_)) | (simp only [SSd, Nat.reduceAdd]))
    refine zAE ((b3, Obj.cells (Ag (exK (Kv (toks.drop k2)) [x, y]) (.slice a5 2 2)).toArray 37 (0, 0)) :: (b1, Obj.cells exZ.toArray 37 (0, 0)) :: (L1 ++ (b, RDo w k4 bd4) :: L2)) (zAA ⟨_, by omega, exK (Kv (toks.drop k2)) [x, y], a5, 2, s4, k4, bd4, f, rfl, zAB hI2 (zAB hI4 hI5), rfl, hw5, hs4, by omega, by omega, ?_⟩)
    exact hm.next rfl h0 ho4
end
def BC {α β:Type}(g:Pr α)(f:α→Pr β):Pr β:=λl=>(g l).bind f
def okP {α:Type}(x:α):Pr α:=λl=>.ok x l
def AUp {α:Type}:Pr α:=λl=>bad l
def itP {α:Type}(w:Bs)(f g:Pr α):Pr α:=λl=>if isT l w=true then f l.tail else g l
theorem DU {α:Type}{x:α}{s:Stt}:Out (run (okP x) s) x s:=out_ok
theorem XL {α:Type}{x:α}{toks:List Tok}{s:Stt}{k:Nat}{bd:Bool}(h:RdS toks s k bd):Out (run (AUp (α:=α)) s) x (.bad (hd (toks.drop k)).at'):=by
 rcases h.st with ⟨_,rfl⟩|⟨_,rfl⟩ <;> rfl
theorem BF {α β:Type}{g:Pr α}{f:α→Pr β}{x:α}{y:β}{s s1 s2:Stt}(h1:Out (run g s) x s1)(h2:Out (run (f x) s1) y s2):Out (run (BC g f) s) y s2:=GN h1 h2
theorem IK {α:Type}{w:Bs}{f g:Pr α}{x:α}{s s':Stt}{l:List Tok}(hy:Yes w s l)(h:Out (run f (.good l.tail)) x s'):Out (run (itP w f g) s) x s':=VY hy h
theorem CP {α:Type}{w:Bs}{f g:Pr α}{x:α}{s s':Stt}(hn:No w s)(h:Out (run g s) x s'):Out (run (itP w f g) s) x s':=ZG hn h
theorem Cal.pre {P:Program}{ω:Om}{f:FuncId}{args:Array Value}{K:Value→M}{I:Imm}{L:LH}(h:Gh (Cal P ω f args K) I L):Cal P ω f args K I L:=λw hs=>by
 obtain ⟨I',L',h1,h2⟩:=h hs.cons;exact h2 w (h1 ω w hs)
def LsE (I:Imm)(x:List Ex)(v:Value):Prop:=AAa ExV 11 I x v∧x.length≤1000000000
theorem FdE.goE {ω:Om}{n b:Nat}{w:Value}{toks:List Tok}{f:Nat}{args:Array Value}{g:Pr Ex}(h:Fd ω n b w toks f args g EW){I:Imm}{L:LH}{K:Value→M}{C:Obj→LH}{st:Stt}{k:Nat}{bd:Bool}[hF:Foc b L (RDo w k bd) C](hw:TD I w toks)(hs:RdS toks st k bd)(hn:st.sz < n)
  (hk:∀x s' k' bd' I' a c,RdS toks s' k' bd'→Out (run g st) x s'→s'.sz≤st.sz→Ext I I'→ExL I' (.slice a x.args.length c) x.args→K (.agg (Ag x (.slice a x.args.length c)).toArray) I' (C (RDo w k' bd'))):CT ω f args K I L:=
 h.go hw hs hn λx s' k' bd' I' v h1 h2 h3 h4 h5=>by
  obtain ⟨a,c,rfl,h5⟩:=h5;exact hk x s' k' bd' I' a c h1 h2 h3 h4 h5
theorem FdL.goL {ω:Om}{n b:Nat}{w:Value}{toks:List Tok}{f:Nat}{args:Array Value}{g:Pr (List Ex)}(h:Fd ω n b w toks f args g LsE){I:Imm}{L:LH}{K:Value→M}{C:Obj→LH}{st:Stt}{k:Nat}{bd:Bool}[hF:Foc b L (RDo w k bd) C](hw:TD I w toks)(hs:RdS toks st k bd)(hn:st.sz < n)
  (hk:∀x s' k' bd' I' a c,RdS toks s' k' bd'→Out (run g st) x s'→s'.sz≤st.sz→Ext I I'→ExL I' (.slice a x.length c) x→x.length≤1000000000→K (.slice a x.length c) I' (C (RDo w k' bd'))):CT ω f args K I L:=
 h.go hw hs hn λx s' k' bd' I' v h1 h2 h3 h4 h5=>by
  obtain ⟨h5,h6⟩:=h5;obtain ⟨a,c,rfl⟩:=zAF h5;exact hk x s' k' bd' I' a c h1 h2 h3 h4 h5 h6
section
variable {ω:Om}{b:Nat}{w:Value}{toks:List Tok}
theorem UB (n:Nat){E:Pr Ex}(hE:FdE ω n b w toks 127 E):Fd ω n b w toks 126 #[AL b] (BL n E) LsE:=by
 intro K I L C st k bd hF h hs hn hk;obtain ⟨L1,L2,rfl,rfl⟩:=hF.foc;refine AQm ?_;unfold AMp;have hle:=hs.le;have hsz:st.sz≤1000000000:=by
  rcases hs.cases with ⟨_,rfl⟩|⟨_,e,rfl⟩
  ·simp only [Stt.sz,zar];omega
  ·exact zak _
 refine loop (λm s I2 Lx=>∃(X:LH) (v:Value) (cells:List Value) (xs:List Ex) (f:Nat) (st2:Stt) (k2:Nat) (bd2:Bool),st2.sz=m∧s=(v,())∧Ext I I2∧Lx=X++(L1++(b,RDo w k2 bd2)::L2)∧SlO 37 11 X v cells xs.length∧Recs (ExV I2) 11 xs cells∧RdS toks st2 k2 bd2∧st2.sz≤f+1∧xs.length+st2.sz≤st.sz∧Rest n E st f xs st2) st.sz
  ⟨[],_,[],[],n,st,k,bd,rfl,rfl,zAC _,rfl,SlO.none _ _,rfl,hs,by omega,by simp,Rest.start⟩ ?_
 rintro m s I2 Lx ⟨X,v,cells,xs,f,st2,k2,bd2,rfl,rfl,hI2,rfl,hX,hR,hs2,hf,hlen,hm⟩;unfold ABr;try refine zqe ?_
 refine rdb ?_;cases bd2 with
 |true=>
  obtain ⟨e,rfl⟩:=hs2.zero;simp only [zQ,SSd,Nat.reduceAdd];exact RL.ofO (R:=ExV) (λh hI=>ExV.mono hI h) hX hR (λI3 hI3 hw=>zAA (hk xs _ k2 true I3 v hs2 (hm.bad xs) zo (zAB hI2 hI3) ⟨hw,by omega⟩))
 |false=>
  have h1:=hs2.one;simp only [zG,SSd,Nat.reduceAdd];refine call (hE.go (h.mono hI2) hs2 zo (λx s3 k3 bd3 I3 v3 hs3 ho3 hz3 hI3 hv3=>?_));obtain ⟨a3,c3,rfl,hx3⟩:=hv3;refine AQ (λb1=>?_);refine stB rfl rfl (AY rfl) ?_;refine rdB rfl ?_;refine CZ (X6:=X) (R:=ExV) (x:=x) rfl zx hX (hR.imp λ_ _ h=>ExV.mono hI3 h) (ExV.mk hx3) rfl (AY rfl) zo zo (λX1 X6 w6 cells6 hX6 hR6=>?_);refine call (Ad _ (h.mono (zAB hI2 hI3)) hs3 (λl k4 hy hs4 hz4=>?_) (λhno=>?_))
  ·have h4:=hs4.one;obtain ⟨f,rfl⟩:∃q,f=q+1:=⟨f - 1,by omega⟩;simp only [zQ,SSd,Nat.reduceAdd];exact zAE (X6++(L1++(b,RDo w k4 false)::L2)) (zAA ⟨_,by omega,X6,w6,cells6,xs++[x],f,.good l.tail,k4,false,rfl,rfl,zAB hI2 hI3,rfl,hX6,hR6,hs4,by omega,by rw [zn,zV];omega,hm.next ho3 hy⟩)
  ·simp only [zG,SSd,Nat.reduceAdd];refine RL.ofO (R:=ExV) (λh hI=>ExV.mono hI h) hX6 hR6 (λI4 hI4 hw=>zAE (L1++(b,RDo w k3 bd3)::L2) (zAA (hk (xs++[x]) s3 k3 bd3 I4 w6 hs3 (hm.stop ho3 hno) zo (zAB hI2 (zAB hI3 hI4)) ⟨hw,by rw [zn,zV];omega⟩)))
theorem AEu {α:Type}(n:Nat)(one:Pr α):Bc n one=BC (AP [40]) λ_=>BC (BL n one) λx=>BC (AP [41]) λ_=>okP x:=rfl
theorem Vr (n:Nat){E:Pr Ex}(hE:FdE ω n b w toks 127 E):Fd ω n b w toks 131 #[AL b] (Bc n E) LsE:=by
 intro K I L C st k bd hF h hs hn hk;obtain ⟨L1,L2,rfl,rfl⟩:=hF.foc;refine AQh ?_;unfold AMl;refine call (Aj _ h hs (λs1 k1 bd1 hs1 ho1 hz1 _=>?_));refine call ((UB n hE).go h hs1 zo (λx s2 k2 bd2 I2 v2 hs2 ho2 hz2 hI2 hv2=>?_));refine call (Aj _ (h.mono hI2) hs2 (λs3 k3 bd3 hs3 ho3 hz3 _=>?_));exact zAA (hk x s3 k3 bd3 I2 v2 hs3 (by rw [AEu];exact zO) zo hI2 hv2)
theorem ACT (N Q:Pr Ex):RF N Q=itP [110,111,116] (BC N λx=>okP (exK 5 [x])) Q:=rfl
theorem AKu (n:Nat){N Q:Pr Ex}(hN:FdE ω n b w toks 213 N)(hQ:FdE ω (n+1) b w toks 227 Q):FdE ω (n+1) b w toks 213 (RF N Q):=by
 intro K I L C st k bd hF h hs hn hk;obtain ⟨L1,L2,rfl,rfl⟩:=hF.foc;refine APR ?_;unfold ALh;refine AQ (λb1=>?_);refine call (Ad _ h hs (λl k1 hy hs1 hz1=>?_) (λhno=>?_))
 ·try refine zqe ?_
  refine call (hN.go h hs1 zo (λx s2 k2 bd2 I2 v2 hs2 ho2 hz2 hI2 hv2=>?_));obtain ⟨a2,c2,rfl,hx2⟩:=hv2;repeat' (first|(with_reducible first|refine BM ?_|refine EN ?_|refine EM ?_|refine keepA ?_|refine AQ (λ_=>?_)|refine BQ hx2 (λI5 a5 hI5 hw5=>zAA ?_))|(with_reducible refine call ?_;refine BN hw5 ?_)|refine zqr ?_|refine zqb ?_|refine zqi ?_ ?_|refine zqc ?_|refine zqg (λ_=>?_) (λ_=>?_)|refine zqe ?_|fail)
  exact zAE (L1++(b,RDo w k2 bd2)::L2) (zAA (hk (exK 5 [x]) s2 k2 bd2 I5 _ hs2 (by rw [ACT];exact zO) zo (zAB hI2 hI5) ⟨a5,1,rfl,hw5⟩))
 ·try refine zqe ?_
  refine call (hQ.go h hs hn (λx s2 k2 bd2 I2 v2 hs2 ho2 hz2 hI2 hv2=>?_));obtain ⟨a2,c2,rfl,hx2⟩:=hv2;repeat' (first|refine zqa ?_|refine zqh (λ_=>?_)|refine zqr ?_|refine zqb ?_|refine zqi ?_ ?_|refine zqc ?_|refine zqg (λ_=>?_) (λ_=>?_)|refine zqe ?_|fail)
  exact zAE (L1++(b,RDo w k2 bd2)::L2) (zAA (hk x s2 k2 bd2 I2 _ hs2 (by rw [ACT];exact zO) zo hI2 ⟨a2,c2,rfl,hx2⟩))
end
def AOa {α:Type}(f:Int→Pr α)(g:Pr α):Pr α:=λl=>if DJ l≠0 then f (DJ l) l.tail else g l
theorem AHh {α:Type}{f:Int→Pr α}{g:Pr α}{x:α}{l:List Tok}{s':Stt}{k:Int}(hk:DJ l=k)(h0:k≠0)(h:Out (run (f k) (.good l.tail)) x s'):Out (run (AOa f g) (.good l)) x s':=by
 subst hk;show Out (if DJ l≠0 then f (DJ l) l.tail else g l) x s';rw [if_pos h0];exact h
theorem AHi {α:Type}{f:Int→Pr α}{g:Pr α}{x:α}{s s':Stt}(hn:∀l,s= .good l→DJ l=0)(h:Out (run g s) x s'):Out (run (AOa f g) s) x s':=by
 cases s with
 |bad e=>exact h
 |good l=>
  show Out (if DJ l≠0 then f (DJ l) l.tail else g l) x s';rw [if_neg (by rw [hn l rfl];decide)];exact h
theorem ATR {l:List Tok}(hT:Toks l)(h5:(hd l).kind≠5):DJ l=0:=by
 have n:∀{s:Bs},s ∉ wordsL→isT l s=false:=by
  intro s hs;cases h:isT l s with
  |false=>rfl
  |true=>
   exfalso
   have h6:=NL h;simp only [isT,zF,zaF,beq_iff_eq] at h;have h2:(hd l).kind=2:=h.1.resolve_right h5;have:=(hT.ok h6).2.1 h2;rw [h.2] at this;exact hs this
 simp [DJ,n (s:=[61]) zx,n (s:=[60,62]) zx,n (s:=[60]) zx,n (s:=[60,61]) zx,n (s:=[62]) zx,n (s:=[62,61]) zx]
def AHu (b:Bool)(x:Ex):Pr Ex:=if b then AUp else okP x
abbrev AKW (n:Nat)(E S:Pr Ex)(x:Ex)(b:Bool):Pr Ex:=itP [105,110] (BC (Bc n E) λa=>okP (Lh b (exK 24 (x::a)))) (itP [98,101,116,119,101,101,110] (BC S λy=>BC (AP [97,110,100]) λ_=>BC S λz=>okP (Lh b (exK 25 [x,y,z]))) (itP [108,105,107,101] (BC S λy=>okP (Lh b (exK 23 [x,y]))) (AHu b x)))
theorem Qr (n:Nat)(E S:Pr Ex):II n E S=BC S λx=>AOa (λk=>BC S λy=>okP (exK k [x,y])) (itP [105,115] (itP [110,111,116] (BC (AP [110,117,108,108]) λ_=>okP (exK 7 [x])) (BC (AP [110,117,108,108]) λ_=>okP (exK 6 [x]))) (itP [110,111,116] (AKW n E S x true) (AKW n E S x false))):=by
 funext l
 show (S l).bind _=(S l).bind _;congr 1
 funext x r
 show _=if DJ r≠0 then _ else if isT r [105,115]=true then _ else if isT r [110,111,116]=true then AKW n E S x true r.tail else AKW n E S x false r
 cases isT r [110,111,116] <;> rfl
theorem AHX {x y:Ex}{toks:List Tok}{s:Stt}{k:Nat}{bd:Bool}(h:RdS toks s k bd):Out (run (AHu true x) s) y (.bad (hd (toks.drop k)).at'):=XL h
theorem AHY {x:Ex}{s:Stt}:Out (run (AHu false x) s) x s:=DU
section
variable {ω:Om}{b:Nat}{w:Value}{toks:List Tok}
theorem AIU (n : Nat) (hn0 : n + 1 ≤ 1000000000) {E S : Pr Ex} (hE : FdE ω n b w toks 127 E) (hS : FdE ω (n + 1) b w toks 241 S) : FdE ω (n + 1) b w toks 227 (II n E S) := by
  have hRow := Vr n hE
  intro K I L C st k bd hF h hs hn hk
  rw [Qr] at hk
  obtain ⟨L1, L2, rfl, rfl⟩ := hF.foc
  refine APH ?_
  unfold ALa
  refine AQ (λb1 => ?_)
  refine call (hS.go h hs hn (λx s0 k0 bd0 I0 v0 hs0 ho0 hz0 hI0 hv0 => ?_))
  obtain ⟨a0, c0, rfl, hx0⟩ := hv0
  refine AQ (λb3 => ?_)
  obtain ⟨bt, off, p1, p2⟩ := hs0.peek (h.mono hI0)
  have hle := hs.le
  have hlt := hs0.lt
  have e1 : IntKind.i64.wrap ((k0 : Int) + 1) = ((k0 + 1 : Nat) : Int) := by rw [wrap_i64 _ zo]; rfl
  have rest : ∀ {L' : LH} (X : LH), L' = X ++ (b3, Obj.cells (Ag x (.slice a0 x.args.length c0)).toArray 37 (0, 0)) :: (b1, Obj.cells exZ.toArray 37 (0, 0)) :: (L1 ++ (b, RDo w k0 bd0) :: L2) → (∀ l, s0 = .good l → DJ l = 0) →
      KG ω (AL b) (AL b1) (AL b3) (.int .i64 0) (λv => Gh (K v)) I0 L' := by
    rintro L' X rfl hop
    unfold KG
    clear p1 p2
    repeat' (first | (with_reducible first | refine BM ?_ | refine keepA ?_ | refine AQ (λ_ => ?_)) | (with_reducible refine call ?_;refine FdE.goE hS zD zA zo (λy s' k' bd' I' a' c' hs' ho' hz' hI' hv' => ?_)) | (with_reducible refine call ?_;refine FdL.goL hRow zD zA zo (λy s' k' bd' I' a' c' hs' ho' hz' hI' hv' hl' => ?_)) | (with_reducible refine AUq rfl rfl zC zC (by simp only [zh, zac]; omega) (by simp only [zh, zac]; omega) (λI' a' q' hI' hw' => zAA ?_)) | (with_reducible refine call ?_;refine Ad _ zD zA (λl k' hy hs' hz' => ?_) (λhno => ?_)) | (with_reducible refine call ?_;refine BP _ zD zA (λl hy => ?_) (λhno => ?_)) | (with_reducible refine call ?_;refine Aj _ zD zA (λs' k' bd' hs' ho' hz' hzz' => ?_)) | (with_reducible refine call ?_;refine BB zD zA (λx s' k' bd' hs' ho' hz' hzz' => ?_)) | (with_reducible first | refine BQ zC (λI' a hI' hw' => zAA ?_) | refine BJ zC zC (λI' a hI' hw' => zAA ?_) | refine Ba zC zC zC (λI' a hI' hw' => zAA ?_)) | (with_reducible refine call ?_;refine BN zC ?_) | (with_reducible refine rdb ?_) | ((with_reducible first | refine st1 ?_ ?_ | refine rdB ?_ ?_); rfl) | (with_reducible refine CB ?_) | ((with_reducible refine GK ?_ ?_); rfl) | ((with_reducible refine stB ?_ ?_ ?_ ?_); rfl; rfl; exact AY rfl) | ((with_reducible first | refine rdP _ rfl ?_ ?_ | refine IX _ rfl ?_ ?_); rfl) | ((with_reducible refine stP _ rfl ?_ ?_ ?_ ?_); rfl; rfl; rfl) | (with_reducible first | refine Ap (sh227_3.eq_1 ..) ?_ | refine Ap (sh227_4.eq_1 ..) ?_ | refine Ap (sh227_5.eq_1 ..) ?_ | refine Ap (sh227_6.eq_1 ..) ?_ | refine Ap (sh227_8.eq_1 ..) ?_ | refine And.intro ?_ ?_) | (simp only [SSg, Int.reduceBEq, Int.reduceBNe, Int.reduceLT, Int.reduceLE, beq_self_eq_true, bne_self_eq_false]) | (with_reducible first | refine BD (λhb => ?_) (λhb => ?_) | refine AB (λhb => ?_) (λhb => ?_)) | (simp only [SSd, Nat.reduceAdd]))
    all_goals first
      | exact zAE (L1 ++ (b, RDo w k' bd') :: L2) (zAA (hk _ s' k' bd' _ _ hs' zO zo zE ⟨_, _, rfl, zC⟩))
      | exact zAE (L1 ++ (b, RDo w k' true) :: L2) (zAA (hk (exK 5 [x]) _ k' true _ _ hs'.fail zO (by exact zak _) zE ⟨_, _, rfl, zC⟩))
      | exact zAE (L1 ++ (b, RDo w k0 bd0) :: L2) (zAA (hk _ s0 k0 bd0 _ _ hs0 zO zo zE ⟨_, _, rfl, zC⟩))
      | exact zAE (L1 ++ (b, RDo w k' bd') :: L2) (zAA (hk (exK 24 (x :: y)) s' k' bd' _ _ hs' zO zo zE ⟨_, _, rfl, hw'⟩))
      | (refine BQ (x := exK 24 (x :: y)) hw' (λI' a hI' hw' => zAA ?_)
         refine call (BN hw' ?_)
         repeat' (first | (with_reducible first | refine BM ?_ | refine EN ?_ | refine EM ?_ | refine keepA ?_ | refine AQ (λ_ => ?_) | refine rdb ?_) | ((with_reducible first | refine st1 ?_ ?_ | refine rdB ?_ ?_); rfl) | (with_reducible refine CB ?_) | ((with_reducible refine GK ?_ ?_); rfl) | ((with_reducible refine stB ?_ ?_ ?_ ?_); rfl; rfl; exact AY rfl) | ((with_reducible first | refine rdP _ rfl ?_ ?_ | refine IX _ rfl ?_ ?_); rfl) | ((with_reducible refine stP _ rfl ?_ ?_ ?_ ?_); rfl; rfl; rfl) | refine zqi ?_ ?_ | (simp only [SSg, Int.reduceBEq, Int.reduceBNe, Int.reduceLT, Int.reduceLE, beq_self_eq_true, bne_self_eq_false]) | (with_reducible first | refine BD (λ_ => ?_) (λ_ => ?_) | refine AB (λ_ => ?_) (λ_ => ?_)) | (simp only [SSd, Nat.reduceAdd]))
         exact zAE (L1 ++ (b, RDo w k' bd') :: L2) (zAA (hk _ s' k' bd' _ _ hs' zO zo zE ⟨_, _, rfl, zC⟩)))
  repeat' (first | (with_reducible first | refine BM ?_ | refine EN ?_ | refine EM ?_ | refine keepA ?_ | refine AQ (λ_ => ?_)) | (refine Qo (p2 _ [] (zAC _)) (zAC _) rfl ?_) | (with_reducible refine rdb ?_) | ((with_reducible first | refine st1 ?_ ?_ | refine rdB ?_ ?_); rfl) | (with_reducible refine CB ?_) | ((with_reducible refine GK ?_ ?_); rfl) | ((with_reducible refine stB ?_ ?_ ?_ ?_); rfl; rfl; exact AY rfl) | ((with_reducible first | refine rdP _ rfl ?_ ?_ | refine IX _ rfl ?_ ?_); rfl) | ((with_reducible refine stP _ rfl ?_ ?_ ?_ ?_); rfl; rfl; rfl) | refine zqi ?_ ?_ | (simp only [SSg, Int.reduceBEq, Int.reduceBNe, Int.reduceLT, Int.reduceLE, beq_self_eq_true, bne_self_eq_false]) | (with_reducible first | refine BD (λ_ => ?_) (λ_ => ?_) | refine AB (λ_ => ?_) (λ_ => ?_)) | (simp only [SSd, Nat.reduceAdd, p1, e1]))
  · obtain rfl : bd0 = false := by simpa using ‹(!bd0) = true›
    have e5 : (hd (toks.drop k0)).kind = 5 := by simpa using ‹((hd (toks.drop k0)).kind == 5) = true›
    rcases hs0.st with ⟨_, rfl⟩ | ⟨q, _⟩
    rotate_left
    · cases q
    unfold AAx
    try simp only [SSd, Nat.reduceAdd]
    refine rdb ?_
    refine call (SX _ λq hq => ?_)
    obtain ⟨t, r, er⟩ := hs0.ok.ne
    have hop : DJ (toks.drop k0) = q := by
      rw [er] at e5 ⊢
      exact hq t r e5 (by rw [er]; rfl)
    by_cases h0 : q = 0
    · subst h0
      exact rest [_] rfl λl hl => by cases hl; exact hop
    · unfold KG
      have e2 : (q != 0) = true := by simpa using h0
      have hs1 : RdS toks (.good (toks.drop k0).tail) (k0 + 1) false := hs0.next (by rw [e5]; decide)
      have hz1 := hs0.ok.len
      have hoo : ∀ {y : Ex} {s' : Stt}, Out (run (BC S λy => okP (exK q [x, y])) (.good (toks.drop k0).tail)) y s' → Out (run (II n E S) st) y s' := λhh => by rw [Qr]; exact BF ho0 (AHh hop h0 hh)
      rw [← Qr] at hk
      repeat' (first | (with_reducible first | refine BM ?_ | refine keepA ?_ | refine AQ (λ_ => ?_)) | (with_reducible refine call ?_;refine FdE.goE hS zD hs1 (by simp only [Stt.sz] at *; omega) (λy s' k' bd' I' a' c' hs' ho' hz' hI' hv' => ?_)) | (with_reducible refine call ?_;refine Ad _ zD zA (λl k' hy hs' hz' => ?_) (λhno => ?_)) | (with_reducible refine call ?_;refine BP _ zD zA (λl hy => ?_) (λhno => ?_)) | (with_reducible refine call ?_;refine Aj _ zD zA (λs' k' bd' hs' ho' hz' hzz' => ?_)) | (with_reducible refine call ?_;refine BB zD zA (λx s' k' bd' hs' ho' hz' hzz' => ?_)) | (with_reducible first | refine BQ zC (λI' a hI' hw' => zAA ?_) | refine BJ zC zC (λI' a hI' hw' => zAA ?_) | refine Ba zC zC zC (λI' a hI' hw' => zAA ?_)) | (with_reducible refine call ?_;refine BN zC ?_) | (with_reducible refine rdb ?_) | ((with_reducible first | refine st1 ?_ ?_ | refine rdB ?_ ?_); rfl) | (with_reducible refine CB ?_) | ((with_reducible refine GK ?_ ?_); rfl) | ((with_reducible refine stB ?_ ?_ ?_ ?_); rfl; rfl; exact AY rfl) | ((with_reducible first | refine rdP _ rfl ?_ ?_ | refine IX _ rfl ?_ ?_); rfl) | ((with_reducible refine stP _ rfl ?_ ?_ ?_ ?_); rfl; rfl; rfl) | refine zqi ?_ ?_ | (simp only [SSg, Int.reduceBEq, Int.reduceBNe, Int.reduceLT, Int.reduceLE, beq_self_eq_true, bne_self_eq_false]) | (with_reducible first | refine BD (λhb => ?_) (λhb => ?_) | refine AB (λhb => ?_) (λhb => ?_)) | (simp only [SSd, Nat.reduceAdd, e2, e1]))
      exact zAE (L1 ++ (b, RDo w k' bd') :: L2) (zAA (hk _ s' k' bd' _ _ hs' (hoo zO) (by simp only [Stt.sz] at *; omega) zE ⟨_, _, rfl, zC⟩))
  · exact rest [_] rfl λl hl => by
      rcases hs0.cases with ⟨rfl, _⟩ | ⟨_, e, rfl⟩
      · exact absurd ‹(!false) = false› zx
      · cases hl
  · exact rest [_] rfl λl hl => by
      rcases hs0.st with ⟨_, rfl⟩ | ⟨_, rfl⟩
      · cases hl
        exact ATR hs0.ok (by simpa using ‹((hd (toks.drop k0)).kind == 5) ≠ true›)
      · cases hl
end
end Go.Proofs.YtkifgfanjcfedaaGreatDoor
